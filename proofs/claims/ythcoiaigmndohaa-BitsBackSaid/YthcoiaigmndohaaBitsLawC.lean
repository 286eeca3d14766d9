/-
  The law BitsBack: its walk.
-/
import Derived.Test.YthcoiaigmndohaaBitsPlain2
namespace Go.Proofs.Ythcoiaigmndohaa
open Go.RowKit BitM

theorem needI_eq (n k : Int) : needI n k = needI n k := rfl

theorem unpackL_len0 {L : List Int} {k n : Int} (h : unpackE L k n ≠ 0) : (unpackL L k n).length = 0 := by rw [unpackL_err rfl h]; rfl

set_option maxRecDepth 100000 in
set_option maxHeartbeats 3200000 in
theorem bitsBack_walk (L : List Int) (A : Option Addr) (c : Nat) (B : List Int) (A' : Option Addr) (c' : Nat) (k n : Int) (w : World) (hrow : Row w w.heap.size A L.length (L.map (.int .u64))) (hc : L.length ≤ c) (hm : c ≤ maxLen) (hwf : ∀ z ∈ L, (Lit.int .u64 z).wf = true) (hnil : A = none → c = 0)
    (hrow' : Row w w.heap.size A' B.length (B.map (.int .u8))) (hc' : B.length ≤ c') (hm' : c' ≤ maxLen) (hwf' : ∀ z ∈ B, (Lit.int .u8 z).wf = true) (hnil' : A' = none → c' = 0) (_hk : (Lit.int .i64 k).wf = true) (_hn : (Lit.int .i64 n).wf = true) :
    Calls Try.prog 10 #[.slice A L.length c, .slice A' B.length c', .agg #[.int .i64 k, .int .i64 n]] w fun e w' => e = .returned (.bool true) ∧ Below w.heap.size w w' := by
  have hlm : L.length ≤ maxLen := Nat.le_trans hc hm
  have hlm' : B.length ≤ maxLen := Nat.le_trans hc' hm'
  unfold maxLen at hlm hlm'
  have c0 : ∀ x y, (w.alloc (.cells #[x, y] 59)).cell? ⟨w.heap.size, 0, none⟩ = some x := fun x y => (Blk.new w _ _).cell 0
  have c1 : ∀ x y, (w.alloc (.cells #[x, y] 59)).cell? ⟨w.heap.size, 1, none⟩ = some y := fun x y => (Blk.new w _ _).cell 1
  go_enter Try.func10, Try.ntmps10
  go_upto_region 1 with fail
  go_quiet (fail)
  have hk0 : Keeps (fun _ => False) w ((w.alloc (.cells #[.int .i64 k, .int .i64 n] 59)).drewN nq) := ((Keeps.refl _ w).alloc _).drewN nq
  generalize (w.alloc (.cells #[.int .i64 k, .int .i64 n] 59)).drewN nq = w0 at hk0 ⊢
  clear c0 c1
  by_cases hl : 300 < L.length
  · clear hrow hwf hnil hm hrow' hwf' hnil' hm'
    go_wp2
    go_ret
    exact ⟨rfl, hk0.below (fun _ _ h => h) (Nat.le_refl _)⟩
  · by_cases hl' : 1000 < B.length
    · clear hrow hwf hnil hm hrow' hwf' hnil' hm'
      have hb : decide ((1000 : Int) < (B.length : Int)) = true := decide_eq_true (by omega)
      go_wp2
      go_ret
      exact ⟨rfl, hk0.below (fun _ _ h => h) (Nat.le_refl _)⟩
    · obtain ⟨M, hml, hLM, hI⟩ := In64.came hrow hwf hnil (by omega)
      obtain ⟨hJ, hB⟩ := In.came hrow' hwf' hnil' (by omega)
      rw [← hml] at hl ⊢
      have hpl := packL_le (k := k) hI.le
      have hI0 := hI.keep hk0
      have hJ0 := hJ.keep (hk0.below (fun _ _ h => h) (Nat.le_refl _))
      have HI := Lib.hid hI0
      have HJ := Lib.hid hJ0
      clear hrow hc hm hwf hnil hml hLM hrow' hc' hm' hwf' hnil' hlm hlm' hI hJ hI0 hJ0
      go_wp2_with fail
      refine (pack_any k A c M _ HI.out).mono ?_
      rintro e w1 ⟨v1, rfl, ho1, hk1⟩
      obtain ⟨A1, c1, rfl, hI1⟩ := In.of_own ho1 hpl
      clear ho1
      obtain ⟨x, hx⟩ : ∃ x, packE k M = x := ⟨_, rfl⟩
      obtain ⟨P, hP⟩ : ∃ P, packL k M = P := ⟨_, rfl⟩
      have hPb : ∀ z ∈ P, 0 ≤ z ∧ z < 256 := hP ▸ packL_bounds k M
      have hup : x = 0 → unpackE P k M.length = 0 ∧ unpackL P k M.length = M ∧ P.length = needI M.length k := by
        intro h
        rw [← hP]
        exact unpack_packed (hx.trans h)
      rw [hx, hP]
      rw [hP] at hI1 hpl
      have HUP := Lib.hid hup
      have HPB := Lib.hid hPb
      have HB := Lib.hid hB
      have HK1 := Lib.hid (hk0.trans hk1)
      have HI1 := Lib.hid (HI.out.keep hk1)
      have HJ1 := Lib.hid (HJ.out.keep (hk1.below (fun _ _ h => h) (Nat.le_refl _)))
      clear hx hP hPb hup hB
      go_upto_if 36 with fail
      go_cut [11, 12] from 17 to 94 (fun _ _ wx => Keeps (fun _ => False) w1 wx)
      case first =>
        by_cases hx0 : x = 0
        · obtain ⟨u1, u2, u3⟩ := HUP.out hx0
          subst hx0
          have hM3 : M.length ≤ 100000 := by omega
          have HU1 := Lib.hid u1
          have HU2 := Lib.hid u2
          have HU3 := Lib.hid u3
          clear u1 u2 u3
          go_wp2_with fail
          refine (unpack_any k M.length A1 c1 P _ hI1 HPB.out).mono ?_
          rintro e w2 ⟨v2, rfl, ho2, hk2⟩
          rw [HU1.out]
          rw [HU2.out] at ho2
          obtain ⟨A2, c2, rfl, hI2⟩ := In64.of_own ho2 hM3 HI.out.fits
          go_wp2_with fail
          refine (refSame_any A2 A c2 c M M _ hI2 (HI1.out.keep hk2)).mono ?_
          have hd : decide (M = M) = true := by simp
          rw [hd]
          rintro e w3 ⟨rfl, hk3⟩
          clear hd
          go_wp2_with fail
          refine (need_any M.length k _).mono ?_
          rw [← HU3.out]
          rintro e w4 ⟨rfl, rfl⟩
          go_wp2_with fail
          go_meet
          case rel => exact hk2.trans hk3
        · have hxi : ((x : Int) == 0) = false := by simp; omega
          go_wp2_with fail
          go_meet
          case rel => exact Keeps.refl _ _
      case rest =>
        have HJ2 := HJ1.out.keep (hcut.below (fun _ _ h => h) (Nat.le_refl _))
        have hk2 := HK1.out.trans hcut
        obtain ⟨hq1, hq2⟩ := unpackL_ok (L := B) (k := k) (n := n)
        have hpu := pack_unpacked (k := k) (n := n) HB.out
        have hpe := unpackL_len0 (L := B) (k := k) (n := n)
        go_wp2_with fail
        refine (unpack_any k n A' c' B _ HJ2 HB.out).mono ?_
        rintro e w3 ⟨v3, rfl, ho3, hk3⟩
        obtain ⟨A3, c3, rfl, hI3⟩ := In64.of_own ho3 (by omega) hq2
        have hJ3 := HJ2.keep (hk3.below (fun _ _ h => h) (Nat.le_refl _))
        clear ho3
        obtain ⟨y, hy⟩ : ∃ y, unpackE B k n = y := ⟨_, rfl⟩
        obtain ⟨Q, hQ⟩ : ∃ Q, unpackL B k n = Q := ⟨_, rfl⟩
        rw [hy, hQ] at hpu hpe
        rw [hQ] at hI3 hq1 hq2
        rw [hy, hQ]
        have HPU := Lib.hid hpu
        have HPE := Lib.hid hpe
        clear hpu hpe hy hQ
        by_cases hy0 : y = 0
        · obtain ⟨p1, p2⟩ := HPU.out hy0
          subst hy0
          go_wp2_with fail
          refine (pack_any k A3 c3 Q _ hI3).mono ?_
          rintro e w4 ⟨v4, rfl, ho4, hk4⟩
          rw [p1]
          rw [p2] at ho4
          obtain ⟨A4, c4, rfl, hI4⟩ := In.of_own ho4 (by omega)
          have hs1 := hI4.str
          have hs2 := (hJ3.keep (hk4.below (fun _ _ h => h) (Nat.le_refl _))).str
          clear p1 p2 ho4
          go_wp2_with fail
          refine (awake_any _).mono ?_
          rintro e w5 ⟨rfl, hk5⟩
          go_wp2
          go_ret
          exact ⟨rfl, (((hk2.trans hk3).trans hk4).trans hk5).below (fun _ _ h => h) (Nat.le_refl _)⟩
        · have hl0 := HPE.out hy0
          have hyi : ((y : Int) != 0) = true := by simp; omega
          rw [hl0]
          go_wp2_with fail
          refine (awake_any _).mono ?_
          rintro e w5 ⟨rfl, hk5⟩
          go_wp2
          go_ret
          exact ⟨rfl, ((hk2.trans hk3).trans hk5).below (fun _ _ h => h) (Nat.le_refl _)⟩
end Go.Proofs.Ythcoiaigmndohaa
