/-
  The contract of Unpack.
-/
import Derived.Test.YthcoiaigmndohaaBitsPack
namespace Go.Proofs.Ythcoiaigmndohaa
open Go.RowKit BitM

/-- The first numbers of width W. -/
def numsL (L : List Int) (W n : Nat) : List Nat := (List.range n).map (fun i => numAt L (i * W) W)
theorem numsL_len (L : List Int) (W n : Nat) : (numsL L W n).length = n := by simp [numsL]
theorem numsL_succ (L : List Int) (W n : Nat) : numsL L W (n + 1) = numsL L W n ++ [numAt L (n * W) W] := by simp [numsL, List.range_succ]

/-- What is left behind the numbers. -/
def restN (L : List Int) (W n : Nat) : Nat := numAt L (n * W) (8 * L.length - n * W)

/-- Why bytes are not unpacked (0: they are). -/
def unpackE (L : List Int) (k n : Int) : Nat :=
  if wideB k = false then 6 else if n < 0 ∨ 1024 < n then 7 else if L.length < needI n k then 1 else if needI n k < L.length then 2 else if restN L k.toNat n.toNat ≠ 0 then 3 else 0
/-- The numbers. -/
def unpackL (L : List Int) (k n : Int) : List Nat := if unpackE L k n = 0 then numsL L k.toNat n.toNat else []

theorem unpackL_err {L : List Int} {k n : Int} {e : Nat} (he : unpackE L k n = e) (h0 : e ≠ 0) : unpackL L k n = [] := by unfold unpackL; rw [if_neg (by rw [he]; exact h0)]

def u64s (M : List Nat) : List Value := M.map (fun x : Nat => Value.int .u64 x)

/-- What unpacking answers. -/
def Unpacked (w : World) (L : List Int) (k n : Int) (e : Ending) (w' : World) : Prop :=
  ∃ v, e = .returned (.tuple #[v, .int .i64 (unpackE L k n : Nat)]) ∧ w'.ownsRow w.heap.size 35 1 v (unpackL L k n).length (u64s (unpackL L k n)) ∧ Keeps (fun _ => False) w w'

theorem Unpacked.err {w w' : World} {L : List Int} {k n : Int} {m : Nat} (h : unpackE L k n = m) (h0 : m ≠ 0) (hk : Keeps (fun _ => False) w w') : Unpacked w L k n (.returned (.tuple #[.slice none 0 0, .int .i64 m])) w' := by
  refine ⟨.slice none 0 0, by rw [h], ?_, hk⟩
  rw [unpackL_err h h0]
  exact World.ownsRow_nil _ _ _ _

theorem info35 : (Try.prog.info? 35).map (fun i => (i.zero, i.size, i.bytes)) = some (some (.int .u64 0), 1, 8) := by kernel_rfl

set_option maxRecDepth 100000 in
set_option maxHeartbeats 3200000 in
theorem unpack_any (k n : Int) (A : Option Addr) (c : Nat) (L : List Int) (w : World) (hI : In w A c L) (hL : ∀ z ∈ L, 0 ≤ z ∧ z < 256) :
    Calls Try.prog 29 #[.slice A L.length c, .int .i64 k, .int .i64 n] w (Unpacked w L k n) := by
  obtain ⟨e0, he0, hz0, hz1, hz2⟩ := info_parts info35
  cases hw : wideB k with
  | false =>
    have he : unpackE L k n = 6 := by unfold unpackE; rw [if_pos hw]
    have HW := Lib.hid hw
    have HE := Lib.hid he
    clear hw he
    go_enter Try.func29, Try.ntmps29
    go_wp2_with fail
    refine (wide_any k _).mono ?_
    rw [HW.out]
    rintro e w' ⟨rfl, rfl⟩
    go_wp2
    go_ret2
    exact Unpacked.err HE.out (by decide) (Keeps.refl _ _)
  | true =>
    by_cases h0 : n < 0
    · have he : unpackE L k n = 7 := by unfold unpackE; rw [if_neg (by simp [hw]), if_pos (.inl h0)]
      have HW := Lib.hid hw
      have HE := Lib.hid he
      clear hw he
      go_enter Try.func29, Try.ntmps29
      go_wp2_with fail
      refine (wide_any k _).mono ?_
      rw [HW.out]
      rintro e w' ⟨rfl, rfl⟩
      go_wp2
      go_ret2
      exact Unpacked.err HE.out (by decide) (Keeps.refl _ _)
    · by_cases h1 : 1024 < n
      · have he : unpackE L k n = 7 := by unfold unpackE; rw [if_neg (by simp [hw]), if_pos (.inr h1)]
        have HW := Lib.hid hw
        have HE := Lib.hid he
        clear hw he
        go_enter Try.func29, Try.ntmps29
        go_wp2_with fail
        refine (wide_any k _).mono ?_
        rw [HW.out]
        rintro e w' ⟨rfl, rfl⟩
        go_wp2
        go_ret2
        exact Unpacked.err HE.out (by decide) (Keeps.refl _ _)
      · obtain ⟨nd, hnd⟩ : ∃ nd, needI n k = nd := ⟨_, rfl⟩
        have hL5 := hI.le
        have HW := Lib.hid hw
        have HN := Lib.hid hnd
        by_cases h2 : L.length < nd
        · have he : unpackE L k n = 1 := by unfold unpackE; rw [if_neg (by simp [hw]), if_neg (by omega), if_pos (by omega)]
          have h2i : (L.length : Int) < (nd : Int) := by omega
          have HE := Lib.hid he
          clear hw he hnd
          go_enter Try.func29, Try.ntmps29
          go_wp2_with fail
          refine (wide_any k _).mono ?_
          rw [HW.out]
          rintro e w' ⟨rfl, rfl⟩
          go_wp2_with fail
          refine (need_any n k _).mono ?_
          rw [HN.out]
          rintro e w' ⟨rfl, rfl⟩
          go_wp2
          go_ret2
          exact Unpacked.err HE.out (by decide) (Keeps.refl _ _)
        · by_cases h3 : nd < L.length
          · have he : unpackE L k n = 2 := by unfold unpackE; rw [if_neg (by simp [hw]), if_neg (by omega), if_neg (by omega), if_pos (by omega)]
            have h2i : ¬ (L.length : Int) < (nd : Int) := by omega
            have h3i : (nd : Int) < (L.length : Int) := by omega
            have HE := Lib.hid he
            clear hw he hnd
            go_enter Try.func29, Try.ntmps29
            go_wp2_with fail
            refine (wide_any k _).mono ?_
            rw [HW.out]
            rintro e w' ⟨rfl, rfl⟩
            go_wp2_with fail
            refine (need_any n k _).mono ?_
            rw [HN.out]
            rintro e w' ⟨rfl, rfl⟩
            go_wp2_with fail
            refine (need_any n k _).mono ?_
            rw [HN.out]
            rintro e w' ⟨rfl, rfl⟩
            go_wp2
            go_ret2
            exact Unpacked.err HE.out (by decide) (Keeps.refl _ _)
          · obtain rfl : nd = L.length := by omega
            have hk : 0 ≤ k ∧ k ≤ 64 := by simpa [wideB] using hw
            obtain ⟨W, rfl⟩ : ∃ W : Nat, k = (W : Int) := ⟨k.toNat, by omega⟩
            obtain ⟨m, rfl⟩ : ∃ m : Nat, n = (m : Int) := ⟨n.toNat, by omega⟩
            have hW : W ≤ 64 := by omega
            have hm : m ≤ 1024 := by omega
            have hlen : L.length = (m * W + 7) / 8 := by
              rw [← hnd]
              unfold needI
              rw [if_pos ⟨by omega, by omega, hw⟩]
              rfl
            have hle8 : m * W ≤ 8 * L.length := by omega
            have hrs : 8 * L.length - m * W < 8 := by omega
            have HLEN := Lib.hid hlen
            clear hw hk hnd h0 h1 h2 h3 hlen
            go_enter Try.func29, Try.ntmps29
            go_wp2_with fail
            refine (wide_any W _).mono ?_
            rw [HW.out]
            rintro e w' ⟨rfl, rfl⟩
            go_wp2_with fail
            refine (need_any m W _).mono ?_
            rw [HN.out]
            rintro e w' ⟨rfl, rfl⟩
            go_wp2_with fail
            refine (need_any m W _).mono ?_
            rw [HN.out]
            rintro e w' ⟨rfl, rfl⟩
            go_wp2_with fail
            refine (newReader_any A c L _ hI hL).mono ?_
            rintro e w1 ⟨p, v, rfl, hp, hrd, hk1⟩
            have HRD := Lib.hid hrd
            clear hrd
            go_wp2_with fail
            go_loopw [9, 42] (fun o x wr => ∃ j : Nat, j ≤ m ∧ x = .int .i64 j ∧ wr.ownsRow w.heap.size 35 1 o j (u64s (numsL L W j)) ∧ Rd w.heap.size p wr v L (j * W) ∧ Keeps (fun _ => False) w wr) (fun _ x _ => m - (intOf x).toNat)
            case atStart => exact ⟨0, Nat.zero_le _, rfl, World.ownsRow_nil _ _ _ _, by simpa using HRD.out, hk1⟩
            case round =>
              obtain ⟨j, hj, rfl, hown, hrd, hkr⟩ := hrel
              by_cases hlt : j < m
              · have hji : (j : Int) < (m : Int) := by omega
                have hjm : (j + 1) * W ≤ m * W := Nat.mul_le_mul_right _ hlt
                have HO := Lib.hid hown
                have HR := Lib.hid hrd
                clear hown hrd
                go_wp2_with fail
                refine (get_ok w.heap.size p W _ v L (j * W) HR.out hW (by rw [Nat.succ_mul] at hjm; omega)).mono ?_
                rintro e w2 ⟨rfl, hrd2, hk2⟩
                have hown2 := own_keep HO.out hk2 (by rintro k hk rfl; exact HR.out.blk.own_ne HO.out (by decide) hk)
                have hkr2 : Keeps (fun _ => False) w w2 := hkr.trans' hk2 (by rintro i hi rfl; omega)
                obtain ⟨x, hx⟩ : ∃ x, numAt L (j * W) W = x := ⟨_, rfl⟩
                rw [hx]
                have HX := Lib.hid hx
                have HO2 := Lib.hid hown2
                have HR2 := Lib.hid hrd2
                clear hown2 hrd2 hx
                go_wp2_with (at_builtin; refine wpList_append_own_at _ rfl _ _ 22 rfl w.heap.size 35 e0 (.int .u64 0) 1 8 Try.underlying22 he0 hz0 hz1 hz2 rfl (by decide) u9 j _ rfl (HO2.out.alloc _) ⟨w2.heap.size, 0, none⟩ 1 1 [.int .u64 x] rfl rfl (World.news_of_block (cs := #[.int .u64 x]) (t := 35) (fr := (0, 0)) (heap_alloc_new w2 _)) (by simp [Value.oneCell']) (by unfold maxLen; omega) (by omega) (by have := hkr2.size; simp; omega) ?_; intro v3 w3 hown3 hgrow _ _)
                go_roundw
                case rel =>
                  refine ⟨j + 1, by omega, by go_num, ?_, ?_, ?_⟩
                  · rw [numsL_succ, HX.out]
                    simpa [u64s] using hown3
                  · rw [Nat.succ_mul]
                    exact ⟨(HR2.out.blk.alloc _).keep ((Keeps.refl (fun i => u9.ownBlock = some i) _).grown hgrow (fun k hk => .inl hk)) (HR2.out.blk.own_ne HO2.out (by decide)), own_keep (own_keep HR2.out.own ((Keeps.refl (fun _ => False) _).alloc _) (fun _ _ h => h)) ((Keeps.refl (fun i => u9.ownBlock = some i) _).grown hgrow (fun k hk => .inl hk)) (fun k hk hu => own_own_ne HO2.out HR2.out.own (by decide) hu hk), HR2.out.le, HR2.out.len, HR2.out.byt⟩
                  · exact (hkr2.alloc _).grown hgrow (by intro k hk; right; exact (HO2.out.lt k hk).1)
                case measure => simp [intOf]; omega
              · obtain rfl : j = m := by omega
                have HO := Lib.hid hown
                have HR := Lib.hid hrd
                have HKR := Lib.hid hkr
                clear hown hrd hkr
                go_wp2_with fail
                refine (left_any _ p _ v L _ HR.out).mono ?_
                rintro e w2 ⟨rfl, hk2⟩
                go_wp2_with fail
                refine (get_ok w.heap.size p (8 * L.length - j * W) _ v L (j * W) (HR.out.quiet hk2) (by omega) (by omega)).mono ?_
                rintro e w3 ⟨rfl, hrd3, hk3⟩
                have hown2 := own_keep (own_keep HO.out hk2 (fun _ _ h => h)) hk3 (by rintro k hk rfl; exact HR.out.blk.own_ne HO.out (by decide) hk)
                have hkr3 : Keeps (fun _ => False) w w3 := (HKR.out.trans hk2).trans' hk3 (by rintro i hi rfl; omega)
                obtain ⟨x, hx⟩ : ∃ x, numAt L (j * W) (8 * L.length - j * W) = x := ⟨_, rfl⟩
                have hrest : restN L W j = x := hx
                rw [hx]
                have HO2 := Lib.hid hown2
                clear hx hrd3 hown2
                by_cases hx0 : x = 0
                · subst hx0
                  have he : unpackE L W j = 0 := by
                    unfold unpackE
                    rw [if_neg (by rw [HW.out]; decide), if_neg (by omega), HN.out, if_neg (by omega), if_neg (by omega), if_neg (by rw [Int.toNat_natCast, Int.toNat_natCast, hrest]; decide)]
                  have HE := Lib.hid he
                  clear he hrest
                  go_wp2_with fail
                  go_ret2
                  have hpl : unpackL L W j = numsL L W j := by
                    unfold unpackL
                    rw [if_pos HE.out]
                    rfl
                  refine ⟨_, by rw [HE.out]; rfl, ?_, hkr3⟩
                  rw [hpl, numsL_len]
                  exact HO2.out
                · have he : unpackE L W j = 3 := by
                    unfold unpackE
                    rw [if_neg (by rw [HW.out]; decide), if_neg (by omega), HN.out, if_neg (by omega), if_neg (by omega), if_pos (by rw [Int.toNat_natCast, Int.toNat_natCast, hrest]; exact hx0)]
                  have HE := Lib.hid he
                  clear he hrest
                  have hxi : ((x : Int) == 0) = false := by simp; omega
                  go_wp2_with fail
                  go_ret2
                  exact Unpacked.err HE.out (by decide) hkr3
end Go.Proofs.Ythcoiaigmndohaa
