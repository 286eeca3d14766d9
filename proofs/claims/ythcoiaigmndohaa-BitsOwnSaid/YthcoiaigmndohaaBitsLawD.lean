/-
  The law BitsReads: its walk.
-/
import Derived.Test.YthcoiaigmndohaaBitsPlain2
namespace Go.Proofs.Ythcoiaigmndohaa
open Go.RowKit BitM

/-- A slice of integers that came in. -/
structure InI (w : World) (A : Option Addr) (c : Nat) (V : List Int) : Prop where
  row : Row w w.heap.size A V.length (V.map (Value.int .i64))
  cap : A = none → c = 0
  le : V.length ≤ 100000
  wf : ∀ z ∈ V, -9223372036854775808 ≤ z ∧ z ≤ 9223372036854775807

theorem i64_bounds {z : Int} (h : (Lit.int .i64 z).wf = true) : -9223372036854775808 ≤ z ∧ z ≤ 9223372036854775807 := by
  simp [Lit.wf, IntKind.min, IntKind.max, IntKind.signed, IntKind.bits] at h
  omega

theorem InI.came {w : World} {A : Option Addr} {c : Nat} {L : List Int} (hrow : Row w w.heap.size A L.length (L.map (.int .i64))) (hwf : ∀ z ∈ L, (Lit.int .i64 z).wf = true) (hnil : A = none → c = 0) (hl : L.length ≤ 100000) : InI w A c L :=
  ⟨hrow, hnil, hl, fun z hz => i64_bounds (hwf z hz)⟩

theorem InI.keep {w w' : World} {A : Option Addr} {c : Nat} {V : List Int} (h : InI w A c V) (hb : Keeps (fun _ => False) w w') : InI w' A c V :=
  ⟨(h.row.keep hb (Nat.le_refl _) (fun _ _ h => h)).mono hb.size, h.cap, h.le, h.wf⟩

theorem InI.at_ {w : World} {A : Option Addr} {c : Nat} {V : List Int} (h : InI w A c V) {j : Nat} (hj : j < V.length) : ∃ b off, A = some ⟨b, off, none⟩ ∧ b < w.heap.size ∧ w.cell? ⟨b, off + j, none⟩ = some (.int .i64 V[j]) ∧ (-9223372036854775808 ≤ V[j] ∧ V[j] ≤ 9223372036854775807) := by
  obtain ⟨b, off, u, rfl, hb, hx, hc⟩ := h.row.at_ hj
  have : u = .int .i64 V[j] := by
    rw [List.getElem?_map, List.getElem?_eq_getElem hj] at hx
    injection hx with hx
    exact hx.symm
  exact ⟨b, off, rfl, hb, this ▸ hc, h.wf _ (List.getElem_mem hj)⟩

set_option maxRecDepth 100000 in
set_option maxHeartbeats 3200000 in
theorem bitsReads_walk (L : List Int) (A : Option Addr) (c : Nat) (V : List Int) (A' : Option Addr) (c' : Nat) (w : World) (hrow : Row w w.heap.size A L.length (L.map (.int .u8))) (hc : L.length ≤ c) (hm : c ≤ maxLen) (hwf : ∀ z ∈ L, (Lit.int .u8 z).wf = true) (hnil : A = none → c = 0)
    (hrow' : Row w w.heap.size A' V.length (V.map (.int .i64))) (hc' : V.length ≤ c') (hm' : c' ≤ maxLen) (hwf' : ∀ z ∈ V, (Lit.int .i64 z).wf = true) (hnil' : A' = none → c' = 0) :
    Calls Try.prog 6 #[.slice A L.length c, .slice A' V.length c'] w fun e w' => e = .returned (.bool true) ∧ Below w.heap.size w w' := by
  have hlm : L.length ≤ maxLen := Nat.le_trans hc hm
  have hlm' : V.length ≤ maxLen := Nat.le_trans hc' hm'
  unfold maxLen at hlm hlm'
  by_cases hl : 200 < L.length
  · clear hrow hwf hnil hm hrow' hwf' hnil' hm'
    go_enter Try.func6, Try.ntmps6
    go_wp2
    go_ret
    exact ⟨rfl, Below.refl _ _⟩
  · by_cases hl' : 60 < V.length
    · have hb : decide ((60 : Int) < (V.length : Int)) = true := decide_eq_true (by omega)
      clear hrow hwf hnil hm hrow' hwf' hnil' hm'
      go_enter Try.func6, Try.ntmps6
      go_wp2
      go_ret
      exact ⟨rfl, Below.refl _ _⟩
    · obtain ⟨hI, hL⟩ := In.came hrow hwf hnil (by omega)
      have hJ := InI.came hrow' hwf' hnil' (by omega)
      have HL := Lib.hid hL
      have hl2 : L.length ≤ 200 := by omega
      have hl3 : V.length ≤ 60 := by omega
      clear hrow hc hm hwf hnil hrow' hc' hm' hwf' hnil' hlm hlm' hL
      go_enter Try.func6, Try.ntmps6
      go_wp2_with fail
      refine (newReader_any A c L _ hI HL.out).mono ?_
      rintro e w1 ⟨p, v, rfl, hp, hrd, hk1⟩
      have HRD := Lib.hid hrd
      clear hrd
      go_wp2_with fail
      go_loopw [6, 7] (fun x i wr => ∃ (j a : Nat), j ≤ V.length ∧ x = .int .i64 a ∧ i = .int .i64 j ∧ Rd w.heap.size p wr v L a ∧ Keeps (fun _ => False) w wr) (fun _ i _ => V.length - (intOf i).toNat)
      case atStart => exact ⟨0, 0, Nat.zero_le _, rfl, rfl, HRD.out, hk1⟩
      case round =>
        obtain ⟨j, a, hj, rfl, rfl, hrd, hkr⟩ := hrel
        by_cases hlt : j < V.length
        · obtain ⟨b, off, rfl, hb, hcell, hbd⟩ := (hJ.keep hkr).at_ hlt
          have hji : (j : Int) < (V.length : Int) := by omega
          have j0 : (0 : Int) ≤ (j : Int) := by omega
          obtain ⟨d, hd⟩ : ∃ d, V[j] = d := ⟨_, rfl⟩
          rw [hd] at hcell hbd
          have hle := hrd.le
          have HR := Lib.hid hrd
          have HKR := Lib.hid hkr
          have hIr := hI.keep (hkr.below (fun _ _ h => h) (Nat.le_refl _))
          have HIR := Lib.hid hIr
          clear hd hrd hkr hIr
          go_wp2_with fail
          cases hw : wideB d with
          | false =>
            have HW := Lib.hid hw
            clear hw
            refine (get_wide _ d HW.out _).mono ?_
            rintro e w2 ⟨rfl, rfl⟩
            go_wp2_with fail
            refine (refWide_any d _).mono ?_
            rw [HW.out]
            rintro e w2 ⟨rfl, rfl⟩
            go_wp2_with fail
            refine (left_any w.heap.size p _ v L a HR.out).mono ?_
            rintro e w2 ⟨rfl, hk2⟩
            have hne : (((8 * L.length - a : Nat) : Int) != 8 * (L.length : Int) - (a : Int)) = false := by simp; omega
            obtain ⟨lf, hlf⟩ : ∃ lf, 8 * L.length - a = lf := ⟨_, rfl⟩
            rw [hlf] at hne ⊢
            clear hlf
            go_wp2_with fail
            go_roundw
            case rel => exact ⟨j + 1, a, by omega, rfl, by go_num, HR.out.quiet hk2, HKR.out.trans hk2⟩
            case measure => simp [intOf]; omega
          | true =>
            have hd64 : 0 ≤ d ∧ d ≤ 64 := by simpa [wideB] using hw
            obtain ⟨W, rfl⟩ : ∃ W : Nat, d = (W : Int) := ⟨d.toNat, by omega⟩
            have hW : W ≤ 64 := by omega
            have HW := Lib.hid hw
            clear hw hd64 hbd
            by_cases hs : 8 * L.length < a + W
            · have hsi : 8 * (L.length : Int) - (a : Int) < (W : Int) := by omega
              refine (get_short w.heap.size p W _ v L a HR.out hW hs).mono ?_
              rintro e w2 ⟨rfl, hk2⟩
              have hcell2 : w2.cell? ⟨b, off + j, none⟩ = some (.int .i64 W) := (hk2.cell (p := ⟨b, off + j, none⟩) hb (fun h => h)).trans hcell
              go_wp2_with fail
              refine (refWide_any W _).mono ?_
              rw [HW.out]
              rintro e w3 ⟨rfl, rfl⟩
              go_wp2_with fail
              refine (left_any w.heap.size p _ v L a (HR.out.quiet hk2)).mono ?_
              rintro e w3 ⟨rfl, hk3⟩
              have hne : (((8 * L.length - a : Nat) : Int) != 8 * (L.length : Int) - (a : Int)) = false := by simp; omega
              obtain ⟨lf, hlf⟩ : ∃ lf, 8 * L.length - a = lf := ⟨_, rfl⟩
              rw [hlf] at hne ⊢
              clear hlf
              go_wp2_with fail
              go_roundw
              case rel => exact ⟨j + 1, a, by omega, rfl, by go_num, (HR.out.quiet hk2).quiet hk3, (HKR.out.trans hk2).trans hk3⟩
              case measure => simp [intOf]; omega
            · have hsi : ¬ 8 * (L.length : Int) - (a : Int) < (W : Int) := by omega
              refine (get_ok w.heap.size p W _ v L a HR.out hW (by omega)).mono ?_
              rintro e w2 ⟨rfl, hrd2, hk2⟩
              have hbp : b ≠ p := by
                have := (hJ.row.2 (by omega)).choose_spec
                obtain ⟨o2, h1, h2, _⟩ := this
                have : b = (hJ.row.2 (by omega)).choose := by injection h1 with h1; injection h1
                omega
              have hcell2 : w2.cell? ⟨b, off + j, none⟩ = some (.int .i64 W) := (hk2.cell (p := ⟨b, off + j, none⟩) hb hbp).trans hcell
              have hI2 : In w2 A c L := by
                refine hI.keep (Keeps.below (S := fun _ => False) (HKR.out.trans' hk2 ?_) (fun _ _ h => h) (Nat.le_refl _))
                rintro i hi rfl
                omega
              obtain ⟨x, hx⟩ : ∃ x, numAt L a W = x := ⟨_, rfl⟩
              rw [hx]
              have HX := Lib.hid hx
              have HR2 := Lib.hid hrd2
              clear hx hrd2
              go_wp2_with fail
              refine (refWide_any W _).mono ?_
              rw [HW.out]
              rintro e w3 ⟨rfl, rfl⟩
              go_wp2_with fail
              refine (refNumber_any A c L a W _ hI2 HL.out hW (by omega)).mono ?_
              rw [HX.out]
              rintro e w3 ⟨rfl, rfl⟩
              have hxx : ((x : Int) != (x : Int)) = false := by simp
              go_wp2_with fail
              refine (left_any w.heap.size p _ v L (a + W) HR2.out).mono ?_
              rintro e w3 ⟨rfl, hk3⟩
              have hne : (((8 * L.length - (a + W) : Nat) : Int) != 8 * (L.length : Int) - ((a : Int) + (W : Int))) = false := by simp; omega
              obtain ⟨lf, hlf⟩ : ∃ lf, 8 * L.length - (a + W) = lf := ⟨_, rfl⟩
              rw [hlf] at hne ⊢
              clear hlf
              go_wp2_with fail
              go_roundw
              case rel =>
                refine ⟨j + 1, a + W, by omega, by go_num, by go_num, HR2.out.quiet hk3, ?_⟩
                refine (HKR.out.trans' hk2 ?_).trans hk3
                rintro i hi rfl
                omega
              case measure => simp [intOf]; omega
        · obtain rfl : j = V.length := by omega
          go_wp2_with fail
          refine (awake_any _).mono ?_
          rintro e w2 ⟨rfl, hk2⟩
          go_wp2
          go_ret
          exact ⟨rfl, (hkr.trans hk2).below (fun _ _ h => h) (Nat.le_refl _)⟩
end Go.Proofs.Ythcoiaigmndohaa
