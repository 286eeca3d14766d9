/-
  'awake' of the laws on what is told of reals. No conditions.
-/
import Derived.Test.YtfpmbkdijechaaaStatRef
namespace Go.Proofs.Ytfpmbkdijechaaa
open Go.RowKit Flt
attribute [local go_sem] run_store_float

theorem copysign_zero (w : World) : Calls Try.prog 23 #[.float .f64 0, .float .f64 13830554455654793216] w fun e w' => e = .returned (.float .f64 9223372036854775808) ∧ w = w' := by
  have hb := fun b w => call_bits b w
  have hf := fun n w => call_from n w
  go_enter Try.func23, Try.ntmps23
  go_wp2
  go_ret
  exact ⟨ret_float (by decide), rfl⟩

theorem nan_any (w : World) : Calls Try.prog 24 #[] w fun e w' => e = .returned (.float .f64 9221120237041090561) ∧ w = w' := by
  have hf := fun n w => call_from n w
  go_enter Try.func24, Try.ntmps24
  go_wp2
  go_ret
  exact ⟨rfl, rfl⟩

theorem inF_alloc {w : World} {M : List Nat} (hl : M.length ≤ 1000) (hf : ∀ x ∈ M, Fits x) : InF (w.alloc (.cells (fls M).toArray 25)) (some ⟨w.heap.size, 0, none⟩) M.length M := by
  refine ⟨⟨by simp [fls], fun _ => ⟨w.heap.size, 0, rfl, by simp, fun j u hu => ?_⟩⟩, (fun h => nomatch h), (by omega), hf⟩
  rw [Nat.zero_add]
  have hb := Blk.new w 25 (fls M).toArray
  rw [hb.cell j]
  simpa using hu

def zs : List Nat := [0, 9223372036854775808]
def ns : List Nat := [9221120237041090561]

set_option maxRecDepth 100000 in
set_option maxHeartbeats 1600000 in
theorem awake_any (w : World) : Calls Try.prog 14 #[] w fun e w' => e = .returned (.bool true) ∧ Keeps (fun _ => False) w w' := by
  have f0 : Fits 9223372036854775808 := by unfold Fits; omega
  have f1 : Fits 0 := by unfold Fits; omega
  go_enter Try.func14, Try.ntmps14
  go_upto_region 1 with fail
  go_cut [1, 2] from 1 to 8 (fun p1 p2 wx => ∃ g1 g2, p1 = .pointer (some ⟨g1, 0, none⟩) ∧ p2 = .pointer (some ⟨g2, 0, none⟩) ∧ Blk wx g1 27 (ofSt zs).cells ∧ Blk wx g2 27 (ofSt ns).cells ∧ Keeps (fun _ => False) w wx)
  case first =>
    go_wp2_with fail
    refine (copysign_zero _).mono ?_
    rintro e w' ⟨rfl, rfl⟩
    go_wp2_with fail
    refine (of_any _ _ zs _ (inF_alloc (M := zs) (by decide) (by intro x hx; simp [zs] at hx; rcases hx with rfl | rfl <;> assumption)) (by decide)).mono ?_
    rintro e w1 ⟨rfl, hk1⟩
    go_wp2_with fail
    refine (nan_any _).mono ?_
    rintro e w' ⟨rfl, rfl⟩
    go_wp2_with fail
    refine (of_any _ _ ns _ (inF_alloc (M := ns) (by decide) (by intro x hx; simp [ns] at hx; subst hx; unfold Fits; omega)) (by decide)).mono ?_
    rintro e w2 ⟨rfl, hk2⟩
    have HB1 := Lib.hid (show Blk ((w2.alloc (.cells zeroSt.cells 27)).alloc (.cells zeroSt.cells 27)) w2.heap.size 27 zeroSt.cells from (Blk.new w2 _ _).alloc _)
    have hb2 := Blk.new (w2.alloc (.cells zeroSt.cells 27)) 27 zeroSt.cells
    rw [World.size_alloc] at hb2
    have HB2 := Lib.hid (hb2.setRow_far (cs := (ofSt zs).cells) (g' := w2.heap.size) (by omega))
    clear hb2
    go_wp2_with (first
      | (refine wpList_store_row rfl 27 (.tmp 1) (.tmp 5) rfl _ _ rfl rfl 27 _ HB1.out info27 rfl (statC_ones _ _ _ _ _ _) ?_)
      | (refine wpList_store_row rfl 27 (.tmp 2) (.tmp 8) rfl _ _ rfl rfl 27 _ HB2.out info27 rfl (statC_ones _ _ _ _ _ _) ?_))
    go_meet
    case rel =>
      refine ⟨_, _, rfl, rfl, (HB1.out.setRow).setRow_far (by omega), HB2.out.setRow, ?_⟩
      exact ((((((((Keeps.refl _ w).alloc _).trans hk1).alloc _).trans hk2).alloc _).alloc _).setRow (.inr (by have := hk1.size; have := hk2.size; simp at *; omega)) _).setRow (.inr (by have := hk1.size; have := hk2.size; simp at *; omega)) _
  case rest =>
    obtain ⟨g1, g2, rfl, rfl, hb1, hb2, hkx⟩ := hcut
    have c0 : wc.cell? ⟨g1, 0, none⟩ = some (.int .i64 2) := by rw [hb1.cell]; rfl
    have c12 : wc.cell? ⟨g1, 12, none⟩ = some (.float .f64 9223372036854775808) := by rw [hb1.cell]; exact congrArg (fun x => some (Value.float .f64 x)) (show (ofSt zs).mn = 9223372036854775808 by decide +kernel)
    have c13 : wc.cell? ⟨g1, 13, none⟩ = some (.float .f64 0) := by rw [hb1.cell]; exact congrArg (fun x => some (Value.float .f64 x)) (show (ofSt zs).mx = 0 by decide +kernel)
    have d0 : wc.cell? ⟨g2, 0, none⟩ = some (.int .i64 1) := by rw [hb2.cell]; rfl
    have d11 : wc.cell? ⟨g2, 11, none⟩ = some (.bool false) := by rw [hb2.cell]; exact congrArg (fun x => some (Value.bool x)) (show (ofSt ns).an = false by decide +kernel)
    have s1 : sgnB 9223372036854775808 = true := by decide
    have s2 : sgnB 0 = false := by decide
    have S1 := Lib.hid s1
    have S2 := Lib.hid s2
    have F0 := Lib.hid f0
    have F1 := Lib.hid f1
    clear hb1 hb2 s1 s2 f0 f1
    go_wp2_with fail
    refine (signbit_any 9223372036854775808 F0.out _).mono ?_
    rw [S1.out]
    rintro e w' ⟨rfl, rfl⟩
    go_wp2_with fail
    refine (signbit_any 0 F1.out _).mono ?_
    rw [S2.out]
    rintro e w' ⟨rfl, rfl⟩
    go_wp2
    go_ret
    exact ⟨rfl, hkx⟩
end Go.Proofs.Ytfpmbkdijechaaa
