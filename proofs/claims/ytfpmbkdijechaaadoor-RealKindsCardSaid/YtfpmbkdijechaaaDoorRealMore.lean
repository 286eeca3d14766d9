/-
  The contracts of package real: from bits, from ranks, the same. Conditions: the bits fit 64.
-/
import Derived.Test.YtfpmbkdijechaaaDoorRealBase
namespace Go.Proofs.YtfpmbkdijechaaaDoor
open Go.RowKit

theorem from_any (v : Int) (h : FitsI v) (w : World) : Calls Tryd.prog 27 #[.int .i64 v] w fun e w' => e = .returned (.float .f64 (ubits v)) ∧ w = w' := by
  have hf := fun n w => call_from n w
  go_enter Tryd.func27, Tryd.ntmps27
  go_wp2
  go_ret
  exact ⟨ret_float (by rw [u64_bits h.1 h.2]; rfl), rfl⟩

theorem turn_range {v : Int} (h : FitsI v) : FitsI (turn v) := by
  unfold FitsI at *
  unfold turn
  split <;> omega

theorem fromRank_any (v : Int) (h : FitsI v) (w : World) : Calls Tryd.prog 19 #[.int .i64 v] w fun e w' => e = .returned (.float .f64 (ubits (turn v))) ∧ w = w' := by
  go_enter Tryd.func19, Tryd.ntmps19
  go_wp2_with fail
  refine (turned_any v h _).mono ?_
  rintro e w' ⟨rfl, rfl⟩
  go_wp2_with fail
  refine (from_any _ (turn_range h) _).mono ?_
  rintro e w' ⟨rfl, rfl⟩
  go_wp2
  go_ret
  exact ⟨rfl, rfl⟩

theorem ibits_inj {a b : Nat} (ha : Fits a) (hb : Fits b) : (ibits a == ibits b) = decide (a = b) := by
  unfold Fits at *
  rw [Bool.eq_iff_iff]
  simp only [beq_iff_eq, decide_eq_true_eq]
  unfold ibits
  split <;> split <;> omega

theorem same_any (a b : Nat) (ha : Fits a) (hb : Fits b) (w : World) : Calls Tryd.prog 14 #[.float .f64 a, .float .f64 b] w fun e w' => e = .returned (.bool (decide (a = b))) ∧ w = w' := by
  have HI := Lib.hid (ibits_inj ha hb)
  go_enter Tryd.func14, Tryd.ntmps14
  go_wp2_with fail
  refine (bits_any a ha _).mono ?_
  rintro e w' ⟨rfl, rfl⟩
  go_wp2_with fail
  refine (bits_any b hb _).mono ?_
  rintro e w' ⟨rfl, rfl⟩
  go_wp2
  go_ret
  exact ⟨ret_bool HI.out, rfl⟩
end Go.Proofs.YtfpmbkdijechaaaDoor
