/-
  'awake' of the laws on reals. Condition: the names' sixth cell holds the word tiny (out of the row's 'laid').
-/
import Derived.Test.YtfpmbkdijechaaaDoorRealKind
namespace Go.Proofs.YtfpmbkdijechaaaDoor
open Go.RowKit Flt

/-- The word tiny. -/
def tinyS : ByteArray := ⟨#[116, 105, 110, 121]⟩
/-- The names' cell of that word. -/
def Named (w : World) : Prop := w.cell? ⟨1, 5, none⟩ = some (.string tinyS)

theorem copysign_zero (w : World) : Calls Tryd.prog 31 #[.float .f64 0, .float .f64 13830554455654793216] w fun e w' => e = .returned (.float .f64 9223372036854775808) ∧ w = w' := by
  have hb := fun b w => call_bits b w
  have hf := fun n w => call_from n w
  go_enter Tryd.func31, Tryd.ntmps31
  go_wp2
  go_ret
  exact ⟨ret_float (by decide), rfl⟩

theorem name_tiny (w : World) (h : Named w) : Calls Tryd.prog 26 #[.int .i64 5] w fun e w' => e = .returned (.string tinyS) ∧ w = w' := by
  have h' : w.cell? ⟨1, 5, none⟩ = some (.string tinyS) := h
  clear h
  go_enter Tryd.func26, Tryd.ntmps26
  go_wp2
  go_ret
  exact ⟨rfl, rfl⟩

theorem awake_any (w : World) (h : Named w) : Calls Tryd.prog 12 #[] w fun e w' => e = .returned (.bool true) ∧ w = w' := by
  have f0 : Fits 0 := by unfold Fits; omega
  have f1 : Fits 1 := by unfold Fits; omega
  have f2 : Fits 9223372036854775808 := by unfold Fits; omega
  have e0 : rank 0 = 0 := by decide
  have e2 : rank 9223372036854775808 = -1 := by decide
  have k1 : kind 1 = 5 := by decide
  have E0 := Lib.hid e0
  have E2 := Lib.hid e2
  have K1 := Lib.hid k1
  clear e0 e2 k1
  have hs : (tinyS.toList == [116, 105, 110, 121]) = true := by decide +kernel
  go_enter Tryd.func12, Tryd.ntmps12
  go_wp2_with fail
  refine (rank_any 0 f0 _).mono ?_
  rw [E0.out]
  rintro e w' ⟨rfl, rfl⟩
  go_wp2_with fail
  refine (copysign_zero _).mono ?_
  rintro e w' ⟨rfl, rfl⟩
  go_wp2_with fail
  refine (rank_any 9223372036854775808 f2 _).mono ?_
  rw [E2.out]
  rintro e w' ⟨rfl, rfl⟩
  go_wp2_with fail
  refine (kind_any 1 f1 _).mono ?_
  rw [K1.out]
  rintro e w' ⟨rfl, rfl⟩
  go_wp2_with fail
  refine (name_tiny _ h).mono ?_
  rintro e w' ⟨rfl, rfl⟩
  go_wp2
  go_ret
  exact ⟨rfl, rfl⟩
end Go.Proofs.YtfpmbkdijechaaaDoor
