/-
  The contracts of trap.Must and trap.Check, as xor.Decode uses them. No conditions.
-/
import Derived.Test.YthcoiaigmndohaaDoorTrapTry
namespace Go.Proofs.YthcoiaigmndohaaDoor
open Go.RowKit

theorem must_ok (x : Int) (w : World) : Calls Tryd.prog 39 #[.int .u64 x, .int .i64 0] w fun e w' => e = .returned (.int .u64 x) ∧ w = w' := by
  go_enter Tryd.func39, Tryd.ntmps39
  go_wp2_with (go_at_call 42; refine (throw_none _).mono ?_; rintro e w' ⟨rfl, rfl⟩)
  go_ret
  exact ⟨rfl, rfl⟩

theorem must_no (x y : Int) (hy : (y != 0) = true) (w : World) : Calls Tryd.prog 39 #[.int .u64 x, .int .i64 y] w fun e w' => e = .panicked [{ v := thrownV y, recovered := false }] ∧ w = w' := by
  go_enter Tryd.func39, Tryd.ntmps39
  go_wp2_with (go_at_call 42; refine (throw_some y hy _).mono ?_; rintro e w' ⟨rfl, rfl⟩)
  exact ⟨rfl, rfl, rfl⟩

theorem check_ok (b : Bool) (y : Int) (h : b = true ∨ y = 0) (w : World) : Calls Tryd.prog 25 #[.bool b, .int .i64 y] w fun e w' => e = .returned (.tuple #[]) ∧ w = w' := by
  cases b
  · obtain rfl : y = 0 := by simpa using h
    go_enter Tryd.func25, Tryd.ntmps25
    go_wp2_with (go_at_call 42; refine (throw_none _).mono ?_; rintro e w' ⟨rfl, rfl⟩)
    go_end0
    exact ⟨rfl, rfl⟩
  · clear h
    go_enter Tryd.func25, Tryd.ntmps25
    go_wp2
    go_end0
    exact ⟨rfl, rfl⟩

theorem check_no (y : Int) (hy : (y != 0) = true) (w : World) : Calls Tryd.prog 25 #[.bool false, .int .i64 y] w fun e w' => e = .panicked [{ v := thrownV y, recovered := false }] ∧ w = w' := by
  go_enter Tryd.func25, Tryd.ntmps25
  go_wp2_with (go_at_call 42; refine (throw_some y hy _).mono ?_; rintro e w' ⟨rfl, rfl⟩)
  exact ⟨rfl, rfl, rfl⟩
end Go.Proofs.YthcoiaigmndohaaDoor
