/-
  'awake' of the laws on trap, and what it calls: it returns true and leaves old memory as it was. No conditions.
-/
import Derived.Test.YtlgnepkapcjfnaaTrapTry
namespace Go.Proofs.Ytlgnepkapcjfnaa
open Go.RowKit

theorem enter25 (w : World) : (callFunc 25 #[]).run Try.prog w = .ok (.enter 25 #[]) w := by kernel_rfl

theorem short_any (w : World) : Calls Try.prog 25 #[] w fun e w' => e = .panicked [{ v := thrownV 1, recovered := false }] ∧ w = w' := by
  go_enter Try.func25, Try.ntmps25
  go_wp2_with (go_at_call 14; refine (throw_some 1 (by decide) _).mono ?_; rintro e w' ⟨rfl, rfl⟩)
  exact ⟨rfl, rfl, rfl⟩

theorem must_int (x : Int) (w : World) : Calls Try.prog 26 #[.int .i64 x, .int .i64 0] w fun e w' => e = .returned (.int .i64 x) ∧ w = w' := by
  go_enter Try.func26, Try.ntmps26
  go_wp2_with (go_at_call 14; refine (throw_none _).mono ?_; rintro e w' ⟨rfl, rfl⟩)
  go_ret
  exact ⟨rfl, rfl⟩

theorem awake_any (w : World) : Calls Try.prog 11 #[] w fun e w' => e = .returned (.bool true) ∧ Below w.heap.size w w' := by
  have hT := try_throws 1 [] rfl 25 #[] enter25 w (fun w' => w.alloc (.cells #[.int .i64 0] 27) = w') (short_any _) (by
    rintro w' rfl
    exact ⟨⟨0, by simp [go_sem]⟩, by simp [go_sem]⟩)
  have HT := Lib.hid hT
  clear hT
  go_enter Try.func11, Try.ntmps11
  go_wp2_with fail
  refine HT.out.mono ?_
  rintro e w' ⟨rfl, w2, rfl, rfl⟩
  go_wp2_with (go_at_call 26; refine (must_int 5 _).mono ?_; rintro e w' ⟨rfl, rfl⟩)
  go_ret
  exact ⟨rfl, by go_grown⟩
end Go.Proofs.Ytlgnepkapcjfnaa
