/-
  The contracts of package trap's inner functions: Throw; the closure that Try defers (entered by a frame that returns, by one that panics with a thrown error, by one that panics with a string). No conditions.
-/
import Derived.Test.YthcoiaigmndohaaDoorRows
import Derived.WalkKit
import Derived.WalkLawsBesides
import Derived.Recover
import Derived.Lib.Hide
import Derived.Handy
namespace Go.Proofs.YthcoiaigmndohaaDoor
open Go.RowKit

/-- What panics when the error e is thrown. -/
def thrownV (e : Int) : Value := .iface 89 (.agg #[.int .i64 e])

theorem throw_none (w : World) : Calls Tryd.prog 42 #[.int .i64 0] w fun e w' => e = .returned (.tuple #[]) ∧ w = w' := by
  go_enter Tryd.func42, Tryd.ntmps42
  go_wp2
  go_end0
  exact ⟨rfl, rfl⟩

theorem throw_some (x : Int) (hx : (x != 0) = true) (w : World) : Calls Tryd.prog 42 #[.int .i64 x] w fun e w' => e = .panicked [{ v := thrownV x, recovered := false }] ∧ w = w' := by
  go_enter Tryd.func42, Tryd.ntmps42
  go_wp2
  exact ⟨rfl, rfl, rfl⟩

theorem catch_idle (p : Addr) (w : World) :
    CallsD Tryd.prog 45 #[.pointer (some p)] .returning w fun e u' w' => e = .returned (.tuple #[]) ∧ u' = .returning ∧ w' = w := by
  refine callsD_of_wpS Tryd.func45 rfl fun c₀ cs hu => ?_
  apply wpS_seq
  apply wpS_region
  simp [wpOpsS, go_sem, recoverD, hu, Tryd.ntmps45, Exit.thenS]
  refine wpS_of_wp ?_
  simp [Array.replicate_succ]
  go_wp2
  cases c₀
  simp_all [bodyPostS, results, Tryd.results45, Exit.thenS]

theorem assert_thrown (x : Int) (w : World) : (Instr.typeAssert (.iface 89 (.agg #[.int .i64 x])) 20 89 true).run Tryd.prog w = .ok (.tuple #[.agg #[.int .i64 x], .bool true]) w := by kernel_rfl
theorem assert_string (s : ByteArray) (w : World) : (Instr.typeAssert (.iface 9 (.string s)) 20 89 true).run Tryd.prog w = .ok (.tuple #[.agg #[.int .i64 0], .bool false]) w := by kernel_rfl

theorem catch_thrown (p : Addr) (x y : Int) (older : List PanicEntry) (w : World) (hc : w.cell? p = some (.int .i64 y)) (hz : w.frozen? p = false) :
    CallsD Tryd.prog 45 #[.pointer (some p)] (.panicking ({ v := thrownV x, recovered := false } :: older)) w fun e u' w' =>
      e = .returned (.tuple #[]) ∧ u' = .panicking ({ v := thrownV x, recovered := true } :: older) ∧ w' = (w.alloc (.cells #[.int .i64 x] 89)).setCell p (.int .i64 x) := by
  have hta := fun w : World => assert_thrown x w
  have hlt : p.block < w.heap.size := by
    rcases Nat.lt_or_ge p.block w.heap.size with h | h
    · exact h
    · simp [World.cell?, Array.getElem?_eq_none h] at hc
  have hc' : (w.alloc (.cells #[.int .i64 x] 89)).cell? p = some (.int .i64 y) := by rw [World.cell?_alloc_lt _ _ _ hlt]; exact hc
  have hz' : (w.alloc (.cells #[.int .i64 x] 89)).frozen? p = false := (World.frozen?_of_block (Below.heap_alloc _ _ _ hlt)).trans hz
  refine callsD_of_wpS Tryd.func45 rfl fun c₀ cs hu => ?_
  apply wpS_seq
  apply wpS_region
  simp [wpOpsS, go_sem, recoverD, hu, thrownV, Tryd.ntmps45, Exit.thenS]
  refine wpS_of_wp ?_
  simp [Array.replicate_succ]
  clear hlt
  go_wp2
  cases c₀
  simp_all [bodyPostS, results, Tryd.results45, Exit.thenS]

theorem catch_string (p : Addr) (s : ByteArray) (older : List PanicEntry) (w : World) :
    CallsD Tryd.prog 45 #[.pointer (some p)] (.panicking ({ v := .iface 9 (.string s), recovered := false } :: older)) w fun e u' w' =>
      e = .panicked [{ v := .iface 9 (.string s), recovered := false }] ∧ u' = .panicking ({ v := .iface 9 (.string s), recovered := true } :: older) ∧ w' = w.alloc (.cells #[.int .i64 0] 89) := by
  have hta := fun w : World => assert_string s w
  refine callsD_of_wpS Tryd.func45 rfl fun c₀ cs hu => ?_
  apply wpS_seq
  apply wpS_region
  simp [wpOpsS, go_sem, recoverD, hu, thrownV, Tryd.ntmps45, Exit.thenS]
  refine wpS_of_wp ?_
  simp [Array.replicate_succ]
  go_wp2
  cases c₀
  simp_all [bodyPostS, results, Tryd.results45, Exit.thenS]
end Go.Proofs.YthcoiaigmndohaaDoor
