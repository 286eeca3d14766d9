/-
  What is told of some reals, in memory: its cells read and written one by one and whole. No conditions.
-/
import Derived.Test.YtfpmbkdijechaaaStatBase
namespace Go.Proofs.Ytfpmbkdijechaaa
open Go.RowKit Flt

theorem statC_k (c : Int) (k : Nat → Int) (wh : Int) (an : Bool) (mn mx : Nat) {i : Nat} (h : i < 9) : (statC c k wh an mn mx)[1 + i]? = some (.int .i64 (k i)) := by
  match i, h with
  | 0, _ => rfl
  | 1, _ => rfl
  | 2, _ => rfl
  | 3, _ => rfl
  | 4, _ => rfl
  | 5, _ => rfl
  | 6, _ => rfl
  | 7, _ => rfl
  | 8, _ => rfl
  | n + 9, h => exact absurd h (by omega)

theorem statC_set (c : Int) (k : Nat → Int) (wh : Int) (an : Bool) (mn mx : Nat) {i : Nat} (h : i < 9) (v : Int) : (statC c k wh an mn mx).setIfInBounds (1 + i) (.int .i64 v) = statC c (fun j => if j = i then v else k j) wh an mn mx := by
  match i, h with
  | 0, _ => rfl
  | 1, _ => rfl
  | 2, _ => rfl
  | 3, _ => rfl
  | 4, _ => rfl
  | 5, _ => rfl
  | 6, _ => rfl
  | 7, _ => rfl
  | 8, _ => rfl
  | n + 9, h => exact absurd h (by omega)

theorem statC_size (c : Int) (k : Nat → Int) (wh : Int) (an : Bool) (mn mx : Nat) : (statC c k wh an mn mx).size = 14 := rfl
theorem info27 : (Try.prog.info? 27).map (·.size) = some 14 := by kernel_rfl

theorem index_k0 (k : Nat → Int) (w : World) : (Instr.index 24 (.agg #[.int .i64 (k 0), .int .i64 (k 1), .int .i64 (k 2), .int .i64 (k 3), .int .i64 (k 4), .int .i64 (k 5), .int .i64 (k 6), .int .i64 (k 7), .int .i64 (k 8)]) (.int .i64 0)).run Try.prog w = .ok (.int .i64 (k 0)) w := by kernel_rfl
theorem index_k1 (k : Nat → Int) (w : World) : (Instr.index 24 (.agg #[.int .i64 (k 0), .int .i64 (k 1), .int .i64 (k 2), .int .i64 (k 3), .int .i64 (k 4), .int .i64 (k 5), .int .i64 (k 6), .int .i64 (k 7), .int .i64 (k 8)]) (.int .i64 1)).run Try.prog w = .ok (.int .i64 (k 1)) w := by kernel_rfl
theorem index_k2 (k : Nat → Int) (w : World) : (Instr.index 24 (.agg #[.int .i64 (k 0), .int .i64 (k 1), .int .i64 (k 2), .int .i64 (k 3), .int .i64 (k 4), .int .i64 (k 5), .int .i64 (k 6), .int .i64 (k 7), .int .i64 (k 8)]) (.int .i64 2)).run Try.prog w = .ok (.int .i64 (k 2)) w := by kernel_rfl
theorem index_k3 (k : Nat → Int) (w : World) : (Instr.index 24 (.agg #[.int .i64 (k 0), .int .i64 (k 1), .int .i64 (k 2), .int .i64 (k 3), .int .i64 (k 4), .int .i64 (k 5), .int .i64 (k 6), .int .i64 (k 7), .int .i64 (k 8)]) (.int .i64 3)).run Try.prog w = .ok (.int .i64 (k 3)) w := by kernel_rfl
theorem index_k4 (k : Nat → Int) (w : World) : (Instr.index 24 (.agg #[.int .i64 (k 0), .int .i64 (k 1), .int .i64 (k 2), .int .i64 (k 3), .int .i64 (k 4), .int .i64 (k 5), .int .i64 (k 6), .int .i64 (k 7), .int .i64 (k 8)]) (.int .i64 4)).run Try.prog w = .ok (.int .i64 (k 4)) w := by kernel_rfl
theorem index_k5 (k : Nat → Int) (w : World) : (Instr.index 24 (.agg #[.int .i64 (k 0), .int .i64 (k 1), .int .i64 (k 2), .int .i64 (k 3), .int .i64 (k 4), .int .i64 (k 5), .int .i64 (k 6), .int .i64 (k 7), .int .i64 (k 8)]) (.int .i64 5)).run Try.prog w = .ok (.int .i64 (k 5)) w := by kernel_rfl
theorem index_k6 (k : Nat → Int) (w : World) : (Instr.index 24 (.agg #[.int .i64 (k 0), .int .i64 (k 1), .int .i64 (k 2), .int .i64 (k 3), .int .i64 (k 4), .int .i64 (k 5), .int .i64 (k 6), .int .i64 (k 7), .int .i64 (k 8)]) (.int .i64 6)).run Try.prog w = .ok (.int .i64 (k 6)) w := by kernel_rfl
theorem index_k7 (k : Nat → Int) (w : World) : (Instr.index 24 (.agg #[.int .i64 (k 0), .int .i64 (k 1), .int .i64 (k 2), .int .i64 (k 3), .int .i64 (k 4), .int .i64 (k 5), .int .i64 (k 6), .int .i64 (k 7), .int .i64 (k 8)]) (.int .i64 7)).run Try.prog w = .ok (.int .i64 (k 7)) w := by kernel_rfl
theorem index_k8 (k : Nat → Int) (w : World) : (Instr.index 24 (.agg #[.int .i64 (k 0), .int .i64 (k 1), .int .i64 (k 2), .int .i64 (k 3), .int .i64 (k 4), .int .i64 (k 5), .int .i64 (k 6), .int .i64 (k 7), .int .i64 (k 8)]) (.int .i64 8)).run Try.prog w = .ok (.int .i64 (k 8)) w := by kernel_rfl
theorem index_k (k : Nat → Int) {j : Nat} (h : j < 9) (w : World) : (Instr.index 24 (.agg #[.int .i64 (k 0), .int .i64 (k 1), .int .i64 (k 2), .int .i64 (k 3), .int .i64 (k 4), .int .i64 (k 5), .int .i64 (k 6), .int .i64 (k 7), .int .i64 (k 8)]) (.int .i64 j)).run Try.prog w = .ok (.int .i64 (k j)) w := by
  have hc : j = 0 ∨ j = 1 ∨ j = 2 ∨ j = 3 ∨ j = 4 ∨ j = 5 ∨ j = 6 ∨ j = 7 ∨ j = 8 := by omega
  rcases hc with rfl | rfl | rfl | rfl | rfl | rfl | rfl | rfl | rfl
  · exact index_k0 k w
  · exact index_k1 k w
  · exact index_k2 k w
  · exact index_k3 k w
  · exact index_k4 k w
  · exact index_k5 k w
  · exact index_k6 k w
  · exact index_k7 k w
  · exact index_k8 k w

section
variable {w : World} {g : Nat} {c : Int} {k : Nat → Int} {wh : Int} {an : Bool} {mn mx : Nat}
theorem load_stat (h : Blk w g 27 (statC c k wh an mn mx)) : (loadVar 27 ⟨g, 0, none⟩).run Try.prog w = .ok (.agg (statC c k wh an mn mx)) w :=
  run_loadVar_row w g _ _ _ (0, 0) _ h Try.underlying27 rfl (info27.trans (by rw [statC_size]))
theorem store_stat {old : Array Value} (h : Blk w g 27 old) (ho : old.size = 14) : (storeVar 27 ⟨g, 0, none⟩ (.agg (statC c k wh an mn mx))).run Try.prog w = .ok () (w.setRow g (statC c k wh an mn mx)) :=
  run_storeVar_row w g _ _ old _ h (info27.trans (by rw [statC_size])) (by rw [ho, statC_size]) (by simp [statC, Value.oneCell'])
theorem Blk.setRow {t : TypeId} {old cs : Array Value} (h : Blk w g t old) : Blk (w.setRow g cs) g t cs := setRow_heap w g old cs t (0, 0) h
theorem Blk.setRow_far {t : TypeId} {old cs : Array Value} {g' : Nat} (h : Blk w g t old) (hne : g ≠ g') : Blk (w.setRow g' cs) g t old := (setRow_other w g' g cs hne).trans h
end

theorem statC_ones (c : Int) (k : Nat → Int) (wh : Int) (an : Bool) (mn mx : Nat) : (statC c k wh an mn mx).all (·.oneCell') = true := by simp [statC, Value.oneCell']
theorem info27' (c : Int) (k : Nat → Int) (wh : Int) (an : Bool) (mn mx : Nat) : (Try.prog.info? 27).map (·.size) = some (statC c k wh an mn mx).size := info27

/-- A row of memory that is the call's own is written whole. -/
theorem Keeps.setRow {w w' : World} {S : Nat → Prop} (h : Keeps S w w') {g : Nat} (hg : S g ∨ w.heap.size ≤ g) (cs : Array Value) : Keeps S w (w'.setRow g cs) :=
  ⟨h.os, h.tape, h.output, Nat.le_trans h.size (by simp [World.setRow]), fun i hi hs => (setRow_other w' g i cs (by
    rintro rfl
    rcases hg with hg | hg
    · exact hs hg
    · omega)).trans (h.block i hi hs)⟩
end Go.Proofs.Ytfpmbkdijechaaa
