/-
  A block written whole. Over any program; no conditions.
-/
import Derived.Test.YthcoiaigmndohaaDoorKit
import Derived.Laws.Rows
import Derived.Laws.Tables
namespace Go.Proofs.YthcoiaigmndohaaDoor
open Go.RowKit

section
variable {w : World} {g : Nat}
theorem Blk.setRow {t : TypeId} {old cs : Array Value} (h : Blk w g t old) : Blk (w.setRow g cs) g t cs := setRow_heap w g old cs t (0, 0) h
theorem Blk.setRow_far {t : TypeId} {old cs : Array Value} {g' : Nat} (h : Blk w g t old) (hne : g ≠ g') : Blk (w.setRow g' cs) g t old := (setRow_other w g' g cs hne).trans h
end

/-- A row of memory that is the call's own is written whole. -/
theorem Keeps.setRow {w w' : World} {S : Nat → Prop} (h : Keeps S w w') {g : Nat} (hg : S g ∨ w.heap.size ≤ g) (cs : Array Value) : Keeps S w (w'.setRow g cs) :=
  ⟨h.os, h.tape, h.output, Nat.le_trans h.size (by simp [World.setRow]), fun i hi hs => (setRow_other w' g i cs (by
    rintro rfl
    rcases hg with hg | hg
    · exact hs hg
    · omega)).trans (h.block i hi hs)⟩
end Go.Proofs.YthcoiaigmndohaaDoor
