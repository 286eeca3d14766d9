/-
  What the row's 'laid' gives a walk: the table of math/bits.TrailingZeros64 is in its variable; a world that meets the condition. No conditions.
-/
import Derived.Test.YthcoiaigmndohaaDoorXorBits
import Derived.Test.YthcoiaigmndohaaDoorRows
import Derived.Lib.LaidU8
import Derived.ProofKit
import Derived.OpenShut
import Derived.ChangeSame
import Derived.ChangeVars
import Derived.JoinedOf
namespace Go.Proofs.YthcoiaigmndohaaDoor
open Go.ChangeShapes Go.WideShapes Go.RowKit

theorem tabG : Tryd.prog.globalNamed "math/bits.deBruijn64tab" = some 1 := by kernel_rfl
theorem tabT : (Tryd.prog.globals[1]?).map (·.type) = some 94 := by kernel_rfl
theorem cells64 : Tryd.prog.cellsOf 94 = 64 := by kernel_rfl
theorem cellsU8 : Tryd.prog.cellsOf 5 = 1 := by kernel_rfl

theorem tab_data {H : Type} : (Rows.laid_math_bits_deBruijn64tab : DataW H) = Lib.tabData .u8 (Lib.deBruijn64tab.map (fun n : Nat => (n : Int))) := rfl

theorem named_of_laid {W : World} (h : laidMet Tryd.prog [("math/bits.deBruijn64tab", Rows.laid_math_bits_deBruijn64tab)] W) : Tab W := by
  obtain ⟨g, t, cs, fuel, p, hg, hty, hvar, hd⟩ := Lib.laidMet.reads h (n := "math/bits.deBruijn64tab") (d := Rows.laid_math_bits_deBruijn64tab) (by simp)
  obtain rfl := Option.some.inj (tabG.symm.trans hg)
  obtain rfl := Option.some.inj (tabT.symm.trans hty)
  rw [tab_data] at hd
  have hcs := Lib.cells_of_tab Tryd.underlying94 Tryd.underlying5 cellsU8 cells64 hd
  intro j hj
  rw [World.var?_cell hg hvar j, ← Array.getElem?_toList, hcs]
  simp only [List.map_map, List.getElem?_map, List.getElem?_eq_getElem hj, List.getD_eq_getElem?_getD, Option.map_some, Option.getD_some]
  rfl

/-- The table's cells. -/
def tabCells : Array Value := (Lib.deBruijn64tab.map (fun n : Nat => Value.int .u8 (n : Int))).toArray

/-- A world that meets the condition. -/
noncomputable def laidWorld (os : Os) : World :=
  { World.holding Tryd.prog os ⟨#[], #[], []⟩ with heap := (World.holding Tryd.prog os ⟨#[], #[], []⟩).heap.modify 1 fun
      | .cells _ t frozen => .cells tabCells t frozen
      | o => o }

theorem laidWorld_row (os : Os) (args : Array Value) : ((laidWorld os).forCall (fun _ _ => 0) ⟨#[], args, []⟩).memory.heap[1]? = some (.cells tabCells 94 (0, 0)) := by kernel_rfl

def tabPlaces : List MemPlace := (List.range 64).map fun i => MemPlace.cell 1 i

theorem laidWorld_met (os : Os) (args : Array Value) : laidMet Tryd.prog [("math/bits.deBruijn64tab", Rows.laid_math_bits_deBruijn64tab)] ((laidWorld os).forCall (fun _ _ => 0) ⟨#[], args, []⟩).memory :=
  ⟨tabPlaces, ⟨1, 94, tabCells, 8, [], [], by kernel_rfl, by kernel_rfl, by kernel_rfl, by kernel_rfl, rfl, rfl⟩, by decide, fun b off h => by
        obtain ⟨i, hi, he⟩ := List.mem_map.1 h
        injection he with hb ho
        subst hb
        have hi64 : off < 64 := by rw [← ho]; simpa using hi
        refine ⟨⟨_, _, laidWorld_row os args⟩, fun u v hc => ?_⟩
        simp only [World.cell?, laidWorld_row os args] at hc
        have hn : ∃ n : Nat, tabCells[off]? = some (.int .u8 (n : Int)) := by
          unfold tabCells
          rw [List.getElem?_toArray, List.getElem?_map]
          have hl : off < Lib.deBruijn64tab.length := hi64
          rw [List.getElem?_eq_getElem hl]
          exact ⟨_, rfl⟩
        obtain ⟨n, hn⟩ := hn
        rw [hn] at hc
        simp at hc⟩
end Go.Proofs.YthcoiaigmndohaaDoor
