/-
  What the row's 'laid' gives a walk: the names' sixth cell holds the word tiny; a world that meets the condition. No conditions.
-/
import Derived.Test.YtfpmbkdijechaaaDoorRealAwake
import Derived.ProofKit
import Derived.OpenShut
import Derived.ChangeSame
import Derived.ChangeVars
import Derived.JoinedOf
namespace Go.Proofs.YtfpmbkdijechaaaDoor
open Go.ChangeShapes Go.WideShapes Go.RowKit

theorem namesG : Tryd.prog.globalNamed "corduroy/real.names" = some 1 := by kernel_rfl
theorem namesT : (Tryd.prog.globals[1]?).map (·.type) = some 55 := by kernel_rfl
theorem cellsArr : Tryd.prog.cellsOf 55 = 9 := by kernel_rfl
theorem cellsStr : Tryd.prog.cellsOf 9 = 1 := by kernel_rfl

theorem string_of_trod {H : Type} {enc : TypeId × Value → H} {P : Program} {w : World} {base : Nat} {sp : Nat → Bool} {held : Bool} {fuel : Nat} {t : TypeId} {c : Value} {y : DataW H × List MemPlace}
    (ht : P.underlying t = some .string) (h : DataW.trod enc P w base sp held fuel t [c] = some y) : ∃ s : ByteArray, c = .string s ∧ y.1 = .lit (.string s.data.toList) := by
  obtain ⟨s, h1, h2, _⟩ := DataW.trod_string ht h
  simp at h1
  exact ⟨s, h1, by rw [h2]⟩

/-- What the table's cells hold, so far as the walks ask. -/
theorem named_of_laid {W : World} (h : laidMet Tryd.prog [("corduroy/real.names", Rows.laid_corduroy_real_names)] W) : Named W := by
  obtain ⟨ps, ⟨g, t, cs, fuel, p, q, hg, ht, hvar, hd, _, _⟩, _⟩ := h
  obtain rfl := Option.some.inj (namesG.symm.trans hg)
  obtain rfl := Option.some.inj (namesT.symm.trans ht)
  have hc : W.cell? ⟨1, 5, none⟩ = cs[5]? := World.var?_cell hg hvar 5
  unfold Named
  rw [hc]
  obtain ⟨l⟩ := cs
  cases fuel with
  | zero => simp [DataW.trod] at hd
  | succ fuel =>
    simp only [DataW.trod, Tryd.underlying55, cellsArr, cellsStr] at hd
    split at hd
    · rename_i hl
      obtain ⟨c0, c1, c2, c3, c4, c5, c6, c7, c8, rfl⟩ : ∃ c0 c1 c2 c3 c4 c5 c6 c7 c8, l = [c0, c1, c2, c3, c4, c5, c6, c7, c8] := by
        match l, hl with
        | [a, b, c, d, e, f, g, h, i], _ => exact ⟨a, b, c, d, e, f, g, h, i, rfl⟩
      have e : List.range 9 = [0, 1, 2, 3, 4, 5, 6, 7, 8] := rfl
      rw [e] at hd
      simp only [Option.map_eq_some_iff, List.mapM_cons, List.mapM_nil, Option.bind_eq_bind, Option.bind_eq_some_iff, Option.pure_def, Option.some.injEq] at hd
      obtain ⟨xs, ⟨y0, h0, _, ⟨y1, h1, _, ⟨y2, h2, _, ⟨y3, h3, _, ⟨y4, h4, _, ⟨y5, h5, _, ⟨y6, h6, _, ⟨y7, h7, _, ⟨y8, h8, _, rfl, rfl⟩, rfl⟩, rfl⟩, rfl⟩, rfl⟩, rfl⟩, rfl⟩, rfl⟩, rfl⟩, hx⟩ := hd
      obtain ⟨s5, rfl, hy5⟩ := string_of_trod Tryd.underlying9 h5
      simp [Rows.laid_corduroy_real_names] at hx
      obtain ⟨⟨_, _, _, _, _, hz, _⟩, _⟩ := hx
      rw [hy5] at hz
      have hs : s5.data.toList = [116, 105, 110, 121] := by simpa using hz
      have : s5 = tinyS := by
        obtain ⟨⟨ls⟩⟩ := s5
        simp at hs
        subst hs
        rfl
      subst this
      rfl
    · cases hd

/-- The names, cell by cell. -/
def nameCells : Array Value := #[.string ⟨#[109, 105, 110, 117, 115, 32, 105, 110, 102]⟩, .string ⟨#[109, 105, 110, 117, 115]⟩, .string ⟨#[109, 105, 110, 117, 115, 32, 116, 105, 110, 121]⟩, .string ⟨#[109, 105, 110, 117, 115, 32, 122, 101, 114, 111]⟩, .string ⟨#[122, 101, 114, 111]⟩, .string ⟨#[116, 105, 110, 121]⟩, .string ⟨#[112, 108, 117, 115]⟩, .string ⟨#[105, 110, 102]⟩, .string ⟨#[110, 97, 110]⟩]

/-- A world that meets the condition. -/
noncomputable def laidWorld (os : Os) : World :=
  { World.holding Tryd.prog os ⟨#[], #[], []⟩ with heap := (World.holding Tryd.prog os ⟨#[], #[], []⟩).heap.modify 1 fun
      | .cells _ t frozen => .cells nameCells t frozen
      | o => o }

theorem laidWorld_row (os : Os) (args : Array Value) : ((laidWorld os).forCall (fun _ _ => 0) ⟨#[], args, []⟩).memory.heap[1]? = some (.cells nameCells 55 (0, 0)) := by kernel_rfl

theorem laidWorld_met (os : Os) (args : Array Value) : laidMet Tryd.prog [("corduroy/real.names", Rows.laid_corduroy_real_names)] ((laidWorld os).forCall (fun _ _ => 0) ⟨#[], args, []⟩).memory :=
  ⟨_, ⟨1, 55, nameCells, 8, [], [], by kernel_rfl, by kernel_rfl, by kernel_rfl, by kernel_rfl, rfl, rfl⟩, by decide, fun b off h => by
        have h' : MemPlace.cell b off ∈ [MemPlace.cell 1 0, .cell 1 1, .cell 1 2, .cell 1 3, .cell 1 4, .cell 1 5, .cell 1 6, .cell 1 7, .cell 1 8] := h
        have hb : b = 1 := by
          simp at h'
          omega
        subst hb
        refine ⟨⟨_, _, laidWorld_row os args⟩, fun u v hc => ?_⟩
        simp only [World.cell?, laidWorld_row os args] at hc
        simp at h'
        rcases h' with rfl | rfl | rfl | rfl | rfl | rfl | rfl | rfl | rfl <;> simp [nameCells] at hc⟩
end Go.Proofs.YtfpmbkdijechaaaDoor
