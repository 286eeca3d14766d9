/-
  How an argument of a row that is a slice of integers is opened, as the words of the kit. No conditions.
-/
import Derived.Test.YthcoiaigmndohaaDoorKit
import Derived.ProofKit
import Derived.OpenShut
namespace Go.Proofs.YthcoiaigmndohaaDoor
open Go.RowKit Go.ChangeShapes Go.WideShapes

theorem open_row {H : Type} {enc : TypeId × Value → H} {P : Program} {w : World} {b0 b1 : Nat} {spare : Nat → Bool} {held : Bool} {r : Reach} {t e : TypeId} {k : IntKind} {v : Value} {d : DataW H} {ps : List MemPlace}
    (ht : P.underlying t = some (.slice e)) (he : P.underlying e = some (.int k)) (hc1 : P.cellsOf e = 1) (hval : Value.okWide P w r b0 t v) (hd : DataW.Trod enc P w b1 spare held t v d ps) :
    ∃ (A : Option Addr) (n c : Nat) (L : List Int), v = .slice A n c ∧ L.length = n ∧ Row w w.heap.size A n (L.map (Value.int k)) ∧ n ≤ c ∧ c ≤ maxLen ∧ (∀ z ∈ L, (Lit.int k z).wf = true) ∧ (A = none → c = 0) := by
  obtain ⟨a0, len0, cap0, rfl⟩ := okWide_slice ht hval
  obtain ⟨fuel, hf⟩ := hd
  rcases open_ints ht he hc1 hf with ⟨hcs, _⟩ | ⟨x, l, c, zs, hcs, _, hl, hm, hz, _, hcell, hwz⟩
  · simp [Value.cells] at hcs
    obtain ⟨rfl, rfl, rfl⟩ := hcs
    exact ⟨none, 0, 0, [], rfl, rfl, ⟨rfl, fun h => absurd h (by omega)⟩, Nat.le_refl _, by decide, by simp, fun _ => rfl⟩
  · simp [Value.cells] at hcs
    obtain ⟨rfl, rfl, rfl⟩ := hcs
    have hzl : len0 ≤ zs.length := by rw [hz]; split <;> omega
    refine ⟨some x, len0, cap0, zs.take len0, rfl, by simp; omega, ⟨by simp; omega, fun hn => ?_⟩, hl, hm, fun z hz' => hwz z (List.mem_of_mem_take hz'), fun h => by cases h⟩
    have h0 := hcell 0 (by omega)
    obtain ⟨b, off, spot⟩ := x
    have hspot : spot = none := by simpa [Addr.add] using World.cell?_spot h0
    subst hspot
    refine ⟨b, off, rfl, by have := World.block_lt_of_cell? w _ h0; simpa [Addr.add] using this, fun j u hu => ?_⟩
    have hj : j < len0 := by
      have := (List.getElem?_eq_some_iff.1 hu).1
      simp at this
      omega
    have hcj := hcell j (by omega)
    have hu' : u = .int k (zs.getD j 0) := by
      rw [List.getElem?_map, List.getElem?_take, if_pos hj, List.getElem?_eq_getElem (by omega : j < zs.length)] at hu
      simp at hu
      rw [← hu, List.getD_eq_getElem?_getD, List.getElem?_eq_getElem (by omega : j < zs.length), Option.getD_some]
    rw [hu', ← hcj]
    unfold Addr.add
    by_cases h : j = 0
    · subst h; simp
    · simp [h]
end Go.Proofs.YthcoiaigmndohaaDoor
