/-
  Steps for a region that draws its order, under a condition on the world: a whole variable loaded, a call, a whole variable stored. Over any program; no conditions.
-/
import Derived.Deep.RegionHeld3
import Derived.Laws.Rows
import Derived.Laws.Tables
namespace Go.Proofs.YthcoiaigmndohaaDoor
open Go

section
variable {P : Program} {ops : Array Oper} {Q : Exit → Act → World → Prop} {md : Region.Mode} {S : World → Prop}

theorem yields_load {o : Oper} {v : Value} {a : Act} (ty : TypeId) (x : Operand) (ho : o.op = .load ty x) (g : Nat) (hx : a.eval x = .pointer (some ⟨g, 0, none⟩))
    (hw : Region.wanted o (yielded ops a.tmps) = true) (hS : ∀ w, S w → (loadVar ty ⟨g, 0, none⟩).run P w = .ok v w) : YieldsIf P ops S o v a :=
  Or.inl ⟨hw, fun w hw => by
    unfold execOp
    simp only [ho, hx, Instr.loadAt, Instr.sureAddr, Sem.run_bind, Sem.run_pure, Result.andThen_ok, hS w hw]⟩

/-- An operation that yields its value in every world that meets S is taken first. -/
theorem held_take {i : Nat} {o : Oper} {v : Value} {fuel : Nat} {listed : Array Bool} {a : Act} {w : World} (hi : ops[i]? = some o)
    (hs : Region.noSelect ops = true) (hf : Region.free md ops listed i = true) (hr : (Region.ready md ops listed).contains i = true)
    (d : Option Tmp) (hQ : ∀ c a w, Q (.panic c) (a.put d v) w → Q (.panic c) a w) (hd : o.dst = d) (hy : YieldsIf P ops S o v a) (hS : S w)
    (h : wpAnyH P md ops Q S fuel (listed.setIfInBounds i true) (a.put d v) w) : wpAnyH P md ops Q S (fuel + 1) listed a w := by
  subst hd
  exact wpAnyH_take hi hs hf hr hQ hy hS h

/-- One operation alone may come up next; it is a call, or a store. -/
theorem held_one {i : Nat} {o : Oper} {fuel : Nat} {listed : Array Bool} {a : Act} {w : World} (hr : Region.ready md ops listed = [i]) (ho : ops[i]? = some o)
    (hw : Region.wanted o (yielded ops a.tmps) = true)
    (h : ∀ K' : Act → World → Prop, Shut (∀ a w, S w → (S w → wpAnyH P md ops Q S fuel (listed.setIfInBounds i true) a w) → K' a w) → Oper.wp P o a w K' Q) :
    wpAnyH P md ops Q S (fuel + 1) listed a w :=
  wpAnyH_ready hr (by simp) (AllReadyH.cons ho (fun K' hK => by rw [if_pos hw]; exact h K' hK) AllReadyH.nil)

/-- A call that comes up alone, by its contract. -/
theorem held_call {i : Nat} {o : Oper} {fuel : Nat} {listed : Array Bool} {a : Act} {w : World} (hr : Region.ready md ops listed = [i]) (ho : ops[i]? = some o)
    (hw : Region.wanted o (yielded ops a.tmps) = true) (d : Option Tmp) (hd : o.dst = d) (f : Nat) (args : Array Value) (hf : (execOp a.eval o).run P w = .ok (.enter f args) w) (R : Value → World → Prop)
    (hc : Calls P f args w fun e w' => ∃ v, e = .returned v ∧ R v w' ∧ S w')
    (h : ∀ v w', R v w' → S w' → wpAnyH P md ops Q S fuel (listed.setIfInBounds i true) (a.put d v) w') :
    wpAnyH P md ops Q S (fuel + 1) listed a w :=
  held_one hr ho hw fun K' hK => by
    subst hd
    unfold Oper.wp
    rw [hf]
    simp only [Oper.upon]
    refine hc.mono ?_
    rintro e w' ⟨v, rfl, hR, hS⟩
    exact hK.out _ _ hS (fun _ => h v w' hR hS)
end
end Go.Proofs.YthcoiaigmndohaaDoor
