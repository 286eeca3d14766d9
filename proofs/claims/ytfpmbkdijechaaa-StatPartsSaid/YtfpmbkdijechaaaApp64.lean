/-
  append of a slice of bits that came in to a slice of the call's own. Conditions: both together at most 1000000.
-/
import Derived.Test.YtfpmbkdijechaaaIn64
import Derived.Deep.AppendLies
import Derived.Laws.AppendOwnNone
import Derived.OwnWalk
namespace Go.Proofs.Ytfpmbkdijechaaa
open Go.RowKit Flt

def u64s (M : List Nat) : List Value := M.map (fun x : Nat => Value.int .u64 x)

theorem info64 : (Try.prog.info? 23).map (fun i => (i.zero, i.size, i.bytes)) = some (some (.int .u64 0), 1, 8) := by kernel_rfl

theorem u64s_ones (M : List Nat) : ∀ u ∈ u64s M, u.oneCell' = true := by
  intro u hu
  obtain ⟨x, _, rfl⟩ := List.mem_map.1 hu
  rfl

theorem In64.of_own {w : World} {B : Nat} {v : Value} {M : List Nat} (h : w.ownsRow B 23 1 v M.length (u64s M)) (hl : M.length ≤ 100000) (hf : ∀ x ∈ M, Fits x) : ∃ A c, v = .slice A M.length c ∧ In64 w A c M := by
  rcases h.2 with ⟨rfl, hx⟩ | ⟨g, cap, cur, rfl, _⟩
  · have hL : M = [] := by simpa using hx
    subst hL
    exact ⟨none, 0, rfl, ⟨⟨rfl, fun hn => by simp at hn⟩, fun _ => rfl, hl, hf⟩⟩
  · exact ⟨_, _, rfl, ⟨Row.of_own h, fun h => (nomatch h), hl, hf⟩⟩

theorem wpList_append_in {w : World} {ops : Array Oper} {rest : List Oper} {o : Oper} {a : Act} {Q : Exit → Act → World → Prop} (hgd : o.guard = none) (s x : Operand)
    (ho : o.op = .call { callee := .builtin .append, args := #[s, x], argTypes := #[22, 22] })
    (base : Nat) (v : Value) (n : Nat) (xs : List Value) (hs : a.eval s = v) (hown : w.ownsRow base 23 1 v n xs)
    (A : Option Addr) (c : Nat) (M : List Nat) (hx : a.eval x = .slice A M.length c) (hI : In64 w A c M) (hn : n + M.length ≤ 1000000) (hbase : base ≤ w.heap.size)
    (h : ∀ v' w', w'.ownsRow base 23 1 v' (n + M.length) (xs ++ u64s M) → w.grownBy w' v.ownBlock → wpList Try.prog ops Q rest (a.put o.dst v') w') :
    wpList Try.prog ops Q (o :: rest) a w := by
  obtain ⟨e0, he0, hz0, hz1, hz2⟩ := info_parts info64
  cases A with
  | none =>
    have hc0 := hI.cap rfl
    have hM : M = [] := by
      by_cases hM : M.length = 0
      · exact List.eq_nil_of_length_eq_zero hM
      · obtain ⟨b, off, _, hA, _⟩ := hI.row.at_ (j := 0) (by omega)
        cases hA
    subst hM
    subst hc0
    refine wpList_append_own_none hgd s x 22 ho base 23 e0 1 Try.underlying22 he0 v n xs hs hown hx ?_
    have := h v w (by simpa [u64s] using hown) (World.grownBy.refl _ _)
    exact this
  | some ad =>
    refine wpList_append_own_at w hgd s x 22 ho base 23 e0 (.int .u64 0) 1 8 Try.underlying22 he0 hz0 hz1 hz2 rfl (by decide) v n xs hs hown ad M.length c (u64s M) hx (by simp [u64s]) ?_ (u64s_ones M) (by unfold maxLen; omega) (by omega) hbase ?_
    · intro j u hu
      have hj : j < M.length := by
        have := (List.getElem?_eq_some_iff.1 hu).1
        simpa [u64s] using this
      obtain ⟨b, off, u', hA, _, hxu, hcu⟩ := hI.row.at_ hj
      cases hA
      have : u = u' := by
        have h2 : (u64s M)[j]? = some u' := hxu
        rw [hu] at h2
        injection h2
      rw [this]
      have e : (⟨b, off, none⟩ : Addr).add j = ⟨b, off + j, none⟩ := by
        unfold Addr.add
        split <;> simp_all
      rw [e]
      exact hcu
    · intro v' w' hown' hgrow _ _
      exact h v' w' hown' hgrow
end Go.Proofs.Ytfpmbkdijechaaa
