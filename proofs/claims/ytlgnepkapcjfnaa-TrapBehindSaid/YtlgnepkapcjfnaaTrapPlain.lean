/-
  Plain lemmas for the laws on trap: the leading noughts of a list. No program in sight.
-/
import Derived.Below
namespace Go.Proofs.Ytlgnepkapcjfnaa.Plain

def lead : List Int → Nat
  | [] => 0
  | x :: r => if x = 0 then lead r + 1 else 0

theorem lead_le : ∀ l : List Int, lead l ≤ l.length
  | [] => Nat.le_refl _
  | x :: r => by
    have := lead_le r
    unfold lead
    split <;> simp <;> omega

theorem lead_zero : ∀ (l : List Int) (j : Nat), j < lead l → l.getD j 0 = 0
  | [], j, h => by simp
  | x :: r, j, h => by
    unfold lead at h
    split at h
    · cases j with
      | zero => simpa using ‹x = 0›
      | succ j => simpa using lead_zero r j (by omega)
    · omega

theorem lead_stop : ∀ (l : List Int), lead l < l.length → l.getD (lead l) 0 ≠ 0
  | [], h => by simp at h
  | x :: r, h => by
    unfold lead at h ⊢
    split
    · rename_i hx
      rw [if_pos hx] at h
      simpa using lead_stop r (by simpa using h)
    · rename_i hx
      simpa using hx
end Go.Proofs.Ytlgnepkapcjfnaa.Plain
