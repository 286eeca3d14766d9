/-
  Plain lemmas for the law TrapNests: the reference's way from the innermost step out comes to the same. No program in sight.
-/
import Derived.Test.YtlgnepkapcjfnaaTrapNestPlain
namespace Go.Proofs.Ytlgnepkapcjfnaa.Plain
open Go

/-- The same, level by level from the innermost: the notes of the tries, and the error. -/
def back : List (Bool × Int) → List Int × Int
  | [] => ([], 0)
  | (t, e) :: r => let p := back r; (if t then p.1 ++ [hun p.2] else p.1, if t then e else if p.2 = 0 then e else p.2)

def ups (k n : Nat) : List Int := (List.range n).map (fun i => ((k + i : Nat) : Int))

theorem ups_cons (k n : Nat) : ups k (n + 1) = (k : Int) :: ups (k + 1) n := by
  unfold ups
  rw [List.range_succ_eq_map, List.map_cons, List.map_map]
  congr 1
  apply List.map_congr_left
  intro i _
  simp [Function.comp]
  omega

theorem ups_snoc (n : Nat) : ups 0 (n + 1) = ups 0 n ++ [(n : Int)] := by
  unfold ups
  rw [List.range_succ, List.map_append]
  simp

theorem ups_len (k n : Nat) : (ups k n).length = n := by simp [ups]

theorem nest_back : ∀ (l : List (Bool × Int)) (k : Nat), nest k l = (ups k l.length ++ (back l).1, (back l).2)
  | [], k => by simp [nest, back, ups]
  | (t, e) :: r, k => by
    have ih := nest_back r (k + 1)
    unfold nest back
    simp only [ih, List.length_cons, ups_cons]
    cases t
    · by_cases h : (back r).2 = 0 <;> simp [h]
    · simp

theorem back_len : ∀ l : List (Bool × Int), (back l).1.length ≤ l.length
  | [] => by simp [back]
  | (t, e) :: r => by
    have := back_len r
    unfold back
    dsimp only
    split <;> simp <;> omega
end Go.Proofs.Ytlgnepkapcjfnaa.Plain
