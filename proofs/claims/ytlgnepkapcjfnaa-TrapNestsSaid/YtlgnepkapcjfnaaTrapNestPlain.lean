/-
  Plain lemmas for the law TrapNests: what nested steps note, and what comes out. No program in sight.
-/
import Derived.Below
namespace Go.Proofs.Ytlgnepkapcjfnaa.Plain
open Go

/-- What a try that came to f notes. -/
def hun (f : Int) : Int := IntKind.i64.wrap (100 + f)

/-- The notes of the steps from level k on, and the error that comes out of them. -/
def nest : Nat → List (Bool × Int) → List Int × Int
  | _, [] => ([], 0)
  | k, (t, e) :: r =>
    let p := nest (k + 1) r
    if t then ((k : Int) :: p.1 ++ [hun p.2], e)
    else if p.2 = 0 then ((k : Int) :: p.1, e) else ((k : Int) :: p.1, p.2)

theorem nest_len : ∀ (l : List (Bool × Int)) (k : Nat), (nest k l).1.length ≤ 2 * l.length
  | [], k => by simp [nest]
  | (t, e) :: r, k => by
    have := nest_len r (k + 1)
    unfold nest
    dsimp only
    split
    · simp; omega
    · split <;> simp <;> omega
end Go.Proofs.Ytlgnepkapcjfnaa.Plain
