/-
  What a step does to memory that writes one struct and the row that it owns. No conditions.
-/
import Derived.Test.YthcoiaigmndohaaDoorKit
namespace Go.Proofs.YthcoiaigmndohaaDoor
open Go.RowKit

/-- Only block g, the row of the slice v, and new blocks were written; the slice v' lies in v's row or in a new one. -/
structure Moves (g : Nat) (v : Value) (w : World) (v' : Value) (w' : World) : Prop where
  keeps : Keeps (fun i => i = g ∨ v.ownBlock = some i) w w'
  row : ∀ i, v'.ownBlock = some i → v.ownBlock = some i ∨ w.heap.size ≤ i
theorem Moves.refl (g : Nat) (v : Value) (w : World) : Moves g v w v w := ⟨Keeps.refl _ _, fun _ h => .inl h⟩
theorem Moves.trans {g : Nat} {v v' v'' : Value} {w w' w'' : World} (h : Moves g v w v' w') (k : Moves g v' w' v'' w'') : Moves g v w v'' w'' :=
  ⟨h.keeps.trans' k.keeps (fun i hi hs => by
    rcases hs with hs | hs
    · exact .inl hs
    · rcases h.row i hs with h1 | h1
      · exact .inr h1
      · omega), fun i hi => by
    rcases k.row i hi with h1 | h1
    · exact h.row i h1
    · exact .inr (Nat.le_trans h.keeps.size h1)⟩
theorem Moves.quiet {g : Nat} {v v' : Value} {w w' w'' : World} (h : Moves g v w v' w') (k : Keeps (fun _ => False) w' w'') : Moves g v w v' w'' :=
  ⟨h.keeps.trans' k (fun i _ hf => hf.elim), h.row⟩
theorem Moves.pre {g : Nat} {v v' : Value} {w w' w'' : World} (k : Keeps (fun _ => False) w w') (h : Moves g v w' v' w'') : Moves g v w v' w'' :=
  ⟨(k.mono (fun _ h => h.elim)).trans h.keeps, fun i hi => by
    rcases h.row i hi with h1 | h1
    · exact .inl h1
    · exact .inr (Nat.le_trans k.size h1)⟩
/-- A block that is neither stays. -/
theorem Moves.stays {g : Nat} {v v' : Value} {w w' : World} (h : Moves g v w v' w') {i : Nat} {t : TypeId} {cs : Array Value} (hb : Blk w i t cs) (hg : i ≠ g) (hv : v.ownBlock ≠ some i) : Blk w' i t cs :=
  hb.keep h.keeps (by
    rintro (h1 | h1)
    · exact hg h1
    · exact hv h1)
/-- A row of another element type stays. -/
theorem Moves.row_stays {g : Nat} {v v' : Value} {w w' : World} (h : Moves g v w v' w') {B B' e e' t size size' n n' : Nat} {x : Value} {xs xs' : List Value} {cs : Array Value} (hx : w.ownsRow B e size x n xs) (hv : w.ownsRow B' e' size' v n' xs') (hg : Blk w g t cs) (hne : e ≠ e') (hnt : e ≠ t) : w'.ownsRow B e size x n xs :=
  own_keep hx h.keeps (by
    rintro i hi (h1 | h1)
    · exact hg.own_ne hx hnt (by rw [hi, h1])
    · exact own_own_ne hv hx (fun e => hne e.symm) h1 hi)
/-- Below the first of them all stays. -/
theorem Moves.below {g : Nat} {v v' : Value} {w w' : World} (h : Moves g v w v' w') {B : Nat} (hg : B ≤ g) (hv : ∀ i, v.ownBlock = some i → B ≤ i) (hB : B ≤ w.heap.size) : Below B w w' :=
  h.keeps.below (by
    rintro k hk (h1 | h1)
    · omega
    · have := hv k h1; omega) hB
end Go.Proofs.YthcoiaigmndohaaDoor
