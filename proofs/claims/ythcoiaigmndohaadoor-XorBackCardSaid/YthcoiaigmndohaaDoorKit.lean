/-
  Words for memory, over any program: a block that is known whole; what a step may have written; a slice that came in and reads as a list. No conditions.
-/
import Derived.Below
import Derived.Laws.OwnMore
import Derived.Laws.Rows
import Derived.OneCell
import Derived.Deep.Draws
namespace Go.Proofs.YthcoiaigmndohaaDoor
open Go.RowKit

/-- Block g is just these cells, none frozen. -/
def Blk (w : World) (g : Nat) (t : TypeId) (cs : Array Value) : Prop := w.heap[g]? = some (.cells cs t (0, 0))

/-- w' is w with new blocks, and with writes to blocks of S alone. -/
structure Keeps (S : Nat → Prop) (w w' : World) : Prop where
  os : w'.os = w.os
  tape : w'.tape = w.tape
  output : w'.output = w.output
  size : w.heap.size ≤ w'.heap.size
  block : ∀ k, k < w.heap.size → ¬ S k → w'.heap[k]? = w.heap[k]?

section
variable {w w' w'' : World} {S T : Nat → Prop} {B g : Nat} {t : TypeId} {cs : Array Value}

theorem Keeps.refl (S : Nat → Prop) (w : World) : Keeps S w w := ⟨rfl, rfl, rfl, Nat.le_refl _, fun _ _ _ => rfl⟩
theorem Keeps.trans (h : Keeps S w w') (k : Keeps S w' w'') : Keeps S w w'' :=
  ⟨k.os.trans h.os, k.tape.trans h.tape, k.output.trans h.output, Nat.le_trans h.size k.size, fun i hi hs => (k.block i (Nat.lt_of_lt_of_le hi h.size) hs).trans (h.block i hi hs)⟩
/-- The second step may also write what is new since the first. -/
theorem Keeps.trans' (h : Keeps S w w') (k : Keeps T w' w'') (hT : ∀ i, i < w.heap.size → T i → S i) : Keeps S w w'' :=
  ⟨k.os.trans h.os, k.tape.trans h.tape, k.output.trans h.output, Nat.le_trans h.size k.size, fun i hi hs => (k.block i (Nat.lt_of_lt_of_le hi h.size) (fun h' => hs (hT i hi h'))).trans (h.block i hi hs)⟩
theorem Keeps.mono (h : Keeps S w w') (hT : ∀ i, S i → T i) : Keeps T w w' := ⟨h.os, h.tape, h.output, h.size, fun i hi hs => h.block i hi (fun h' => hs (hT i h'))⟩
theorem Keeps.drew (h : Keeps S w w') : Keeps S w w'.drew := ⟨h.os, h.tape, h.output, h.size, h.block⟩
theorem Keeps.drewN (h : Keeps S w w') (n : Nat) : Keeps S w (w'.drewN n) := ⟨h.os, h.tape, h.output, h.size, h.block⟩
theorem Keeps.alloc (h : Keeps S w w') (o : Obj) : Keeps S w (w'.alloc o) :=
  ⟨h.os, h.tape, h.output, Nat.le_trans h.size (by simp), fun i hi hs => (Below.heap_alloc w' o i (Nat.lt_of_lt_of_le hi h.size)).trans (h.block i hi hs)⟩
theorem Keeps.setCell (h : Keeps S w w') {p : Addr} (hp : S p.block ∨ w.heap.size ≤ p.block) (u : Value) : Keeps S w (w'.setCell p u) :=
  ⟨h.os, h.tape, h.output, by simpa [World.setCell] using h.size, fun i hi hs => (Below.heap_setCell w' p u i (by
    rintro rfl
    rcases hp with hp | hp
    · exact hs hp
    · omega)).trans (h.block i hi hs)⟩
theorem Keeps.grown (h : Keeps S w w') {row : Option Nat} (hg : w'.grownBy w'' row) (hr : ∀ k, row = some k → S k ∨ w.heap.size ≤ k) : Keeps S w w'' :=
  ⟨hg.os.trans h.os, hg.tape.trans h.tape, hg.output.trans h.output, Nat.le_trans h.size hg.size, fun i hi hs => (hg.block i (Nat.lt_of_lt_of_le hi h.size) (fun e => by
    rcases hr i e.symm with h1 | h1
    · exact hs h1
    · omega)).trans (h.block i hi hs)⟩
theorem Keeps.below (h : Keeps S w w') (hS : ∀ k, k < B → ¬ S k) (hB : B ≤ w.heap.size) : Below B w w' :=
  ⟨h.os, h.tape, h.output, h.size, fun k hk => h.block k (by omega) (hS k hk)⟩
theorem Keeps.of_below (h : Below B w w') : Keeps (fun k => B ≤ k) w w' :=
  ⟨h.os, h.tape, h.output, h.size, fun k _ hs => h.block k (by omega)⟩
theorem Keeps.of_below_size (h : Below w.heap.size w w') (S : Nat → Prop) : Keeps S w w' :=
  ⟨h.os, h.tape, h.output, h.size, fun k hk _ => h.block k hk⟩
theorem Keeps.cell (h : Keeps S w w') {p : Addr} (hp : p.block < w.heap.size) (hs : ¬ S p.block) : w'.cell? p = w.cell? p := World.cell?_of_block (w := w) (h.block _ hp hs)
theorem Keeps.frozen (h : Keeps S w w') {p : Addr} (hp : p.block < w.heap.size) (hs : ¬ S p.block) : w'.frozen? p = w.frozen? p := World.frozen?_of_block (w := w) (h.block _ hp hs)

theorem Blk.lt (h : Blk w g t cs) : g < w.heap.size := by
  rcases Nat.lt_or_ge g w.heap.size with hlt | hge
  · exact hlt
  · unfold Blk at h; rw [Array.getElem?_eq_none hge] at h; cases h
theorem Blk.cell (h : Blk w g t cs) (i : Nat) : w.cell? ⟨g, i, none⟩ = cs[i]? := cell_of_row w g i cs t (0, 0) h
theorem Blk.frozen (h : Blk w g t cs) (i : Nat) : w.frozen? ⟨g, i, none⟩ = false := by
  unfold Blk at h
  simp [World.frozen?, h]
theorem Blk.new (w : World) (t : TypeId) (cs : Array Value) : Blk (w.alloc (.cells cs t)) w.heap.size t cs := heap_alloc_new w _
theorem Blk.drew (h : Blk w g t cs) : Blk w.drew g t cs := h
theorem Blk.drewN (h : Blk w g t cs) (n : Nat) : Blk (w.drewN n) g t cs := h
theorem Blk.alloc (h : Blk w g t cs) (o : Obj) : Blk (w.alloc o) g t cs := (Below.heap_alloc w o g h.lt).trans h
theorem Blk.set_ (h : Blk w g t cs) (i : Nat) (u : Value) : Blk (w.setCell ⟨g, i, none⟩ u) g t (cs.setIfInBounds i u) := by
  unfold Blk at h ⊢
  simp [World.setCell, Array.getElem?_modify, h]
theorem Blk.far (h : Blk w g t cs) {p : Addr} (hp : g ≠ p.block) (u : Value) : Blk (w.setCell p u) g t cs := (Below.heap_setCell w p u g hp).trans h
theorem Blk.keep (h : Blk w g t cs) (hk : Keeps S w w') (hg : ¬ S g) : Blk w' g t cs := (hk.block g h.lt hg).trans h
theorem Blk.below (h : Blk w g t cs) (hb : Below B w w') (hg : g < B) : Blk w' g t cs := (hb.block g hg).trans h
theorem Blk.ne_ {g' : Nat} {t' : TypeId} {cs' : Array Value} (h : Blk w g t cs) (h' : Blk w g' t' cs') (hne : t ≠ t') : g ≠ g' := by
  rintro rfl
  unfold Blk at h h'
  rw [h] at h'
  injection h' with h'
  injection h' with _ ht
  exact hne ht
theorem Blk.own_ne {base : Nat} {e : TypeId} {size n : Nat} {v : Value} {xs : List Value} (hg : Blk w g t cs) (h : w.ownsRow base e size v n xs) (hne : e ≠ t) : v.ownBlock ≠ some g := by
  rcases h.2 with ⟨rfl, _⟩ | ⟨g', cap, cur, rfl, _, hh, _⟩
  · simp [Value.ownBlock]
  · intro he
    have : g' = g := by simpa [Value.ownBlock] using he
    subst this
    exact Blk.ne_ (t := e) hh hg hne rfl
theorem own_own_ne {base base' : Nat} {e e' : TypeId} {size size' n n' : Nat} {v v' : Value} {xs xs' : List Value} (h : w.ownsRow base e size v n xs) (h' : w.ownsRow base' e' size' v' n' xs') (hne : e ≠ e') {k : Nat} (hk : v.ownBlock = some k) : v'.ownBlock ≠ some k := by
  rcases h.2 with ⟨rfl, _⟩ | ⟨g', cap, cur, rfl, _, hh, _⟩
  · simp [Value.ownBlock] at hk
  · have : g' = k := by simpa [Value.ownBlock] using hk
    subst this
    exact Blk.own_ne (t := e) hh h' (fun e => hne e.symm)
theorem own_keep {base : Nat} {e : TypeId} {size n : Nat} {v : Value} {xs : List Value} (h : w.ownsRow base e size v n xs) (hk : Keeps S w w') (hs : ∀ k, v.ownBlock = some k → ¬ S k) : w'.ownsRow base e size v n xs := by
  refine ⟨h.1, ?_⟩
  have hlt := h.lt
  rcases h.2 with h2 | ⟨g', cap, cur, rfl, hg, hh, r⟩
  · exact .inl h2
  · exact .inr ⟨g', cap, cur, rfl, hg, (hk.block g' (hlt g' rfl).2 (hs g' rfl)).trans hh, r⟩

/-- The slice at A of n elements, one cell each, reads as xs, and lies below block B. -/
def Row (w : World) (B : Nat) (A : Option Addr) (n : Nat) (xs : List Value) : Prop :=
  xs.length = n ∧ (0 < n → ∃ b off, A = some ⟨b, off, none⟩ ∧ b < B ∧ ∀ j u, xs[j]? = some u → w.cell? ⟨b, off + j, none⟩ = some u)
theorem Row.keep {A : Option Addr} {n : Nat} {xs : List Value} (h : Row w B A n xs) (hk : Keeps S w w') (hB : B ≤ w.heap.size) (hs : ∀ k, k < B → ¬ S k) : Row w' B A n xs :=
  ⟨h.1, fun hn => by
    obtain ⟨b, off, rfl, hb, hc⟩ := h.2 hn
    exact ⟨b, off, rfl, hb, fun j u hu => (hk.cell (p := ⟨b, off + j, none⟩) (by exact Nat.lt_of_lt_of_le hb hB) (hs b hb)).trans (hc j u hu)⟩⟩
theorem Row.below {A : Option Addr} {n : Nat} {xs : List Value} (h : Row w B A n xs) (hb : Below B w w') : Row w' B A n xs :=
  ⟨h.1, fun hn => by
    obtain ⟨b, off, rfl, hlt, hc⟩ := h.2 hn
    exact ⟨b, off, rfl, hlt, fun j u hu => (hb.cell (p := ⟨b, off + j, none⟩) hlt).trans (hc j u hu)⟩⟩
theorem Row.mono {A : Option Addr} {n B' : Nat} {xs : List Value} (h : Row w B A n xs) (hB : B ≤ B') : Row w B' A n xs :=
  ⟨h.1, fun hn => by
    obtain ⟨b, off, rfl, hlt, hc⟩ := h.2 hn
    exact ⟨b, off, rfl, Nat.lt_of_lt_of_le hlt hB, hc⟩⟩
theorem Row.at_ {A : Option Addr} {n j : Nat} {xs : List Value} (h : Row w B A n xs) (hj : j < n) : ∃ b off u, A = some ⟨b, off, none⟩ ∧ b < B ∧ xs[j]? = some u ∧ w.cell? ⟨b, off + j, none⟩ = some u := by
  obtain ⟨b, off, e, hb, hc⟩ := h.2 (by omega)
  have hl : j < xs.length := by have := h.1; omega
  exact ⟨b, off, xs[j], e, hb, List.getElem?_eq_getElem hl, hc j _ (List.getElem?_eq_getElem hl)⟩
theorem Row.of_own {base e n c : Nat} {A : Option Addr} {xs : List Value} (h : w.ownsRow base e 1 (.slice A n c) n xs) : Row w w.heap.size A n xs := by
  refine ⟨by simpa using h.1, fun hn => ?_⟩
  have hlt := h.lt
  rcases h.2 with ⟨h2, hx⟩ | ⟨g', cap, cur, hv, hg, hh, r⟩
  · subst hx
    have := h.1
    simp at this
    omega
  · injection hv with hA _ _
    subst hA
    exact ⟨g', 0, rfl, (hlt g' rfl).2, fun j u hu => by
      have := h.cells (g := g') rfl j u hu
      unfold Addr.add at this
      by_cases hj : j = 0
      · subst hj; simpa using this
      · simpa [hj] using this⟩
end
end Go.Proofs.YthcoiaigmndohaaDoor
