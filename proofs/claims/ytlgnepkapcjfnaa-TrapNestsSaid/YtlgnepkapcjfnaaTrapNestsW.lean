/-
  The law TrapNests: the contract of nested steps.
-/
import Derived.Test.YtlgnepkapcjfnaaTrapAwake
import Derived.Test.YtlgnepkapcjfnaaTrapNestPlain
import Derived.Test.YtlgnepkapcjfnaaKit
import Derived.Deep.RegionHeld3
import Derived.Deep.AppendLies
import Derived.Deep.DrawnRows
import Derived.Deep.RegionLaw
import Derived.BigRegion
import Derived.Deep.QuietTactic
import Derived.BigQuiet
namespace Go.Proofs.Ytlgnepkapcjfnaa.Nst
open Go.RowKit Plain

attribute [local go_sem ↓] Go.wp_at_zero Go.wp_at_succ

/-- The steps that came in: L.length elements of two cells each. -/
def Steps (w : World) (B : Nat) (A : Option Addr) (L : List (Bool × Int)) : Prop :=
  0 < L.length → ∃ b off, A = some ⟨b, off, none⟩ ∧ b < B ∧ ∀ j (h : j < L.length), w.cell? ⟨b, off + j * 2, none⟩ = some (.bool L[j].1) ∧ w.cell? ⟨b, off + j * 2 + 1, none⟩ = some (.int .i64 L[j].2)
theorem Steps.keep {w w' : World} {B : Nat} {A : Option Addr} {L : List (Bool × Int)} {S : Nat → Prop} (h : Steps w B A L) (hk : Keeps S w w') (hB : B ≤ w.heap.size) (hs : ∀ k, k < B → ¬ S k) : Steps w' B A L := fun hn => by
  obtain ⟨b, off, rfl, hb, hc⟩ := h hn
  exact ⟨b, off, rfl, hb, fun j hj => ⟨(hk.cell (p := ⟨b, off + j * 2, none⟩) (Nat.lt_of_lt_of_le hb hB) (hs b hb)).trans (hc j hj).1, (hk.cell (p := ⟨b, off + j * 2 + 1, none⟩) (Nat.lt_of_lt_of_le hb hB) (hs b hb)).trans (hc j hj).2⟩⟩

/-- The nest at block g: its steps' value S, its notes xs (the value v). -/
structure Nest (B g : Nat) (S : Value) (w : World) (v : Value) (xs : List Int) : Prop where
  blk : Blk w g 26 #[S, v]
  own : w.ownsRow B 3 1 v xs.length (xs.map (Value.int .i64))
/-- What a step does to memory. -/
structure Moves (g : Nat) (v : Value) (w : World) (v' : Value) (w' : World) : Prop where
  keeps : Keeps (fun i => i = g ∨ v.ownBlock = some i) w w'
  row : ∀ i, v'.ownBlock = some i → v.ownBlock = some i ∨ w.heap.size ≤ i
theorem Moves.refl (g : Nat) (v : Value) (w : World) : Moves g v w v w := ⟨Keeps.refl _ _, fun _ h => .inl h⟩
theorem Moves.trans {g : Nat} {v v' v'' : Value} {w w' w'' : World} (h : Moves g v w v' w') (k : Moves g v' w' v'' w'') : Moves g v w v'' w'' :=
  ⟨h.keeps.trans' k.keeps (fun i hi hs => by
    rcases hs with hs | hs
    · exact .inl hs
    · rcases h.row i hs with h1 | h1
      · exact .inr h1
      · omega), fun i hi => by
    rcases k.row i hi with h1 | h1
    · exact h.row i h1
    · exact .inr (Nat.le_trans h.keeps.size h1)⟩
theorem Moves.quiet {g : Nat} {v v' : Value} {w w' w'' : World} (h : Moves g v w v' w') (k : Keeps (fun _ => False) w' w'') : Moves g v w v' w'' :=
  ⟨h.keeps.trans' k (fun i _ hf => hf.elim), h.row⟩

theorem Moves.pre {g : Nat} {v v' : Value} {w w' w'' : World} (k : Keeps (fun _ => False) w w') (h : Moves g v w' v' w'') : Moves g v w v' w'' :=
  ⟨(k.mono (fun _ h => h.elim)).trans h.keeps, fun i hi => by
    rcases h.row i hi with h1 | h1
    · exact .inl h1
    · exact .inr (Nat.le_trans k.size h1)⟩
theorem Nest.quiet {B g : Nat} {S : Value} {w w' : World} {v : Value} {xs : List Int} (h : Nest B g S w v xs) (k : Keeps (fun _ => False) w w') : Nest B g S w' v xs :=
  ⟨h.blk.keep k (fun h => h), own_keep h.own k (fun _ _ h => h)⟩

theorem info3 : (Try.prog.info? 3).map (fun i => (i.zero, i.size, i.bytes)) = some (some (.int .i64 0), 1, 8) := by kernel_rfl

/-- What 'from' ends in. -/
def Ends (f : Int) (e : Ending) : Prop := (f = 0 ∧ e = .returned (.tuple #[])) ∨ (f ≠ 0 ∧ e = .panicked [{ v := thrownV f, recovered := false }])

theorem from_end (g : Nat) (v : Value) (A : Option Addr) (n c : Nat) (w : World) (hn : n ≤ 60) (hb : Blk w g 26 #[.slice A n c, v]) :
    Calls Try.prog 9 #[.pointer (some ⟨g, 0, none⟩), .int .i64 n] w fun e w' => e = .returned (.tuple #[]) ∧ Keeps (fun _ => False) w w' := by
  have c0 : w.cell? ⟨g, 0, none⟩ = some (.slice A n c) := hb.cell 0
  have hlt := hb.lt
  clear hb
  go_enter Try.func9, Try.ntmps9
  go_wp2_with fail
  go_quiet (fail)
  go_wp2
  refine bodyPost_ret (results_none rfl _ _ _) rfl ?_
  exact ⟨rfl, (((Keeps.refl _ _).alloc _).alloc _).drewN _⟩


/-- What 'from' at level k does, from memory w with the notes xs. -/
def FromPost (B g k : Nat) (S : Value) (L : List (Bool × Int)) (w : World) (v : Value) (xs : List Int) (e : Ending) (w' : World) : Prop :=
  Ends (nest k (L.drop k)).2 e ∧ ∃ v', Nest B g S w' v' (xs ++ (nest k (L.drop k)).1) ∧ Moves g v w v' w'

/-- What the steps' list is from level k on. -/
theorem nest_at {L : List (Bool × Int)} {k : Nat} (hk : k < L.length) :
    nest k (L.drop k) = if L[k].1 then ((k : Int) :: (nest (k + 1) (L.drop (k + 1))).1 ++ [hun (nest (k + 1) (L.drop (k + 1))).2], L[k].2)
      else if (nest (k + 1) (L.drop (k + 1))).2 = 0 then ((k : Int) :: (nest (k + 1) (L.drop (k + 1))).1, L[k].2) else ((k : Int) :: (nest (k + 1) (L.drop (k + 1))).1, (nest (k + 1) (L.drop (k + 1))).2) := by
  rw [List.drop_eq_getElem_cons hk]
  rw [nest]

theorem enter24 (cap : Array Value) (w : World) : (callFunc 24 cap).run Try.prog w = .ok (.enter 24 cap) w := by kernel_rfl

section
variable (B g k : Nat) (A : Option Addr) (c : Nat) (L : List (Bool × Int))

/-- 'from' at level k + 1, as it is handed down. -/
def Rec : Prop := ∀ (w : World) (v : Value) (xs : List Int), xs.length + 2 * (L.length - (k + 1)) ≤ 1000 → Nest B g (.slice A L.length c) w v xs → Steps w B A L → B ≤ w.heap.size →
  Calls Try.prog 9 #[.pointer (some ⟨g, 0, none⟩), .int .i64 ((k : Int) + 1)] w (FromPost B g (k + 1) (.slice A L.length c) L w v xs)

theorem from1_any (hk : k < L.length) (hn : L.length ≤ 60) (hrec : Rec B g k A c L) (bn bk : Nat) (w : World) (v : Value) (xs : List Int) (hx : xs.length + 2 * (L.length - (k + 1)) ≤ 1000)
    (hN : Nest B g (.slice A L.length c) w v xs) (hS : Steps w B A L) (hB : B ≤ w.heap.size)
    (h1 : Blk w bn 23 #[.pointer (some ⟨g, 0, none⟩)]) (h2 : Blk w bk 3 #[.int .i64 k]) :
    Calls Try.prog 24 #[.pointer (some ⟨bn, 0, none⟩), .pointer (some ⟨bk, 0, none⟩)] w (FromPost B g (k + 1) (.slice A L.length c) L w v xs) := by
  have H := Lib.hid (hrec w v xs hx hN hS hB)
  have c1 : w.cell? ⟨bn, 0, none⟩ = some (.pointer (some ⟨g, 0, none⟩)) := h1.cell 0
  have c2 : w.cell? ⟨bk, 0, none⟩ = some (.int .i64 k) := h2.cell 0
  clear hrec hN hS h1 h2
  go_enter Try.func24, Try.ntmps24
  go_wp2_with fail
  refine H.out.mono ?_
  rintro e w' ⟨he, hw⟩
  rcases he with ⟨h0, rfl⟩ | ⟨h0, rfl⟩
  · have HH := Lib.hid h0
    clear h0
    go_wp2
    go_end0
    exact ⟨.inl ⟨HH.out, rfl⟩, hw⟩
  · exact ⟨rfl, .inr ⟨h0, rfl⟩, hw⟩

theorem try_from (hk : k < L.length) (hn : L.length ≤ 60) (hrec : Rec B g k A c L) (hg : B ≤ g) (bn bk : Nat) (w : World) (v : Value) (xs : List Int) (hx : xs.length + 2 * (L.length - (k + 1)) ≤ 1000)
    (hN : Nest B g (.slice A L.length c) w v xs) (hS : Steps w B A L) (hB : B ≤ w.heap.size)
    (h1 : Blk w bn 23 #[.pointer (some ⟨g, 0, none⟩)]) (h2 : Blk w bk 3 #[.int .i64 k]) :
    Calls Try.prog 7 #[.func (.func 24) #[] #[.pointer (some ⟨bn, 0, none⟩), .pointer (some ⟨bk, 0, none⟩)]] w fun e w' =>
      e = .returned (.int .i64 (nest (k + 1) (L.drop (k + 1))).2) ∧ ∃ v', Nest B g (.slice A L.length c) w' v' (xs ++ (nest (k + 1) (L.drop (k + 1))).1) ∧ Moves g v w v' w' := by
  obtain ⟨W, hW⟩ : ∃ W, w.alloc (.cells #[.int .i64 0] 27) = W := ⟨_, rfl⟩
  have k0 : Keeps (fun _ => False) w W := by rw [← hW]; exact (Keeps.refl _ _).alloc _
  have hbE : Blk W w.heap.size 27 #[.int .i64 0] := by rw [← hW]; exact Blk.new _ _ _
  have hNW : Nest B g (.slice A L.length c) W v xs := ⟨hN.blk.keep k0 (fun h => h), own_keep hN.own k0 (fun _ _ h => h)⟩
  have hvl : ∀ i, v.ownBlock = some i → i < w.heap.size := fun i hi => (hN.own.lt i hi).2
  have hgl := hN.blk.lt
  have hin := from1_any B g k A c L hk hn hrec bn bk W v xs hx hNW (hS.keep k0 hB (fun _ _ h => h)) (Nat.le_trans hB k0.size) (h1.keep k0 (fun h => h)) (h2.keep k0 (fun h => h))
  obtain ⟨f, hf⟩ : ∃ f, (nest (k + 1) (L.drop (k + 1))).2 = f := ⟨_, rfl⟩
  obtain ⟨ys, hys⟩ : ∃ ys, xs ++ (nest (k + 1) (L.drop (k + 1))).1 = ys := ⟨_, rfl⟩
  unfold FromPost at hin
  simp only [hf, hys] at hin ⊢
  have hz : ∀ w', (∃ v', Nest B g (.slice A L.length c) w' v' ys ∧ Moves g v W v' w') → (∃ y, w'.cell? ⟨w.heap.size, 0, none⟩ = some (.int .i64 y)) ∧ w'.frozen? ⟨w.heap.size, 0, none⟩ = false := by
    rintro w' ⟨v', _, hm⟩
    have := hbE.keep hm.keeps (by
      rintro (h | h)
      · omega
      · have := hvl _ h; omega)
    exact ⟨⟨0, this.cell 0⟩, this.frozen 0⟩
  have hfin : ∀ (w2 w3 : World), (∃ v', Nest B g (.slice A L.length c) w2 v' ys ∧ Moves g v W v' w2) → Keeps (· = w.heap.size) w2 w3 → ∃ v', Nest B g (.slice A L.length c) w3 v' ys ∧ Moves g v w v' w3 := by
    rintro w2 w3 ⟨v', hN2, hm⟩ hk3
    have hbE2 := hbE.keep hm.keeps (by
      rintro (h | h)
      · omega
      · have := hvl _ h; omega)
    have hov : v'.ownBlock ≠ some w.heap.size := hbE2.own_ne hN2.own (by decide)
    refine ⟨v', ⟨hN2.blk.keep hk3 (by omega), own_keep hN2.own hk3 (fun i hi e => hov (by rw [hi, e]))⟩, ⟨?_, ?_⟩⟩
    · exact ((k0.mono (fun _ h => h.elim)).trans hm.keeps).trans' hk3 (fun i hi e => by omega)
    · intro i hi
      rcases hm.row i hi with h | h
      · exact .inl h
      · exact .inr (Nat.le_trans k0.size h)
  rw [← hW] at hin hz hfin
  by_cases h0 : f = 0
  · subst h0
    refine (try_returns _ _ (enter24 _) w (fun w' => ∃ v', Nest B g (.slice A L.length c) w' v' ys ∧ Moves g v (w.alloc (.cells #[.int .i64 0] 27)) v' w') (hin.mono ?_) hz).mono ?_
    · rintro e w' ⟨(⟨_, rfl⟩ | ⟨h, _⟩), hw⟩
      · exact ⟨rfl, hw⟩
      · exact absurd rfl h
    · rintro e w' ⟨rfl, w2, hw2, rfl⟩
      exact ⟨rfl, hfin _ _ hw2 ((Keeps.refl _ _).setCell (.inl (by rfl)) _)⟩
  · refine (try_throws f [] rfl _ _ (enter24 _) w (fun w' => ∃ v', Nest B g (.slice A L.length c) w' v' ys ∧ Moves g v (w.alloc (.cells #[.int .i64 0] 27)) v' w') (hin.mono ?_) hz).mono ?_
    · rintro e w' ⟨(⟨h, _⟩ | ⟨_, rfl⟩), hw⟩
      · exact absurd h h0
      · exact ⟨rfl, hw⟩
    · rintro e w' ⟨rfl, w2, hw2, rfl⟩
      exact ⟨rfl, hfin _ _ hw2 (((Keeps.refl _ _).alloc _).setCell (.inl (by rfl)) _)⟩
end
end Go.Proofs.Ytlgnepkapcjfnaa.Nst
