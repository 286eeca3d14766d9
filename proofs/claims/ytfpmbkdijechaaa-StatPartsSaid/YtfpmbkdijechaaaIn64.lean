/-
  Slices of bits and of reals that came in or are the call's own. No conditions.
-/
import Derived.Test.YtfpmbkdijechaaaRealBase
import Derived.Test.YtfpmbkdijechaaaKit
namespace Go.Proofs.Ytfpmbkdijechaaa
open Go.RowKit Flt

/-- A slice of bits of reals: its address, its capacity. -/
structure In64 (w : World) (A : Option Addr) (c : Nat) (M : List Nat) : Prop where
  row : Row w w.heap.size A M.length (M.map (fun x : Nat => Value.int .u64 x))
  cap : A = none → c = 0
  le : M.length ≤ 100000
  fits : ∀ x ∈ M, Fits x

theorem In64.keep {w w' : World} {A : Option Addr} {c : Nat} {M : List Nat} (h : In64 w A c M) (hb : Keeps (fun _ => False) w w') : In64 w' A c M :=
  ⟨(h.row.keep hb (Nat.le_refl _) (fun _ _ h => h)).mono hb.size, h.cap, h.le, h.fits⟩

theorem In64.at_ {w : World} {A : Option Addr} {c : Nat} {M : List Nat} (h : In64 w A c M) {j : Nat} (hj : j < M.length) : ∃ b off, A = some ⟨b, off, none⟩ ∧ b < w.heap.size ∧ w.cell? ⟨b, off + j, none⟩ = some (.int .u64 (M[j] : Nat)) ∧ Fits M[j] := by
  obtain ⟨b, off, u, rfl, hb, hx, hc⟩ := h.row.at_ hj
  have : u = .int .u64 (M[j] : Nat) := by
    rw [List.getElem?_map, List.getElem?_eq_getElem hj] at hx
    injection hx with hx
    exact hx.symm
  exact ⟨b, off, rfl, hb, this ▸ hc, h.fits _ (List.getElem_mem hj)⟩

def fls (M : List Nat) : List Value := M.map (fun x : Nat => Value.float .f64 x)

/-- A slice of reals, by their bits. -/
structure InF (w : World) (A : Option Addr) (c : Nat) (M : List Nat) : Prop where
  row : Row w w.heap.size A M.length (fls M)
  cap : A = none → c = 0
  le : M.length ≤ 100000
  fits : ∀ x ∈ M, Fits x

theorem InF.keep {w w' : World} {A : Option Addr} {c : Nat} {M : List Nat} (h : InF w A c M) (hb : Keeps (fun _ => False) w w') : InF w' A c M :=
  ⟨(h.row.keep hb (Nat.le_refl _) (fun _ _ h => h)).mono hb.size, h.cap, h.le, h.fits⟩

theorem InF.at_ {w : World} {A : Option Addr} {c : Nat} {M : List Nat} (h : InF w A c M) {j : Nat} (hj : j < M.length) : ∃ b off, A = some ⟨b, off, none⟩ ∧ b < w.heap.size ∧ w.cell? ⟨b, off + j, none⟩ = some (.float .f64 M[j]) ∧ Fits M[j] := by
  obtain ⟨b, off, u, rfl, hb, hx, hc⟩ := h.row.at_ hj
  have : u = .float .f64 M[j] := by
    unfold fls at hx
    rw [List.getElem?_map, List.getElem?_eq_getElem hj] at hx
    injection hx with hx
    exact hx.symm
  exact ⟨b, off, rfl, hb, this ▸ hc, h.fits _ (List.getElem_mem hj)⟩

theorem InF.of_own {w : World} {B : Nat} {v : Value} {M : List Nat} (h : w.ownsRow B 25 1 v M.length (fls M)) (hl : M.length ≤ 100000) (hf : ∀ x ∈ M, Fits x) : ∃ A c, v = .slice A M.length c ∧ InF w A c M := by
  rcases h.2 with ⟨rfl, hx⟩ | ⟨g, cap, cur, rfl, _⟩
  · have hL : M = [] := by simpa using hx
    subst hL
    exact ⟨none, 0, rfl, ⟨⟨rfl, fun hn => by simp at hn⟩, fun _ => rfl, hl, hf⟩⟩
  · exact ⟨_, _, rfl, ⟨Row.of_own h, fun h => (nomatch h), hl, hf⟩⟩

end Go.Proofs.Ytfpmbkdijechaaa
