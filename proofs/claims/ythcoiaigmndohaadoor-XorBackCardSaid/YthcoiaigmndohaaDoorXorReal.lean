/-
  The contract of real.Bits; slices of reals by their bits. Conditions: the bits fit 64.
-/
import Derived.Test.YthcoiaigmndohaaDoorBitsBase
import Derived.Test.YthcoiaigmndohaaDoorBitsPlain
import Derived.Test.YthcoiaigmndohaaDoorKit
namespace Go.Proofs.YthcoiaigmndohaaDoor
open Go.RowKit

theorem call_bits (b : Nat) (w : World) : (callFunc 29 #[.float .f64 b]).run Tryd.prog w = .ok (.value (.int .u64 b)) w := by kernel_rfl
theorem call_from (n : Int) (w : World) : (callFunc 33 #[.int .u64 n]).run Tryd.prog w = .ok (.value (.float .f64 n.toNat)) w := by kernel_rfl

theorem rbits_any (b : Nat) (h : Fits b) (w : World) : Calls Tryd.prog 43 #[.float .f64 b] w fun e w' => e = .returned (.int .i64 (ibits b)) ∧ w = w' := by
  have hb := fun w : World => call_bits b w
  go_enter Tryd.func43, Tryd.ntmps43
  go_wp2
  go_ret
  exact ⟨congrArg (fun z => Ending.returned (.int .i64 z)) (wrap64_bits h), rfl⟩

theorem ibits_back {b : Nat} (h : Fits b) : IntKind.u64.wrap (ibits b) = (b : Int) := by
  have hx : b < 18446744073709551616 := h
  rw [IntKind.wrap_u64]
  unfold ibits
  split <;> omega

def fls (M : List Nat) : List Value := M.map (fun x : Nat => Value.float .f64 x)

/-- A slice of reals, by their bits, in blocks below B. -/
structure InFB (B : Nat) (w : World) (A : Option Addr) (c : Nat) (M : List Nat) : Prop where
  row : Row w B A M.length (fls M)
  le : M.length ≤ 100000
  fits : ∀ x ∈ M, Fits x

theorem InFB.keep {B : Nat} {w w' : World} {A : Option Addr} {c : Nat} {M : List Nat} (h : InFB B w A c M) (hb : Keeps (fun k => B ≤ k) w w') (hB : B ≤ w.heap.size) : InFB B w' A c M :=
  ⟨h.row.keep hb hB (fun k hk h => by omega), h.le, h.fits⟩

theorem InFB.at_ {B : Nat} {w : World} {A : Option Addr} {c : Nat} {M : List Nat} (h : InFB B w A c M) {j : Nat} (hj : j < M.length) : ∃ b off, A = some ⟨b, off, none⟩ ∧ w.cell? ⟨b, off + j, none⟩ = some (.float .f64 M[j]) ∧ Fits M[j] := by
  obtain ⟨b, off, u, rfl, hb, hx, hc⟩ := h.row.at_ hj
  have : u = .float .f64 M[j] := by
    unfold fls at hx
    rw [List.getElem?_map, List.getElem?_eq_getElem hj] at hx
    injection hx with hx
    exact hx.symm
  exact ⟨b, off, rfl, this ▸ hc, h.fits _ (List.getElem_mem hj)⟩
end Go.Proofs.YthcoiaigmndohaaDoor
