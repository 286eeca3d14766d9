/-
  The contracts of package bits: wide, fits; a new writer. Conditions: the numbers fit their kinds.
-/
import Derived.Test.YthcoiaigmndohaaDoorRows
import Derived.Test.YthcoiaigmndohaaDoorKit
import Derived.Test.YthcoiaigmndohaaDoorBitModel
import Derived.WalkKit
import Derived.WalkLawsBesides
import Derived.Lib.Hide
import Derived.Handy
namespace Go.Proofs.YthcoiaigmndohaaDoor
open Go.RowKit BitM

/-- It fits 64 bits. -/
def Fits (b : Nat) : Prop := b < 18446744073709551616

/-- Is it a width? -/
def wideB (k : Int) : Bool := decide (0 ≤ k ∧ k ≤ 64)

theorem wide_any (k : Int) (w : World) : Calls Tryd.prog 46 #[.int .i64 k] w fun e w' => e = .returned (.bool (wideB k)) ∧ w = w' := by
  by_cases h0 : 0 ≤ k
  · by_cases h1 : k ≤ 64
    · have hw : wideB k = true := by unfold wideB; simp [h0, h1]
      rw [hw]
      clear hw
      go_enter Tryd.func46, Tryd.ntmps46
      go_wp2
      go_ret
      exact ⟨rfl, rfl⟩
    · have hw : wideB k = false := by unfold wideB; simp [h1]
      rw [hw]
      clear hw
      go_enter Tryd.func46, Tryd.ntmps46
      go_wp2
      go_ret
      exact ⟨rfl, rfl⟩
  · have hw : wideB k = false := by unfold wideB; simp [h0]
    rw [hw]
    clear hw
    go_enter Tryd.func46, Tryd.ntmps46
    go_wp2
    go_ret
    exact ⟨rfl, rfl⟩

/-- Does it fit? -/
def fitsB (x k : Nat) : Bool := decide (x < 2 ^ k)

theorem fits_eq (x k : Nat) : ((x : Int) / 2 ^ k == 0) = fitsB x k := by
  unfold fitsB
  have e : (x : Int) / 2 ^ k = ((x / 2 ^ k : Nat) : Int) := by rw [Int.natCast_ediv, Int.natCast_pow]; rfl
  rw [e, Bool.eq_iff_iff]
  simp only [beq_iff_eq, decide_eq_true_eq]
  have : x / 2 ^ k = 0 ↔ x < 2 ^ k := by
    rw [Nat.div_eq_zero_iff]
    have : 0 < 2 ^ k := Nat.two_pow_pos k
    omega
  omega

theorem fits_any (x k : Nat) (hx : Fits x) (hk : k ≤ 64) (w : World) : Calls Tryd.prog 69 #[.int .u64 x, .int .i64 k] w fun e w' => e = .returned (.bool (fitsB x k)) ∧ w = w' := by
  rcases Nat.lt_or_ge k 64 with h | h
  · have hne : ((k : Int) == 64) = false := by simp; omega
    have HE := Lib.hid (fits_eq x k)
    go_enter Tryd.func69, Tryd.ntmps69
    go_wp2
    go_ret
    exact ⟨congrArg (fun b => Ending.returned (.bool b)) HE.out, rfl⟩
  · obtain rfl : k = 64 := by omega
    have hf : fitsB x 64 = true := by unfold Fits at hx; unfold fitsB; simp; omega
    rw [hf]
    clear hf
    go_enter Tryd.func69, Tryd.ntmps69
    go_wp2
    go_ret
    exact ⟨rfl, rfl⟩

theorem newWriter_any (w : World) : Calls Tryd.prog 30 #[] w fun e w' => e = .returned (.pointer (some ⟨w.heap.size, 0, none⟩)) ∧ w' = w.alloc (.cells #[.slice none 0 0, .int .i64 0] 82) := by
  go_enter Tryd.func30, Tryd.ntmps30
  go_wp2
  go_ret
  exact ⟨rfl, rfl⟩
end Go.Proofs.YthcoiaigmndohaaDoor
