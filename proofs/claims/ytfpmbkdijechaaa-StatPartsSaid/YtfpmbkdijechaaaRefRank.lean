/-
  The contracts of the reference's Rank and parts, by bits. Conditions: the bits fit 64.
-/
import Derived.Test.YtfpmbkdijechaaaRealBase
namespace Go.Proofs.Ytfpmbkdijechaaa
open Go.RowKit Flt

theorem refRank_any (b : Nat) (h : Fits b) (w : World) : Calls Try.prog 21 #[.int .u64 b] w fun e w' => e = .returned (.int .i64 (rank b)) ∧ w = w' := by
  have h' : (b : Int) < 18446744073709551616 := by unfold Fits at h; omega
  by_cases hb : (b : Int) < 9223372036854775808
  · go_enter Try.func21, Try.ntmps21
    go_wp2
    go_ret
    refine ⟨ret_int ?_, rfl⟩
    unfold rank
    rw [if_pos (by omega)]
    first | done | rfl | (unfold wrap64; omega)
  · go_enter Try.func21, Try.ntmps21
    go_wp2
    go_ret
    refine ⟨ret_int ?_, rfl⟩
    unfold rank
    rw [if_neg (by omega)]
    unfold wrap64
    omega

/-- The exponent's bits; the fraction's bits. -/
def expB (b : Nat) : Nat := b / 4503599627370496 % 2048
def fracB (b : Nat) : Nat := b % 4503599627370496

theorem parts_any (b : Nat) (h : Fits b) (w : World) : Calls Try.prog 29 #[.int .u64 b] w fun e w' => e = .returned (.tuple #[.bool (sgnB b), .int .u64 (expB b), .int .u64 (fracB b)]) ∧ w = w' := by
  have h' : (b : Int) < 18446744073709551616 := by unfold Fits at h; omega
  go_enter Try.func29, Try.ntmps29
  go_wp2
  go_ret3
  have e0 : decide (9223372036854775808 ≤ (b : Int)) = sgnB b := by unfold sgnB; rw [decide_eq_decide]; omega
  have e1 : (b : Int) / 4503599627370496 % 2048 = (expB b : Int) := by unfold expB; omega
  have e2 : (b : Int) % 4503599627370496 = (fracB b : Int) := by unfold fracB; omega
  exact ⟨by simp only [e0, e1, e2, Array.getD]; rfl, rfl⟩
end Go.Proofs.Ytfpmbkdijechaaa
