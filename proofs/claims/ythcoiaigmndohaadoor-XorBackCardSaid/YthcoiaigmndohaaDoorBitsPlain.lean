/-
  Plain lemmas on the bits of numbers of 64 bits. No program in sight.
-/
import Derived.WalkKit
namespace Go.Proofs.YthcoiaigmndohaaDoor
open Go Go.RowKit

theorem nat_flip {y : Nat} (hy : y < 9223372036854775808) : (9223372036854775808 + y) ^^^ 9223372036854775807 = 18446744073709551615 - y := by
  have e1 : (9223372036854775808 : Nat) = 2 ^ 63 := by decide
  have e2 : (9223372036854775807 : Nat) = 2 ^ 63 - 1 := by decide
  have e3 : 18446744073709551615 - y = 2 ^ 63 + (2 ^ 63 - (y + 1)) := by omega
  have hy' : y < 2 ^ 63 := by omega
  rw [e3, e1, e2]
  apply Nat.eq_of_testBit_eq
  intro i
  rw [Nat.testBit_xor, Nat.testBit_two_pow_sub_one]
  by_cases h : i < 63
  · rw [Nat.testBit_two_pow_add_gt h, Nat.testBit_two_pow_add_gt h, Nat.testBit_two_pow_sub_succ hy']
    simp [h]
  · by_cases h63 : i = 63
    · subst h63
      rw [Nat.testBit_two_pow_add_eq, Nat.testBit_two_pow_add_eq, Nat.testBit_lt_two_pow hy', Nat.testBit_two_pow_sub_succ hy']
      simp
    · have h1 : 2 ^ 63 + y < 2 ^ i := Nat.lt_of_lt_of_le (by omega : 2 ^ 63 + y < 2 ^ 64) (Nat.pow_le_pow_right (by omega) (by omega))
      have h2 : 2 ^ 63 + (2 ^ 63 - (y + 1)) < 2 ^ i := Nat.lt_of_lt_of_le (by omega : 2 ^ 63 + (2 ^ 63 - (y + 1)) < 2 ^ 64) (Nat.pow_le_pow_right (by omega) (by omega))
      rw [Nat.testBit_lt_two_pow h1, Nat.testBit_lt_two_pow h2]
      simp [h]

/-- The number of 64 bits, with a sign. -/
def ibits (b : Nat) : Int := if b < 9223372036854775808 then (b : Int) else (b : Int) - 18446744073709551616
/-- A real's rank, by its bits. -/
def rank (b : Nat) : Int := if b < 9223372036854775808 then (b : Int) else 9223372036854775807 - (b : Int)
/-- A number with all but its sign turned, if it is below 0. -/
def turn (v : Int) : Int := if 0 ≤ v then v else -9223372036854775809 - v
/-- The bits of a number with a sign. -/
def ubits (v : Int) : Nat := (if 0 ≤ v then v else v + 18446744073709551616).toNat

theorem wrap64_bits {b : Nat} (h : b < 18446744073709551616) : wrap64 (b : Int) = ibits b := by
  unfold wrap64 ibits
  split <;> omega

theorem u64_bits {v : Int} (h0 : -9223372036854775808 ≤ v) (h1 : v ≤ 9223372036854775807) : IntKind.u64.wrap v = (ubits v : Int) := by
  rw [IntKind.wrap_u64]
  unfold ubits
  split <;> omega

theorem ubits_lt {v : Int} (h0 : -9223372036854775808 ≤ v) (h1 : v ≤ 9223372036854775807) : ubits v < 18446744073709551616 := by
  unfold ubits
  split <;> omega

theorem turn_ibits {b : Nat} (h : b < 18446744073709551616) : turn (ibits b) = rank b := by
  unfold turn ibits rank
  split <;> split <;> (try split) <;> omega

theorem ibits_range {b : Nat} (h : b < 18446744073709551616) : -9223372036854775808 ≤ ibits b ∧ ibits b ≤ 9223372036854775807 := by
  unfold ibits
  split <;> omega

theorem rank_range {b : Nat} (h : b < 18446744073709551616) : -9223372036854775808 ≤ rank b ∧ rank b ≤ 9223372036854775807 := by
  unfold rank
  split <;> omega

theorem ofInt_neg {v : Int} (h0 : -9223372036854775808 ≤ v) (hv : v < 0) : (BitVec.ofInt 64 v).toNat = 9223372036854775808 + (v + 9223372036854775808).toNat := by
  rw [BitVec.toNat_ofInt]
  have : v % ((2 ^ 64 : Nat) : Int) = v + 18446744073709551616 := by
    have e : ((2 ^ 64 : Nat) : Int) = 18446744073709551616 := by decide
    rw [e]; omega
  rw [this]; omega

theorem bits_turn {v : Int} (h0 : -9223372036854775808 ≤ v) (h1 : v ≤ 9223372036854775807) : bits .xor .i64 v (wrap64 (IntKind.u64.wrap (v / 9223372036854775808) / 2)) = turn v := by
  unfold turn
  by_cases hv : 0 ≤ v
  · have e1 : v / 9223372036854775808 = 0 := by omega
    have e2 : wrap64 (IntKind.u64.wrap 0 / 2) = 0 := by rw [IntKind.wrap_u64]; unfold wrap64; omega
    rw [e1, e2, if_pos hv]
    show IntKind.i64.wrap ((BitVec.ofInt 64 v ^^^ BitVec.ofInt 64 0).toNat : Int) = v
    have e3 : BitVec.ofInt 64 0 = 0#64 := by decide
    rw [e3, BitVec.xor_zero, IntWalk.i64_left, BitVec.toNat_ofInt]
    have : v % ((2 ^ 64 : Nat) : Int) = v := by
      have e : ((2 ^ 64 : Nat) : Int) = 18446744073709551616 := by decide
      rw [e]; omega
    rw [this]
    unfold wrap64; omega
  · have e1 : v / 9223372036854775808 = -1 := by omega
    have e2 : wrap64 (IntKind.u64.wrap (-1) / 2) = 9223372036854775807 := by rw [IntKind.wrap_u64]; unfold wrap64; omega
    rw [e1, e2, if_neg hv]
    show IntKind.i64.wrap ((BitVec.ofInt 64 v ^^^ BitVec.ofInt 64 9223372036854775807).toNat : Int) = _
    have e3 : (BitVec.ofInt 64 9223372036854775807).toNat = 9223372036854775807 := by decide
    rw [IntWalk.i64_left, BitVec.toNat_xor, e3, ofInt_neg h0 (by omega), nat_flip (by omega)]
    unfold wrap64; omega

theorem bits_abs {b : Nat} (h : b < 18446744073709551616) : (bits .andNot .u64 (b : Int) 9223372036854775808).toNat = b % 9223372036854775808 := by
  show (IntKind.u64.wrap ((BitVec.ofInt 64 (b : Int) &&& ~~~(BitVec.ofInt 64 9223372036854775808)).toNat : Int)).toNat = _
  have e3 : (~~~(BitVec.ofInt 64 9223372036854775808)).toNat = 2 ^ 63 - 1 := by decide
  have e4 : (BitVec.ofInt 64 (b : Int)).toNat = b := by
    rw [BitVec.ofInt_natCast, BitVec.toNat_ofNat]; exact Nat.mod_eq_of_lt (by omega)
  rw [BitVec.toNat_and, e3, e4, Nat.and_two_pow_sub_one_eq_mod, IntKind.wrap_u64]
  omega

theorem neg_dec {b : Nat} (h : b < 18446744073709551616) : decide (wrap64 (b : Int) < 0) = decide (9223372036854775808 ≤ b) := by
  rw [wrap64_bits h]
  unfold ibits
  rw [decide_eq_decide]
  split <;> omega
end Go.Proofs.YthcoiaigmndohaaDoor
