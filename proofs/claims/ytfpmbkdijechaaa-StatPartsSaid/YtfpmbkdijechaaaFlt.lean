/-
  Plain lemmas on float64 by its bits: what an order of two of them is, as an order of two integers. No program in sight.
-/
import Ieee.Arith
import Derived.Laws.FloatBits
namespace Go.Proofs.Ytfpmbkdijechaaa.Flt
open Ieee

/-- A magnitude's value, in units of the least one. -/
def vl (r : Nat) : Nat := if r < 4503599627370496 then r else (4503599627370496 + r % 4503599627370496) * 2 ^ (r / 4503599627370496 - 1)

theorem vl_lt {a b : Nat} (h : a < b) : vl a < vl b := by
  unfold vl
  by_cases ha : a < 4503599627370496
  · rw [if_pos ha]
    by_cases hb : b < 4503599627370496
    · rw [if_pos hb]; exact h
    · rw [if_neg hb]
      have : 1 ≤ 2 ^ (b / 4503599627370496 - 1) := Nat.one_le_two_pow
      have h2 : (4503599627370496 + b % 4503599627370496) * 1 ≤ (4503599627370496 + b % 4503599627370496) * 2 ^ (b / 4503599627370496 - 1) := Nat.mul_le_mul_left _ this
      omega
  · rw [if_neg ha, if_neg (by omega)]
    have ea : 1 ≤ a / 4503599627370496 := by omega
    rcases Nat.lt_or_ge (a / 4503599627370496) (b / 4503599627370496) with he | he
    · have h1 : 2 ^ (a / 4503599627370496 - 1) * 2 ≤ 2 ^ (b / 4503599627370496 - 1) := by
        rw [← Nat.pow_succ]
        exact Nat.pow_le_pow_right (by omega) (by omega)
      have hp : 0 < 2 ^ (a / 4503599627370496 - 1) := Nat.two_pow_pos _
      calc (4503599627370496 + a % 4503599627370496) * 2 ^ (a / 4503599627370496 - 1)
          < (4503599627370496 * 2) * 2 ^ (a / 4503599627370496 - 1) := Nat.mul_lt_mul_of_pos_right (by omega) hp
        _ = 4503599627370496 * (2 ^ (a / 4503599627370496 - 1) * 2) := by rw [Nat.mul_assoc, Nat.mul_comm 2]
        _ ≤ 4503599627370496 * 2 ^ (b / 4503599627370496 - 1) := Nat.mul_le_mul_left _ h1
        _ ≤ (4503599627370496 + b % 4503599627370496) * 2 ^ (b / 4503599627370496 - 1) := Nat.mul_le_mul_right _ (by omega)
    · have he' : a / 4503599627370496 = b / 4503599627370496 := by
        have : a / 4503599627370496 ≤ b / 4503599627370496 := Nat.div_le_div_right (by omega)
        omega
      rw [he']
      exact Nat.mul_lt_mul_of_pos_right (by omega) (Nat.two_pow_pos _)

theorem vl_inj {a b : Nat} (h : vl a = vl b) : a = b := by
  rcases Nat.lt_trichotomy a b with h1 | h1 | h1
  · have := vl_lt h1; omega
  · exact h1
  · have := vl_lt h1; omega

/-- A word's order among the words: its magnitude with its sign. -/
def key (x : Nat) : Int := if x < 9223372036854775808 then (x : Int) else 9223372036854775808 - (x : Int)
def isNaN (x : Nat) : Bool := decide (9218868437227405312 < x % 9223372036854775808)

theorem read_lo {x : Nat} (h : x % 9223372036854775808 < 4503599627370496) : double.read x = .number (x / 9223372036854775808 % 2 == 1) (x % 9223372036854775808) (-1074) := by
  have e1 : double.signWeight = 9223372036854775808 := by decide
  have e2 : double.binade = 4503599627370496 := by decide
  have e3 : double.leastPlace = -1074 := by decide
  unfold Format.read
  simp only [e1, e2, e3]
  rw [if_pos h]

theorem read_mid {x : Nat} (h : ¬ x % 9223372036854775808 < 4503599627370496) (h2 : x % 9223372036854775808 < 9218868437227405312) :
    double.read x = .number (x / 9223372036854775808 % 2 == 1) (4503599627370496 + x % 9223372036854775808 % 4503599627370496) (-1074 + (x % 9223372036854775808 / 4503599627370496 - 1 : Nat)) := by
  have e1 : double.signWeight = 9223372036854775808 := by decide
  have e2 : double.binade = 4503599627370496 := by decide
  have e3 : double.leastPlace = -1074 := by decide
  have e4 : double.infRung = 9218868437227405312 := by decide
  unfold Format.read
  simp only [e1, e2, e3, e4]
  rw [if_neg h, if_pos h2]

theorem read_inf {x : Nat} (h : x % 9223372036854775808 = 9218868437227405312) : double.read x = .infinity (x / 9223372036854775808 % 2 == 1) := by
  have e1 : double.signWeight = 9223372036854775808 := by decide
  have e2 : double.binade = 4503599627370496 := by decide
  have e4 : double.infRung = 9218868437227405312 := by decide
  unfold Format.read
  simp only [e1, e2, e4]
  rw [if_neg (by omega), if_neg (by omega), if_pos h]

theorem read_nan {x : Nat} (h : 9218868437227405312 < x % 9223372036854775808) : double.read x = .nan (x / 9223372036854775808 % 2 == 1) (x % 9223372036854775808 - 9218868437227405312) := by
  have e1 : double.signWeight = 9223372036854775808 := by decide
  have e2 : double.binade = 4503599627370496 := by decide
  have e4 : double.infRung = 9218868437227405312 := by decide
  unfold Format.read
  simp only [e1, e2, e4]
  rw [if_neg (by omega), if_neg (by omega), if_neg (by omega)]

/-- A finite word as a number: a magnitude and how far it is shifted, in units of the least one. -/
theorem read_fin {x : Nat} (h : x % 9223372036854775808 < 9218868437227405312) :
    ∃ m p : Nat, double.read x = .number (x / 9223372036854775808 % 2 == 1) m (-1074 + (p : Int)) ∧ m * 2 ^ p = vl (x % 9223372036854775808) := by
  by_cases h1 : x % 9223372036854775808 < 4503599627370496
  · refine ⟨x % 9223372036854775808, 0, by rw [read_lo h1]; simp, ?_⟩
    unfold vl
    rw [if_pos h1]
    simp
  · refine ⟨_, _, read_mid h1 h, ?_⟩
    unfold vl
    rw [if_neg h1]

theorem shiftLeft_mul (a b : Nat) : a <<< b = a * 2 ^ b := Nat.shiftLeft_eq a b

def sg (neg : Bool) (n : Nat) : Int := if neg then -(n : Int) else (n : Int)
theorem signed_eq (neg : Bool) (m u : Nat) : signed neg m u = sg neg (m * 2 ^ u) := by
  unfold signed sg
  rw [shiftLeft_mul]

theorem sg_mul (neg : Bool) (a k : Nat) : sg neg (a * k) = sg neg a * (k : Int) := by
  unfold sg
  split
  · rw [Int.natCast_mul, Int.neg_mul]
  · rw [Int.natCast_mul]

theorem cmp_lt {a b : Int} (h : a < b) : compare a b = .lt := by simp [compare, compareOfLessAndEq, h]
theorem cmp_gt {a b : Int} (h : b < a) : compare a b = .gt := by
  have h1 : ¬ a < b := by omega
  have h2 : ¬ a = b := by omega
  simp [compare, compareOfLessAndEq, h1, h2]
theorem cmp_eq (a : Int) : compare a a = .eq := by simp [compare, compareOfLessAndEq]

theorem compare_scale (a b : Int) (k : Nat) (hk : 0 < k) : compare (a * (k : Int)) (b * (k : Int)) = compare a b := by
  have hk' : (0 : Int) < (k : Int) := by omega
  rcases Int.lt_trichotomy a b with h | h | h
  · rw [cmp_lt h, cmp_lt (Int.mul_lt_mul_of_pos_right h hk')]
  · rw [h, cmp_eq, cmp_eq]
  · rw [cmp_gt h, cmp_gt (Int.mul_lt_mul_of_pos_right h hk')]

theorem order_fin (s t : Bool) (m n p q : Nat) : (Datum.number s m (-1074 + (p : Int))).order (.number t n (-1074 + (q : Int))) = some (compare (sg s (m * 2 ^ p)) (sg t (n * 2 ^ q))) := by
  have hmin : min (-1074 + (p : Int)) (-1074 + (q : Int)) = -1074 + ((min p q : Nat) : Int) := by omega
  unfold Datum.order
  simp only [hmin]
  have e1 : (-1074 + (p : Int) - (-1074 + ((min p q : Nat) : Int))).toNat = p - min p q := by omega
  have e2 : (-1074 + (q : Int) - (-1074 + ((min p q : Nat) : Int))).toNat = q - min p q := by omega
  rw [e1, e2, signed_eq, signed_eq]
  have hp : m * 2 ^ p = m * 2 ^ (p - min p q) * 2 ^ (min p q) := by
    rw [Nat.mul_assoc, ← Nat.pow_add, Nat.sub_add_cancel (Nat.min_le_left p q)]
  have hq : n * 2 ^ q = n * 2 ^ (q - min p q) * 2 ^ (min p q) := by
    rw [Nat.mul_assoc, ← Nat.pow_add, Nat.sub_add_cancel (Nat.min_le_right p q)]
  rw [hp, hq, sg_mul s _ (2 ^ min p q), sg_mul t _ (2 ^ min p q), compare_scale _ _ _ (Nat.two_pow_pos _)]

theorem neg_of {x : Nat} (h : x < 18446744073709551616) : (x / 9223372036854775808 % 2 == 1) = decide (9223372036854775808 ≤ x) := by
  by_cases hx : 9223372036854775808 ≤ x
  · have : x / 9223372036854775808 = 1 := by omega
    simp [this, hx]
  · have : x / 9223372036854775808 = 0 := by omega
    simp [this, hx]

/-- **The order of two words that are no NaNs is the order of their keys.** -/
theorem order_key {x y : Nat} (hx : x < 18446744073709551616) (hy : y < 18446744073709551616) (nx : isNaN x = false) (ny : isNaN y = false) :
    double.order x y = some (compare (key x) (key y)) := by
  have nx' : x % 9223372036854775808 ≤ 9218868437227405312 := by simpa [isNaN] using nx
  have ny' : y % 9223372036854775808 ≤ 9218868437227405312 := by simpa [isNaN] using ny
  unfold Format.order
  have kx : key x = sg (decide (9223372036854775808 ≤ x)) (x % 9223372036854775808) := by
    unfold key sg
    by_cases h : 9223372036854775808 ≤ x
    · rw [if_neg (by omega), if_pos (by simpa using h)]; omega
    · rw [if_pos (by omega), if_neg (by simpa using h)]; omega
  have ky : key y = sg (decide (9223372036854775808 ≤ y)) (y % 9223372036854775808) := by
    unfold key sg
    by_cases h : 9223372036854775808 ≤ y
    · rw [if_neg (by omega), if_pos (by simpa using h)]; omega
    · rw [if_pos (by omega), if_neg (by simpa using h)]; omega
  have sx := neg_of hx
  have sy := neg_of hy
  rw [kx, ky]
  generalize hX : x % 9223372036854775808 = X at *
  generalize hY : y % 9223372036854775808 = Y at *
  generalize hS : decide (9223372036854775808 ≤ x) = S at *
  generalize hT : decide (9223372036854775808 ≤ y) = T at *
  have mono : ∀ S T : Bool, compare (sg S (vl X)) (sg T (vl Y)) = compare (sg S X) (sg T Y) := by
    have h0 : vl 0 = 0 := rfl
    have z0 : ∀ r, 0 < r → 0 < vl r := fun r hr => by have := vl_lt hr; omega
    intro S T
    have hXY : X < Y → vl X < vl Y := vl_lt
    have hYX : Y < X → vl Y < vl X := vl_lt
    have hX0 : 0 < X → 0 < vl X := z0 X
    have hY0 : 0 < Y → 0 < vl Y := z0 Y
    have e0 : X = 0 → vl X = 0 := fun h => by rw [h]; rfl
    have f0 : Y = 0 → vl Y = 0 := fun h => by rw [h]; rfl
    have heq : X = Y → vl X = vl Y := fun h => by rw [h]
    rcases Int.lt_trichotomy (sg S X) (sg T Y) with h | h | h
    · rw [cmp_lt h, cmp_lt]
      unfold sg at h ⊢
      cases S <;> cases T <;> simp at h ⊢ <;> omega
    · rw [h, cmp_eq]
      have : sg S (vl X) = sg T (vl Y) := by
        unfold sg at h ⊢
        cases S <;> cases T <;> simp at h ⊢ <;> omega
      rw [this, cmp_eq]
    · rw [cmp_gt h, cmp_gt]
      unfold sg at h ⊢
      cases S <;> cases T <;> simp at h ⊢ <;> omega
  by_cases fx : X < 9218868437227405312
  · obtain ⟨m, p, hrx, hvx⟩ := read_fin (x := x) (by rw [hX]; exact fx)
    by_cases fy : Y < 9218868437227405312
    · obtain ⟨n, q, hry, hvy⟩ := read_fin (x := y) (by rw [hY]; exact fy)
      rw [hrx, hry, order_fin, hvx, hvy, sx, sy, hX, hY, mono]
    · have hYi : Y = 9218868437227405312 := by omega
      rw [hrx, read_inf (by rw [hY]; exact hYi), sy]
      simp only [Datum.order]
      unfold sg
      cases T
      · rw [cmp_lt (by cases S <;> simp <;> omega)]; rfl
      · rw [cmp_gt (by cases S <;> simp <;> omega)]; rfl
  · have hXi : X = 9218868437227405312 := by omega
    by_cases fy : Y < 9218868437227405312
    · obtain ⟨n, q, hry, hvy⟩ := read_fin (x := y) (by rw [hY]; exact fy)
      rw [read_inf (x := x) (by rw [hX]; exact hXi), hry, sx]
      simp only [Datum.order]
      unfold sg
      cases S
      · rw [cmp_gt (by cases T <;> simp <;> omega)]; rfl
      · rw [cmp_lt (by cases T <;> simp <;> omega)]; rfl
    · have hYi : Y = 9218868437227405312 := by omega
      rw [read_inf (x := x) (by rw [hX]; exact hXi), read_inf (x := y) (by rw [hY]; exact hYi), sx, sy, hXi, hYi]
      simp only [Datum.order]
      cases S <;> cases T <;> decide

theorem order_nan_left {x y : Nat} (nx : isNaN x = true) : double.order x y = none := by
  have h : 9218868437227405312 < x % 9223372036854775808 := by simpa [isNaN] using nx
  unfold Format.order
  rw [read_nan h]
  cases double.read y <;> rfl
theorem order_nan_right {x y : Nat} (ny : isNaN y = true) : double.order x y = none := by
  have h : 9218868437227405312 < y % 9223372036854775808 := by simpa [isNaN] using ny
  unfold Format.order
  rw [read_nan h]
  cases double.read x <;> rfl
end Go.Proofs.Ytfpmbkdijechaaa.Flt
