/-
  Plain lemmas on float64: which are whole, what their number is, what stands nearest to a whole number. No program in sight.
-/
import Derived.Test.YtfpmbkdijechaaaFlt
import Derived.Laws.FloatArith
namespace Go.Proofs.Ytfpmbkdijechaaa.Flt
open Ieee Go

/-- A power of two, as a word of its own. -/
def pw (n : Nat) : Nat := 2 ^ n
theorem pw_eq (n : Nat) : pw n = 2 ^ n := rfl
theorem pw_pos (n : Nat) : 0 < pw n := Nat.two_pow_pos n
theorem pw_split {n p q : Nat} (h : p + q = n) : pw n = 2 ^ p * 2 ^ q := by
  subst h
  unfold pw
  exact Nat.pow_add 2 p q

theorem pw_back {n p : Nat} (h : n ≤ p) : 2 ^ p = 2 ^ (p - n) * pw n := by
  unfold pw
  rw [← Nat.pow_add, Nat.sub_add_cancel h]

theorem cut_zero (s : Bool) (n drop : Nat) : Toward.zero.cut s n drop = n / 2 ^ drop := by
  unfold Toward.cut
  simp only [Bool.toNat_false, Nat.add_zero, Nat.shiftLeft_eq, Nat.one_mul]
  rcases Nat.le_total drop (n.log2 + 2) with h | h
  · rw [Nat.min_eq_left h]
  · rw [Nat.min_eq_right h]
    have h1 : n < 2 ^ (n.log2 + 1) := Nat.lt_log2_self
    have h2 : 2 ^ (n.log2 + 1) ≤ 2 ^ (n.log2 + 2) := Nat.pow_le_pow_right (by omega) (by omega)
    have h3 : 2 ^ (n.log2 + 2) ≤ 2 ^ drop := Nat.pow_le_pow_right (by omega) h
    rw [Nat.div_eq_of_lt (by omega), Nat.div_eq_of_lt (by omega)]

theorem cut_even_none (s : Bool) (n : Nat) : Toward.even.cut s n 0 = n := by
  unfold Toward.cut
  simp [Nat.mod_one]

theorem consts : double.fractionBits = 52 ∧ double.leastPlace = -1074 ∧ double.binade = 4503599627370496 ∧ double.infRung = 9218868437227405312 ∧ double.signWeight = 9223372036854775808 := by decide

theorem nearest_small (s : Bool) (n : Nat) (h0 : 0 < n) (h1 : n ≤ 9007199254740992) :
    ∃ R, double.nearest s n 0 = double.word s R ∧ vl R = n * pw 1074 ∧ R < 9218868437227405312 := by
  rcases Nat.lt_or_ge n 9007199254740992 with h | h
  · obtain ⟨e1, e2, e3, e4, e5⟩ := consts
    have hl : n.log2 < 53 := (Nat.log2_lt (by omega)).2 (by omega)
    have ll : 2 ^ n.log2 ≤ n := Nat.log2_self_le (by omega)
    have lu : n < 2 ^ (n.log2 + 1) := Nat.lt_log2_self
    unfold Format.nearest
    rw [if_neg (by omega)]
    simp only [e1, e2, e3, e4]
    generalize n.log2 = l at *
    have hmax : max (0 + (l : Int) - (52 : Nat)) (-1074) = (l : Int) - 52 := by omega
    simp only [hmax]
    have t1 : ((0 : Int) - ((l : Int) - 52)).toNat = 52 - l := by omega
    have t2 : ((l : Int) - 52 - 0).toNat = 0 := by omega
    have t3 : ((l : Int) - 52 - -1074).toNat = l + 1022 := by omega
    rw [t1, t2, t3, cut_even_none, Nat.shiftLeft_eq]
    have k1 : 4503599627370496 ≤ n * 2 ^ (52 - l) := by
      calc 4503599627370496 = 2 ^ 52 := by decide +kernel
        _ = 2 ^ l * 2 ^ (52 - l) := by rw [← Nat.pow_add]; congr 1; omega
        _ ≤ n * 2 ^ (52 - l) := Nat.mul_le_mul_right _ ll
    have k2 : n * 2 ^ (52 - l) < 9007199254740992 := by
      calc n * 2 ^ (52 - l) < 2 ^ (l + 1) * 2 ^ (52 - l) := Nat.mul_lt_mul_of_pos_right lu (Nat.two_pow_pos _)
        _ = 2 ^ 53 := by rw [← Nat.pow_add]; congr 1; omega
        _ = 9007199254740992 := by decide +kernel
    have kv : n * 2 ^ (52 - l) * 2 ^ (l + 1022) = n * pw 1074 := by
      rw [Nat.mul_assoc, pw_split (n := 1074) (p := 52 - l) (q := l + 1022) (by omega)]
    generalize n * 2 ^ (52 - l) = K at *
    refine ⟨(l + 1022) * 4503599627370496 + K, by rw [Nat.min_eq_left (by omega)], ?_, by omega⟩
    unfold vl
    rw [if_neg (by omega)]
    have d1 : ((l + 1022) * 4503599627370496 + K) / 4503599627370496 = l + 1023 := by omega
    have d2 : ((l + 1022) * 4503599627370496 + K) % 4503599627370496 = K - 4503599627370496 := by omega
    rw [d1, d2]
    have d3 : 4503599627370496 + (K - 4503599627370496) = K := by omega
    have d4 : l + 1023 - 1 = l + 1022 := by omega
    rw [d3, d4, kv]
  · have : n = 9007199254740992 := by omega
    subst this
    refine ⟨4845873199050653696, ?_, by decide +kernel, by omega⟩
    cases s <;> decide +kernel

/-- The word of a whole number. -/
theorem nearest_any (s : Bool) (n : Nat) (h1 : n ≤ 9007199254740992) :
    ∃ R, double.nearest s n 0 = double.word s R ∧ vl R = n * pw 1074 ∧ R < 9218868437227405312 := by
  rcases Nat.eq_zero_or_pos n with h | h
  · subst h
    refine ⟨0, ?_, ?_, by decide⟩
    · unfold Format.nearest; rw [if_pos rfl]
    · rw [Nat.zero_mul]; rfl
  · exact nearest_small s n h h1

theorem integral_fin {x : Nat} (h : x % 9223372036854775808 < 9218868437227405312) :
    (double.read x).integral .zero = .number (x / 9223372036854775808 % 2 == 1) (vl (x % 9223372036854775808) / pw 1074) 0 := by
  obtain ⟨m, p, hr, hv⟩ := read_fin h
  rw [hr]
  unfold Datum.integral
  simp only
  rw [cut_zero, Nat.shiftLeft_eq, ← hv]
  congr 1
  rcases Nat.le_total p 1074 with hp | hp
  · have t1 : (-1074 + (p : Int)).toNat = 0 := by omega
    have t2 : (-(-1074 + (p : Int))).toNat = 1074 - p := by omega
    rw [t1, t2]
    have : pw 1074 = 2 ^ (1074 - p) * 2 ^ p := pw_split (by omega)
    rw [this, Nat.mul_div_mul_right _ _ (Nat.two_pow_pos _)]
    simp
  · have t1 : (-1074 + (p : Int)).toNat = p - 1074 := by omega
    have t2 : (-(-1074 + (p : Int))).toNat = 0 := by omega
    rw [t1, t2]
    have : 2 ^ p = 2 ^ (p - 1074) * pw 1074 := pw_back hp
    rw [this, ← Nat.mul_assoc, Nat.mul_div_cancel _ (pw_pos _)]
    simp

/-- A magnitude is no greater than 2^53's. -/
def Near (x : Nat) : Prop := x % 9223372036854775808 ≤ 4845873199050653696

theorem vl_near {r : Nat} (h : r ≤ 4845873199050653696) : vl r ≤ 9007199254740992 * pw 1074 := by
  have e : vl 4845873199050653696 = 9007199254740992 * pw 1074 := by decide +kernel
  rcases Nat.lt_or_ge r 4845873199050653696 with h1 | h1
  · have := vl_lt h1; omega
  · have : r = 4845873199050653696 := by omega
    rw [this, e]; exact Nat.le_refl _

theorem quot_near {r : Nat} (h : r ≤ 4845873199050653696) : vl r / pw 1074 ≤ 9007199254740992 :=
  Nat.div_le_of_le_mul (by rw [Nat.mul_comm]; exact vl_near h)

theorem word_key {s : Bool} {R : Nat} (h : R < 9218868437227405312) :
    double.word s R < 18446744073709551616 ∧ key (double.word s R) = sg s R ∧ isNaN (double.word s R) = false := by
  obtain ⟨e1, e2, e3, e4, e5⟩ := consts
  unfold Format.word
  rw [e5]
  cases s
  · refine ⟨by simp; omega, ?_, ?_⟩
    · simp [key, sg]; omega
    · simp [isNaN]; omega
  · refine ⟨by simp; omega, ?_, ?_⟩
    · simp [key, sg]; omega
    · simp [isNaN]; omega

theorem key_sg {x : Nat} (h : x < 18446744073709551616) : key x = sg (decide (9223372036854775808 ≤ x)) (x % 9223372036854775808) := by
  unfold key sg
  by_cases h : 9223372036854775808 ≤ x
  · rw [if_neg (by omega), if_pos (by simpa using h)]; omega
  · rw [if_pos (by omega), if_neg (by simpa using h)]; omega

/-- A real cut to a whole one, by bits. -/
def truncB (x : Nat) : Nat := double.write ((double.read x).integral .zero)

theorem trunc_near {x : Nat} (hx : x < 18446744073709551616) (h : Near x) :
    truncB x < 18446744073709551616 ∧ isNaN (truncB x) = false ∧
    (double.order x (truncB x) = some .eq ↔ vl (x % 9223372036854775808) % pw 1074 = 0) ∧
    (vl (x % 9223372036854775808) % pw 1074 = 0 → truncB x = x) := by
  have hn : x % 9223372036854775808 ≤ 4845873199050653696 := h
  unfold truncB
  rw [integral_fin (by omega), neg_of hx]
  obtain ⟨R, hR, hv, hlt⟩ := nearest_any (decide (9223372036854775808 ≤ x)) _ (quot_near hn)
  have hw : double.write (.number (decide (9223372036854775808 ≤ x)) (vl (x % 9223372036854775808) / pw 1074) 0) = double.word (decide (9223372036854775808 ≤ x)) R := hR
  rw [hw]
  obtain ⟨k1, k2, k3⟩ := word_key (s := decide (9223372036854775808 ≤ x)) hlt
  have hmod : vl (x % 9223372036854775808) % pw 1074 = 0 ↔ x % 9223372036854775808 = R := by
    constructor
    · intro h0
      apply vl_inj
      rw [hv]
      have := Nat.div_add_mod (vl (x % 9223372036854775808)) (pw 1074)
      rw [h0, Nat.add_zero, Nat.mul_comm] at this
      exact this.symm
    · intro h0
      rw [h0, hv] 
      exact Nat.mul_mod_left _ _
  refine ⟨k1, k3, ?_, ?_⟩
  · rw [order_key hx k1 (by simp [isNaN]; omega) k3, k2, key_sg hx, hmod]
    constructor
    · intro he
      have he' := Option.some.inj he
      rcases Int.lt_trichotomy (sg (decide (9223372036854775808 ≤ x)) (x % 9223372036854775808)) (sg (decide (9223372036854775808 ≤ x)) R) with h | h | h
      · rw [cmp_lt h] at he'; cases he'
      · unfold sg at h; split at h <;> omega
      · rw [cmp_gt h] at he'; cases he'
    · intro he
      rw [he, cmp_eq]
  · intro h0
    rw [← hmod.1 h0]
    obtain ⟨e1, e2, e3, e4, e5⟩ := consts
    unfold Format.word
    rw [e5]
    by_cases hs : 9223372036854775808 ≤ x
    · rw [if_pos (by simpa using hs)]; omega
    · rw [if_neg (by simpa using hs)]; omega

/-- The number that a real is, if it is whole. -/
def wholeOf (x : Nat) : Option Int :=
  if x % 9223372036854775808 ≤ 4845873199050653696 ∧ vl (x % 9223372036854775808) % pw 1074 = 0 ∧ x ≠ 9223372036854775808 then
    some (sg (decide (9223372036854775808 ≤ x)) (vl (x % 9223372036854775808) / pw 1074))
  else none

theorem toInt_near {x : Nat} (hx : x < 18446744073709551616) (h : Near x) : floatToIntVal .f64 x .i64 = some (sg (decide (9223372036854775808 ≤ x)) (vl (x % 9223372036854775808) / pw 1074)) := by
  have hn : x % 9223372036854775808 ≤ 4845873199050653696 := h
  have hq := quot_near hn
  have e : ((FloatKind.f64.decode x).toInt .zero) = some (sg (decide (9223372036854775808 ≤ x)) (vl (x % 9223372036854775808) / pw 1074)) := by
    show (double.read x).toInt .zero = _
    unfold Datum.toInt
    rw [integral_fin (by omega), neg_of hx]
    simp only [signed_eq, Nat.pow_zero, Nat.mul_one]
  unfold floatToIntVal
  rw [e]
  simp only
  have m1 : IntKind.i64.min = -9223372036854775808 := by decide
  have m2 : IntKind.i64.max = 9223372036854775807 := by decide
  rw [m1, m2]
  generalize vl (x % 9223372036854775808) / pw 1074 = q at *
  rw [if_pos]
  unfold sg
  split <;> omega

/-- The float of a whole real's number is that real. -/
theorem whole_back {x : Nat} {n : Int} (hx : x < 18446744073709551616) (h : wholeOf x = some n) : floatOfInt .f64 n = x ∧ -9007199254740992 ≤ n ∧ n ≤ 9007199254740992 := by
  unfold wholeOf at h
  split at h
  · rename_i hc
    obtain ⟨hn, hm, hne⟩ := hc
    have hq := quot_near hn
    have hv := Nat.div_add_mod (vl (x % 9223372036854775808)) (pw 1074)
    rw [hm, Nat.add_zero] at hv
    cases h
    obtain ⟨R, hR, hvR, hlt⟩ := nearest_any (decide (9223372036854775808 ≤ x)) _ hq
    have hRx : x % 9223372036854775808 = R := vl_inj (by rw [hvR, Nat.mul_comm]; exact hv.symm)
    generalize hqe : vl (x % 9223372036854775808) / pw 1074 = q at *
    have hz : q = 0 → x = 0 := by
      intro h0
      rw [h0, Nat.mul_zero] at hv
      have : x % 9223372036854775808 = 0 := vl_inj (by rw [← hv]; rfl)
      omega
    refine ⟨?_, by unfold sg; split <;> omega, by unfold sg; split <;> omega⟩
    have hneg : (sg (decide (9223372036854775808 ≤ x)) q < 0) = (9223372036854775808 ≤ x) := by
      rw [eq_iff_iff]
      unfold sg
      by_cases hs : 9223372036854775808 ≤ x
      · rw [if_pos (by simpa using hs)]
        constructor
        · intro _; exact hs
        · intro _
          have : q ≠ 0 := fun h0 => by have := hz h0; omega
          omega
      · rw [if_neg (by simpa using hs)]
        constructor <;> intro h <;> omega
    have habs : (sg (decide (9223372036854775808 ≤ x)) q).natAbs = q := by unfold sg; split <;> omega
    show double.nearest (decide (sg (decide (9223372036854775808 ≤ x)) q < 0)) (sg (decide (9223372036854775808 ≤ x)) q).natAbs 0 = x
    have hd : decide (sg (decide (9223372036854775808 ≤ x)) q < 0) = decide (9223372036854775808 ≤ x) := by rw [decide_eq_decide, hneg]
    rw [habs, hd, hR, ← hRx]
    obtain ⟨e1, e2, e3, e4, e5⟩ := consts
    unfold Format.word
    rw [e5]
    by_cases hs : 9223372036854775808 ≤ x
    · rw [if_pos (by simpa using hs)]; omega
    · rw [if_neg (by simpa using hs)]; omega
  · cases h

/-- Whole reals, by exponent and fraction. -/
theorem whole_exp {x : Nat} (hx : x < 18446744073709551616) (h0 : x ≠ 0) : wholeOf x =
    if x / 4503599627370496 % 2048 < 1023 ∨ 1076 < x / 4503599627370496 % 2048 then none
    else if x / 4503599627370496 % 2048 = 1076 then
      (if x % 4503599627370496 = 0 then some (sg (decide (9223372036854775808 ≤ x)) 9007199254740992) else none)
    else if (4503599627370496 + x % 4503599627370496) % 2 ^ (1075 - x / 4503599627370496 % 2048) = 0 then
      some (sg (decide (9223372036854775808 ≤ x)) ((4503599627370496 + x % 4503599627370496) / 2 ^ (1075 - x / 4503599627370496 % 2048)))
    else none := by
  have he : x / 4503599627370496 % 2048 = x % 9223372036854775808 / 4503599627370496 := by omega
  have hf : x % 4503599627370496 = x % 9223372036854775808 % 4503599627370496 := by omega
  have hr0 : x % 9223372036854775808 = 0 → x = 9223372036854775808 := by omega
  unfold wholeOf
  rw [he, hf]
  generalize decide (9223372036854775808 ≤ x) = s
  generalize x % 9223372036854775808 = r at *
  by_cases c0 : r < 4503599627370496
  · rw [if_pos (Or.inl (by omega))]
    rw [if_neg]
    rintro ⟨h1, h2, h3⟩
    have hv : vl r = r := by unfold vl; rw [if_pos c0]
    rw [hv] at h2
    have : r < pw 1074 := Nat.lt_of_lt_of_le c0 (by decide +kernel)
    rw [Nat.mod_eq_of_lt this] at h2
    exact h3 (hr0 h2)
  have hv : vl r = (4503599627370496 + r % 4503599627370496) * 2 ^ (r / 4503599627370496 - 1) := by unfold vl; rw [if_neg c0]
  have hx0 : x ≠ 9223372036854775808 ∨ True := Or.inr trivial
  have he1 : 1 ≤ r / 4503599627370496 := by omega
  have hne : x ≠ 9223372036854775808 ∨ ¬ x ≠ 9223372036854775808 := by omega
  have hmm : r % 4503599627370496 < 4503599627370496 := Nat.mod_lt _ (by decide)
  by_cases c1 : r / 4503599627370496 < 1023
  · rw [if_pos (Or.inl c1), if_neg]
    rintro ⟨h1, h2, h3⟩
    have hlt : vl r < pw 1074 := by
      rw [hv]
      calc (4503599627370496 + r % 4503599627370496) * 2 ^ (r / 4503599627370496 - 1)
          < 9007199254740992 * 2 ^ (r / 4503599627370496 - 1) := Nat.mul_lt_mul_of_pos_right (by omega) (Nat.two_pow_pos _)
        _ ≤ 9007199254740992 * 2 ^ 1021 := Nat.mul_le_mul_left _ (Nat.pow_le_pow_right (by decide) (by omega))
        _ = pw 1074 := by decide +kernel
    have hpos : 0 < vl r := by
      rw [hv]
      exact Nat.mul_pos (by omega) (Nat.two_pow_pos _)
    rw [Nat.mod_eq_of_lt hlt] at h2
    omega
  by_cases c2 : 1076 < r / 4503599627370496
  · rw [if_pos (Or.inr c2), if_neg]
    rintro ⟨h1, h2, h3⟩
    omega
  rw [if_neg (show ¬ (r / 4503599627370496 < 1023 ∨ 1076 < r / 4503599627370496) by omega)]
  have hxne : x ≠ 9223372036854775808 := by omega
  by_cases c3 : r / 4503599627370496 = 1076
  · rw [if_pos c3]
    by_cases c4 : r % 4503599627370496 = 0
    · have hr : r = 4845873199050653696 := by omega
      subst hr
      have hvv : vl 4845873199050653696 = 9007199254740992 * pw 1074 := by decide +kernel
      rw [if_pos c4, hvv, Nat.mul_mod_left, Nat.mul_div_cancel _ (pw_pos _), if_pos ⟨by omega, rfl, hxne⟩]
    · rw [if_neg c4, if_neg]
      rintro ⟨h1, h2, h3⟩
      omega
  · rw [if_neg c3]
    have hsplit : pw 1074 = 2 ^ (1075 - r / 4503599627370496) * 2 ^ (r / 4503599627370496 - 1) := pw_split (by omega)
    rw [hv, hsplit, Nat.mul_mod_mul_right, Nat.mul_div_mul_right _ _ (Nat.two_pow_pos _)]
    have hp := Nat.two_pow_pos (r / 4503599627370496 - 1)
    by_cases c4 : (4503599627370496 + r % 4503599627370496) % 2 ^ (1075 - r / 4503599627370496) = 0
    · rw [if_pos c4, if_pos ⟨by omega, by rw [c4, Nat.zero_mul], hxne⟩]
    · rw [if_neg c4, if_neg]
      rintro ⟨h1, h2, h3⟩
      rcases Nat.mul_eq_zero.1 h2 with h | h
      · exact c4 h
      · omega
end Go.Proofs.Ytfpmbkdijechaaa.Flt
