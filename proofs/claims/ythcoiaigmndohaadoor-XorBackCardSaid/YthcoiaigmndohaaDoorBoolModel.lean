/-
  Plain lemmas: bits one by one, as one number. No program in sight.
-/
import Derived.Test.YthcoiaigmndohaaDoorBitModel
namespace Go.Proofs.YthcoiaigmndohaaDoor.BitM

/-- The number of bits. -/
def boolsN : List Bool → Nat
  | [] => 0
  | b :: r => b.toNat + 2 * boolsN r

theorem boolsN_lt : ∀ (l : List Bool), boolsN l < 2 ^ l.length
  | [] => by simp [boolsN]
  | b :: r => by
    have ih := boolsN_lt r
    have hb : b.toNat ≤ 1 := Bool.toNat_le b
    simp only [boolsN, List.length_cons, Nat.pow_succ]
    omega

theorem boolsN_append : ∀ (l m : List Bool), boolsN (l ++ m) = boolsN l + boolsN m * 2 ^ l.length
  | [], m => by simp [boolsN]
  | b :: r, m => by
    simp only [List.cons_append, boolsN, boolsN_append r m, List.length_cons, Nat.pow_succ]
    rw [Nat.mul_add, Nat.add_assoc, Nat.mul_comm (2 ^ r.length) 2, Nat.mul_left_comm]

/-- A number's lowest bits. -/
def bitsL (X W : Nat) : List Bool := (List.range W).map (fun i => decide (X / 2 ^ i % 2 = 1))
theorem bitsL_len (X W : Nat) : (bitsL X W).length = W := by simp [bitsL]
theorem bitsL_succ (X W : Nat) : bitsL X (W + 1) = bitsL X W ++ [decide (X / 2 ^ W % 2 = 1)] := by simp [bitsL, List.range_succ]
theorem boolsN_bits (X : Nat) : ∀ (W : Nat), boolsN (bitsL X W) = X % 2 ^ W
  | 0 => by simp [bitsL, boolsN, Nat.mod_one]
  | W + 1 => by
    rw [bitsL_succ, boolsN_append, boolsN_bits X W, bitsL_len, ← get_two X W 1]
    congr 2
    have h : X / 2 ^ W % 2 < 2 := Nat.mod_lt _ (by decide)
    simp only [boolsN, Nat.pow_one]
    by_cases h1 : X / 2 ^ W % 2 = 1
    · simp [h1]
    · have h0 : X / 2 ^ W % 2 = 0 := by omega
      simp [h0]

/-- A bit more is put. -/
theorem bytes_bit {N q a len : Nat} (hN : N < 2 ^ (8 * q + a)) (ha : a < 8) (hq : q < len) :
    (bytesL N len).set q ((byteN N q + 2 ^ a : Nat) : Int) = bytesL (N + 2 ^ (8 * q + a)) len := by
  have htop := top_lt hN
  have hb : byteN N q = N / 256 ^ q := by
    unfold byteN
    apply Nat.mod_eq_of_lt
    have : 2 ^ a ≤ 2 ^ 8 := Nat.pow_le_pow_right (by decide) (by omega)
    omega
  have h2 : 2 ^ (8 * q + a) ≤ 2 ^ (8 * q + 7) := Nat.pow_le_pow_right (by decide) (by omega)
  have h3 : 2 ^ (8 * q + 8) = 2 * 2 ^ (8 * q + 7) := by rw [← Nat.pow_succ']
  apply List.ext_getElem?
  intro j
  by_cases hj : j < len
  · rw [bytesL_get hj]
    rcases Nat.lt_trichotomy j q with h | h | h
    · rw [List.getElem?_set_ne (by omega), bytesL_get hj]
      have := byte_low (N := N) (c := 1) (q := q) (a := a) h
      rw [Nat.one_mul] at this
      rw [this]
    · subst h
      have := byte_top (s := 1) (c := 1) hN (by decide) (by omega)
      rw [Nat.one_mul, Nat.one_mul] at this
      rw [List.getElem?_set_self (by rw [bytesL_len]; omega), this, hb]
    · rw [List.getElem?_set_ne (by omega), bytesL_get hj]
      have hp : 2 ^ (8 * q + 8) ≤ 256 ^ j := by rw [pow256]; exact Nat.pow_le_pow_right (by decide) (by omega)
      unfold byteN
      rw [Nat.div_eq_of_lt (by omega), Nat.div_eq_of_lt (by omega)]
  · rw [List.getElem?_eq_none (by rw [List.length_set, bytesL_len]; omega), List.getElem?_eq_none (by rw [bytesL_len]; omega)]

theorem byte_small {N q a : Nat} (hN : N < 2 ^ (8 * q + a)) (ha : a < 8) : byteN N q + 2 ^ a < 256 := by
  have htop := top_lt hN
  have hb : byteN N q ≤ N / 256 ^ q := Nat.mod_le _ _
  have h2 : 2 ^ (a + 1) ≤ 2 ^ 8 := Nat.pow_le_pow_right (by decide) (by omega)
  rw [Nat.pow_succ] at h2
  omega

theorem boolsN_take {l : List Bool} {i : Nat} (h : i < l.length) : boolsN (l.take (i + 1)) = boolsN (l.take i) + (l[i]).toNat * 2 ^ i := by
  rw [List.take_succ_eq_append_getElem h, boolsN_append, List.length_take, Nat.min_eq_left (by omega)]
  simp [boolsN]

/-- A bit of a number. -/
def bitN (N k : Nat) : Bool := decide (N / 2 ^ k % 2 = 1)
theorem bit_byte (N k : Nat) : byteN N (k / 8) / 2 ^ (k % 8) % 2 = N / 2 ^ k % 2 := by
  have := get_part (N := N) (at_ := k) (s := 1) (by omega)
  simpa using this
theorem bit_nat (N k : Nat) : (bitN N k).toNat = N / 2 ^ k % 2 := by
  have h : N / 2 ^ k % 2 < 2 := Nat.mod_lt _ (by decide)
  unfold bitN
  by_cases h1 : N / 2 ^ k % 2 = 1
  · simp [h1]
  · have h0 : N / 2 ^ k % 2 = 0 := by omega
    simp [h0]

/-- From the top bit down. -/
theorem num_down (N a s : Nat) : N / 2 ^ a % 2 ^ (s + 1) = 2 * (N / 2 ^ (a + 1) % 2 ^ s) + (bitN N a).toNat := by
  have e : N / 2 ^ a / 2 = N / 2 ^ (a + 1) := by rw [Nat.div_div_eq_div_mul, Nat.pow_succ]
  rw [bit_nat, Nat.pow_succ' (n := s), Nat.mod_mul, e]
  omega

/-- All bits of a stretch are nought if and only if its number is. -/
theorem num_zero (N a : Nat) : ∀ s : Nat, N / 2 ^ a % 2 ^ s = 0 ↔ ∀ k, a ≤ k → k < a + s → bitN N k = false := by
  intro s
  induction s with
  | zero => simp [Nat.mod_one]; intro k h1 h2; omega
  | succ s ih =>
    have h := get_two (N / 2 ^ a) s 1
    rw [Nat.div_div_eq_div_mul, ← Nat.pow_add, Nat.pow_one, ← bit_nat] at h
    have hp := Nat.two_pow_pos s
    constructor
    · intro h0 k hk hk2
      rw [h0] at h
      have e1 : N / 2 ^ a % 2 ^ s = 0 := by omega
      have e2 : (bitN N (a + s)).toNat * 2 ^ s = 0 := by omega
      by_cases hks : k = a + s
      · subst hks
        rcases Nat.mul_eq_zero.mp e2 with h1 | h1
        · cases hb : bitN N (a + s) with
          | false => rfl
          | true => rw [hb] at h1; cases h1
        · omega
      · exact ih.mp e1 k hk (by omega)
    · intro hall
      have e1 := ih.mpr (fun k h1 h2 => hall k h1 (by omega))
      rw [← h, e1, hall (a + s) (by omega) (by omega)]
      simp
end Go.Proofs.YthcoiaigmndohaaDoor.BitM
