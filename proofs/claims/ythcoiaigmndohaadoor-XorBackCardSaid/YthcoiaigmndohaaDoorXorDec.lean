/-
  Plain: what a block's form is read as, step by step; what is written is read as it was. No program in sight.
-/
import Derived.Test.YthcoiaigmndohaaDoorXorModel
namespace Go.Proofs.YthcoiaigmndohaaDoor
open BitM

/-- The bits between a window's noughts are read. -/
def payN (N T at_ : Nat) (v : Win) : Except Nat (Nat × Nat × Win) :=
  if T < at_ + (64 - v.t - v.e) then .error 1 else .ok (N / 2 ^ at_ % 2 ^ (64 - v.t - v.e) * 2 ^ v.e, at_ + (64 - v.t - v.e), v)

/-- A number is read: the number, where reading stands then, and the window; or what is wrong. -/
def readN (N T at_ : Nat) (v : Win) : Except Nat (Nat × Nat × Win) :=
  if T < at_ + 1 then .error 1
  else if N / 2 ^ at_ % 2 ^ 1 = 0 then .ok (0, at_ + 1, v)
  else if T < at_ + 2 then .error 1
  else if N / 2 ^ (at_ + 1) % 2 ^ 1 = 0 then (if v.is = true then payN N T (at_ + 2) v else .error 3)
  else if T < at_ + 13 then .error 1
  else if 64 < N / 2 ^ (at_ + 2) % 2 ^ 5 + (N / 2 ^ (at_ + 7) % 2 ^ 6 + 1) then .error 4
  else payN N T (at_ + 13) ⟨N / 2 ^ (at_ + 2) % 2 ^ 5, 64 - N / 2 ^ (at_ + 2) % 2 ^ 5 - (N / 2 ^ (at_ + 7) % 2 ^ 6 + 1), true⟩

/-- So many numbers are read, behind a number and a window. -/
def decGo (N T : Nat) : Nat → Nat → Win → Nat → List Nat → Except Nat (Nat × List Nat)
  | 0, at_, _, _, acc => .ok (at_, acc)
  | k + 1, at_, v, last, acc =>
    match readN N T at_ v with
    | .error e => .error e
    | .ok (x, at2, v2) => decGo N T k at2 v2 (last ^^^ x) (acc ++ [last ^^^ x])

/-- What is left is looked at. -/
def decEnd (N T : Nat) : Except Nat (Nat × List Nat) → Nat × List Nat
  | .error e => (e, [])
  | .ok (z, l) => if 8 ≤ T - z then (2, []) else if N / 2 ^ z % 2 ^ (T - z) = 0 then (0, l) else (3, [])

/-- A block is read: the error's number, the reals' bits. -/
def decM (N T : Nat) (n : Int) : Nat × List Nat :=
  if ¬ (1 ≤ n ∧ n ≤ 1024) then (7, [])
  else if T < 64 then (1, [])
  else decEnd N T (decGo N T (n.toNat - 1) 64 ⟨0, 0, false⟩ (N / 2 ^ 0 % 2 ^ 64) [N / 2 ^ 0 % 2 ^ 64])

theorem payN_ok {N T at_ : Nat} {v : Win} (hv : v.Ok) {x z : Nat} {v2 : Win} (h : payN N T at_ v = .ok (x, z, v2)) : v2 = v ∧ Fits x ∧ at_ ≤ z ∧ z ≤ T := by
  unfold payN at h
  split at h
  · cases h
  · rename_i hT
    injection h with h
    injection h with h1 h2
    injection h2 with h2 h3
    subst h1; subst h2; subst h3
    refine ⟨rfl, ?_, by omega, by omega⟩
    have hlt := Nat.mod_lt (N / 2 ^ at_) (Nat.two_pow_pos (64 - v.t - v.e))
    have := Nat.mul_lt_mul_of_pos_right hlt (Nat.two_pow_pos v.e)
    rw [← Nat.pow_add] at this
    have h64 : 2 ^ (64 - v.t - v.e + v.e) ≤ 2 ^ 64 := Nat.pow_le_pow_right (by decide) (by have := hv.2; omega)
    unfold Fits
    omega

theorem readN_ok {N T at_ : Nat} {v : Win} (hv : v.Ok) {x z : Nat} {v2 : Win} (h : readN N T at_ v = .ok (x, z, v2)) : v2.Ok ∧ Fits x ∧ at_ ≤ z ∧ z ≤ T := by
  unfold readN at h
  split at h
  · cases h
  split at h
  · injection h with h
    injection h with h1 h2
    injection h2 with h2 h3
    subst h1; subst h2; subst h3
    exact ⟨hv, by unfold Fits; omega, by omega, by omega⟩
  split at h
  · cases h
  split at h
  · split at h
    · obtain ⟨rfl, h1, h2, h3⟩ := payN_ok hv h
      exact ⟨hv, h1, by omega, h3⟩
    · cases h
  split at h
  · cases h
  split at h
  · cases h
  · rename_i h64
    have h5 : N / 2 ^ (at_ + 2) % 2 ^ 5 < 2 ^ 5 := Nat.mod_lt _ (by decide)
    have hok : Win.Ok ⟨N / 2 ^ (at_ + 2) % 2 ^ 5, 64 - N / 2 ^ (at_ + 2) % 2 ^ 5 - (N / 2 ^ (at_ + 7) % 2 ^ 6 + 1), true⟩ := by
      refine ⟨?_, ?_⟩
      · show N / 2 ^ (at_ + 2) % 2 ^ 5 ≤ 31
        omega
      · show N / 2 ^ (at_ + 2) % 2 ^ 5 + (64 - N / 2 ^ (at_ + 2) % 2 ^ 5 - (N / 2 ^ (at_ + 7) % 2 ^ 6 + 1)) ≤ 63
        omega
    obtain ⟨rfl, h1, h2, h3⟩ := payN_ok hok h
    exact ⟨hok, h1, by omega, h3⟩

/-- The errors of reading. -/
theorem readN_err {N T at_ : Nat} {v : Win} {e : Nat} (h : readN N T at_ v = .error e) : e = 1 ∨ e = 3 ∨ e = 4 := by
  have hp : ∀ a v, payN N T a v = .error e → e = 1 := by
    intro a v h
    unfold payN at h
    split at h
    · injection h with h; exact h.symm
    · cases h
  unfold readN at h
  split at h
  · injection h with h; exact .inl h.symm
  split at h
  · cases h
  split at h
  · injection h with h; exact .inl h.symm
  split at h
  · split at h
    · exact .inl (hp _ _ h)
    · injection h with h; exact .inr (.inl h.symm)
  split at h
  · injection h with h; exact .inl h.symm
  split at h
  · injection h with h; exact .inr (.inr h.symm)
  · exact .inl (hp _ _ h)

/-- At a place of a number, as far as it goes, these bits lie. -/
def Lies (N T : Nat) : Nat → List Bool → Prop
  | _, [] => True
  | a, b :: r => (a < T → bitN N a = b) ∧ Lies N T (a + 1) r

theorem lies_append {N T : Nat} : ∀ {s r : List Bool} {a : Nat}, Lies N T a (s ++ r) → Lies N T a s ∧ Lies N T (a + s.length) r
  | [], r, a, h => ⟨trivial, h⟩
  | b :: s, r, a, h => by
    obtain ⟨h1, h2⟩ := h
    obtain ⟨h3, h4⟩ := lies_append h2
    refine ⟨⟨h1, h3⟩, ?_⟩
    rw [List.length_cons, show a + (s.length + 1) = a + 1 + s.length by omega]
    exact h4

/-- Such bits are read. -/
theorem lies_read {N T : Nat} : ∀ {s : List Bool} {a : Nat}, Lies N T a s → a + s.length ≤ T → N / 2 ^ a % 2 ^ s.length = boolsN s
  | [], a, _, _ => by simp [boolsN, Nat.mod_one]
  | b :: s, a, h, hT => by
    rw [List.length_cons] at hT ⊢
    have h1 := h.1 (by omega)
    have h2 := lies_read h.2 (by omega)
    rw [num_down, h1, h2, boolsN, Nat.add_comm]

theorem lies_bits {N T X W a : Nat} (h : Lies N T a (bitsL X W)) (hT : a + W ≤ T) : N / 2 ^ a % 2 ^ W = X % 2 ^ W := by
  have := lies_read h (by rw [bitsL_len]; exact hT)
  rw [bitsL_len, boolsN_bits] at this
  exact this

theorem bitN_zero (b : Bool) (r : List Bool) : bitN (boolsN (b :: r)) 0 = b := by
  cases b <;> simp [bitN, boolsN] <;> omega
theorem bitN_succ (b : Bool) (r : List Bool) (k : Nat) : bitN (boolsN (b :: r)) (k + 1) = bitN (boolsN r) k := by
  have hb : b.toNat ≤ 1 := Bool.toNat_le b
  unfold bitN
  rw [Nat.pow_succ', ← Nat.div_div_eq_div_mul]
  have : boolsN (b :: r) / 2 = boolsN r := by simp only [boolsN]; omega
  rw [this]

theorem lies_of {N T : Nat} : ∀ {b : List Bool} {a : Nat}, (∀ k, k < b.length → a + k < T → bitN N (a + k) = bitN (boolsN b) k) → Lies N T a b
  | [], _, _ => trivial
  | b :: r, a, h => by
    refine ⟨fun ha => ?_, lies_of fun k hk hT => ?_⟩
    · have := h 0 (by simp) (by omega)
      rw [bitN_zero] at this
      exact this
    · have := h (k + 1) (by simp; omega) (by omega)
      rw [bitN_succ] at this
      rw [← this, show a + 1 + k = a + (k + 1) by omega]

theorem bitN_mod {N T k : Nat} (h : k < T) : bitN (N % 2 ^ T) k = bitN N k := by
  unfold bitN
  rw [← Nat.testBit_eq_decide_div_mod_eq, ← Nat.testBit_eq_decide_div_mod_eq, Nat.testBit_mod_two_pow, decide_eq_true h, Bool.true_and]

/-- The bits that were written lie there, however many bytes are looked at. -/
theorem lies_cut (b : List Bool) (T : Nat) : Lies (boolsN b % 2 ^ T) T 0 b :=
  lies_of fun k _ hT => by rw [Nat.zero_add] at hT ⊢; exact bitN_mod hT

theorem one_bit {N T a : Nat} {b : Bool} {r : List Bool} (h : Lies N T a (b :: r)) (hT : a < T) : N / 2 ^ a % 2 ^ 1 = b.toNat := by
  have h1 := h.1 hT
  rw [← h1, bit_nat, Nat.pow_one]

/-- What lies in a window is told back. -/
theorem pay_back {x t e : Nat} (hlt : x < 2 ^ (64 - t)) (hte : t + e ≤ 63) (hd : e ≤ tzN x) (h0 : x ≠ 0) (h : Fits x) : x / 2 ^ e % 2 ^ (64 - t - e) * 2 ^ e = x := by
  have hw := win_of h0 h
  have h1 : x / 2 ^ e < 2 ^ (64 - t - e) := by
    rw [show 64 - t = (64 - t - e) + e by omega, Nat.pow_add] at hlt
    exact (Nat.div_lt_iff_lt_mul (Nat.two_pow_pos e)).2 hlt
  rw [Nat.mod_eq_of_lt h1]
  have hdv : 2 ^ e ∣ x := Nat.dvd_trans (Nat.pow_dvd_pow 2 hd) ⟨x / 2 ^ tzN x, hw.2.2.symm⟩
  exact Nat.div_mul_cancel hdv

theorem payN_back {N T a : Nat} {v : Win} {x : Nat} {r : List Bool} (hv : v.Ok) (hlt : x < 2 ^ (64 - v.t)) (hd : v.e ≤ tzN x) (h0 : x ≠ 0) (h : Fits x) (hl : Lies N T a (bitsL (x / 2 ^ v.e) (64 - v.t - v.e) ++ r)) :
    payN N T a v = if a + (64 - v.t - v.e) ≤ T then .ok (x, a + (64 - v.t - v.e), v) else .error 1 := by
  unfold payN
  by_cases hT : a + (64 - v.t - v.e) ≤ T
  · rw [if_neg (by omega), if_pos hT]
    have h1 := lies_bits (lies_append hl).1 hT
    rw [h1, pay_back hlt hv.2 hd h0 h]
  · rw [if_pos (by omega), if_neg hT]

/-- **What is written is read as it was**, as far as the bytes go. -/
theorem read_next {N T a : Nat} {v : Win} {x : Nat} {r : List Bool} (hv : v.Ok) (hx : Fits x) (hl : Lies N T a (nextB x v ++ r)) :
    readN N T a v = if a + (nextB x v).length ≤ T then .ok (x, a + (nextB x v).length, nextW x v) else .error 1 := by
  unfold nextB at hl
  unfold nextB nextW
  by_cases h0 : x = 0
  · rw [if_pos h0] at hl
    rw [if_pos h0, if_pos h0]
    subst h0
    unfold readN
    by_cases h1 : a + 1 ≤ T
    · have hb := one_bit hl (by omega)
      rw [if_neg (by omega), if_pos (by rw [hb]; rfl), List.length_singleton, if_pos h1]
    · rw [if_pos (by omega), List.length_singleton, if_neg h1]
  · rw [if_neg h0] at hl
    rw [if_neg h0, if_neg h0]
    have hw := win_of h0 hx
    split at hl
    · rename_i hh
      rw [if_pos hh, if_pos hh]
      simp only [Bool.and_eq_true, decide_eq_true_eq] at hh
      obtain ⟨his, ht, he⟩ := hh
      rw [List.length_append, bitsL_len]
      unfold readN
      by_cases h1 : a + 1 ≤ T
      · have hb := one_bit hl (by omega)
        rw [if_neg (by omega), if_neg (by rw [hb]; decide)]
        by_cases h2 : a + 2 ≤ T
        · have hb2 := one_bit hl.2 (by omega)
          have hp := payN_back (N := N) (T := T) (a := a + 2) (x := x) (r := r) hv (Nat.lt_of_lt_of_le hw.2.1 (Nat.pow_le_pow_right (by decide) (by omega))) he h0 hx hl.2.2
          rw [if_neg (by omega), if_pos (by rw [hb2]; rfl), if_pos his, hp]
          have e2 : a + ([true, false].length + (64 - v.t - v.e)) = a + 2 + (64 - v.t - v.e) := by simp; omega
          rw [e2]
        · rw [if_pos (by omega), if_neg (by simp; omega)]
      · rw [if_pos (by omega), if_neg (by simp; omega)]
    · rename_i hh
      rw [if_neg hh, if_neg hh]
      obtain ⟨z, hz⟩ : ∃ z, tzN x = z := ⟨_, rfl⟩
      obtain ⟨t, ht⟩ : ∃ t, min 31 (lzN x) = t := ⟨_, rfl⟩
      have htl : t ≤ 31 := by omega
      have htz : t + z ≤ 63 := by omega
      have hxt : x < 2 ^ (64 - t) := Nat.lt_of_lt_of_le hw.2.1 (Nat.pow_le_pow_right (by decide) (by omega))
      have hzz : z ≤ tzN x := by omega
      rw [ht, hz] at hl ⊢
      clear hh ht hz hw
      simp only [List.length_append, bitsL_len, List.length_cons, List.length_nil]
      unfold readN
      by_cases h1 : a + 1 ≤ T
      · simp only [List.append_assoc] at hl
        have hb := one_bit hl (by omega)
        rw [if_neg (by omega), if_neg (by rw [hb]; decide)]
        by_cases h2 : a + 2 ≤ T
        · have hb2 := one_bit hl.2 (by omega)
          rw [if_neg (by omega), if_neg (by rw [hb2]; decide)]
          have hl1 : Lies N T (a + 1 + 1) (bitsL t 5 ++ (bitsL (63 - t - z) 6 ++ (bitsL (x / 2 ^ z) (64 - t - z) ++ r))) := hl.2.2
          have hl2 := lies_append hl1
          rw [bitsL_len] at hl2
          have hl3 := lies_append hl2.2
          rw [bitsL_len] at hl3
          by_cases h3 : a + 13 ≤ T
          · have n1 := lies_bits hl2.1 (by omega)
            have n2 := lies_bits hl3.1 (by omega)
            rw [show a + 1 + 1 = a + 2 by omega, Nat.mod_eq_of_lt (show t < 2 ^ 5 by omega)] at n1
            rw [show a + 1 + 1 + 5 = a + 7 by omega, Nat.mod_eq_of_lt (show 63 - t - z < 2 ^ 6 by omega)] at n2
            have hp := payN_back (N := N) (T := T) (a := a + 13) (v := ⟨t, z, true⟩) (x := x) (r := r) ⟨htl, htz⟩ hxt hzz h0 hx (by have := hl3.2; rw [show a + 1 + 1 + 5 + 6 = a + 13 by omega] at this; exact this)
            rw [if_neg (by omega), n1, n2, if_neg (by omega), show 64 - t - (63 - t - z + 1) = z by omega, hp]
            have e2 : a + (0 + 1 + 1 + 5 + 6 + (64 - t - z)) = a + 13 + (64 - t - z) := by omega
            rw [e2]
          · rw [if_pos (by omega), if_neg (by omega)]
        · rw [if_pos (by omega), if_neg (by omega)]
      · rw [if_pos (by omega), if_neg (by omega)]
end Go.Proofs.YthcoiaigmndohaaDoor
