/-
  Plain lemmas on rows of bits as one number: its bytes, how a number is put behind, how one is got. No program in sight.
-/
import Derived.Below
namespace Go.Proofs.YthcoiaigmndohaaDoor.BitM

theorem pow256 (q : Nat) : 256 ^ q = 2 ^ (8 * q) := by
  have : (256 : Nat) = 2 ^ 8 := by decide
  rw [this, ← Nat.pow_mul]

/-- Byte j of a number. -/
def byteN (N j : Nat) : Nat := N / 256 ^ j % 256
theorem byteN_lt (N j : Nat) : byteN N j < 256 := Nat.mod_lt _ (by decide)

/-- The first bytes of a number. -/
def bytesL (N len : Nat) : List Int := (List.range len).map (fun j => ((byteN N j : Nat) : Int))
theorem bytesL_len (N len : Nat) : (bytesL N len).length = len := by simp [bytesL]
theorem bytesL_get {N len j : Nat} (h : j < len) : (bytesL N len)[j]? = some ((byteN N j : Nat) : Int) := by
  unfold bytesL
  rw [List.getElem?_map, List.getElem?_range h]
  rfl

theorem or_add {a i : Nat} (h : a < 2 ^ i) (y : Nat) : a ||| y * 2 ^ i = a + y * 2 ^ i := by
  have := Nat.shiftLeft_add_eq_or_of_lt h y
  rw [Nat.shiftLeft_eq] at this
  rw [Nat.or_comm, ← this, Nat.add_comm]

theorem mul_mod_pow {a : Nat} (ha : a ≤ 8) (r : Nat) : r * 2 ^ a % 256 = r % 2 ^ (8 - a) * 2 ^ a := by
  have e : (256 : Nat) = 2 ^ (8 - a) * 2 ^ a := by
    rw [← Nat.pow_add, Nat.sub_add_cancel ha]
  rw [e, Nat.mul_mod_mul_right]

theorem byte_low {N c q a j : Nat} (h : j < q) : byteN (N + c * 2 ^ (8 * q + a)) j = byteN N j := by
  unfold byteN
  have e : 2 ^ (8 * q + a) = 256 ^ j * (256 * (256 ^ (q - j - 1) * 2 ^ a)) := by
    rw [← Nat.mul_assoc 256, ← Nat.pow_succ', ← Nat.mul_assoc, ← Nat.pow_add, pow256, ← Nat.pow_add]
    congr 1
    omega
  rw [e, ← Nat.mul_assoc, Nat.mul_comm c, Nat.mul_assoc, Nat.add_mul_div_left _ _ (Nat.pow_pos (by decide)), ← Nat.mul_assoc, Nat.mul_comm c 256, Nat.mul_assoc, Nat.add_mul_mod_self_left]

theorem top_lt {N q a : Nat} (h : N < 2 ^ (8 * q + a)) : N / 256 ^ q < 2 ^ a := by
  rw [Nat.div_lt_iff_lt_mul (Nat.pow_pos (by decide)), pow256, ← Nat.pow_add, Nat.add_comm]
  exact h

theorem byte_top {N c q a s : Nat} (hN : N < 2 ^ (8 * q + a)) (hc : c < 2 ^ s) (has : a + s ≤ 8) : byteN (N + c * 2 ^ (8 * q + a)) q = N / 256 ^ q + c * 2 ^ a := by
  unfold byteN
  have e : 2 ^ (8 * q + a) = 256 ^ q * 2 ^ a := by rw [pow256, ← Nat.pow_add]
  rw [e, Nat.mul_comm (256 ^ q), ← Nat.mul_assoc, Nat.add_mul_div_right _ _ (Nat.pow_pos (by decide))]
  apply Nat.mod_eq_of_lt
  have h1 := top_lt hN
  have h2 : (c + 1) * 2 ^ a ≤ 2 ^ s * 2 ^ a := Nat.mul_le_mul_right _ hc
  have h3 : 2 ^ s * 2 ^ a ≤ 2 ^ 8 := by
    rw [← Nat.pow_add]; exact Nat.pow_le_pow_right (by decide) (by omega)
  rw [Nat.add_mul] at h2
  omega

/-- **One step of Put**: the last byte is filled up with the lowest bits of what is left. -/
theorem bytes_step {N r q a s : Nat} (hN : N < 2 ^ (8 * q + a)) (hs : 1 ≤ s) (has : a + s ≤ 8) (hr : s = 8 - a ∨ r < 2 ^ s) :
    (bytesL N (q + 1)).set q (((byteN N q ||| r * 2 ^ a % 256 : Nat) : Nat) : Int) = bytesL (N + r % 2 ^ s * 2 ^ (8 * q + a)) (q + 1) := by
  have htop := top_lt hN
  have hb : byteN N q = N / 256 ^ q := by
    unfold byteN
    apply Nat.mod_eq_of_lt
    have : 2 ^ a ≤ 2 ^ 8 := Nat.pow_le_pow_right (by decide) (by omega)
    omega
  have hrs : r % 2 ^ (8 - a) = r % 2 ^ s := by
    rcases hr with h | h
    · rw [h]
    · have : 2 ^ s ≤ 2 ^ (8 - a) := Nat.pow_le_pow_right (by decide) (by omega)
      rw [Nat.mod_eq_of_lt h, Nat.mod_eq_of_lt (by omega)]
  have hc : r % 2 ^ s < 2 ^ s := Nat.mod_lt _ (Nat.two_pow_pos _)
  rw [hb, mul_mod_pow (by omega), hrs, or_add htop]
  apply List.ext_getElem?
  intro j
  by_cases hj : j < q + 1
  · rw [bytesL_get hj]
    by_cases hjq : j = q
    · subst hjq
      rw [List.getElem?_set_self (by rw [bytesL_len]; omega), byte_top hN hc has]
    · rw [List.getElem?_set_ne (by omega), bytesL_get hj, byte_low (by omega)]
  · rw [List.getElem?_eq_none (by rw [List.length_set, bytesL_len]; omega), List.getElem?_eq_none (by rw [bytesL_len]; omega)]

/-- A byte of nought behind. -/
theorem bytes_more {N q : Nat} (hN : N < 2 ^ (8 * q)) : bytesL N q ++ [0] = bytesL N (q + 1) := by
  unfold bytesL
  rw [List.range_succ, List.map_append]
  congr 1
  have : byteN N q = 0 := by
    unfold byteN
    rw [pow256, Nat.div_eq_of_lt hN]
  simp [this]

/-- The number grows, and fits its bits. -/
theorem fit_step {N r n s : Nat} (hN : N < 2 ^ n) : N + r % 2 ^ s * 2 ^ n < 2 ^ (n + s) := by
  have hc : r % 2 ^ s < 2 ^ s := Nat.mod_lt _ (Nat.two_pow_pos _)
  have h2 : (r % 2 ^ s + 1) * 2 ^ n ≤ 2 ^ s * 2 ^ n := Nat.mul_le_mul_right _ hc
  rw [Nat.add_mul] at h2
  rw [Nat.pow_add, Nat.mul_comm (2 ^ n)]
  omega

/-- What was put in two steps was put in one. -/
theorem put_two {X N n d s : Nat} : N + X % 2 ^ d * 2 ^ n + X / 2 ^ d % 2 ^ s * 2 ^ (n + d) = N + X % 2 ^ (d + s) * 2 ^ n := by
  have h : X % 2 ^ (d + s) = X % 2 ^ d + 2 ^ d * (X / 2 ^ d % 2 ^ s) := by
    rw [Nat.pow_add, Nat.mod_mul]
  rw [h, Nat.add_mul, Nat.pow_add, Nat.add_assoc]
  congr 2
  rw [Nat.mul_comm (2 ^ d), Nat.mul_assoc, Nat.mul_comm (2 ^ d)]

/-- The number of bytes. -/
def ofBytes : List Int → Nat
  | [] => 0
  | z :: r => z.toNat + 256 * ofBytes r

theorem ofBytes_lt : ∀ (l : List Int), (∀ z ∈ l, 0 ≤ z ∧ z < 256) → ofBytes l < 256 ^ l.length
  | [], _ => by simp [ofBytes]
  | z :: r, h => by
    have ih := ofBytes_lt r (fun x hx => h x (List.mem_cons_of_mem _ hx))
    have hz := h z (List.mem_cons_self ..)
    simp only [ofBytes, List.length_cons, Nat.pow_succ]
    omega

theorem byte_of : ∀ (l : List Int) (j : Nat), (∀ z ∈ l, 0 ≤ z ∧ z < 256) → (hj : j < l.length) → ((byteN (ofBytes l) j : Nat) : Int) = l[j]
  | z :: r, 0, h, _ => by
    have hz := h z (List.mem_cons_self ..)
    simp only [byteN, ofBytes, Nat.pow_zero, Nat.div_one, List.getElem_cons_zero]
    omega
  | z :: r, j + 1, h, hj => by
    have hz := h z (List.mem_cons_self ..)
    have ih := byte_of r j (fun x hx => h x (List.mem_cons_of_mem _ hx)) (by simpa using hj)
    simp only [List.getElem_cons_succ]
    rw [← ih]
    simp only [byteN, ofBytes]
    have e : (z.toNat + 256 * ofBytes r) / 256 ^ (j + 1) = ofBytes r / 256 ^ j := by
      rw [Nat.pow_succ', ← Nat.div_div_eq_div_mul]
      congr 1
      omega
    rw [e]

theorem bytesL_of (l : List Int) (h : ∀ z ∈ l, 0 ≤ z ∧ z < 256) : bytesL (ofBytes l) l.length = l := by
  apply List.ext_getElem
  · rw [bytesL_len]
  · intro j h1 h2
    have := bytesL_get (N := ofBytes l) h2
    rw [List.getElem?_eq_getElem h1] at this
    injection this with this
    rw [this, byte_of l j h h2]

/-- **One step of Get**: the bits of a byte are the number's bits at that place. -/
theorem get_part {N at_ s : Nat} (h : at_ % 8 + s ≤ 8) : byteN N (at_ / 8) / 2 ^ (at_ % 8) % 2 ^ s = N / 2 ^ at_ % 2 ^ s := by
  have e : at_ = 8 * (at_ / 8) + at_ % 8 := by omega
  generalize at_ / 8 = q at *
  generalize at_ % 8 = a at *
  subst e
  unfold byteN
  rw [Nat.pow_add, ← pow256, ← Nat.div_div_eq_div_mul]
  generalize N / 256 ^ q = M
  have e8 : (256 : Nat) = 2 ^ a * 2 ^ (8 - a) := by
    rw [← Nat.pow_add]
    have : a + (8 - a) = 8 := by omega
    rw [this]
  rw [e8, Nat.mod_mul_right_div_self]
  exact Nat.mod_mod_of_dvd _ (Nat.pow_dvd_pow 2 (by omega))

/-- What was got in two steps was got in one. -/
theorem get_two (M d s : Nat) : M % 2 ^ d + M / 2 ^ d % 2 ^ s * 2 ^ d = M % 2 ^ (d + s) := by
  rw [Nat.pow_add, Nat.mod_mul, Nat.mul_comm]
theorem get_or {M d s : Nat} : M % 2 ^ d ||| (M / 2 ^ d % 2 ^ s) * 2 ^ d = M % 2 ^ (d + s) := by
  rw [or_add (Nat.mod_lt _ (Nat.two_pow_pos _)), get_two]

/-- What was put is got. -/
theorem got_put {N X n W : Nat} (hN : N < 2 ^ n) (hX : X < 2 ^ W) (hi : Nat) : (N + X * 2 ^ n + hi * 2 ^ (n + W)) / 2 ^ n % 2 ^ W = X := by
  have e : N + X * 2 ^ n + hi * 2 ^ (n + W) = N + (X + hi * 2 ^ W) * 2 ^ n := by
    rw [Nat.pow_add, Nat.add_mul, Nat.add_assoc, Nat.mul_assoc, Nat.mul_comm (2 ^ W)]
  rw [e, Nat.add_mul_div_right _ _ (Nat.two_pow_pos _), Nat.div_eq_of_lt hN, Nat.zero_add, Nat.add_mul_mod_self_right, Nat.mod_eq_of_lt hX]
end Go.Proofs.YthcoiaigmndohaaDoor.BitM
