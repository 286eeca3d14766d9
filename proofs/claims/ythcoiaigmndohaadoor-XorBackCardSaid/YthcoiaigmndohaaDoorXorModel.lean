/-
  Plain model of a block's form, bit by bit. No program in sight.
-/
import Derived.Test.YthcoiaigmndohaaDoorBoolModel
import Derived.Test.YthcoiaigmndohaaDoorXorBits
namespace Go.Proofs.YthcoiaigmndohaaDoor
open BitM

theorem bitLen_two {x : Nat} (h0 : x ≠ 0) (h : x < 18446744073709551616) : 2 ^ (Lib.bitLen x - 1) ≤ x ∧ x < 2 ^ Lib.bitLen x ∧ 0 < Lib.bitLen x ∧ Lib.bitLen x ≤ 64 := by
  have key : ∀ n x : Nat, x ≠ 0 → x < 2 ^ n → n ≤ 64 → 2 ^ (Lib.bitLen x - 1) ≤ x ∧ x < 2 ^ Lib.bitLen x ∧ 0 < Lib.bitLen x := by
    intro n
    induction n with
    | zero => intro x h0 hx _; simp at hx; omega
    | succ n ih =>
      intro x h0 hx hn
      have h64 : x < 2 ^ 64 := Nat.lt_of_lt_of_le hx (Nat.pow_le_pow_right (by decide) hn)
      have hh := Lib.bitLen_half x h0 h64
      by_cases h1 : x / 2 = 0
      · have : x = 1 := by omega
        subst this
        have hb : Lib.bitLen 1 = 1 := by decide
        rw [hb]
        decide
      · obtain ⟨a, b, c⟩ := ih (x / 2) h1 (by rw [Nat.pow_succ] at hx; omega) (by omega)
        rw [hh]
        generalize Lib.bitLen (x / 2) = k at *
        obtain ⟨m, rfl⟩ : ∃ m, k = m + 1 := ⟨k - 1, by omega⟩
        have e1 : 1 + (m + 1) - 1 = m + 1 := by omega
        have e2 : m + 1 - 1 = m := by omega
        rw [e2] at a
        rw [e1]
        refine ⟨?_, ?_, by omega⟩
        · rw [Nat.pow_succ]; omega
        · rw [show 1 + (m + 1) = (m + 1) + 1 by omega, Nat.pow_succ]; omega
  obtain ⟨a, b, c⟩ := key 64 x h0 (by omega) (Nat.le_refl _)
  exact ⟨a, b, c, Lib.bitLen_le x 64 (by omega) (by omega)⟩

/-- Where a number that is not 0 begins and ends. -/
theorem win_of {x : Nat} (h0 : x ≠ 0) (h : Fits x) : lzN x + tzN x ≤ 63 ∧ x < 2 ^ (64 - lzN x) ∧ 2 ^ tzN x * (x / 2 ^ tzN x) = x := by
  have hx : x < 18446744073709551616 := h
  obtain ⟨a, b, c, d⟩ := bitLen_two h0 hx
  obtain ⟨m, hm, hlt⟩ := Lib.ctzFrom_spec 64 x (by omega) hx
  have ht : tzN x = Lib.ctzFrom 64 x := by unfold tzN Lib.ctz; rw [if_neg h0]
  rw [ht]
  unfold lzN
  generalize Lib.ctzFrom 64 x = z at *
  generalize Lib.bitLen x = n at *
  have hz : 2 ^ z ≤ x := by rw [hm]; exact Nat.le_mul_of_pos_right _ (by omega)
  have hzn : z < n := by
    rcases Nat.lt_or_ge z n with h | h
    · exact h
    · have := Nat.pow_le_pow_right (n := 2) (by decide) h
      omega
  refine ⟨by omega, ?_, ?_⟩
  · rw [show 64 - (64 - n) = n by omega]; exact b
  · rw [hm, Nat.mul_div_cancel_left _ (Nat.two_pow_pos z)]

/-- A window: noughts at the top, at the end; is it one? -/
structure Win where
  t : Nat
  e : Nat
  is : Bool

def Win.Ok (v : Win) : Prop := v.t ≤ 31 ∧ v.t + v.e ≤ 63

/-- What is written for a number, and the window then. -/
def nextW (x : Nat) (v : Win) : Win := if x = 0 then v else if v.is && (decide (v.t ≤ min 31 (lzN x)) && decide (v.e ≤ tzN x)) then v else ⟨min 31 (lzN x), tzN x, true⟩
def nextB (x : Nat) (v : Win) : List Bool :=
  if x = 0 then [false]
  else if v.is && (decide (v.t ≤ min 31 (lzN x)) && decide (v.e ≤ tzN x)) then [true, false] ++ bitsL (x / 2 ^ v.e) (64 - v.t - v.e)
  else [true, true] ++ bitsL (min 31 (lzN x)) 5 ++ bitsL (63 - min 31 (lzN x) - tzN x) 6 ++ bitsL (x / 2 ^ tzN x) (64 - min 31 (lzN x) - tzN x)

theorem nextW_ok {x : Nat} {v : Win} (h : Fits x) (hv : v.Ok) : (nextW x v).Ok := by
  unfold nextW
  split
  · exact hv
  · rename_i h0
    split
    · exact hv
    · have := (win_of h0 h).1
      refine ⟨?_, ?_⟩
      · show min 31 (lzN x) ≤ 31; omega
      · show min 31 (lzN x) + tzN x ≤ 63; omega

/-- What is written for numbers that follow a number, and the window then. -/
def restB (last : Nat) (v : Win) : List Nat → List Bool
  | [] => []
  | x :: M => nextB (x ^^^ last) v ++ restB x (nextW (x ^^^ last) v) M
/-- A block's bits. -/
def blockB : List Nat → List Bool
  | [] => []
  | x :: M => bitsL x 64 ++ restB x ⟨0, 0, false⟩ M
end Go.Proofs.YthcoiaigmndohaaDoor
