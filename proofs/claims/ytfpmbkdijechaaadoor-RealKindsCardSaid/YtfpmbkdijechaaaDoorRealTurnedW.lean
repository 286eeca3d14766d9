/-
  The law RealTurned: its walk. Condition: the names' sixth cell holds the word tiny (out of the row's 'laid').
-/
import Derived.Test.YtfpmbkdijechaaaDoorRealAwake
import Derived.OpenShut
namespace Go.Proofs.YtfpmbkdijechaaaDoor
open Go.RowKit Flt

/-- The bits with the sign turned. -/
def flip (b : Nat) : Nat := if b < 9223372036854775808 then b + 9223372036854775808 else b - 9223372036854775808

theorem flip_fits {b : Nat} (h : Fits b) : Fits (flip b) := by
  unfold Fits at *; unfold flip; split <;> omega

theorem nat_xor_top {b : Nat} (h : b < 18446744073709551616) : b ^^^ 9223372036854775808 = flip b := by
  have e1 : (9223372036854775808 : Nat) = 2 ^ 63 := by decide
  unfold flip
  rw [e1]
  have hlt : ∀ y, y < 2 ^ 63 → y ^^^ 2 ^ 63 = y + 2 ^ 63 := by
    intro y hy
    apply Nat.eq_of_testBit_eq
    intro i
    rw [Nat.testBit_xor, Nat.testBit_two_pow, Nat.add_comm]
    by_cases h : i < 63
    · rw [Nat.testBit_two_pow_add_gt h]
      have : ¬ 63 = i := by omega
      simp [this]
    · by_cases h63 : i = 63
      · subst h63
        rw [Nat.testBit_two_pow_add_eq]; simp
      · have h1 : 2 ^ 63 + y < 2 ^ i := Nat.lt_of_lt_of_le (by omega : 2 ^ 63 + y < 2 ^ 64) (Nat.pow_le_pow_right (by omega) (by omega))
        have h2 : y < 2 ^ i := by omega
        have : ¬ 63 = i := by omega
        rw [Nat.testBit_lt_two_pow h1, Nat.testBit_lt_two_pow h2]
        simp [this]
  split
  · rename_i hb
    exact hlt b hb
  · rename_i hb
    have hy : b - 2 ^ 63 < 2 ^ 63 := by omega
    have h2 := hlt _ hy
    have h3 : b - 2 ^ 63 + 2 ^ 63 = b := by omega
    rw [h3] at h2
    rw [← h2, Nat.xor_assoc, Nat.xor_self, Nat.xor_zero, h2]

theorem bits_flip {b : Nat} (h : Fits b) : bits .xor .u64 (b : Int) 9223372036854775808 = (flip b : Int) := by
  show IntKind.u64.wrap ((BitVec.ofInt 64 (b : Int) ^^^ BitVec.ofInt 64 9223372036854775808).toNat : Int) = _
  have e4 : (BitVec.ofInt 64 (b : Int)).toNat = b := by
    rw [BitVec.ofInt_natCast, BitVec.toNat_ofNat]; exact Nat.mod_eq_of_lt (by unfold Fits at h; omega)
  have e5 : (BitVec.ofInt 64 9223372036854775808).toNat = 9223372036854775808 := by decide
  have h2 := flip_fits h
  rw [BitVec.toNat_xor, e4, e5, nat_xor_top h, IntKind.wrap_u64]
  unfold Fits at h2
  omega

theorem rank_flip {b : Nat} (h : Fits b) : rank (flip b) = -1 - rank b := by
  unfold Fits at h; unfold rank flip
  split <;> split <;> (try split) <;> omega
theorem nan_flip {b : Nat} (h : Fits b) : isNaN (flip b) = isNaN b := by
  unfold Fits at h; unfold isNaN flip
  rw [decide_eq_decide]
  split <;> omega
theorem kind_flip {b : Nat} (h : Fits b) (n : isNaN b = false) : kind (flip b) = 7 - kind b := by
  have n2 := nan_flip h
  rw [n] at n2
  have ha : absB (flip b) = absB b := by
    unfold Fits at h; unfold absB flip
    split <;> omega
  have hs : sgnB (flip b) = !sgnB b := by
    unfold Fits at h; unfold sgnB flip
    by_cases hb : b < 9223372036854775808
    · rw [if_pos hb]
      have h1 : 9223372036854775808 ≤ b + 9223372036854775808 := by omega
      have h2 : ¬ 9223372036854775808 ≤ b := by omega
      simp [h1, h2]
    · rw [if_neg hb]
      have h1 : ¬ 9223372036854775808 ≤ b - 9223372036854775808 := by omega
      have h2 : 9223372036854775808 ≤ b := by omega
      simp [h1, h2]
  unfold kind
  rw [n, n2, ha, hs]
  simp only [Bool.false_eq_true, if_false]
  cases sgnB b <;> simp <;> omega
theorem kind_nan8 {b : Nat} (n : isNaN b = true) : kind b = 8 := by unfold kind; rw [n]; rfl
theorem kind_not8 {b : Nat} (n : isNaN b = false) : (kind b == 8) = false := by
  unfold kind
  rw [n]
  simp only [Bool.false_eq_true, if_false]
  have hk : kindA (absB b) = 4 ∨ kindA (absB b) = 7 ∨ kindA (absB b) = 5 ∨ kindA (absB b) = 6 := by
    unfold kindA
    repeat (first | (split; first | exact .inl rfl | exact .inr (.inl rfl) | exact .inr (.inr (.inl rfl))) | exact .inr (.inr (.inr rfl)))
  rcases hk with hk | hk | hk | hk <;> rw [hk] <;> cases sgnB b <;> decide
theorem kind_range (b : Nat) : 0 ≤ kind b ∧ kind b ≤ 8 := by
  unfold kind kindA
  repeat (split <;> try omega)

set_option maxHeartbeats 800000 in
theorem realTurned_nat (b : Nat) (hb : Fits b) (w : World) (h : Named w) :
    Calls Tryd.prog 3 #[.int .u64 b] w fun e w' => e = .returned (.bool true) ∧ w = w' := by
  have hcall := fun n w => call_from n w
  have hflip := bits_flip hb
  have hrf := rank_flip hb
  have hrr := rank_range hb
  obtain ⟨rx, hrx⟩ : ∃ rx, rank b = rx := ⟨_, rfl⟩
  rw [hrx] at hrf hrr
  have ho1 : -9223372036854775808 ≤ -1 - rx := by omega
  have ho2 : -1 - rx ≤ 9223372036854775807 := by omega
  have HF := Lib.hid hrf
  have HX := Lib.hid hrx
  clear hrf hrx
  have hl : decide (rx < -1 - rx) = decide (rx < 0) := by rw [decide_eq_decide]; omega
  have HL := Lib.hid hl
  clear hl
  have hneB := flip_fits hb
  cases n : isNaN b
  · have hk2 := kind_flip hb n
    have hk8 := kind_not8 n
    have hkr := kind_range b
    obtain ⟨kx, hkx⟩ : ∃ kx, kind b = kx := ⟨_, rfl⟩
    rw [hkx] at hk2 hk8 hkr
    have K := Lib.hid hkx
    have K2 := Lib.hid hk2
    clear hkx hk2 n
    by_cases hneg : rx < 0
    all_goals
      go_enter Tryd.func3, Tryd.ntmps3
      go_wp2_with fail
      refine (rank_any (flip b) hneB _).mono ?_
      rw [HF.out]
      rintro e w' ⟨rfl, rfl⟩
      go_wp2_with fail
      refine (rank_any b hb _).mono ?_
      rw [HX.out]
      rintro e w' ⟨rfl, rfl⟩
      go_wp2_with fail
      refine (kind_any b hb _).mono ?_
      rw [K.out]
      rintro e w' ⟨rfl, rfl⟩
      go_wp2_with fail
      refine (kind_any (flip b) hneB _).mono ?_
      rw [K2.out]
      rintro e w' ⟨rfl, rfl⟩
      go_wp2_with fail
      refine (kind_any b hb _).mono ?_
      rw [K.out]
      rintro e w' ⟨rfl, rfl⟩
      go_wp2_with fail
      refine (less_any b (flip b) hb hneB _).mono ?_
      rw [HX.out, HF.out, HL.out]
      rintro e w' ⟨rfl, rfl⟩
      go_wp2_with fail
      refine (rank_any b hb _).mono ?_
      rw [HX.out]
      rintro e w' ⟨rfl, rfl⟩
      go_wp2_with fail
      refine (awake_any _ h).mono ?_
      rintro e w' ⟨rfl, rfl⟩
      go_wp2
      go_ret
      exact ⟨rfl, rfl⟩
  · have K := Lib.hid (kind_nan8 n)
    have n2 := nan_flip hb
    rw [n] at n2
    have K2 := Lib.hid (kind_nan8 n2)
    clear n n2
    go_enter Tryd.func3, Tryd.ntmps3
    go_wp2_with fail
    refine (rank_any (flip b) hneB _).mono ?_
    rw [HF.out]
    rintro e w' ⟨rfl, rfl⟩
    go_wp2_with fail
    refine (rank_any b hb _).mono ?_
    rw [HX.out]
    rintro e w' ⟨rfl, rfl⟩
    go_wp2_with fail
    refine (kind_any b hb _).mono ?_
    rw [K.out]
    rintro e w' ⟨rfl, rfl⟩
    go_wp2_with fail
    refine (kind_any (flip b) hneB _).mono ?_
    rw [K2.out]
    rintro e w' ⟨rfl, rfl⟩
    go_wp2_with fail
    refine (awake_any _ h).mono ?_
    rintro e w' ⟨rfl, rfl⟩
    go_wp2
    go_ret
    exact ⟨rfl, rfl⟩

theorem nat_of_u64 {a : Int} (h : (Lit.int .u64 a).wf = true) : ∃ b : Nat, a = (b : Int) ∧ Fits b := by
  have hb := bounds_u64 h
  obtain ⟨b, rfl⟩ := Int.eq_ofNat_of_zero_le hb.1
  exact ⟨b, rfl, by unfold Fits; omega⟩

theorem realTurned_walk (a : Int) (w : World) (h : Named w) (ha : (Lit.int .u64 a).wf = true) :
    Calls Tryd.prog 3 #[.int .u64 a] w fun e w' => e = .returned (.bool true) ∧ Below w.heap.size w w' := by
  obtain ⟨b, rfl, hb⟩ := nat_of_u64 ha
  exact (realTurned_nat b hb w h).mono fun _ _ ⟨he, hw⟩ => ⟨he, by subst hw; exact Below.refl _ _⟩
end Go.Proofs.YtfpmbkdijechaaaDoor
