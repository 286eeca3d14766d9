/-
  The contracts of the reference's Whole and Kind, by bits. Conditions: the bits fit 64.
-/
import Derived.Test.YtfpmbkdijechaaaRealKind
import Derived.Test.YtfpmbkdijechaaaFltWhole
import Derived.Test.YtfpmbkdijechaaaRefRank
namespace Go.Proofs.Ytfpmbkdijechaaa
open Go.RowKit Flt

/-- Cut in half so often without a rest. -/
theorem half_mod {m d : Nat} (h : m % 2 = 1) (hd : 0 < d) : m % 2 ^ d ≠ 0 := by
  obtain ⟨k, rfl⟩ : ∃ k, d = k + 1 := ⟨d - 1, by omega⟩
  intro h0
  rw [Nat.pow_succ] at h0
  have : m % 2 = 0 := by
    have h1 : m % (2 ^ k * 2) % 2 = m % 2 := Nat.mod_mul_left_mod m (2 ^ k) 2
    rw [h0] at h1
    omega
  omega

/-- A Whole's answer. -/
def wholeV (o : Option Int) : Value := .tuple #[.int .i64 (o.getD 0), .bool o.isSome]

set_option maxRecDepth 100000 in
theorem refWhole_any (b : Nat) (h : Fits b) (w : World) : Calls Try.prog 20 #[.int .u64 b] w fun e w' => e = .returned (wholeV (wholeOf b)) ∧ w = w' := by
  by_cases h0 : b = 0
  · have hw : wholeOf b = some 0 := by
      subst h0
      unfold wholeOf
      rw [if_pos ⟨by decide, by rw [show vl (0 % 9223372036854775808) = 0 from rfl, Nat.zero_mod], by decide⟩]
      rw [show vl (0 % 9223372036854775808) = 0 from rfl, Nat.zero_div]
      rfl
    rw [hw]
    subst h0
    clear hw
    go_enter Try.func20, Try.ntmps20
    go_wp2_with fail
    refine (parts_any 0 h _).mono ?_
    rintro e w' ⟨rfl, rfl⟩
    go_wp2
    go_ret2
    exact ⟨rfl, rfl⟩
  have hw : wholeOf b = if expB b < 1023 ∨ 1076 < expB b then none
    else if expB b = 1076 then
      (if fracB b = 0 then some (sg (sgnB b) 9007199254740992) else none)
    else if (4503599627370496 + fracB b) % 2 ^ (1075 - expB b) = 0 then
      some (sg (sgnB b) ((4503599627370496 + fracB b) / 2 ^ (1075 - expB b)))
    else none := whole_exp h h0
  have hf : fracB b < 4503599627370496 := Nat.mod_lt _ (by decide)
  rw [hw]
  clear hw
  obtain ⟨e, he⟩ : ∃ e, expB b = e := ⟨_, rfl⟩
  obtain ⟨f, hfe⟩ : ∃ f, fracB b = f := ⟨_, rfl⟩
  obtain ⟨s, hs⟩ : ∃ s, sgnB b = s := ⟨_, rfl⟩
  rw [he, hfe, hs]
  rw [hfe] at hf
  have hb0 : ((b : Int) == 0) = false := by simpa using h0
  have HP : ∀ w : World, Calls Try.prog 29 #[.int .u64 b] w fun e' w' => e' = .returned (.tuple #[.bool s, .int .u64 (e : Nat), .int .u64 (f : Nat)]) ∧ w = w' := (by
    intro w
    have := parts_any b h w
    rw [he, hfe, hs] at this
    exact this)
  clear he hfe hs h h0
  by_cases hr : e < 1023 ∨ 1076 < e
  · rw [if_pos hr]
    rcases hr with hr | hr
    all_goals
      go_enter Try.func20, Try.ntmps20
      go_wp2_with fail
      refine (HP _).mono ?_
      rintro e w' ⟨rfl, rfl⟩
      go_wp2
      go_ret2
      exact ⟨rfl, rfl⟩
  rw [if_neg hr]
  have hr1 : 1023 ≤ e := by omega
  have hr2 : e ≤ 1076 := by omega
  clear hr
  by_cases h6 : e = 1076
  · rw [if_pos h6]
    subst h6
    by_cases hf0 : f = 0
    · rw [if_pos hf0]
      subst hf0
      cases s
      all_goals
        go_enter Try.func20, Try.ntmps20
        go_wp2_with fail
        refine (HP _).mono ?_
        rintro e w' ⟨rfl, rfl⟩
        go_wp2_with fail
        go_loopw [7, 8] (fun m k wr => m = .int .u64 4503599627370496 ∧ k = .int .u64 1076 ∧ w = wr) (fun _ _ _ => 0)
        case atStart => exact ⟨rfl, rfl, rfl⟩
        case round =>
          obtain ⟨rfl, rfl, rfl⟩ := hrel
          go_wp2
          go_ret2
          exact ⟨rfl, rfl⟩
    · rw [if_neg hf0]
      obtain ⟨M, hM⟩ : ∃ M, 4503599627370496 + f = M := ⟨_, rfl⟩
      have hM1 : (4503599627370496 : Int) < (M : Int) := by omega
      have hM2 : (M : Int) < 9007199254740992 := by omega
      have HM := Lib.hid hM
      have hM3 : M < 9007199254740992 := by omega
      have hgt : decide ((9007199254740992 : Int) < 2 * (M : Int)) = true := by rw [decide_eq_true_eq]; omega
      have hgt2 : IntKind.u64.wrap (2 * (M : Int)) = 2 * (M : Int) := by rw [IntKind.wrap_u64]; omega
      clear hM hf hf0 hr1 hr2 hM1 hM2
      go_enter Try.func20, Try.ntmps20
      go_wp2_with fail
      refine (HP _).mono ?_
      rintro e w' ⟨rfl, rfl⟩
      have hfM : IntKind.u64.wrap ((f : Int) + 4503599627370496) = (M : Int) := by
        have := HM.out
        rw [IntKind.wrap_u64]; omega
      have hfM' : (f : Int) + 4503599627370496 = (M : Int) := by have := HM.out; omega
      clear HM
      go_wp2_with fail
      go_loopw [7, 8] (fun m k wr => m = .int .u64 (M : Int) ∧ k = .int .u64 1076 ∧ w = wr) (fun _ _ _ => 0)
      case atStart => exact ⟨rfl, rfl, rfl⟩
      case round =>
        obtain ⟨rfl, rfl, rfl⟩ := hrel
        go_wp2
        go_ret2
        exact ⟨rfl, rfl⟩
  · rw [if_neg h6]
    obtain ⟨d, hd⟩ : ∃ d, 1075 - e = d := ⟨_, rfl⟩
    obtain ⟨M, hM⟩ : ∃ M, 4503599627370496 + f = M := ⟨_, rfl⟩
    rw [hd, hM]
    have hM2 : M < 9007199254740992 := by omega
    have hek : e = 1075 - d := by omega
    have hd52 : d ≤ 52 := by omega
    clear h6 hr2 hr1 hd
    subst hek
    have HM := Lib.hid hM
    clear hM
    go_enter Try.func20, Try.ntmps20
    go_wp2_with fail
    refine (HP _).mono ?_
    rintro e w' ⟨rfl, rfl⟩
    have hfM : IntKind.u64.wrap ((f : Int) + 4503599627370496) = (M : Int) := by
      have := HM.out
      rw [IntKind.wrap_u64]; omega
    have hfM' : (f : Int) + 4503599627370496 = (M : Int) := by have := HM.out; omega
    clear HM
    go_wp2_with fail
    go_loopw [7, 8] (fun m k wr => ∃ j : Nat, j ≤ d ∧ k = .int .u64 (((1075 - d : Nat) : Int) + (j : Int)) ∧ m = .int .u64 ((M / 2 ^ j : Nat) : Int) ∧ M % 2 ^ j = 0 ∧ w = wr) (fun _ k _ => 1075 - (intOf k).toNat)
    case atStart => exact ⟨0, Nat.zero_le _, by simp, by first | (simp; done) | (simp; omega), Nat.mod_one _, rfl⟩
    case round =>
      obtain ⟨j, hj, rfl, rfl, hmod, rfl⟩ := hrel
      obtain ⟨y, hy⟩ : ∃ y, M / 2 ^ j = y := ⟨_, rfl⟩
      have hyM : y ≤ M := hy ▸ Nat.div_le_self M (2 ^ j)
      have hsplit : M = y * 2 ^ j := by
        have := Nat.div_add_mod M (2 ^ j)
        rw [hmod, hy, Nat.add_zero, Nat.mul_comm] at this
        exact this.symm
      rw [hy]
      have HY := Lib.hid hy
      have HS := Lib.hid hsplit
      have HMD := Lib.hid hmod
      clear hy hsplit hmod hfM hfM' hf
      by_cases hlt : j < d
      · have hk : ((1075 - d : Nat) : Int) + (j : Int) < 1075 := by omega
        by_cases hodd : y % 2 = 1
        · have hne : M % 2 ^ d ≠ 0 := by
            have e1 : 2 ^ d = 2 ^ (d - j) * 2 ^ j := by rw [← Nat.pow_add]; congr 1; omega
            rw [HS.out, e1, Nat.mul_mod_mul_right]
            intro h0
            rcases Nat.mul_eq_zero.1 h0 with h | h
            · exact half_mod hodd (by omega) h
            · have := Nat.two_pow_pos j; omega
          have ho : ((y : Int) % 2 == 1) = true := by rw [beq_iff_eq]; omega
          have NE := Lib.hid hne
          clear hne hodd
          go_wp2
          go_ret2
          first | exact ⟨rfl, rfl⟩ | exact ⟨by rw [if_neg NE.out]; rfl, rfl⟩
        · have ho : ((y : Int) % 2 == 1) = false := by rw [beq_eq_false_iff_ne]; omega
          have HO := Lib.hid hodd
          clear hodd
          go_wp2_with fail
          go_roundw
          case rel =>
            refine ⟨j + 1, by omega, ?_, ?_, ?_, by first | trivial | rfl⟩
            · go_num
            · congr 1
              rw [Nat.pow_succ, ← Nat.div_div_eq_div_mul, HY.out]
              have h2 : (y : Int) / 2 = ((y / 2 : Nat) : Int) := by omega
              first | exact h2 | (rw [h2, IntKind.wrap_u64]; omega)
            · have he := HO.out
              rw [HS.out, Nat.pow_succ, Nat.mul_comm (2 ^ j) 2, Nat.mul_mod_mul_right]
              rw [show y % 2 = 0 by omega, Nat.zero_mul]
          case measure => simp [intOf]; omega
      · obtain rfl : j = d := by omega
        have hk : ((1075 - j : Nat) : Int) + (j : Int) = 1075 := by omega
        cases s
        all_goals
          go_wp2
          go_ret2
          refine ⟨?_, rfl⟩
          first | (rw [HY.out]; rfl) | (rw [if_pos HMD.out, HY.out]; rfl) | exact absurd HMD.out ‹_›
end Go.Proofs.Ytfpmbkdijechaaa
