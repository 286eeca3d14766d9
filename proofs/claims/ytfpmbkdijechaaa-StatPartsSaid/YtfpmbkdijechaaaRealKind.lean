/-
  The contract of real.Kind, by the bits of a real. Conditions: the bits fit 64.
-/
import Derived.Test.YtfpmbkdijechaaaRealBase
namespace Go.Proofs.Ytfpmbkdijechaaa
open Go.RowKit Flt

theorem abs_fits {b : Nat} : Fits (absB b) := by unfold Fits absB; omega
theorem abs_nan {b : Nat} (h : isNaN b = false) : isNaN (absB b) = false := by
  simp only [isNaN, decide_eq_false_iff_not] at h ⊢
  unfold absB
  omega
theorem abs_key {b : Nat} : key (absB b) = (absB b : Int) := by
  unfold key absB
  rw [if_pos (by omega)]

theorem order_self {b : Nat} (h : Fits b) (n : isNaN b = false) : FloatKind.f64.format.order b b = some .eq := by
  show Ieee.double.order b b = _
  rw [order_key h h n n, cmp_eq]
theorem order_abs {b c : Nat} (n : isNaN b = false) (hc : Fits c) (nc : isNaN c = false) (kc : key c = (c : Int)) : FloatKind.f64.format.order (absB b) c = some (compare (absB b : Int) (c : Int)) := by
  show Ieee.double.order _ _ = _
  rw [order_key abs_fits hc (abs_nan n) nc, abs_key, kc]

/-- A magnitude's kind. -/
def kindA (r : Nat) : Int := if r = 0 then 4 else if r = 9218868437227405312 then 7 else if r < 4503599627370496 then 5 else 6
/-- A real's kind, by its bits. -/
def kind (b : Nat) : Int := if isNaN b then 8 else if sgnB b then 7 - kindA (absB b) else kindA (absB b)

theorem kind_nan (b : Nat) (h : Fits b) (n : isNaN b = true) (w : World) : Calls Try.prog 26 #[.float .f64 b] w fun e w' => e = .returned (.int .i64 8) ∧ w = w' := by
  have ho : FloatKind.f64.format.order b b = none := order_nan_left n
  clear n
  go_enter Try.func26, Try.ntmps26
  go_wp2_with (first | (go_at_call 25; refine (signbit_any b h _).mono ?_; rintro e w' ⟨rfl, rfl⟩) | (go_at_call 31; refine (abs_any b h _).mono ?_; rintro e w' ⟨rfl, rfl⟩))
  go_ret
  exact ⟨rfl, rfl⟩

theorem kind_num (b : Nat) (h : Fits b) (n : isNaN b = false) (w : World) : Calls Try.prog 26 #[.float .f64 b] w fun e w' => e = .returned (.int .i64 (if sgnB b then 7 - kindA (absB b) else kindA (absB b))) ∧ w = w' := by
  have ho := order_self h n
  have h0 := order_abs (c := 0) n (by unfold Fits; omega) (by decide) (by decide)
  have h1 := order_abs (c := 9218868437227405311) n (by unfold Fits; omega) (by decide) (by decide)
  have h2 := order_abs (c := 4503599627370496) n (by unfold Fits; omega) (by decide) (by decide)
  have hle : absB b ≤ 9218868437227405312 := by
    have : ¬ 9218868437227405312 < b % 9223372036854775808 := by simpa [isNaN] using n
    unfold absB; omega
  have H := Lib.hid h
  clear n h
  unfold kindA
  by_cases r0 : absB b = 0
  · have hk : (if absB b = 0 then (4 : Int) else if absB b = 9218868437227405312 then 7 else if absB b < 4503599627370496 then 5 else 6) = 4 := by
      exact if_pos r0
    rw [hk]
    have g0 : FloatKind.f64.format.order (absB b) 0 = some .eq := by rw [h0, r0]; exact congrArg some (cmp_eq _)
    clear h0 h1 h2 hle hk r0
    cases hs : sgnB b
    all_goals
      have HS := Lib.hid hs
      clear hs
      go_enter Try.func26, Try.ntmps26
      go_wp2_with fail
      refine (signbit_any b H.out _).mono ?_
      rw [HS.out]
      rintro e w' ⟨rfl, rfl⟩
      go_wp2_with (go_at_call 31; refine (abs_any b H.out _).mono ?_; rintro e w' ⟨rfl, rfl⟩)
      go_ret
      exact ⟨rfl, rfl⟩
  by_cases r1 : absB b = 9218868437227405312
  · have hk : (if absB b = 0 then (4 : Int) else if absB b = 9218868437227405312 then 7 else if absB b < 4503599627370496 then 5 else 6) = 7 := by
      rw [if_neg r0, if_pos r1]
    rw [hk]
    have g0 : FloatKind.f64.format.order (absB b) 0 = some .gt := by rw [h0, cmp_gt (by omega)]
    have g1 : FloatKind.f64.format.order (absB b) 9218868437227405311 = some .gt := by rw [h1, cmp_gt (by omega)]
    clear h0 h1 h2 hle hk r0 r1
    cases hs : sgnB b
    all_goals
      have HS := Lib.hid hs
      clear hs
      go_enter Try.func26, Try.ntmps26
      go_wp2_with fail
      refine (signbit_any b H.out _).mono ?_
      rw [HS.out]
      rintro e w' ⟨rfl, rfl⟩
      go_wp2_with (go_at_call 31; refine (abs_any b H.out _).mono ?_; rintro e w' ⟨rfl, rfl⟩)
      go_ret
      exact ⟨rfl, rfl⟩
  by_cases r2 : absB b < 4503599627370496
  · have hk : (if absB b = 0 then (4 : Int) else if absB b = 9218868437227405312 then 7 else if absB b < 4503599627370496 then 5 else 6) = 5 := by
      rw [if_neg r0, if_neg r1, if_pos r2]
    rw [hk]
    have g0 : FloatKind.f64.format.order (absB b) 0 = some .gt := by rw [h0, cmp_gt (by omega)]
    have g1 : FloatKind.f64.format.order (absB b) 9218868437227405311 = some .lt := by rw [h1, cmp_lt (by omega)]
    have g2 : FloatKind.f64.format.order (absB b) 4503599627370496 = some .lt := by rw [h2, cmp_lt (by omega)]
    clear h0 h1 h2 hle hk r0 r1 r2
    cases hs : sgnB b
    all_goals
      have HS := Lib.hid hs
      clear hs
      go_enter Try.func26, Try.ntmps26
      go_wp2_with fail
      refine (signbit_any b H.out _).mono ?_
      rw [HS.out]
      rintro e w' ⟨rfl, rfl⟩
      go_wp2_with (go_at_call 31; refine (abs_any b H.out _).mono ?_; rintro e w' ⟨rfl, rfl⟩)
      go_ret
      exact ⟨rfl, rfl⟩
  · have hk : (if absB b = 0 then (4 : Int) else if absB b = 9218868437227405312 then 7 else if absB b < 4503599627370496 then 5 else 6) = 6 := by
      rw [if_neg r0, if_neg r1, if_neg r2]
    rw [hk]
    have g0 : FloatKind.f64.format.order (absB b) 0 = some .gt := by rw [h0, cmp_gt (by omega)]
    have g1 : ∃ o, FloatKind.f64.format.order (absB b) 9218868437227405311 = some o ∧ (o == .gt) = false := by
      rw [h1]
      rcases Nat.lt_or_ge (absB b) 9218868437227405311 with hl | hl
      · exact ⟨_, rfl, by rw [cmp_lt (by omega)]; rfl⟩
      · have : absB b = 9218868437227405311 := by omega
        exact ⟨_, rfl, by rw [this, cmp_eq]; rfl⟩
    obtain ⟨o1, g1, g1b⟩ := g1
    have g2 : ∃ o, FloatKind.f64.format.order (absB b) 4503599627370496 = some o ∧ (o == .lt) = false := by
      rw [h2]
      rcases Nat.lt_or_ge 4503599627370496 (absB b) with hl | hl
      · exact ⟨_, rfl, by rw [cmp_gt (by omega)]; rfl⟩
      · have : absB b = 4503599627370496 := by omega
        exact ⟨_, rfl, by rw [this, cmp_eq]; rfl⟩
    obtain ⟨o2, g2, g2b⟩ := g2
    clear h0 h1 h2 hle hk r0 r1 r2
    cases hs : sgnB b
    all_goals
      have HS := Lib.hid hs
      clear hs
      go_enter Try.func26, Try.ntmps26
      go_wp2_with fail
      refine (signbit_any b H.out _).mono ?_
      rw [HS.out]
      rintro e w' ⟨rfl, rfl⟩
      go_wp2_with (go_at_call 31; refine (abs_any b H.out _).mono ?_; rintro e w' ⟨rfl, rfl⟩)
      go_ret
      exact ⟨rfl, rfl⟩

theorem kind_any (b : Nat) (h : Fits b) (w : World) : Calls Try.prog 26 #[.float .f64 b] w fun e w' => e = .returned (.int .i64 (kind b)) ∧ w = w' := by
  unfold kind
  cases n : isNaN b
  · exact kind_num b h n w
  · exact kind_nan b h n w
end Go.Proofs.Ytfpmbkdijechaaa
