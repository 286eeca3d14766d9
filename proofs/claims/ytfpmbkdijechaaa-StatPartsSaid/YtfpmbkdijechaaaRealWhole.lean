/-
  The contracts of math.Trunc and real.Whole, by the bits of a real. Conditions: the bits fit 64; for Trunc: it is no NaN.
-/
import Derived.Test.YtfpmbkdijechaaaRealKind
import Derived.Test.YtfpmbkdijechaaaFltWhole
namespace Go.Proofs.Ytfpmbkdijechaaa
open Go.RowKit Flt

theorem run_trunc (b : Nat) (n : isNaN b = false) (w : World) : (callFunc 36 #[.float .f64 b]).run Try.prog w = .ok (.value (.float .f64 (truncB b))) w := by
  have h : (callFunc 36 #[.float .f64 b]).run Try.prog w = (do let v ← Go.Extern.MathFloor.toIntegral "math.archTrunc" .zero #[.float .f64 b]; pure (Next.value v) : Sem Next).run Try.prog w := by kernel_rfl
  rw [h]
  have n' : b % 9223372036854775808 ≤ 9218868437227405312 := by simpa [isNaN] using n
  have hd : ∀ s t, Ieee.double.read b ≠ .nan s t := by
    intro s t
    by_cases hf : b % 9223372036854775808 < 9218868437227405312
    · obtain ⟨m, p, hr, _⟩ := read_fin hf
      rw [hr]; intro hh; cases hh
    · rw [read_inf (by omega)]; intro hh; cases hh
  have ht : truncB b = Ieee.double.write ((Ieee.double.read b).integral .zero) := rfl
  have e : Go.Extern.MathFloor.toIntegral "math.archTrunc" .zero #[.float .f64 b] = pure (.float .f64 (truncB b)) := by
    unfold Go.Extern.MathFloor.toIntegral
    rw [ht]
    show (match Ieee.double.read b with | .nan s t => _ | d => _) = _
    revert hd
    generalize Ieee.double.read b = d
    intro hd
    cases d with
    | nan s t => exact absurd rfl (hd s t)
    | number s m p => rfl
    | infinity s => rfl
  rw [e]
  rfl

theorem trunc_any (b : Nat) (n : isNaN b = false) (w : World) : Calls Try.prog 33 #[.float .f64 b] w fun e w' => e = .returned (.float .f64 (truncB b)) ∧ w = w' := by
  have ht := fun w : World => run_trunc b n w
  clear n
  go_enter Try.func33, Try.ntmps33
  go_wp2
  go_ret
  exact ⟨rfl, rfl⟩

/-- How a real stands to what Whole asks. -/
inductive WCase (b : Nat) : Prop where
  | nan : FloatKind.f64.format.order b 14069245235905429504 = none → wholeOf b = none → WCase b
  | low : FloatKind.f64.format.order b 14069245235905429504 = some .lt → wholeOf b = none → WCase b
  | high : FloatKind.f64.format.order b 14069245235905429504 = some .gt → FloatKind.f64.format.order b 4845873199050653696 = some .gt → wholeOf b = none → WCase b
  | part (o : Ordering) : isNaN b = false → (FloatKind.f64.format.order b 14069245235905429504 = some .gt ∨ FloatKind.f64.format.order b 14069245235905429504 = some .eq) →
      (FloatKind.f64.format.order b 4845873199050653696 = some .lt ∨ FloatKind.f64.format.order b 4845873199050653696 = some .eq) →
      FloatKind.f64.format.order b (truncB b) = some o → (o = .lt ∨ o = .gt) → wholeOf b = none → WCase b
  | mzero : b = 9223372036854775808 → wholeOf b = none → WCase b
  | zero : b = 0 → wholeOf b = some 0 → WCase b
  | num (n : Int) : isNaN b = false → (FloatKind.f64.format.order b 14069245235905429504 = some .gt ∨ FloatKind.f64.format.order b 14069245235905429504 = some .eq) →
      (FloatKind.f64.format.order b 4845873199050653696 = some .lt ∨ FloatKind.f64.format.order b 4845873199050653696 = some .eq) →
      FloatKind.f64.format.order b (truncB b) = some .eq → (FloatKind.f64.format.order b 0 = some .lt ∨ FloatKind.f64.format.order b 0 = some .gt) →
      floatToIntVal .f64 b .i64 = some n → wholeOf b = some n → WCase b

theorem wcase_any {b : Nat} (h : Fits b) : WCase b := by
  have hx : b < 18446744073709551616 := h
  cases n : isNaN b with
  | true =>
    refine .nan (order_nan_left n) ?_
    have n' : 9218868437227405312 < b % 9223372036854775808 := by simpa [isNaN] using n
    unfold wholeOf
    rw [if_neg]
    rintro ⟨h1, _⟩
    omega
  | false =>
    have oL : FloatKind.f64.format.order b 14069245235905429504 = some (compare (key b) (-4845873199050653696)) := order_key hx (by decide) n (by decide)
    have oU : FloatKind.f64.format.order b 4845873199050653696 = some (compare (key b) 4845873199050653696) := order_key hx (by decide) n (by decide)
    have o0 : FloatKind.f64.format.order b 0 = some (compare (key b) 0) := order_key hx (by decide) n (by decide)
    have ka : key b = if b < 9223372036854775808 then (b : Int) else 9223372036854775808 - (b : Int) := rfl
    by_cases hL : key b < -4845873199050653696
    · refine .low (by rw [oL, cmp_lt hL]) ?_
      unfold wholeOf
      rw [if_neg]
      rintro ⟨h1, _⟩
      split at ka <;> omega
    have hL' : FloatKind.f64.format.order b 14069245235905429504 = some .gt ∨ FloatKind.f64.format.order b 14069245235905429504 = some .eq := by
      rw [oL]
      rcases Int.lt_or_eq_of_le (Int.not_lt.1 hL) with h1 | h1
      · exact Or.inl (by rw [cmp_gt h1])
      · exact Or.inr (by rw [← h1, cmp_eq])
    by_cases hU : 4845873199050653696 < key b
    · refine .high (by rw [oL, cmp_gt (by omega)]) (by rw [oU, cmp_gt hU]) ?_
      unfold wholeOf
      rw [if_neg]
      rintro ⟨h1, _⟩
      split at ka <;> omega
    have hU' : FloatKind.f64.format.order b 4845873199050653696 = some .lt ∨ FloatKind.f64.format.order b 4845873199050653696 = some .eq := by
      rw [oU]
      rcases Int.lt_or_eq_of_le (Int.not_lt.1 hU) with h1 | h1
      · exact Or.inl (by rw [cmp_lt h1])
      · exact Or.inr (by rw [h1, cmp_eq])
    have near : Near b := by unfold Near; split at ka <;> omega
    obtain ⟨t1, t2, t3, t4⟩ := trunc_near hx near
    by_cases hm : vl (b % 9223372036854775808) % pw 1074 = 0
    · by_cases hz : b = 9223372036854775808
      · refine .mzero hz ?_
        unfold wholeOf
        rw [if_neg]
        rintro ⟨_, _, h3⟩
        exact h3 hz
      by_cases h0 : b = 0
      · refine .zero h0 ?_
        subst h0
        unfold wholeOf
        rw [if_pos ⟨by decide, hm, hz⟩]
        rw [show vl (0 % 9223372036854775808) = 0 from rfl, Nat.zero_div]
        rfl
      refine .num _ n hL' hU' (t3.2 hm) ?_ (toInt_near hx near) ?_
      · rw [o0]
        rcases Int.lt_trichotomy (key b) 0 with h1 | h1 | h1
        · exact Or.inl (by rw [cmp_lt h1])
        · split at ka <;> omega
        · exact Or.inr (by rw [cmp_gt h1])
      · unfold wholeOf
        rw [if_pos ⟨near, hm, hz⟩]
    · have ho : FloatKind.f64.format.order b (truncB b) = some (compare (key b) (key (truncB b))) := order_key hx t1 n t2
      refine .part _ n hL' hU' ho ?_ ?_
      · rcases Int.lt_trichotomy (key b) (key (truncB b)) with h1 | h1 | h1
        · exact Or.inl (cmp_lt h1)
        · exact absurd (t3.1 (by show FloatKind.f64.format.order b (truncB b) = _; rw [ho, h1, cmp_eq])) hm
        · exact Or.inr (cmp_gt h1)
      · unfold wholeOf
        rw [if_neg]
        rintro ⟨_, h2, _⟩
        exact hm h2

theorem whole_any (b : Nat) (h : Fits b) (w : World) : Calls Try.prog 30 #[.float .f64 b] w fun e w' => e = .returned (.tuple #[.int .i64 ((wholeOf b).getD 0), .bool (wholeOf b).isSome]) ∧ w = w' := by
  rcases wcase_any h with ⟨ho, hw⟩ | ⟨ho, hw⟩ | ⟨ho, ho2, hw⟩ | ⟨o, n, ho, ho2, ho3, hoo, hw⟩ | ⟨hb, hw⟩ | ⟨hb, hw⟩ | ⟨n, nn, ho, ho2, ho3, ho4, hc, hw⟩
  · rw [hw]
    clear hw h
    go_enter Try.func30, Try.ntmps30
    go_wp2
    go_ret2
    exact ⟨rfl, rfl⟩
  · rw [hw]
    clear hw h
    go_enter Try.func30, Try.ntmps30
    go_wp2
    go_ret2
    exact ⟨rfl, rfl⟩
  · rw [hw]
    clear hw h
    go_enter Try.func30, Try.ntmps30
    go_wp2
    go_ret2
    exact ⟨rfl, rfl⟩
  · rw [hw]
    clear hw h
    have N := Lib.hid n
    clear n
    rcases ho with ho | ho <;> rcases ho2 with ho2 | ho2 <;> rcases hoo with rfl | rfl
    all_goals
      go_enter Try.func30, Try.ntmps30
      go_wp2_with fail
      refine (trunc_any b N.out _).mono ?_
      rintro e w' ⟨rfl, rfl⟩
      go_wp2
      go_ret2
      exact ⟨rfl, rfl⟩
  · rw [hw]
    clear hw h
    subst hb
    have t1 : truncB 9223372036854775808 = 9223372036854775808 := by decide +kernel
    have ho : FloatKind.f64.format.order 9223372036854775808 14069245235905429504 = some .gt := by decide +kernel
    have ho2 : FloatKind.f64.format.order 9223372036854775808 4845873199050653696 = some .lt := by decide +kernel
    have ho3 : FloatKind.f64.format.order 9223372036854775808 9223372036854775808 = some .eq := by decide +kernel
    have ho4 : FloatKind.f64.format.order 9223372036854775808 0 = some .eq := by decide +kernel
    have hs : sgnB 9223372036854775808 = true := by decide
    have T := Lib.hid t1
    have S := Lib.hid hs
    clear t1 hs
    go_enter Try.func30, Try.ntmps30
    go_wp2_with fail
    refine (trunc_any 9223372036854775808 (by decide) _).mono ?_
    rw [T.out]
    rintro e w' ⟨rfl, rfl⟩
    go_wp2_with fail
    refine (signbit_any 9223372036854775808 (by unfold Fits; omega) _).mono ?_
    rw [S.out]
    rintro e w' ⟨rfl, rfl⟩
    go_wp2
    go_ret2
    exact ⟨rfl, rfl⟩
  · rw [hw]
    clear hw h
    subst hb
    have t1 : truncB 0 = 0 := by decide +kernel
    have ho : FloatKind.f64.format.order 0 14069245235905429504 = some .gt := by decide +kernel
    have ho2 : FloatKind.f64.format.order 0 4845873199050653696 = some .lt := by decide +kernel
    have ho3 : FloatKind.f64.format.order 0 0 = some .eq := by decide +kernel
    have hs : sgnB 0 = false := by decide
    have hcv : ∀ w, (convert 25 2 (.float .f64 0)).run Try.prog w = .ok (.int .i64 0) w := fun w => run_convert_float_int w 25 2 .f64 .i64 0 0 (by rw [Try.underlying25]; rfl) Try.underlying2 (by decide +kernel)
    have T := Lib.hid t1
    have S := Lib.hid hs
    clear t1 hs
    go_enter Try.func30, Try.ntmps30
    go_wp2_with fail
    refine (trunc_any 0 (by decide) _).mono ?_
    rw [T.out]
    rintro e w' ⟨rfl, rfl⟩
    go_wp2_with fail
    refine (signbit_any 0 (by unfold Fits; omega) _).mono ?_
    rw [S.out]
    rintro e w' ⟨rfl, rfl⟩
    go_wp2_with (simp only [hcv])
    go_ret2
    exact ⟨rfl, rfl⟩
  · rw [hw]
    have hcv : ∀ w, (convert 25 2 (.float .f64 b)).run Try.prog w = .ok (.int .i64 n) w := fun w => run_convert_float_int w 25 2 .f64 .i64 b n (by rw [Try.underlying25]; rfl) Try.underlying2 hc
    have N := Lib.hid nn
    clear nn hw h hc
    rcases ho with ho | ho <;> rcases ho2 with ho2 | ho2 <;> rcases ho4 with ho4 | ho4
    all_goals
      go_enter Try.func30, Try.ntmps30
      go_wp2_with fail
      refine (trunc_any b N.out _).mono ?_
      rintro e w' ⟨rfl, rfl⟩
      go_wp2_with (simp only [hcv])
      go_ret2
      exact ⟨rfl, rfl⟩
end Go.Proofs.Ytfpmbkdijechaaa
