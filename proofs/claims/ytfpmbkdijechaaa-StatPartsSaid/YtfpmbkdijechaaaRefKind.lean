/-
  The contract of the reference's Kind, by bits. Condition: the bits fit 64.
-/
import Derived.Test.YtfpmbkdijechaaaRealKind
import Derived.Test.YtfpmbkdijechaaaRefRank
namespace Go.Proofs.Ytfpmbkdijechaaa
open Go.RowKit Flt

theorem kind_exp {b : Nat} (h : Fits b) : kind b =
    if expB b = 2047 then (if fracB b = 0 then (if sgnB b then 0 else 7) else 8)
    else if expB b = 0 then (if fracB b = 0 then (if sgnB b then 3 else 4) else (if sgnB b then 2 else 5))
    else (if sgnB b then 1 else 6) := by
  have hx : b < 18446744073709551616 := h
  have he : expB b = b % 9223372036854775808 / 4503599627370496 := by unfold expB; omega
  have hf : fracB b = b % 9223372036854775808 % 4503599627370496 := by unfold fracB; omega
  have hn : isNaN b = decide (9218868437227405312 < b % 9223372036854775808) := rfl
  have ha : absB b = b % 9223372036854775808 := rfl
  unfold kind kindA
  rw [he, hf, hn, ha]
  have hr : b % 9223372036854775808 < 9223372036854775808 := Nat.mod_lt _ (by decide)
  generalize b % 9223372036854775808 = r at *
  generalize sgnB b = s
  simp only [decide_eq_true_eq]
  by_cases c1 : 9218868437227405312 < r
  · rw [if_pos c1, if_pos (show r / 4503599627370496 = 2047 by omega), if_neg (show ¬ r % 4503599627370496 = 0 by omega)]
  · rw [if_neg c1]
    by_cases c2 : r = 9218868437227405312
    · subst c2
      cases s <;> rfl
    · rw [if_neg (show ¬ r / 4503599627370496 = 2047 by omega), if_neg c2]
      by_cases c3 : r = 0
      · subst c3
        cases s <;> rfl
      · rw [if_neg c3]
        by_cases c4 : r < 4503599627370496
        · rw [if_pos c4, if_pos (show r / 4503599627370496 = 0 by omega), if_neg (show ¬ r % 4503599627370496 = 0 by omega)]
          cases s <;> rfl
        · rw [if_neg c4, if_neg (show ¬ r / 4503599627370496 = 0 by omega)]
          cases s <;> rfl

theorem refKind_any (b : Nat) (h : Fits b) (w : World) : Calls Try.prog 19 #[.int .u64 b] w fun e w' => e = .returned (.int .i64 (kind b)) ∧ w = w' := by
  rw [kind_exp h]
  obtain ⟨e, he⟩ : ∃ e, expB b = e := ⟨_, rfl⟩
  obtain ⟨f, hfe⟩ : ∃ f, fracB b = f := ⟨_, rfl⟩
  obtain ⟨s, hs⟩ : ∃ s, sgnB b = s := ⟨_, rfl⟩
  rw [he, hfe, hs]
  have HP : ∀ w : World, Calls Try.prog 29 #[.int .u64 b] w fun e' w' => e' = .returned (.tuple #[.bool s, .int .u64 (e : Nat), .int .u64 (f : Nat)]) ∧ w = w' := by
    intro w
    have := parts_any b h w
    rw [he, hfe, hs] at this
    exact this
  clear he hfe hs h
  by_cases c1 : e = 2047
  · rw [if_pos c1]
    subst c1
    by_cases c2 : f = 0
    · rw [if_pos c2]
      subst c2
      cases s
      all_goals
        go_enter Try.func19, Try.ntmps19
        go_wp2_with fail
        refine (HP _).mono ?_
        rintro e w' ⟨rfl, rfl⟩
        go_wp2
        go_ret
        exact ⟨rfl, rfl⟩
    · rw [if_neg c2]
      have hf0 : ((f : Int) != 0) = true := by simpa using c2
      clear c2
      go_enter Try.func19, Try.ntmps19
      go_wp2_with fail
      refine (HP _).mono ?_
      rintro e w' ⟨rfl, rfl⟩
      go_wp2
      go_ret
      exact ⟨rfl, rfl⟩
  · rw [if_neg c1]
    by_cases c3 : e = 0
    · rw [if_pos c3]
      subst c3
      clear c1
      by_cases c2 : f = 0
      · rw [if_pos c2]
        subst c2
        cases s
        all_goals
          go_enter Try.func19, Try.ntmps19
          go_wp2_with fail
          refine (HP _).mono ?_
          rintro e w' ⟨rfl, rfl⟩
          go_wp2
          go_ret
          exact ⟨rfl, rfl⟩
      · rw [if_neg c2]
        have hf0 : ((f : Int) == 0) = false := by simpa using c2
        clear c2
        cases s
        all_goals
          go_enter Try.func19, Try.ntmps19
          go_wp2_with fail
          refine (HP _).mono ?_
          rintro e w' ⟨rfl, rfl⟩
          go_wp2
          go_ret
          exact ⟨rfl, rfl⟩
    · rw [if_neg c3]
      have h1 : ((e : Int) == 2047) = false := by rw [beq_eq_false_iff_ne]; omega
      have h2 : ((e : Int) == 0) = false := by rw [beq_eq_false_iff_ne]; omega
      clear c1 c3
      cases s
      all_goals
        go_enter Try.func19, Try.ntmps19
        go_wp2_with fail
        refine (HP _).mono ?_
        rintro e w' ⟨rfl, rfl⟩
        go_wp2
        go_ret
        exact ⟨rfl, rfl⟩
end Go.Proofs.Ytfpmbkdijechaaa
