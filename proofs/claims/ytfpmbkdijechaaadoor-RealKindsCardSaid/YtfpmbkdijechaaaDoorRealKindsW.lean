/-
  The law RealKinds: its walk. Condition: the table's sixth cell holds the word tiny (out of the row's 'laid').
-/
import Derived.Test.YtfpmbkdijechaaaDoorRealTellsW
namespace Go.Proofs.YtfpmbkdijechaaaDoor
open Go.RowKit Flt

theorem kindA_mono {r s : Nat} (h : r ≤ s) (hs : s ≤ 9218868437227405312) : kindA r ≤ kindA s := by
  unfold kindA
  (repeat' split) <;> omega
theorem kindA_range (r : Nat) : 4 ≤ kindA r ∧ kindA r ≤ 7 := by
  unfold kindA
  (repeat' split) <;> omega

/-- The one of the lesser rank has no greater kind. -/
theorem kind_mono {a b : Nat} (ha : Fits a) (hb : Fits b) (na : isNaN a = false) (nb : isNaN b = false) (h : rank a < rank b) : kind a ≤ kind b := by
  have na' : absB a ≤ 9218868437227405312 := by simpa [isNaN, absB] using na
  have nb' : absB b ≤ 9218868437227405312 := by simpa [isNaN, absB] using nb
  unfold kind
  rw [na, nb]
  have ra := kindA_range (absB a)
  have rb := kindA_range (absB b)
  have aa : absB a = a % 9223372036854775808 := rfl
  have ab : absB b = b % 9223372036854775808 := rfl
  have ha' : a < 18446744073709551616 := ha
  have hb' : b < 18446744073709551616 := hb
  unfold rank at h
  unfold sgnB
  by_cases ca : a < 9223372036854775808
  · rw [if_pos ca] at h
    by_cases cb : b < 9223372036854775808
    · rw [if_pos cb] at h
      have := kindA_mono (r := absB a) (s := absB b) (by omega) nb'
      simp only [show ¬ 9223372036854775808 ≤ a by omega, show ¬ 9223372036854775808 ≤ b by omega, decide_false, Bool.false_eq_true, if_false]
      exact this
    · rw [if_neg cb] at h
      omega
  · rw [if_neg ca] at h
    by_cases cb : b < 9223372036854775808
    · simp only [show 9223372036854775808 ≤ a by omega, show ¬ 9223372036854775808 ≤ b by omega, decide_true, decide_false, Bool.false_eq_true, if_false, if_true]
      omega
    · rw [if_neg cb] at h
      have := kindA_mono (r := absB b) (s := absB a) (by omega) na'
      simp only [show 9223372036854775808 ≤ a by omega, show 9223372036854775808 ≤ b by omega, decide_true, Bool.false_eq_true, if_false, if_true]
      omega

set_option maxRecDepth 100000 in
set_option maxHeartbeats 1600000 in
theorem realKinds_nat (a b : Nat) (ha : Fits a) (hb : Fits b) (w : World) (h : Named w) :
    Calls Tryd.prog 8 #[.int .u64 a, .int .u64 b] w fun e w' => e = .returned (.bool true) ∧ w = w' := by
  have hcall := fun n w => call_from n w
  have HA := Lib.hid ha
  have HB := Lib.hid hb
  clear ha hb
  go_enter Tryd.func8, Tryd.ntmps8
  go_upto_region 2 with fail
  go_cut [32] from 7 to 50 (fun s wx => s = .bool false ∧ w = wx)
  case first =>
    cases na : isNaN a with
    | true =>
      have oa : FloatKind.f64.format.order a a = none := order_nan_left na
      clear na
      go_wp2_with fail
      go_meet
      case rel => exact ⟨rfl, rfl⟩
    | false =>
      have oa : FloatKind.f64.format.order a a = some .eq := order_self HA.out na
      cases nb : isNaN b with
      | true =>
        have ob : FloatKind.f64.format.order b b = none := order_nan_left nb
        clear na nb
        go_wp2_with fail
        go_meet
        case rel => exact ⟨rfl, rfl⟩
      | false =>
        have ob : FloatKind.f64.format.order b b = some .eq := order_self HB.out nb
        by_cases hlt : rank a < rank b
        · have hd : decide (rank a < rank b) = true := decide_eq_true hlt
          have hk := kind_mono HA.out HB.out na nb hlt
          obtain ⟨ka, hka⟩ : ∃ ka, kind a = ka := ⟨_, rfl⟩
          obtain ⟨kb, hkb⟩ : ∃ kb, kind b = kb := ⟨_, rfl⟩
          rw [hka, hkb] at hk
          have hgt : decide (kb < ka) = false := decide_eq_false (by omega)
          have HD := Lib.hid hd
          have HKA := Lib.hid hka
          have HKB := Lib.hid hkb
          clear na nb hlt hd hka hkb
          go_wp2_with fail
          refine (less_any a b HA.out HB.out _).mono ?_
          rw [HD.out]
          rintro e w' ⟨rfl, rfl⟩
          go_wp2_with fail
          refine (kind_any a HA.out _).mono ?_
          rw [HKA.out]
          rintro e w' ⟨rfl, rfl⟩
          go_wp2_with fail
          refine (kind_any b HB.out _).mono ?_
          rw [HKB.out]
          rintro e w' ⟨rfl, rfl⟩
          go_wp2_with fail
          go_meet
          case rel => exact ⟨by first | rfl | (simp; omega), rfl⟩
        · have hd : decide (rank a < rank b) = false := decide_eq_false hlt
          have HD := Lib.hid hd
          clear na nb hlt hd
          go_wp2_with fail
          refine (less_any a b HA.out HB.out _).mono ?_
          rw [HD.out]
          rintro e w' ⟨rfl, rfl⟩
          go_wp2_with fail
          go_meet
          case rel => exact ⟨rfl, rfl⟩
  case rest =>
    obtain ⟨rfl, rfl⟩ := hcut
    cases hw : wholeOf a with
    | none =>
      have WN : ∀ w : World, Calls Tryd.prog 22 #[.float .f64 a] w fun e w' => e = .returned (.tuple #[.int .i64 0, .bool false]) ∧ w = w' := by
        intro w
        have := whole_any a HA.out w
        rw [hw] at this
        exact this
      clear hw
      go_wp2_with fail
      refine (WN _).mono ?_
      rintro e w' ⟨rfl, rfl⟩
      go_wp2_with fail
      refine (awake_any _ h).mono ?_
      rintro e w' ⟨rfl, rfl⟩
      go_wp2
      go_ret
      exact ⟨rfl, rfl⟩
    | some n =>
      have hfo := (whole_back HA.out hw).1
      have WN : ∀ w : World, Calls Tryd.prog 22 #[.float .f64 a] w fun e w' => e = .returned (.tuple #[.int .i64 n, .bool true]) ∧ w = w' := by
        intro w
        have := whole_any a HA.out w
        rw [hw] at this
        exact this
      have HFO := Lib.hid hfo
      clear hw hfo
      go_wp2_with fail
      refine (WN _).mono ?_
      rintro e w' ⟨rfl, rfl⟩
      go_wp2_with fail
      rw [HFO.out]
      refine (same_self a HA.out _).mono ?_
      rintro e w' ⟨rfl, rfl⟩
      go_wp2_with fail
      refine (awake_any _ h).mono ?_
      rintro e w' ⟨rfl, rfl⟩
      go_wp2
      go_ret
      exact ⟨rfl, rfl⟩

theorem realKinds_walk (a c : Int) (w : World) (h : Named w) (ha : (Lit.int .u64 a).wf = true) (hc : (Lit.int .u64 c).wf = true) :
    Calls Tryd.prog 8 #[.int .u64 a, .int .u64 c] w fun e w' => e = .returned (.bool true) ∧ Below w.heap.size w w' := by
  obtain ⟨b, rfl, hb⟩ := nat_of_u64 ha
  obtain ⟨d, rfl, hd⟩ := nat_of_u64 hc
  exact (realKinds_nat b d hb hd w h).mono fun _ _ ⟨he, hw⟩ => ⟨he, by subst hw; exact Below.refl _ _⟩
end Go.Proofs.YtfpmbkdijechaaaDoor
