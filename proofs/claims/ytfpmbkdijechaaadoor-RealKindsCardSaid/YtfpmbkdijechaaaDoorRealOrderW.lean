/-
  The law RealOrder: its walk. Condition: the names' sixth cell holds the word tiny (out of the row's 'laid').
-/
import Derived.Test.YtfpmbkdijechaaaDoorRealPairsW
import Derived.Deep.CutRange
namespace Go.Proofs.YtfpmbkdijechaaaDoor
open Go.RowKit Flt

theorem rank_inj {a b : Nat} (ha : Fits a) (hb : Fits b) : (rank a == rank b) = decide (a = b) := by
  unfold Fits at *
  rw [Bool.eq_iff_iff]
  simp only [beq_iff_eq, decide_eq_true_eq]
  unfold rank
  split <;> split <;> omega

theorem ubits_rank {b : Nat} (h : Fits b) : ubits (turn (rank b)) = b := by
  unfold Fits at h
  unfold ubits turn rank
  (repeat' split) <;> omega

theorem rank_key {b : Nat} : rank b = if b < 9223372036854775808 then key b else key b - 1 := by
  unfold rank key
  split <;> omega

theorem inf_pos (w : World) : Calls Tryd.prog 20 #[.int .i64 1] w fun e w' => e = .returned (.float .f64 9218868437227405312) ∧ w = w' := by
  have hf := fun n w => call_from n w
  go_enter Tryd.func20, Tryd.ntmps20
  go_wp2
  go_ret
  exact ⟨rfl, rfl⟩
theorem inf_neg (w : World) : Calls Tryd.prog 20 #[.int .i64 (-1)] w fun e w' => e = .returned (.float .f64 18442240474082181120) ∧ w = w' := by
  have hf := fun n w => call_from n w
  go_enter Tryd.func20, Tryd.ntmps20
  go_wp2
  go_ret
  exact ⟨rfl, rfl⟩

theorem same_self (a : Nat) (ha : Fits a) (w : World) : Calls Tryd.prog 14 #[.float .f64 a, .float .f64 a] w fun e w' => e = .returned (.bool true) ∧ w = w' :=
  (same_any a a ha ha w).mono fun _ _ ⟨h1, h2⟩ => ⟨by rw [h1, decide_eq_true rfl], h2⟩
theorem less_self (a : Nat) (ha : Fits a) (w : World) : Calls Tryd.prog 13 #[.float .f64 a, .float .f64 a] w fun e w' => e = .returned (.bool false) ∧ w = w' :=
  (less_any a a ha ha w).mono fun _ _ ⟨h1, h2⟩ => ⟨by rw [h1, decide_eq_false (by omega)], h2⟩

/-- A NaN is beyond one of the infinities. -/
theorem nan_beyond {b : Nat} (h : Fits b) (n : isNaN b = true) : (rank b < rank 18442240474082181120) ∨ (¬ rank b < rank 18442240474082181120 ∧ rank 9218868437227405312 < rank b) := by
  have n' : 9218868437227405312 < b % 9223372036854775808 := by simpa [isNaN] using n
  unfold Fits at h
  unfold rank
  simp only [show ¬ (18442240474082181120 : Nat) < 9223372036854775808 by decide, show (9218868437227405312 : Nat) < 9223372036854775808 by decide, if_true, if_false]
  split <;> omega

/-- What two numbers' order is. -/
inductive Ord (a b : Nat) : Prop where
  | none : FloatKind.f64.format.order a b = none → Ord a b
  | lt : FloatKind.f64.format.order a b = some .lt → rank a < rank b → ¬ rank b < rank a → Ord a b
  | gt : FloatKind.f64.format.order a b = some .gt → rank b < rank a → Ord a b
  | same : FloatKind.f64.format.order a b = some .eq → a = b → Ord a b
  | up : FloatKind.f64.format.order a b = some .eq → a = 9223372036854775808 → b = 0 → Ord a b
  | down : FloatKind.f64.format.order a b = some .eq → a = 0 → b = 9223372036854775808 → Ord a b

theorem ord_any {a b : Nat} (ha : Fits a) (hb : Fits b) : Ord a b := by
  cases na : isNaN a with
  | true => exact .none (order_nan_left na)
  | false =>
    cases nb : isNaN b with
    | true => exact .none (order_nan_right nb)
    | false =>
      have ho : FloatKind.f64.format.order a b = some (compare (key a) (key b)) := order_key ha hb na nb
      have ra := rank_key (b := a)
      have rb := rank_key (b := b)
      have ka : key a = if a < 9223372036854775808 then (a : Int) else 9223372036854775808 - (a : Int) := rfl
      have kb : key b = if b < 9223372036854775808 then (b : Int) else 9223372036854775808 - (b : Int) := rfl
      rcases Int.lt_trichotomy (key a) (key b) with h | h | h
      · refine .lt (by rw [ho, cmp_lt h]) ?_ ?_ <;> (rw [ra, rb]; split at ka <;> split at kb <;> simp_all <;> omega)
      · have he : FloatKind.f64.format.order a b = some .eq := by rw [ho, h, cmp_eq]
        by_cases hab : a = b
        · exact .same he hab
        · by_cases h0 : a < 9223372036854775808
          · have hbn : ¬ b < 9223372036854775808 := by
              intro hb'
              rw [ka, kb, if_pos h0, if_pos hb'] at h
              omega
            rw [ka, kb, if_pos h0, if_neg hbn] at h
            exact .down he (by omega) (by omega)
          · have hbn : b < 9223372036854775808 := by
              rcases Nat.lt_or_ge b 9223372036854775808 with hb' | hb'
              · exact hb'
              · rw [ka, kb, if_neg h0, if_neg (by omega)] at h
                omega
            rw [ka, kb, if_neg h0, if_pos hbn] at h
            exact .up he (by omega) (by omega)
      · refine .gt (by rw [ho, cmp_gt h]) ?_
        rw [ra, rb]
        split at ka <;> split at kb <;> simp_all <;> omega

set_option maxRecDepth 100000 in
set_option maxHeartbeats 3200000 in
theorem realOrder_nat (a b : Nat) (ha : Fits a) (hb : Fits b) (w : World) (h : Named w) :
    Calls Tryd.prog 6 #[.int .u64 a, .int .u64 b] w fun e w' => e = .returned (.bool true) ∧ w = w' := by
  have hcall := fun n w => call_from n w
  have hri := rank_inj ha hb
  have hab : ((a : Int) == (b : Int)) = decide (a = b) := by rw [Bool.eq_iff_iff]; simp only [beq_iff_eq, decide_eq_true_eq]; omega
  have hub := ubits_rank ha
  have hra := rank_range ha
  obtain ⟨t, ht⟩ : ∃ t, decide (a = b) = t := ⟨_, rfl⟩
  rw [ht] at hri hab
  obtain ⟨ra, hrae⟩ : ∃ ra, rank a = ra := ⟨_, rfl⟩
  obtain ⟨rb, hrbe⟩ : ∃ rb, rank b = rb := ⟨_, rfl⟩
  rw [hrae, hrbe] at hri
  rw [hrae] at hub hra
  have htt : (t != t) = false := by simp
  have HRA := Lib.hid hrae
  have HRB := Lib.hid hrbe
  have HT := Lib.hid ht
  have HUB := Lib.hid hub
  have HRR := Lib.hid hra
  have HA := Lib.hid ha
  have HB := Lib.hid hb
  clear hrae hrbe ht hub hra ha hb
  go_enter Tryd.func6, Tryd.ntmps6
  go_wp2_with fail
  refine (rank_any a HA.out _).mono ?_
  rw [HRA.out]
  rintro e w' ⟨rfl, rfl⟩
  go_wp2_with fail
  refine (rank_any b HB.out _).mono ?_
  rw [HRB.out]
  rintro e w' ⟨rfl, rfl⟩
  go_wp2_with fail
  refine (rank_any a HA.out _).mono ?_
  rw [HRA.out]
  rintro e w' ⟨rfl, rfl⟩
  go_wp2_with fail
  refine (fromRank_any ra HRR.out _).mono ?_
  rw [HUB.out]
  rintro e w' ⟨rfl, rfl⟩
  go_wp2_with fail
  refine (same_self a HA.out _).mono ?_
  rintro e w' ⟨rfl, rfl⟩
  go_wp2_with fail
  refine (same_self a HA.out _).mono ?_
  rintro e w' ⟨rfl, rfl⟩
  go_wp2_with fail
  refine (less_self a HA.out _).mono ?_
  rintro e w' ⟨rfl, rfl⟩
  go_upto_region 4 with fail
  go_cut [58] from 7 to 136 (fun s wx => s = .bool false ∧ w = wx)
  case first =>
    rcases ord_any HA.out HB.out with ho | ⟨ho, h1, h2⟩ | ⟨ho, h1⟩ | ⟨ho, h1⟩ | ⟨ho, h1, h2⟩ | ⟨ho, h1, h2⟩
    · go_wp2_with fail
      go_meet
      case rel => exact ⟨rfl, rfl⟩
    · have hd := Lib.hid (decide_eq_true h1)
      clear h1 h2
      go_wp2_with fail
      refine (less_any a b HA.out HB.out _).mono ?_
      rw [hd.out]
      rintro e w' ⟨rfl, rfl⟩
      go_wp2_with fail
      go_meet
      case rel => exact ⟨rfl, rfl⟩
    · have hd := Lib.hid (decide_eq_true h1)
      clear h1
      go_wp2_with fail
      refine (less_any b a HB.out HA.out _).mono ?_
      rw [hd.out]
      rintro e w' ⟨rfl, rfl⟩
      go_wp2_with fail
      go_meet
      case rel => exact ⟨rfl, rfl⟩
    · clear h1
      go_wp2_with fail
      go_meet
      case rel => exact ⟨rfl, rfl⟩
    · clear h1 h2
      go_wp2_with fail
      go_meet
      case rel => exact ⟨rfl, rfl⟩
    · clear h1 h2
      go_wp2_with fail
      go_meet
      case rel => exact ⟨rfl, rfl⟩
  case rest =>
    obtain ⟨rfl, rfl⟩ := hcut
    go_upto_region 6 with fail
    go_cut [98] from 7 to 136 (fun s wx => s = .bool false ∧ w = wx)
    case first =>
      rcases ord_any HA.out HB.out with ho | ⟨ho, h1, h2⟩ | ⟨ho, h1⟩ | ⟨ho, h1⟩ | ⟨ho, h1, h2⟩ | ⟨ho, h1, h2⟩
      · go_wp2_with fail
        go_meet
        case rel => exact ⟨rfl, rfl⟩
      · clear h1 h2
        go_wp2_with fail
        go_meet
        case rel => exact ⟨rfl, rfl⟩
      · clear h1
        go_wp2_with fail
        go_meet
        case rel => exact ⟨rfl, rfl⟩
      · have hne : ((a : Int) != (b : Int)) = false := by simp; omega
        clear h1
        go_wp2_with fail
        go_meet
        case rel => exact ⟨rfl, rfl⟩
      · have hne : ((a : Int) != (b : Int)) = true := by simp; omega
        have k1 : kind a = 3 := by rw [h1]; decide
        have k2 : kind b = 4 := by rw [h2]; decide
        have hd : decide (rank a < rank b) = true := by rw [h1, h2]; decide
        have K1 := Lib.hid k1
        have K2 := Lib.hid k2
        have HD := Lib.hid hd
        clear h1 h2 k1 k2 hd
        go_wp2_with fail
        refine (kind_any a HA.out _).mono ?_
        rw [K1.out]
        rintro e w' ⟨rfl, rfl⟩
        go_wp2_with fail
        refine (kind_any b HB.out _).mono ?_
        rw [K2.out]
        rintro e w' ⟨rfl, rfl⟩
        go_wp2_with fail
        refine (less_any a b HA.out HB.out _).mono ?_
        rw [HD.out]
        rintro e w' ⟨rfl, rfl⟩
        go_wp2_with fail
        go_meet
        case rel => exact ⟨rfl, rfl⟩
      · have hne : ((a : Int) != (b : Int)) = true := by simp; omega
        have k1 : kind a = 4 := by rw [h1]; decide
        have k2 : kind b = 3 := by rw [h2]; decide
        have hd : decide (rank b < rank a) = true := by rw [h1, h2]; decide
        have K1 := Lib.hid k1
        have K2 := Lib.hid k2
        have HD := Lib.hid hd
        clear h1 h2 k1 k2 hd
        go_wp2_with fail
        refine (kind_any a HA.out _).mono ?_
        rw [K1.out]
        rintro e w' ⟨rfl, rfl⟩
        go_wp2_with fail
        refine (kind_any b HB.out _).mono ?_
        rw [K2.out]
        rintro e w' ⟨rfl, rfl⟩
        go_wp2_with fail
        refine (kind_any a HA.out _).mono ?_
        rw [K1.out]
        rintro e w' ⟨rfl, rfl⟩
        go_wp2_with fail
        refine (less_any b a HB.out HA.out _).mono ?_
        rw [HD.out]
        rintro e w' ⟨rfl, rfl⟩
        go_wp2_with fail
        go_meet
        case rel => exact ⟨rfl, rfl⟩
    case rest =>
      obtain ⟨rfl, rfl⟩ := hcut
      obtain ⟨kk, hkk⟩ : ∃ kk, kind a = kk := ⟨_, rfl⟩
      have HK := Lib.hid hkk
      cases n : isNaN a with
      | true =>
        have hk8 : kk = 8 := by rw [← hkk]; exact kind_nan8 n
        have ho : FloatKind.f64.format.order a a = none := order_nan_left n
        have ho2 : FloatKind.f64.format.order a b = none := order_nan_left n
        have hbey := nan_beyond HA.out n
        subst hk8
        have HBE := Lib.hid hbey
        clear hkk n hbey
        go_wp2_with fail
        refine (kind_any a HA.out _).mono ?_
        rw [HK.out]
        rintro e w' ⟨rfl, rfl⟩
        go_wp2_with fail
        refine (inf_neg _).mono ?_
        rintro e w' ⟨rfl, rfl⟩
        go_wp2_with fail
        refine (less_any a 18442240474082181120 HA.out (by unfold Fits; omega) _).mono ?_
        rcases HBE.out with hx | ⟨hx, hy⟩
        · have HX := Lib.hid (decide_eq_true hx)
          clear hx
          rw [HX.out]
          rintro e w' ⟨rfl, rfl⟩
          go_wp2_with fail
          refine (kind_any a HA.out _).mono ?_
          rw [HK.out]
          rintro e w' ⟨rfl, rfl⟩
          go_wp2_with fail
          refine (awake_any _ h).mono ?_
          rintro e w' ⟨rfl, rfl⟩
          go_wp2
          go_ret
          exact ⟨rfl, rfl⟩
        · have HX := Lib.hid (decide_eq_false (show ¬ rank a < rank 18442240474082181120 by omega))
          have HY := Lib.hid (decide_eq_true hy)
          clear hx hy
          rw [HX.out]
          rintro e w' ⟨rfl, rfl⟩
          go_wp2_with fail
          refine (inf_pos _).mono ?_
          rintro e w' ⟨rfl, rfl⟩
          go_wp2_with fail
          refine (less_any 9218868437227405312 a (by unfold Fits; omega) HA.out _).mono ?_
          rw [HY.out]
          rintro e w' ⟨rfl, rfl⟩
          go_wp2_with fail
          refine (kind_any a HA.out _).mono ?_
          rw [HK.out]
          rintro e w' ⟨rfl, rfl⟩
          go_wp2_with fail
          refine (awake_any _ h).mono ?_
          rintro e w' ⟨rfl, rfl⟩
          go_wp2
          go_ret
          exact ⟨rfl, rfl⟩
      | false =>
        have ho : FloatKind.f64.format.order a a = some .eq := order_self HA.out n
        have hk8 : (kk == 8) = false := by rw [← hkk]; exact kind_not8 n
        clear hkk n
        go_wp2_with fail
        refine (kind_any a HA.out _).mono ?_
        rw [HK.out]
        rintro e w' ⟨rfl, rfl⟩
        go_wp2_with fail
        refine (awake_any _ h).mono ?_
        rintro e w' ⟨rfl, rfl⟩
        go_wp2
        go_ret
        exact ⟨rfl, rfl⟩

theorem realOrder_walk (a c : Int) (w : World) (h : Named w) (ha : (Lit.int .u64 a).wf = true) (hc : (Lit.int .u64 c).wf = true) :
    Calls Tryd.prog 6 #[.int .u64 a, .int .u64 c] w fun e w' => e = .returned (.bool true) ∧ Below w.heap.size w w' := by
  obtain ⟨b, rfl, hb⟩ := nat_of_u64 ha
  obtain ⟨d, rfl, hd⟩ := nat_of_u64 hc
  exact (realOrder_nat b d hb hd w h).mono fun _ _ ⟨he, hw⟩ => ⟨he, by subst hw; exact Below.refl _ _⟩
end Go.Proofs.YtfpmbkdijechaaaDoor
