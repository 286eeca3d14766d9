/-
  The law RealTells: its walk. Condition: the table's nine cells hold the names (out of the row's 'laid').
-/
import Derived.Test.YtfpmbkdijechaaaDoorRealMore
import Derived.Test.YtfpmbkdijechaaaDoorRealOrderW
import Derived.Test.YtfpmbkdijechaaaDoorRealWhole
import Derived.Test.YtfpmbkdijechaaaDoorRefWhole
import Derived.Test.YtfpmbkdijechaaaDoorRefKind
import Derived.Test.YtfpmbkdijechaaaDoorRealNames
namespace Go.Proofs.YtfpmbkdijechaaaDoor
open Go.RowKit Flt

theorem rank_back {v : Int} (h : FitsI v) : rank (ubits (turn v)) = v := by
  unfold FitsI at h
  unfold rank ubits turn
  (repeat' split) <;> omega

set_option maxRecDepth 100000 in
set_option maxHeartbeats 1600000 in
theorem realTells_nat (b : Nat) (v k : Int) (hb : Fits b) (hv : FitsI v) (w : World) (h : NamedAll w) :
    Calls Tryd.prog 7 #[.int .u64 b, .int .i64 v, .int .i64 k] w fun e w' => e = .returned (.bool true) ∧ Keeps (fun _ => False) w w' := by
  have hcall := fun n w => call_from n w
  have hcallb := fun b w => call_bits b w
  obtain ⟨o, ho⟩ : ∃ o, wholeOf b = o := ⟨_, rfl⟩
  obtain ⟨n, hn⟩ : ∃ n, o.getD 0 = n := ⟨_, rfl⟩
  obtain ⟨s, hs⟩ : ∃ s, o.isSome = s := ⟨_, rfl⟩
  have W1 : ∀ w : World, Calls Tryd.prog 22 #[.float .f64 b] w fun e w' => e = .returned (.tuple #[.int .i64 n, .bool s]) ∧ w = w' := by
    intro w
    have := whole_any b hb w
    rw [ho, hn, hs] at this
    exact this
  have W2 : ∀ w : World, Calls Tryd.prog 23 #[.int .u64 b] w fun e w' => e = .returned (.tuple #[.int .i64 n, .bool s]) ∧ w = w' := by
    intro w
    have := refWhole_any b hb w
    unfold wholeV at this
    rw [ho, hn, hs] at this
    exact this
  have hwb : wrap64 (b : Int) = ibits b := wrap64_bits hb
  obtain ⟨bi, hbi⟩ : ∃ bi, ibits b = bi := ⟨_, rfl⟩
  obtain ⟨r, hr⟩ : ∃ r, rank b = r := ⟨_, rfl⟩
  obtain ⟨kd, hkd⟩ : ∃ kd, kind b = kd := ⟨_, rfl⟩
  rw [hbi] at hwb
  have HBI := Lib.hid hbi
  have HR := Lib.hid hr
  have HK := Lib.hid hkd
  have hvw : IntKind.u64.wrap v = (ubits v : Int) := u64_bits hv.1 hv.2
  obtain ⟨uv, huv⟩ : ∃ uv, ubits v = uv := ⟨_, rfl⟩
  obtain ⟨ut, hut⟩ : ∃ ut, ubits (turn v) = ut := ⟨_, rfl⟩
  have hutf : Fits ut := by have := ubits_lt (turn_range hv).1 (turn_range hv).2; rw [hut] at this; exact this
  have hrt : rank ut = v := by rw [← hut]; exact rank_back hv
  rw [huv] at hvw
  have HUV := Lib.hid huv
  have HUT := Lib.hid hut
  have HRT := Lib.hid hrt
  have HF := Lib.hid hutf
  have HB := Lib.hid hb
  have HV := Lib.hid hv
  clear ho hn hs hbi hr hkd huv hut hutf hrt hb hv
  by_cases h0 : k < 0
  · go_enter Tryd.func7, Tryd.ntmps7
    go_wp2_with fail
    refine (W1 _).mono ?_
    rintro e w' ⟨rfl, rfl⟩
    go_wp2_with fail
    refine (W2 _).mono ?_
    rintro e w' ⟨rfl, rfl⟩
    go_wp2_with fail
    refine (bits_any b HB.out _).mono ?_
    rw [HBI.out]
    rintro e w' ⟨rfl, rfl⟩
    go_wp2_with fail
    refine (rank_any b HB.out _).mono ?_
    rw [HR.out]
    rintro e w' ⟨rfl, rfl⟩
    go_wp2_with fail
    refine (refRank_any b HB.out _).mono ?_
    rw [HR.out]
    rintro e w' ⟨rfl, rfl⟩
    go_wp2_with fail
    refine (kind_any b HB.out _).mono ?_
    rw [HK.out]
    rintro e w' ⟨rfl, rfl⟩
    go_wp2_with fail
    refine (refKind_any b HB.out _).mono ?_
    rw [HK.out]
    rintro e w' ⟨rfl, rfl⟩
    go_wp2_with fail
    refine (name_out k (Or.inl h0) _).mono ?_
    rintro e w' ⟨rfl, rfl⟩
    go_wp2_with fail
    refine (from_any v HV.out _).mono ?_
    rw [HUV.out]
    rintro e w' ⟨rfl, rfl⟩
    go_wp2_with fail
    refine (fromRank_any v HV.out _).mono ?_
    rw [HUT.out]
    rintro e w' ⟨rfl, rfl⟩
    go_wp2_with fail
    refine (refRank_any ut HF.out _).mono ?_
    rw [HRT.out]
    rintro e w' ⟨rfl, rfl⟩
    go_wp2_with fail
    refine (awake_any _ h.tiny).mono ?_
    rintro e w' ⟨rfl, rfl⟩
    go_wp2
    go_ret
    exact ⟨rfl, Keeps.refl _ _⟩
  by_cases h9 : 8 < k
  · go_enter Tryd.func7, Tryd.ntmps7
    go_wp2_with fail
    refine (W1 _).mono ?_
    rintro e w' ⟨rfl, rfl⟩
    go_wp2_with fail
    refine (W2 _).mono ?_
    rintro e w' ⟨rfl, rfl⟩
    go_wp2_with fail
    refine (bits_any b HB.out _).mono ?_
    rw [HBI.out]
    rintro e w' ⟨rfl, rfl⟩
    go_wp2_with fail
    refine (rank_any b HB.out _).mono ?_
    rw [HR.out]
    rintro e w' ⟨rfl, rfl⟩
    go_wp2_with fail
    refine (refRank_any b HB.out _).mono ?_
    rw [HR.out]
    rintro e w' ⟨rfl, rfl⟩
    go_wp2_with fail
    refine (kind_any b HB.out _).mono ?_
    rw [HK.out]
    rintro e w' ⟨rfl, rfl⟩
    go_wp2_with fail
    refine (refKind_any b HB.out _).mono ?_
    rw [HK.out]
    rintro e w' ⟨rfl, rfl⟩
    go_wp2_with fail
    refine (name_out k (Or.inr h9) _).mono ?_
    rintro e w' ⟨rfl, rfl⟩
    go_wp2_with fail
    refine (from_any v HV.out _).mono ?_
    rw [HUV.out]
    rintro e w' ⟨rfl, rfl⟩
    go_wp2_with fail
    refine (fromRank_any v HV.out _).mono ?_
    rw [HUT.out]
    rintro e w' ⟨rfl, rfl⟩
    go_wp2_with fail
    refine (refRank_any ut HF.out _).mono ?_
    rw [HRT.out]
    rintro e w' ⟨rfl, rfl⟩
    go_wp2_with fail
    refine (awake_any _ h.tiny).mono ?_
    rintro e w' ⟨rfl, rfl⟩
    go_wp2
    go_ret
    exact ⟨rfl, Keeps.refl _ _⟩
  · obtain ⟨i, rfl⟩ : ∃ i : Nat, k = (i : Int) := ⟨k.toNat, by omega⟩
    have hi9 : i < 9 := by omega
    have hi8 : (i : Int) < 9 := by omega
    clear h0 h9
    go_enter Tryd.func7, Tryd.ntmps7
    go_wp2_with fail
    refine (refNames_any _).mono ?_
    rintro e w' ⟨rfl, hcells, hkr⟩
    have hci := hcells i hi9
    have hall := h.keep hkr
    clear hcells
    go_wp2_with fail
    refine (W1 _).mono ?_
    rintro e w' ⟨rfl, rfl⟩
    go_wp2_with fail
    refine (W2 _).mono ?_
    rintro e w' ⟨rfl, rfl⟩
    go_wp2_with fail
    refine (bits_any b HB.out _).mono ?_
    rw [HBI.out]
    rintro e w' ⟨rfl, rfl⟩
    go_wp2_with fail
    refine (rank_any b HB.out _).mono ?_
    rw [HR.out]
    rintro e w' ⟨rfl, rfl⟩
    go_wp2_with fail
    refine (refRank_any b HB.out _).mono ?_
    rw [HR.out]
    rintro e w' ⟨rfl, rfl⟩
    go_wp2_with fail
    refine (kind_any b HB.out _).mono ?_
    rw [HK.out]
    rintro e w' ⟨rfl, rfl⟩
    go_wp2_with fail
    refine (refKind_any b HB.out _).mono ?_
    rw [HK.out]
    rintro e w' ⟨rfl, rfl⟩
    go_wp2_with fail
    refine (name_in i hi9 _ hall).mono ?_
    rintro e w' ⟨rfl, rfl⟩
    go_wp2_with fail
    refine (from_any v HV.out _).mono ?_
    rw [HUV.out]
    rintro e w' ⟨rfl, rfl⟩
    go_wp2_with fail
    refine (fromRank_any v HV.out _).mono ?_
    rw [HUT.out]
    rintro e w' ⟨rfl, rfl⟩
    go_wp2_with fail
    refine (refRank_any ut HF.out _).mono ?_
    rw [HRT.out]
    rintro e w' ⟨rfl, rfl⟩
    go_wp2_with fail
    refine (awake_any _ hall.tiny).mono ?_
    rintro e w' ⟨rfl, rfl⟩
    go_wp2
    go_ret
    exact ⟨rfl, hkr⟩

theorem realTells_walk (a v k : Int) (w : World) (h : NamedAll w) (ha : (Lit.int .u64 a).wf = true) (hv : (Lit.int .i64 v).wf = true) (hk : (Lit.int .i64 k).wf = true) :
    Calls Tryd.prog 7 #[.int .u64 a, .int .i64 v, .int .i64 k] w fun e w' => e = .returned (.bool true) ∧ Below w.heap.size w w' := by
  obtain ⟨b, rfl, hb⟩ := nat_of_u64 ha
  have hv' : FitsI v := by
    have m1 : IntKind.i64.min = -9223372036854775808 := by decide
    have m2 : IntKind.i64.max = 9223372036854775807 := by decide
    simp only [Lit.wf, m1, m2, Bool.and_eq_true, decide_eq_true_eq] at hv
    exact hv
  exact (realTells_nat b v k hb hv' w h).mono fun _ _ ⟨he, hw⟩ => ⟨he, hw.below (fun _ _ h => h) (Nat.le_refl _)⟩

namespace realTells
theorem named_of_laid {W : World} (h : laidMet Tryd.prog [("corduroy/real.names", Rows.laid_corduroy_real_names)] W) : NamedAll W := all_of_laid h
end realTells
end Go.Proofs.YtfpmbkdijechaaaDoor
