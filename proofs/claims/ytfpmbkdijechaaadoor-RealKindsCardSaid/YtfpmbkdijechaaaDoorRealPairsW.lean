/-
  The law RealPairs: its walk. Condition: the names' sixth cell holds the word tiny (out of the row's 'laid').
-/
import Derived.Test.YtfpmbkdijechaaaDoorRealAwake
import Derived.Test.YtfpmbkdijechaaaDoorRealMore
import Derived.Test.YtfpmbkdijechaaaDoorRefRank
import Derived.Test.YtfpmbkdijechaaaDoorRealTurnedW
namespace Go.Proofs.YtfpmbkdijechaaaDoor
open Go.RowKit Flt

set_option maxHeartbeats 800000 in
theorem realPairs_nat (a b : Nat) (ha : Fits a) (hb : Fits b) (w : World) (h : Named w) :
    Calls Tryd.prog 4 #[.int .u64 a, .int .u64 b] w fun e w' => e = .returned (.bool true) ∧ w = w' := by
  have hcall := fun n w => call_from n w
  obtain ⟨ra, hra⟩ : ∃ ra, rank a = ra := ⟨_, rfl⟩
  obtain ⟨rb, hrb⟩ : ∃ rb, rank b = rb := ⟨_, rfl⟩
  have HA := Lib.hid hra
  have HB := Lib.hid hrb
  clear hra hrb
  have hd : (((a : Int) == (b : Int)) : Bool) = decide (a = b) := by rw [Bool.eq_iff_iff]; simp only [beq_iff_eq, decide_eq_true_eq]; omega
  obtain ⟨t, ht⟩ : ∃ t, decide (a = b) = t := ⟨_, rfl⟩
  obtain ⟨s, hs⟩ : ∃ s, decide (ra < rb) = s := ⟨_, rfl⟩
  rw [ht] at hd
  have HT := Lib.hid ht
  have HS := Lib.hid hs
  clear ht
  go_enter Tryd.func4, Tryd.ntmps4
  go_wp2_with fail
  refine (same_any a b ha hb _).mono ?_
  rw [HT.out]
  rintro e w' ⟨rfl, rfl⟩
  cases t
  all_goals
    go_wp2_with fail
    refine (less_any a b ha hb _).mono ?_
    rw [HA.out, HB.out, HS.out]
    rintro e w' ⟨rfl, rfl⟩
    go_wp2_with fail
    refine (refRank_any a ha _).mono ?_
    rw [HA.out]
    rintro e w' ⟨rfl, rfl⟩
    go_wp2_with fail
    refine (refRank_any b hb _).mono ?_
    rw [HB.out]
    rintro e w' ⟨rfl, rfl⟩
    go_wp2_with fail
    refine (awake_any _ h).mono ?_
    rintro e w' ⟨rfl, rfl⟩
    go_wp2
    go_ret
    exact ⟨rfl, rfl⟩

theorem realPairs_walk (a c : Int) (w : World) (h : Named w) (ha : (Lit.int .u64 a).wf = true) (hc : (Lit.int .u64 c).wf = true) :
    Calls Tryd.prog 4 #[.int .u64 a, .int .u64 c] w fun e w' => e = .returned (.bool true) ∧ Below w.heap.size w w' := by
  obtain ⟨b, rfl, hb⟩ := nat_of_u64 ha
  obtain ⟨d, rfl, hd⟩ := nat_of_u64 hc
  exact (realPairs_nat b d hb hd w h).mono fun _ _ ⟨he, hw⟩ => ⟨he, by subst hw; exact Below.refl _ _⟩
end Go.Proofs.YtfpmbkdijechaaaDoor
