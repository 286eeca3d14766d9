/-
  The contracts of package stat: less, span. Conditions: the bits fit 64.
-/
import Derived.Test.YtfpmbkdijechaaaRealKind
import Derived.Test.YtfpmbkdijechaaaRealWhole
import Derived.Test.YtfpmbkdijechaaaKit
import Derived.StillTailTactics
import Derived.Deep.RegionHeld3
import Derived.BigQuiet
namespace Go.Proofs.Ytfpmbkdijechaaa
open Go.RowKit Flt

/-- The one of two of the lesser rank, if it is so, else the other one. -/
def lessOf (a b : Nat) (so : Bool) : Nat := if decide (rank b < rank a) == so then b else a

theorem statLess_any (a b : Nat) (so : Bool) (ha : Fits a) (hb : Fits b) (w : World) : Calls Try.prog 28 #[.float .f64 a, .float .f64 b, .bool so] w fun e w' => e = .returned (.float .f64 (lessOf a b so)) ∧ w = w' := by
  obtain ⟨t, ht⟩ : ∃ t, decide (rank b < rank a) = t := ⟨_, rfl⟩
  unfold lessOf
  rw [ht]
  have HT := Lib.hid ht
  have HA := Lib.hid ha
  have HB := Lib.hid hb
  clear ht ha hb
  cases h : (t == so)
  all_goals
    go_enter Try.func28, Try.ntmps28
    go_wp2_with fail
    refine (less_any b a HB.out HA.out _).mono ?_
    rw [HT.out]
    rintro e w' ⟨rfl, rfl⟩
    go_wp2
    go_ret
    exact ⟨rfl, rfl⟩

theorem run_store_float {P : Program} {w : World} {a : Addr} {m : Mode} (k : FloatKind) (b : Nat) : (store a (.float k b) m).run P w = stored P w a (.float k b) m := run_store P w a _ m rfl
attribute [local go_sem] run_store_float

/-- What is told: its cells. -/
def statC (c : Int) (k : Nat → Int) (wh : Int) (an : Bool) (mn mx : Nat) : Array Value := #[.int .i64 c, .int .i64 (k 0), .int .i64 (k 1), .int .i64 (k 2), .int .i64 (k 3), .int .i64 (k 4), .int .i64 (k 5), .int .i64 (k 6), .int .i64 (k 7), .int .i64 (k 8), .int .i64 wh, .bool an, .float .f64 mn, .float .f64 mx]

/-- A result that is a Stat of the call's own. -/
theorem span_none (c c' : Int) (k k' : Nat → Int) (wh wh' : Int) (an : Bool) (mn mx mn' mx' : Nat) (w : World) :
    Calls Try.prog 18 #[.agg (statC c k wh an mn mx), .agg (statC c' k' wh' false mn' mx')] w fun e w' => e = .returned (.agg (statC c k wh an mn mx)) ∧ Keeps (fun _ => False) w w' := by
  unfold statC
  go_enter Try.func18, Try.ntmps18
  go_wp2
  refine bodyPost_ret (v := .agg (statC c k wh an mn mx)) (by unfold statC; simp [results, Try.results18, go_sem]) rfl ⟨rfl, ?_⟩
  exact (((Keeps.refl _ _).alloc _).alloc _).alloc _

theorem span_first (c c' : Int) (k k' : Nat → Int) (wh wh' : Int) (mn mx mn' mx' : Nat) (w : World) :
    Calls Try.prog 18 #[.agg (statC c k wh false mn mx), .agg (statC c' k' wh' true mn' mx')] w fun e w' => e = .returned (.agg (statC c k wh true mn' mx')) ∧ Keeps (fun _ => False) w w' := by
  unfold statC
  go_enter Try.func18, Try.ntmps18
  go_wp2_with fail
  go_region
  all_goals
    go_wp2
    refine bodyPost_ret (v := .agg (statC c k wh true mn' mx')) (by unfold statC; simp [results, Try.results18, go_sem]) rfl ⟨rfl, ?_⟩
    exact ((((Keeps.refl _ _).alloc _).alloc _).alloc _).drew

set_option maxHeartbeats 3200000 in
theorem span_both (c c' : Int) (k k' : Nat → Int) (wh wh' : Int) (mn mx mn' mx' : Nat) (h1 : Fits mn) (h2 : Fits mx) (h3 : Fits mn') (h4 : Fits mx') (w : World) :
    Calls Try.prog 18 #[.agg (statC c k wh true mn mx), .agg (statC c' k' wh' true mn' mx')] w fun e w' => e = .returned (.agg (statC c k wh true (lessOf mn mn' true) (lessOf mx mx' false))) ∧ Keeps (fun _ => False) w w' := by
  unfold statC
  obtain ⟨a, ha⟩ : ∃ a, lessOf mn mn' true = a := ⟨_, rfl⟩
  obtain ⟨b, hb⟩ : ∃ b, lessOf mx mx' false = b := ⟨_, rfl⟩
  have L1 := fun w : World => statLess_any mn mn' true h1 h3 w
  have L2 := fun w : World => statLess_any mx mx' false h2 h4 w
  rw [ha] at L1
  rw [hb] at L2
  rw [ha, hb]
  have H1 := Lib.hid L1
  have H2 := Lib.hid L2
  clear ha hb h1 h2 h3 h4 L1 L2
  go_enter Try.func18, Try.ntmps18
  go_wp2_with fail
  refine wp_region_still_tail 11 (by kernel_rfl) (by kernel_rfl) ?_
  simp only [List.take_succ_cons, List.take_zero, List.drop_succ_cons, List.drop_zero]
  change wpStill _ _ (World.drew _) _ _ _
  repeat still_step
  still_call (Calls.mono (H1.out _) fun _ _ ⟨h1, h2⟩ => ⟨h1, h2.symm⟩)
  repeat still_step
  still_call (Calls.mono (H2.out _) fun _ _ ⟨h1, h2⟩ => ⟨h1, h2.symm⟩)
  repeat still_step
  try refine wpStill_nil ?_
  change wpList _ _ _ _ _ (World.drew _)
  go_wp2
  refine bodyPost_ret (v := .agg (statC c k wh true a b)) (by unfold statC; simp [results, Try.results18, go_sem]) rfl ⟨rfl, ?_⟩
  exact ((((Keeps.refl _ _).alloc _).alloc _).alloc _).drew
end Go.Proofs.Ytfpmbkdijechaaa
