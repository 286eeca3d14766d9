/-
  The contracts of a window: own, holds, wide. Conditions: the number is not 0 and fits 64 bits; the table of TrailingZeros64 is in its variable.
-/
import Derived.Test.YthcoiaigmndohaaDoorXorBits
import Derived.Test.YthcoiaigmndohaaDoorKit
import Derived.Laws.Rows
namespace Go.Proofs.YthcoiaigmndohaaDoor
open Go.RowKit

/-- A window's cells. -/
def winC (t e : Nat) (is : Bool) : Array Value := #[.int .i64 t, .int .i64 e, .bool is]

theorem Tab.keep {w w' : World} (h : Tab w) (hk : Keeps (fun _ => False) w w') : Tab w' := fun j hj => by
  have hc := h j hj
  rw [hk.cell (p := ⟨1, j, none⟩) (World.block_lt_of_cell? w _ hc) (fun h => h)]
  exact hc

theorem wwide_any (t e : Nat) (is : Bool) (h : t + e ≤ 64) (w : World) :
    Calls Tryd.prog 41 #[.agg (winC t e is)] w fun r w' => r = .returned (.int .i64 ((64 - t - e : Nat) : Int)) ∧ Keeps (fun _ => False) w w' := by
  obtain ⟨n, hn⟩ : ∃ n, 64 - t - e = n := ⟨_, rfl⟩
  have H := Lib.hid (show wrap64 (wrap64 (64 - (t : Int)) - (e : Int)) = (n : Int) by unfold wrap64; omega)
  rw [hn]
  clear hn h
  unfold winC
  go_enter Tryd.func41, Tryd.ntmps41
  go_wp2
  go_ret
  exact ⟨congrArg (fun z => Ending.returned (.int .i64 z)) H.out, (Keeps.refl _ _).alloc _⟩

theorem holds_any (t e : Nat) (is : Bool) (t' e' : Nat) (is' : Bool) (w : World) :
    Calls Tryd.prog 48 #[.agg (winC t e is), .agg (winC t' e' is')] w fun r w' => r = .returned (.bool (is && (decide (t ≤ t') && decide (e ≤ e')))) ∧ Keeps (fun _ => False) w w' := by
  unfold winC
  cases is
  · go_enter Tryd.func48, Tryd.ntmps48
    go_wp2
    go_ret
    exact ⟨rfl, ((Keeps.refl _ _).alloc _).alloc _⟩
  · by_cases h : t ≤ t'
    · have hi : (t : Int) ≤ (t' : Int) := by omega
      go_enter Tryd.func48, Tryd.ntmps48
      go_wp2
      go_ret
      refine ⟨congrArg (fun b => Ending.returned (.bool b)) ?_, ((Keeps.refl _ _).alloc _).alloc _⟩
      first | rfl | (rw [decide_eq_true h]; simp; done) | (simp [h]; done)
    · have hi : ¬ (t : Int) ≤ (t' : Int) := by omega
      go_enter Tryd.func48, Tryd.ntmps48
      go_wp2
      go_ret
      refine ⟨congrArg (fun b => Ending.returned (.bool b)) ?_, ((Keeps.refl _ _).alloc _).alloc _⟩
      first | rfl | (rw [decide_eq_false h]; simp; done) | (simp [h]; done)

theorem own_any (x : Nat) (h : Fits x) (hx : x ≠ 0) (w : World) (hT : Tab w) :
    Calls Tryd.prog 47 #[.int .u64 x] w fun r w' => r = .returned (.agg (winC (min 31 (lzN x)) (tzN x) true)) ∧ Keeps (fun _ => False) w w' := by
  obtain ⟨l, hl⟩ : ∃ l, lzN x = l := ⟨_, rfl⟩
  obtain ⟨z, hz⟩ : ∃ z, tzN x = z := ⟨_, rfl⟩
  have hlz := fun w : World => leading_any x h w
  have htz := fun (w : World) (hT : Tab w) => trailing_any x h hx w hT
  rw [hl] at hlz
  rw [hz] at htz
  rw [hl, hz]
  have HL := Lib.hid hlz
  have HZ := Lib.hid htz
  have HT := Lib.hid hT
  clear hl hz hlz htz hT h hx
  unfold winC
  go_enter Tryd.func47, Tryd.ntmps47
  go_wp2_with fail
  refine (HL.out _).mono ?_
  rintro e w' ⟨rfl, rfl⟩
  go_wp2_with fail
  refine (HZ.out _ (HT.out.keep ((Keeps.refl _ _).alloc _))).mono ?_
  rintro e w' ⟨rfl, rfl⟩
  go_wp2
  refine bodyPost_ret (v := .agg (winC (min 31 l) z true)) (by unfold winC; simp [results, Tryd.results47, go_sem]; omega) rfl ⟨rfl, (Keeps.refl _ _).alloc _⟩
end Go.Proofs.YthcoiaigmndohaaDoor
