/-
  The contract of stat.Join. Conditions: no count passes 64 bits, the bits fit 64.
-/
import Derived.Test.YtfpmbkdijechaaaStatMem
import Derived.Handy
namespace Go.Proofs.Ytfpmbkdijechaaa
open Go.RowKit Flt
attribute [local go_sem] run_store_float

/-- The least, the greatest of two that are told. -/
def spanMn (an an' : Bool) (mn mn' : Nat) : Nat := if an' then (if an then lessOf mn mn' true else mn') else mn
def spanMx (an an' : Bool) (mx mx' : Nat) : Nat := if an' then (if an then lessOf mx mx' false else mx') else mx

theorem span_any (c c' : Int) (k k' : Nat → Int) (wh wh' : Int) (an an' : Bool) (mn mx mn' mx' : Nat) (h1 : Fits mn) (h2 : Fits mx) (h3 : Fits mn') (h4 : Fits mx') (w : World) :
    Calls Try.prog 18 #[.agg (statC c k wh an mn mx), .agg (statC c' k' wh' an' mn' mx')] w fun e w' => e = .returned (.agg (statC c k wh (an || an') (spanMn an an' mn mn') (spanMx an an' mx mx'))) ∧ Keeps (fun _ => False) w w' := by
  cases an' with
  | false => 
    have := span_none c c' k k' wh wh' an mn mx mn' mx' w
    cases an <;> exact this
  | true =>
    cases an with
    | false => exact span_first c c' k k' wh wh' mn mx mn' mx' w
    | true => exact span_both c c' k k' wh wh' mn mx mn' mx' h1 h2 h3 h4 w

set_option maxHeartbeats 3200000 in
theorem join_cells (c c' : Int) (k k' : Nat → Int) (wh wh' : Int) (an an' : Bool) (mn mx mn' mx' : Nat) (h1 : Fits mn) (h2 : Fits mx) (h3 : Fits mn') (h4 : Fits mx')
    (hc : wrap64 (c + c') = c + c') (hw : wrap64 (wh + wh') = wh + wh') (hk : ∀ i, wrap64 (k i + k' i) = k i + k' i) (w : World) :
    Calls Try.prog 10 #[.agg (statC c k wh an mn mx), .agg (statC c' k' wh' an' mn' mx')] w fun e w' =>
      e = .returned (.agg (statC (c + c') (fun i => k i + k' i) (wh + wh') (an || an') (spanMn an an' mn mn') (spanMx an an' mx mx'))) ∧ Keeps (fun _ => False) w w' := by
  have HC := Lib.hid hc
  have HW := Lib.hid hw
  have HK := Lib.hid hk
  have HS := Lib.hid (span_any (wrap64 (c + c')) c' (fun i => k i + k' i) k' (wrap64 (wh + wh')) wh' an an' mn mx mn' mx' h1 h2 h3 h4)
  clear hc hw hk h1 h2 h3 h4
  go_enter Try.func10, Try.ntmps10
  unfold statC
  go_wp2_with fail
  go_loopw [21] (fun x wr => ∃ j : Nat, j ≤ 9 ∧ x = .int .i64 j ∧ Blk wr w.heap.size 27 (statC (wrap64 (c + c')) (fun i => if i < j then k i + k' i else k i) (wrap64 (wh + wh')) an mn mx) ∧ Blk wr (w.heap.size + 1) 27 (statC c' k' wh' an' mn' mx') ∧ Blk wr (w.heap.size + 1 + 1) 27 (statC 0 (fun _ => 0) 0 false 0 0) ∧ Keeps (fun _ => False) w wr) (fun x _ => 9 - (intOf x).toNat)
  case atStart =>
    refine ⟨0, by omega, rfl, ?_, ?_, ?_, ((((Keeps.refl _ _).alloc _).alloc _).alloc _)⟩
    · exact ((Blk.new w _ _).alloc _).alloc _
    · have := (Blk.new (w.alloc (Obj.cells #[.int .i64 (wrap64 (c + c')), .int .i64 (k 0), .int .i64 (k 1), .int .i64 (k 2), .int .i64 (k 3), .int .i64 (k 4), .int .i64 (k 5), .int .i64 (k 6), .int .i64 (k 7), .int .i64 (k 8), .int .i64 (wrap64 (wh + wh')), .bool an, .float .f64 mn, .float .f64 mx] 27)) 27 (statC c' k' wh' an' mn' mx'))
      rw [World.size_alloc] at this
      exact this.alloc _
    · have := (Blk.new ((w.alloc (Obj.cells #[.int .i64 (wrap64 (c + c')), .int .i64 (k 0), .int .i64 (k 1), .int .i64 (k 2), .int .i64 (k 3), .int .i64 (k 4), .int .i64 (k 5), .int .i64 (k 6), .int .i64 (k 7), .int .i64 (k 8), .int .i64 (wrap64 (wh + wh')), .bool an, .float .f64 mn, .float .f64 mx] 27)).alloc (Obj.cells (statC c' k' wh' an' mn' mx') 27)) 27 (statC 0 (fun _ => 0) 0 false 0 0))
      rw [World.size_alloc, World.size_alloc] at this
      exact this
  case round =>
    obtain ⟨j, hj, rfl, hb1, hb2, hb3, hkr⟩ := hrel
    by_cases hlt : j < 9
    · have hji : (j : Int) < 9 := by omega
      have c1 : wr.cell? ⟨w.heap.size, 1 + j, none⟩ = some (.int .i64 (k j)) := by
        rw [hb1.cell, statC_k _ _ _ _ _ _ hlt]; simp
      have c2 : wr.frozen? ⟨w.heap.size, 1 + j, none⟩ = false := hb1.frozen _
      have hix := index_k k' hlt
      have H1 := Lib.hid hb1
      have H2 := Lib.hid hb2
      have H3 := Lib.hid hb3
      clear hb1 hb2 hb3
      go_wp2_with fail
      go_roundw
      case rel =>
        refine ⟨j + 1, by omega, by go_num, ?_, ?_, ?_, ?_⟩
        · have := H1.out.set_ (1 + j) (.int .i64 (wrap64 (k j + k' j)))
          rw [statC_set _ _ _ _ _ _ hlt, HK.out] at this
          have hf : (fun i => if i = j then k j + k' j else if i < j then k i + k' i else k i) = (fun i => if i < j + 1 then k i + k' i else k i) := by
            funext i
            by_cases h1 : i = j
            · rw [h1, if_pos rfl, if_pos (by omega)]
            · rw [if_neg h1]
              by_cases h2 : i < j
              · rw [if_pos h2, if_pos (by omega)]
              · rw [if_neg h2, if_neg (by omega)]
          rw [hf] at this
          rw [HK.out]
          exact this
        · exact H2.out.far (by simp) _
        · exact H3.out.far (by simp; omega) _
        · exact hkr.setCell (p := ⟨w.heap.size, 1 + j, none⟩) (.inr (Nat.le_refl _)) _
      case measure => simp [intOf]; omega
    · obtain rfl : j = 9 := by omega
      have hf : statC (wrap64 (c + c')) (fun i => if i < 9 then k i + k' i else k i) (wrap64 (wh + wh')) an mn mx = statC (wrap64 (c + c')) (fun i => k i + k' i) (wrap64 (wh + wh')) an mn mx := rfl
      rw [hf] at hb1
      have H1 := Lib.hid hb1
      have H2 := Lib.hid hb2
      have H3 := Lib.hid hb3
      clear hb1 hb2 hb3 hf
      go_wp2_with (first
        | (refine wpList_load_row rfl 27 (.tmp 2) rfl _ rfl 27 _ (0, 0) _ H1.out Try.underlying27 rfl (info27' _ _ _ _ _ _) ?_)
        | (refine wpList_load_row rfl 27 (.tmp 3) rfl _ rfl 27 _ (0, 0) _ H2.out Try.underlying27 rfl (info27' _ _ _ _ _ _) ?_))
      refine (HS.out _).mono ?_
      rintro e w' ⟨rfl, hkw⟩
      have hb3' := H3.out.keep hkw (fun h => h)
      have H3' := Lib.hid hb3'
      clear hb3'
      go_wp2_with (refine wpList_store_row rfl 27 (.tmp 4) (.tmp 36) rfl _ _ rfl rfl 27 _ H3'.out (info27' _ _ _ _ _ _) rfl (statC_ones _ _ _ _ _ _) ?_)
      refine bodyPost_ret (results_cell_row Try.results10 _ _ _ 27 _ (0, 0) _ rfl H3'.out.setRow Try.underlying27 rfl (info27' _ _ _ _ _ _)) rfl ⟨?_, (hkr.trans hkw).setRow (.inr (by omega)) _⟩
      rw [HC.out, HW.out]
      rfl
end Go.Proofs.Ytfpmbkdijechaaa
