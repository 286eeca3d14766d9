/-
  The contract of stat.one. Condition: the bits fit 64.
-/
import Derived.Test.YtfpmbkdijechaaaStatMem
import Derived.Deep.CutRange
namespace Go.Proofs.Ytfpmbkdijechaaa
open Go.RowKit Flt
attribute [local go_sem] run_store_float

/-- What is told of some reals. -/
structure St where
  c : Int
  k : Nat → Int
  wh : Int
  an : Bool
  mn : Nat
  mx : Nat

/-- Its cells. -/
def St.cells (s : St) : Array Value := statC s.c s.k s.wh s.an s.mn s.mx

/-- What is told of one real. -/
def oneSt (b : Nat) : St := ⟨1, fun i => if i = (kind b).toNat then 1 else 0, if (wholeOf b).isSome then 1 else 0, kind b != 8, if kind b = 8 then 0 else b, if kind b = 8 then 0 else b⟩

theorem kind_range (b : Nat) : 0 ≤ kind b ∧ kind b ≤ 8 := by
  unfold kind kindA
  (repeat' split) <;> omega

theorem one_start (w : World) (kd : Nat) (h : kd < 9) :
    ((w.alloc (Obj.cells (statC 0 (fun _ => 0) 0 false 0 0) 27)).alloc (Obj.cells (statC 1 (fun _ => 0) 0 false 0 0) 27)).cell? ⟨w.heap.size + 1, 1 + kd, none⟩ = some (.int .i64 0) ∧
    ((w.alloc (Obj.cells (statC 0 (fun _ => 0) 0 false 0 0) 27)).alloc (Obj.cells (statC 1 (fun _ => 0) 0 false 0 0) 27)).frozen? ⟨w.heap.size + 1, 1 + kd, none⟩ = false ∧
    Blk ((w.alloc (Obj.cells (statC 0 (fun _ => 0) 0 false 0 0) 27)).alloc (Obj.cells (statC 1 (fun _ => 0) 0 false 0 0) 27)) w.heap.size 27 (statC 0 (fun _ => 0) 0 false 0 0) ∧
    Blk ((w.alloc (Obj.cells (statC 0 (fun _ => 0) 0 false 0 0) 27)).alloc (Obj.cells (statC 1 (fun _ => 0) 0 false 0 0) 27)) (w.heap.size + 1) 27 (statC 1 (fun _ => 0) 0 false 0 0) := by
  have hb := Blk.new (w.alloc (Obj.cells (statC 0 (fun _ => 0) 0 false 0 0) 27)) 27 (statC 1 (fun _ => 0) 0 false 0 0)
  rw [World.size_alloc] at hb
  exact ⟨(hb.cell _).trans (statC_k _ _ _ _ _ _ h), hb.frozen _, (Blk.new w _ _).alloc _, hb⟩

set_option maxHeartbeats 3200000 in
theorem one_of (b : Nat) (h : Fits b) (kd : Nat) (hkd : kind b = kd) (h9 : kd < 9) (s : Bool) (n : Int) (hW : ∀ w : World, Calls Try.prog 30 #[.float .f64 b] w fun e w' => e = .returned (.tuple #[.int .i64 n, .bool s]) ∧ w = w') (w : World) :
    Calls Try.prog 22 #[.float .f64 b] w fun e w' => e = .returned (.agg (statC 1 (fun i => if i = kd then 1 else 0) (if s then 1 else 0) (decide (kd ≠ 8)) (if kd = 8 then 0 else b) (if kd = 8 then 0 else b))) ∧ Keeps (fun _ => False) w w' := by
  have hki : (kd : Int) < 9 := by omega
  have HK := Lib.hid hkd
  have HF := Lib.hid h
  clear hkd h
  obtain ⟨c1, c2, hb0, hb1⟩ := one_start w kd h9
  unfold statC at c1 c2
  have H0 := Lib.hid hb0
  have H1 := Lib.hid hb1
  clear hb0 hb1
  go_enter Try.func22, Try.ntmps22
  go_wp2_with fail
  refine (kind_any b HF.out _).mono ?_
  rw [HK.out]
  rintro e w' ⟨rfl, rfl⟩
  go_upto_region 3 with fail
  go_cut [4] from 10 to 16 (fun s4 wx => s4 = .int .i64 kd ∧ Blk wx w.heap.size 27 (statC 0 (fun _ => 0) 0 false 0 0) ∧ Blk wx (w.heap.size + 1) 27 (statC 1 (fun i => if i = kd then 1 else 0) 0 false 0 0) ∧ Keeps (fun _ => False) w wx)
  case first =>
    go_wp2_with fail
    go_meet
    case rel =>
      have hset := statC_set 1 (fun _ => 0) 0 false 0 0 h9 1
      have hl : ([Value.int .i64 1, .int .i64 0, .int .i64 0, .int .i64 0, .int .i64 0, .int .i64 0, .int .i64 0, .int .i64 0, .int .i64 0, .int .i64 0, .int .i64 0, .bool false, .float .f64 0, .float .f64 0].set (1 + kd) (.int .i64 1)).toArray = statC 1 (fun i => if i = kd then 1 else 0) 0 false 0 0 := by
        rw [← hset, ← List.setIfInBounds_toArray]
        rfl
      rw [hl]
      refine ⟨rfl, (Blk.new w _ _).alloc _, ?_, ((Keeps.refl _ _).alloc _).alloc _⟩
      have hb := Blk.new (w.alloc (Obj.cells (statC 0 (fun _ => 0) 0 false 0 0) 27)) 27 (statC 1 (fun i => if i = kd then 1 else 0) 0 false 0 0)
      rw [World.size_alloc] at hb
      exact hb
  case rest =>
    obtain ⟨rfl, hb0, hb1, hkx⟩ := hcut
    have d10 : wc.cell? ⟨w.heap.size + 1, 10, none⟩ = some (.int .i64 0) := hb1.cell 10
    have d11 : wc.cell? ⟨w.heap.size + 1, 11, none⟩ = some (.bool false) := hb1.cell 11
    have d12 : wc.cell? ⟨w.heap.size + 1, 12, none⟩ = some (.float .f64 0) := hb1.cell 12
    have d13 : wc.cell? ⟨w.heap.size + 1, 13, none⟩ = some (.float .f64 0) := hb1.cell 13
    have f10 : wc.frozen? ⟨w.heap.size + 1, 10, none⟩ = false := hb1.frozen 10
    have f11 : wc.frozen? ⟨w.heap.size + 1, 11, none⟩ = false := hb1.frozen 11
    have f12 : wc.frozen? ⟨w.heap.size + 1, 12, none⟩ = false := hb1.frozen 12
    have f13 : wc.frozen? ⟨w.heap.size + 1, 13, none⟩ = false := hb1.frozen 13
    have HB0 := Lib.hid hb0
    have HB1 := Lib.hid hb1
    clear hb0 hb1 c1 c2
    go_wp2_with fail
    refine (hW _).mono ?_
    rintro e w' ⟨rfl, rfl⟩
    by_cases h8 : kd = 8
    · subst h8
      cases s
      · go_upto_region 9 with fail
        go_wp2_with (first
          | (refine wpList_load_row rfl 27 (.tmp 3) rfl _ rfl 27 _ (0, 0) _ HB1.out Try.underlying27 rfl (info27' _ _ _ _ _ _) ?_)
          | (refine wpList_store_row rfl 27 (.tmp 2) (.tmp 34) rfl _ _ rfl rfl 27 _ HB0.out (info27' _ _ _ _ _ _) rfl (statC_ones _ _ _ _ _ _) ?_))
        exact bodyPost_ret (results_cell_row Try.results22 _ _ _ 27 _ (0, 0) _ rfl HB0.out.setRow Try.underlying27 rfl (info27' _ _ _ _ _ _)) rfl ⟨rfl, hkx.setRow (.inr (Nat.le_refl _)) _⟩
      · have HB2 := Lib.hid (show Blk (wc.setCell ⟨w.heap.size + 1, 10, none⟩ (.int .i64 1)) (w.heap.size + 1) 27 (statC 1 (fun i => if i = 8 then 1 else 0) 1 false 0 0) from HB1.out.set_ 10 _)
        have HB3 := Lib.hid (show Blk (wc.setCell ⟨w.heap.size + 1, 10, none⟩ (.int .i64 1)) (w.heap.size) 27 (statC 0 (fun _ => 0) 0 false 0 0) from HB0.out.far (by simp) _)
        have HKX := hkx.setCell (p := ⟨w.heap.size + 1, 10, none⟩) (.inr (Nat.le_succ _)) (.int .i64 1)
        obtain ⟨W4, hW4⟩ : ∃ W4, (wc.setCell ⟨w.heap.size + 1, 10, none⟩ (.int .i64 1)) = W4 := ⟨_, rfl⟩
        rw [hW4] at HB2 HB3 HKX
        go_upto_region 9 with fail
        try rw [hW4]
        clear hW4 d10 d11 d12 d13 f10 f11 f12 f13
        go_wp2_with (first
          | (refine wpList_load_row rfl 27 (.tmp 3) rfl _ rfl 27 _ (0, 0) _ HB2.out Try.underlying27 rfl (info27' _ _ _ _ _ _) ?_)
          | (refine wpList_store_row rfl 27 (.tmp 2) (.tmp 34) rfl _ _ rfl rfl 27 _ HB3.out (info27' _ _ _ _ _ _) rfl (statC_ones _ _ _ _ _ _) ?_))
        exact bodyPost_ret (results_cell_row Try.results22 _ _ _ 27 _ (0, 0) _ rfl HB3.out.setRow Try.underlying27 rfl (info27' _ _ _ _ _ _)) rfl ⟨rfl, HKX.setRow (.inr (Nat.le_refl _)) _⟩
    · have hn8 : ((kd : Int) != 8) = true := by simp; omega
      have H8 := Lib.hid h8
      have hle : w.heap.size ≤ w.heap.size + 1 := Nat.le_succ _
      cases s
      · have HB2 := Lib.hid (show Blk (((wc.setCell ⟨w.heap.size + 1, 11, none⟩ (.bool true)).setCell ⟨w.heap.size + 1, 12, none⟩ (.float .f64 b)).setCell ⟨w.heap.size + 1, 13, none⟩ (.float .f64 b)) (w.heap.size + 1) 27 (statC 1 (fun i => if i = kd then 1 else 0) 0 true b b) from ((HB1.out.set_ 11 _).set_ 12 _).set_ 13 _)
        have HB3 := Lib.hid (show Blk (((wc.setCell ⟨w.heap.size + 1, 11, none⟩ (.bool true)).setCell ⟨w.heap.size + 1, 12, none⟩ (.float .f64 b)).setCell ⟨w.heap.size + 1, 13, none⟩ (.float .f64 b)) (w.heap.size) 27 (statC 0 (fun _ => 0) 0 false 0 0) from ((HB0.out.far (by simp) _).far (by simp) _).far (by simp) _)
        clear h8
        have HKX := ((hkx.setCell (p := ⟨w.heap.size + 1, 11, none⟩) (.inr hle) (.bool true)).setCell (p := ⟨w.heap.size + 1, 12, none⟩) (.inr hle) (.float .f64 b)).setCell (p := ⟨w.heap.size + 1, 13, none⟩) (.inr hle) (.float .f64 b)
        obtain ⟨W4, hW4⟩ : ∃ W4, (((wc.setCell ⟨w.heap.size + 1, 11, none⟩ (.bool true)).setCell ⟨w.heap.size + 1, 12, none⟩ (.float .f64 b)).setCell ⟨w.heap.size + 1, 13, none⟩ (.float .f64 b)) = W4 := ⟨_, rfl⟩
        rw [hW4] at HB2 HB3 HKX
        go_upto_region 9 with fail
        try rw [hW4]
        clear hW4 d10 d11 d12 d13 f10 f11 f12 f13
        go_wp2_with (first
          | (refine wpList_load_row rfl 27 (.tmp 3) rfl _ rfl 27 _ (0, 0) _ HB2.out Try.underlying27 rfl (info27' _ _ _ _ _ _) ?_)
          | (refine wpList_store_row rfl 27 (.tmp 2) (.tmp 34) rfl _ _ rfl rfl 27 _ HB3.out (info27' _ _ _ _ _ _) rfl (statC_ones _ _ _ _ _ _) ?_))
        exact bodyPost_ret (results_cell_row Try.results22 _ _ _ 27 _ (0, 0) _ rfl HB3.out.setRow Try.underlying27 rfl (info27' _ _ _ _ _ _)) rfl ⟨by first | rfl | (rw [if_neg H8.out, decide_eq_true (show kd ≠ 8 from H8.out)]; rfl), HKX.setRow (.inr (Nat.le_refl _)) _⟩
      · have HB2 := Lib.hid (show Blk ((((wc.setCell ⟨w.heap.size + 1, 10, none⟩ (.int .i64 1)).setCell ⟨w.heap.size + 1, 11, none⟩ (.bool true)).setCell ⟨w.heap.size + 1, 12, none⟩ (.float .f64 b)).setCell ⟨w.heap.size + 1, 13, none⟩ (.float .f64 b)) (w.heap.size + 1) 27 (statC 1 (fun i => if i = kd then 1 else 0) 1 true b b) from (((HB1.out.set_ 10 _).set_ 11 _).set_ 12 _).set_ 13 _)
        have HB3 := Lib.hid (show Blk ((((wc.setCell ⟨w.heap.size + 1, 10, none⟩ (.int .i64 1)).setCell ⟨w.heap.size + 1, 11, none⟩ (.bool true)).setCell ⟨w.heap.size + 1, 12, none⟩ (.float .f64 b)).setCell ⟨w.heap.size + 1, 13, none⟩ (.float .f64 b)) (w.heap.size) 27 (statC 0 (fun _ => 0) 0 false 0 0) from (((HB0.out.far (by simp) _).far (by simp) _).far (by simp) _).far (by simp) _)
        clear h8
        have HKX := (((hkx.setCell (p := ⟨w.heap.size + 1, 10, none⟩) (.inr hle) (.int .i64 1)).setCell (p := ⟨w.heap.size + 1, 11, none⟩) (.inr hle) (.bool true)).setCell (p := ⟨w.heap.size + 1, 12, none⟩) (.inr hle) (.float .f64 b)).setCell (p := ⟨w.heap.size + 1, 13, none⟩) (.inr hle) (.float .f64 b)
        obtain ⟨W4, hW4⟩ : ∃ W4, ((((wc.setCell ⟨w.heap.size + 1, 10, none⟩ (.int .i64 1)).setCell ⟨w.heap.size + 1, 11, none⟩ (.bool true)).setCell ⟨w.heap.size + 1, 12, none⟩ (.float .f64 b)).setCell ⟨w.heap.size + 1, 13, none⟩ (.float .f64 b)) = W4 := ⟨_, rfl⟩
        rw [hW4] at HB2 HB3 HKX
        go_upto_region 9 with fail
        try rw [hW4]
        clear hW4 d10 d11 d12 d13 f10 f11 f12 f13
        go_wp2_with (first
          | (refine wpList_load_row rfl 27 (.tmp 3) rfl _ rfl 27 _ (0, 0) _ HB2.out Try.underlying27 rfl (info27' _ _ _ _ _ _) ?_)
          | (refine wpList_store_row rfl 27 (.tmp 2) (.tmp 34) rfl _ _ rfl rfl 27 _ HB3.out (info27' _ _ _ _ _ _) rfl (statC_ones _ _ _ _ _ _) ?_))
        exact bodyPost_ret (results_cell_row Try.results22 _ _ _ 27 _ (0, 0) _ rfl HB3.out.setRow Try.underlying27 rfl (info27' _ _ _ _ _ _)) rfl ⟨by first | rfl | (rw [if_neg H8.out, decide_eq_true (show kd ≠ 8 from H8.out)]; rfl), HKX.setRow (.inr (Nat.le_refl _)) _⟩

theorem one_any (b : Nat) (h : Fits b) (w : World) :
    Calls Try.prog 22 #[.float .f64 b] w fun e w' => e = .returned (.agg (oneSt b).cells) ∧ Keeps (fun _ => False) w w' := by
  have hr := kind_range b
  obtain ⟨kd, hkd⟩ : ∃ kd : Nat, kind b = kd := ⟨(kind b).toNat, by omega⟩
  have hone : (oneSt b).cells = statC 1 (fun i => if i = kd then 1 else 0) (if (wholeOf b).isSome then 1 else 0) (decide (kd ≠ 8)) (if kd = 8 then 0 else b) (if kd = 8 then 0 else b) := by
    unfold oneSt St.cells
    dsimp only
    rw [hkd]
    have e1 : ((kd : Int) = 8) = (kd = 8) := by rw [eq_iff_iff]; omega
    have e2 : ((kd : Int) != 8) = decide (kd ≠ 8) := by
      by_cases h : kd = 8
      · subst h; rfl
      · rw [decide_eq_true h]; simp; omega
    have e3 : (kd : Int).toNat = kd := by omega
    simp only [e1, e2, e3]
  rw [hone]
  exact one_of b h kd hkd (by omega) _ _ (fun w => whole_any b h w) w
end Go.Proofs.Ytfpmbkdijechaaa
