/-
  The contract of stat.Add. Conditions: no count passes 64 bits, the bits fit 64.
-/
import Derived.Test.YtfpmbkdijechaaaStatJoin
import Derived.Test.YtfpmbkdijechaaaStatOne
import Derived.Test.YtfpmbkdijechaaaHeld
namespace Go.Proofs.Ytfpmbkdijechaaa
open Go.RowKit Flt
attribute [local go_sem] run_store_float

/-- What is told of both. -/
def St.join (s o : St) : St := ⟨s.c + o.c, fun i => s.k i + o.k i, s.wh + o.wh, s.an || o.an, spanMn s.an o.an s.mn o.mn, spanMx s.an o.an s.mx o.mx⟩

/-- The counts are no greater than N, the bits fit. -/
structure St.Ok (N : Int) (s : St) : Prop where
  c : 0 ≤ s.c ∧ s.c ≤ N
  k : ∀ i, 0 ≤ s.k i ∧ s.k i ≤ N
  wh : 0 ≤ s.wh ∧ s.wh ≤ N
  mn : Fits s.mn
  mx : Fits s.mx

theorem lessOf_fits {a b : Nat} {so : Bool} (ha : Fits a) (hb : Fits b) : Fits (lessOf a b so) := by
  unfold lessOf
  split
  · exact hb
  · exact ha

theorem St.Ok.join {N M : Int} {s o : St} (hs : s.Ok N) (ho : o.Ok M) : (s.join o).Ok (N + M) := by
  refine ⟨?_, ?_, ?_, ?_, ?_⟩
  · have := hs.c; have := ho.c; show 0 ≤ s.c + o.c ∧ s.c + o.c ≤ N + M; omega
  · intro i; have := hs.k i; have := ho.k i; show 0 ≤ s.k i + o.k i ∧ s.k i + o.k i ≤ N + M; omega
  · have := hs.wh; have := ho.wh; show 0 ≤ s.wh + o.wh ∧ s.wh + o.wh ≤ N + M; omega
  · show Fits (spanMn s.an o.an s.mn o.mn)
    unfold spanMn
    (repeat' split)
    · exact lessOf_fits hs.mn ho.mn
    · exact ho.mn
    · exact hs.mn
  · show Fits (spanMx s.an o.an s.mx o.mx)
    unfold spanMx
    (repeat' split)
    · exact lessOf_fits hs.mx ho.mx
    · exact ho.mx
    · exact hs.mx

theorem oneSt_ok {b : Nat} (h : Fits b) : (oneSt b).Ok 1 := by
  have f0 : Fits 0 := by unfold Fits; omega
  refine ⟨⟨(by decide : (0 : Int) ≤ 1), (by decide : (1 : Int) ≤ 1)⟩, ?_, ?_, ?_, ?_⟩
  · intro i; show 0 ≤ (if _ then (1 : Int) else 0) ∧ (if _ then (1 : Int) else 0) ≤ 1; split <;> omega
  · show 0 ≤ (if _ then (1 : Int) else 0) ∧ (if _ then (1 : Int) else 0) ≤ 1; split <;> omega
  · show Fits (if _ then 0 else b); split <;> assumption
  · show Fits (if _ then 0 else b); split <;> assumption

theorem join_any {N M : Int} {s o : St} (hs : s.Ok N) (ho : o.Ok M) (hN : N + M ≤ 1000000) (w : World) :
    Calls Try.prog 10 #[.agg s.cells, .agg o.cells] w fun e w' => e = .returned (.agg (s.join o).cells) ∧ Keeps (fun _ => False) w w' := by
  have hj := hs.join ho
  have e64 : ∀ x : Int, 0 ≤ x → x ≤ 1000000 → wrap64 x = x := fun x h0 h1 => by unfold wrap64; omega
  exact join_cells s.c o.c s.k o.k s.wh o.wh s.an o.an s.mn s.mx o.mn o.mx hs.mn hs.mx ho.mn ho.mx
    (e64 _ hj.c.1 (Int.le_trans hj.c.2 hN)) (e64 _ hj.wh.1 (Int.le_trans hj.wh.2 hN)) (fun i => e64 _ (hj.k i).1 (Int.le_trans (hj.k i).2 hN)) w

set_option maxHeartbeats 3200000 in
theorem add_any {N : Int} {s : St} {b : Nat} (hs : s.Ok N) (hN : N + 1 ≤ 1000000) (hb : Fits b) (w : World) :
    Calls Try.prog 12 #[.agg s.cells, .float .f64 b] w fun e w' => e = .returned (.agg (s.join (oneSt b)).cells) ∧ Keeps (fun _ => False) w w' := by
  have J := join_any hs (oneSt_ok hb) hN
  have O := one_any b hb
  obtain ⟨t, ht⟩ : ∃ t, s.join (oneSt b) = t := ⟨_, rfl⟩
  obtain ⟨o, ho⟩ : ∃ o, oneSt b = o := ⟨_, rfl⟩
  rw [ht, ho] at J
  rw [ho] at O
  rw [ht]
  clear ht ho hs hN hb
  have HJ := Lib.hid J
  have HO := Lib.hid O
  clear J O
  unfold St.cells
  go_enter Try.func12, Try.ntmps12
  unfold statC
  go_wp2_with fail
  have hS0 : ∀ n, Blk ((w.alloc (Obj.cells (statC s.c s.k s.wh s.an s.mn s.mx) 27)).alloc (Obj.cells (statC 0 (fun _ => 0) 0 false 0 0) 27) |>.drewN n) w.heap.size 27 (statC s.c s.k s.wh s.an s.mn s.mx) ∧
      (∃ cs : Array Value, cs.size = 14 ∧ Blk ((w.alloc (Obj.cells (statC s.c s.k s.wh s.an s.mn s.mx) 27)).alloc (Obj.cells (statC 0 (fun _ => 0) 0 false 0 0) 27) |>.drewN n) (w.heap.size + 1) 27 cs) ∧
      Keeps (fun _ => False) w ((w.alloc (Obj.cells (statC s.c s.k s.wh s.an s.mn s.mx) 27)).alloc (Obj.cells (statC 0 (fun _ => 0) 0 false 0 0) 27) |>.drewN n) := by
    intro n
    have hb := Blk.new (w.alloc (Obj.cells (statC s.c s.k s.wh s.an s.mn s.mx) 27)) 27 (statC 0 (fun _ => 0) 0 false 0 0)
    rw [World.size_alloc] at hb
    exact ⟨(Blk.new w _ _).alloc _, ⟨_, rfl, hb⟩, (((Keeps.refl _ _).alloc _).alloc _).drewN n⟩
  refine wp_region_held_drew (S := fun w' => Blk w' w.heap.size 27 (statC s.c s.k s.wh s.an s.mn s.mx) ∧ (∃ cs : Array Value, cs.size = 14 ∧ Blk w' (w.heap.size + 1) 27 cs) ∧ Keeps (fun _ => False) w w') (by kernel_rfl) (hS0 1) ?_
  intro hS
  refine held_take (i := 0) (v := .agg s.cells) rfl (by kernel_rfl) (by kernel_rfl) (by kernel_rfl) (some 5) (fun _ _ _ h => h) rfl (yields_load 27 (.tmp 2) rfl _ rfl rfl (fun w' hw' => load_stat hw'.1)) hS ?_
  simp only [Act.put, List.setIfInBounds_toArray, List.set_cons_zero, List.set_cons_succ]
  refine held_take (i := 1) (v := .float .f64 b) rfl (by kernel_rfl) (by kernel_rfl) (by kernel_rfl) (some 6) (fun _ _ _ h => h) rfl (Or.inl ⟨by rfl, fun _ _ => by rfl⟩) hS ?_
  simp only [Act.put, List.setIfInBounds_toArray, List.set_cons_zero, List.set_cons_succ]
  clear hS0
  generalize World.drew _ = w1 at *
  refine held_call (i := 2) (by kernel_rfl) rfl (by rfl) (some 7) rfl 22 #[.float .f64 b] (by kernel_rfl) (fun v _ => v = .agg o.cells)
    ((HO.out w1).mono fun e w' ⟨he, hk⟩ => ⟨_, he, rfl, hS.1.keep hk (fun h => h), ⟨hS.2.1.choose, hS.2.1.choose_spec.1, hS.2.1.choose_spec.2.keep hk (fun h => h)⟩, hS.2.2.trans hk⟩) ?_
  rintro v w2 rfl hS2
  simp only [Act.put, List.setIfInBounds_toArray, List.set_cons_zero, List.set_cons_succ]
  refine held_call (i := 3) (by kernel_rfl) rfl (by rfl) (some 8) rfl 10 #[.agg s.cells, .agg o.cells] (by kernel_rfl) (fun v _ => v = .agg t.cells)
    ((HJ.out w2).mono fun e w' ⟨he, hk⟩ => ⟨_, he, rfl, hS2.1.keep hk (fun h => h), ⟨hS2.2.1.choose, hS2.2.1.choose_spec.1, hS2.2.1.choose_spec.2.keep hk (fun h => h)⟩, hS2.2.2.trans hk⟩) ?_
  rintro v w3 rfl hS3
  simp only [Act.put, List.setIfInBounds_toArray, List.set_cons_zero, List.set_cons_succ]
  obtain ⟨hb2, ⟨cs, hcs, hb4⟩, hk3⟩ := hS3
  refine held_one (i := 4) (by kernel_rfl) rfl (by rfl) fun K' hK => ?_
  refine wp_store_row 27 (.tmp 4) (.tmp 8) rfl _ t.cells rfl rfl 27 cs hb4 info27 hcs (statC_ones _ _ _ _ _ _) ?_
  refine hK.out _ _ ⟨hb2.setRow_far (by omega), ⟨_, rfl, hb4.setRow⟩, hk3.setRow (.inr (by omega)) _⟩ (fun hS4 => ?_)
  refine wpAnyH_done (by kernel_rfl) ?_ _
  clear hS hS2 hS4
  have HB := Lib.hid (hb4.setRow (cs := t.cells))
  have HK4 := Lib.hid (hk3.setRow (g := w.heap.size + 1) (.inr (by omega)) t.cells)
  go_wp2
  exact bodyPost_ret (results_cell_row Try.results12 _ _ _ 27 _ (0, 0) _ rfl HB.out Try.underlying27 rfl info27) rfl ⟨rfl, HK4.out⟩
end Go.Proofs.Ytfpmbkdijechaaa
