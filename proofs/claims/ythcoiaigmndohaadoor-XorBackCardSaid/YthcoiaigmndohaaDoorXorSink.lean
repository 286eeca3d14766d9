/-
  What takes numbers of widths: a sink, whatever it is; the contract of xor.next. Conditions: the number fits 64 bits; the window is one; the table of TrailingZeros64 is in its variable.
-/
import Derived.Test.YthcoiaigmndohaaDoorXorWin
import Derived.Test.YthcoiaigmndohaaDoorXorModel
import Derived.Test.YthcoiaigmndohaaDoorHeld
import Derived.Test.YthcoiaigmndohaaDoorRowsW
import Derived.Deep.CutRange
import Derived.Handy
namespace Go.Proofs.YthcoiaigmndohaaDoor
open Go.RowKit BitM

/-- New memory, and writes to blocks from B0 on that are no windows. -/
structure Step (B0 : Nat) (w w' : World) : Prop where
  keeps : Keeps (fun k => B0 ≤ k) w w'
  win : ∀ g cs, Blk w g 51 cs → Blk w' g 51 cs

theorem Step.refl (B0 : Nat) (w : World) : Step B0 w w := ⟨Keeps.refl _ _, fun _ _ h => h⟩
theorem Step.trans {B0 : Nat} {w w' w'' : World} (h : Step B0 w w') (k : Step B0 w' w'') : Step B0 w w'' := ⟨h.keeps.trans k.keeps, fun g cs hb => k.win g cs (h.win g cs hb)⟩
theorem Step.of {B0 : Nat} {w w' : World} (h : Keeps (fun _ => False) w w') : Step B0 w w' := ⟨h.mono (fun _ h => h.elim), fun _ _ hb => hb.keep h (fun h => h)⟩
theorem Step.tab {B0 : Nat} {w w' : World} (h : Step B0 w w') (hB : 1 < B0) (hT : Tab w) : Tab w' := fun j hj => by
  have hc := hT j hj
  rw [h.keeps.cell (p := ⟨1, j, none⟩) (World.block_lt_of_cell? w _ hc) (by simp; omega)]
  exact hc

/-- A window of the call's own is written. -/
theorem step_row {B0 g : Nat} {w w0 w1 : World} {cs : Array Value} (h0 : Keeps (fun _ => False) w w0) (h1 : Step B0 w0 w1) (hg : w.heap.size ≤ g) (hB : B0 ≤ w.heap.size) : Step B0 w (w1.setRow g cs) :=
  ⟨((h0.mono (fun _ h => h.elim)).trans h1.keeps).setRow (.inr hg) cs, fun i c hb => (h1.win i c (hb.keep h0 (fun h => h))).setRow_far (by have := hb.lt; omega)⟩

theorem step_row' {B0 g : Nat} {w w1 : World} {cs : Array Value} (h1 : Step B0 w w1) (hg : w.heap.size ≤ g) (_hB : B0 ≤ w.heap.size) : Step B0 w (w1.setRow g cs) :=
  ⟨h1.keeps.setRow (.inr hg) cs, fun i c hb => (h1.win i c hb).setRow_far (by have := hb.lt; omega)⟩

/-- A sink: what it is, how it is called, what it holds. -/
structure Sink (T : TypeId) (f : Nat) (v : Value) (B0 : Nat) (Inv : World → List Bool → Prop) : Prop where
  meth : ∀ w : World, (method 213 T v "Put").run Tryd.prog w = .ok (f, v) w
  ahead : ∀ w : World, (nilAhead 213 T v "Put").run Tryd.prog w = .ok (some false) w
  call : ∀ (x k : Int) (w : World), (callFunc f #[v, .int .u64 x, .int .i64 k]).run Tryd.prog w = .ok (.enter f #[v, .int .u64 x, .int .i64 k]) w
  keep : ∀ w w' b, Inv w b → Keeps (fun _ => False) w w' → Inv w' b
  row : ∀ w g cs cs' b, Inv w b → Blk w g 51 cs → Inv (w.setRow g cs') b
  put : ∀ (x k : Nat) (w : World) (b : List Bool), Inv w b → x < 2 ^ k → k ≤ 64 → b.length ≤ 100000 →
    Calls Tryd.prog f #[v, .int .u64 x, .int .i64 k] w fun e w' => e = .returned (.int .i64 0) ∧ Inv w' (b ++ bitsL x k) ∧ Step B0 w w'

theorem info51 : (Tryd.prog.info? 51).map (·.size) = some 3 := by kernel_rfl
theorem winC_ones (t e : Nat) (is : Bool) : (winC t e is).all (·.oneCell') = true := by simp [winC, Value.oneCell']

set_option maxRecDepth 100000 in
set_option maxHeartbeats 1600000 in
theorem next_zero {T : TypeId} {f : Nat} {v : Value} {B0 : Nat} {Inv : World → List Bool → Prop} (hS : Sink T f v B0 Inv) (vw : Win) (w : World) (b : List Bool) (hI : Inv w b) (hl : b.length ≤ 90000) (hB : B0 ≤ w.heap.size) :
    Calls Tryd.prog 44 #[.iface T v, .int .u64 0, .agg (winC vw.t vw.e vw.is)] w fun r w' => r = .returned (.agg (winC vw.t vw.e vw.is)) ∧ Inv w' (b ++ [false]) ∧ Step B0 w w' := by
  obtain ⟨t, e, is⟩ := vw
  have hcall := hS.call
  have hmeth := hS.meth
  have hb5 : Blk ((w.alloc (.cells (winC t e is) 51)).alloc (.cells (winC 0 0 false) 51)) w.heap.size 51 (winC t e is) := (Blk.new w _ _).alloc _
  have hb6 := Blk.new (w.alloc (.cells (winC t e is) 51)) 51 (winC 0 0 false)
  rw [World.size_alloc] at hb6
  have hk0 : Keeps (fun _ => False) w ((w.alloc (.cells (winC t e is) 51)).alloc (.cells (winC 0 0 false) 51)) := ((Keeps.refl _ _).alloc _).alloc _
  have HP := Lib.hid (hS.put 0 1 _ b (hS.keep _ _ _ hI hk0) (by decide) (by omega) (by omega))
  have HB5 := Lib.hid hb5
  have HB6 := Lib.hid hb6
  have HK0 := Lib.hid hk0
  have HROW := Lib.hid hS.row
  clear hb5 hb6 hk0 hI hl hS
  go_enter Tryd.func44, Tryd.ntmps44
  unfold winC
  go_wp2_with fail
  refine HP.out.mono ?_
  rintro r w1 ⟨rfl, hI1, hs1⟩
  have h5 := Lib.hid (hs1.win _ _ HB5.out)
  have h6 := Lib.hid (hs1.win _ _ HB6.out)
  have HI1 := Lib.hid hI1
  clear hI1
  go_wp2_with (first
    | (refine wpList_load_row rfl 51 (.tmp 5) rfl _ rfl 51 _ (0, 0) _ h5.out Tryd.underlying51 rfl info51 ?_)
    | (refine wpList_store_row rfl 51 (.tmp 6) (.tmp 12) rfl _ _ rfl rfl 51 _ h6.out info51 rfl (winC_ones _ _ _) ?_))
  refine bodyPost_ret (results_cell_row Tryd.results44 _ _ _ 51 _ (0, 0) _ rfl h6.out.setRow Tryd.underlying51 rfl info51) rfl ⟨rfl, HROW.out _ _ _ _ _ HI1.out h6.out, ?_⟩
  exact step_row HK0.out hs1 (Nat.le_succ _) hB
end Go.Proofs.YthcoiaigmndohaaDoor
