/-
  The law TrapGets: the contracts of Must, Check, Get and of the closures; its walk. No conditions.
-/
import Derived.Test.YtlgnepkapcjfnaaTrapAwake
import Derived.Test.YtlgnepkapcjfnaaKit
namespace Go.Proofs.Ytlgnepkapcjfnaa
open Go.RowKit

abbrev NoS : Nat → Prop := fun _ => False

theorem must_ok (x : Int) (w : World) : Calls Try.prog 20 #[.int .u64 x, .int .i64 0] w fun e w' => e = .returned (.int .u64 x) ∧ w = w' := by
  go_enter Try.func20, Try.ntmps20
  go_wp2_with (go_at_call 14; refine (throw_none _).mono ?_; rintro e w' ⟨rfl, rfl⟩)
  go_ret
  exact ⟨rfl, rfl⟩

theorem must_no (x y : Int) (hy : (y != 0) = true) (w : World) : Calls Try.prog 20 #[.int .u64 x, .int .i64 y] w fun e w' => e = .panicked [{ v := thrownV y, recovered := false }] ∧ w = w' := by
  go_enter Try.func20, Try.ntmps20
  go_wp2_with (go_at_call 14; refine (throw_some y hy _).mono ?_; rintro e w' ⟨rfl, rfl⟩)
  exact ⟨rfl, rfl, rfl⟩

theorem check_ok (b : Bool) (y : Int) (h : b = true ∨ y = 0) (w : World) : Calls Try.prog 22 #[.bool b, .int .i64 y] w fun e w' => e = .returned (.tuple #[]) ∧ w = w' := by
  cases b
  · obtain rfl : y = 0 := by simpa using h
    go_enter Try.func22, Try.ntmps22
    go_wp2_with (go_at_call 14; refine (throw_none _).mono ?_; rintro e w' ⟨rfl, rfl⟩)
    go_end0
    exact ⟨rfl, rfl⟩
  · clear h
    go_enter Try.func22, Try.ntmps22
    go_wp2
    go_end0
    exact ⟨rfl, rfl⟩

theorem check_no (y : Int) (hy : (y != 0) = true) (w : World) : Calls Try.prog 22 #[.bool false, .int .i64 y] w fun e w' => e = .panicked [{ v := thrownV y, recovered := false }] ∧ w = w' := by
  go_enter Try.func22, Try.ntmps22
  go_wp2_with (go_at_call 14; refine (throw_some y hy _).mono ?_; rintro e w' ⟨rfl, rfl⟩)
  exact ⟨rfl, rfl, rfl⟩

/-- The closure that is handed to Get. -/
theorem gets1_ok (x : Int) (bx be : Nat) (w : World) (hx : Blk w bx 39 #[.int .u64 x]) (he : Blk w be 3 #[.int .i64 0]) :
    Calls Try.prog 19 #[.pointer (some ⟨bx, 0, none⟩), .pointer (some ⟨be, 0, none⟩)] w fun e w' => e = .returned (.int .u64 x) ∧ w = w' := by
  have cx : w.cell? ⟨bx, 0, none⟩ = some (.int .u64 x) := hx.cell 0
  have ce : w.cell? ⟨be, 0, none⟩ = some (.int .i64 0) := he.cell 0
  clear hx he
  go_enter Try.func19, Try.ntmps19
  go_wp2_with (go_at_call 20; refine (must_ok x _).mono ?_; rintro e w' ⟨rfl, rfl⟩)
  go_ret
  exact ⟨rfl, rfl⟩

theorem gets1_no (x y : Int) (hy : (y != 0) = true) (bx be : Nat) (w : World) (hx : Blk w bx 39 #[.int .u64 x]) (he : Blk w be 3 #[.int .i64 y]) :
    Calls Try.prog 19 #[.pointer (some ⟨bx, 0, none⟩), .pointer (some ⟨be, 0, none⟩)] w fun e w' => e = .panicked [{ v := thrownV y, recovered := false }] ∧ w = w' := by
  have cx : w.cell? ⟨bx, 0, none⟩ = some (.int .u64 x) := hx.cell 0
  have ce : w.cell? ⟨be, 0, none⟩ = some (.int .i64 y) := he.cell 0
  clear hx he
  go_enter Try.func19, Try.ntmps19
  go_wp2_with (go_at_call 20; refine (must_no x y hy _).mono ?_; rintro e w' ⟨rfl, rfl⟩)
  exact ⟨rfl, rfl, rfl⟩

theorem enter19 (cap : Array Value) (w : World) : (callFunc 19 cap).run Try.prog w = .ok (.enter 19 cap) w := by kernel_rfl
theorem enter28 (cap : Array Value) (w : World) : (callFunc 28 cap).run Try.prog w = .ok (.enter 28 cap) w := by kernel_rfl
theorem enter21 (cap : Array Value) (w : World) : (callFunc 21 cap).run Try.prog w = .ok (.enter 21 cap) w := by kernel_rfl

/-- The closure inside Get: what the function answers is laid into 'out'. -/
theorem get1_ok (x y : Int) (cap : Array Value) (bd bo : Nat) (w : World) (hd : Blk w bd 43 #[.func (.func 19) #[] cap]) (ho : Blk w bo 39 #[.int .u64 y])
    (h : Calls Try.prog 19 cap w fun e w' => e = .returned (.int .u64 x) ∧ w = w') :
    Calls Try.prog 28 #[.pointer (some ⟨bd, 0, none⟩), .pointer (some ⟨bo, 0, none⟩)] w fun e w' => e = .returned (.tuple #[]) ∧ w' = w.setCell ⟨bo, 0, none⟩ (.int .u64 x) := by
  have cd : w.cell? ⟨bd, 0, none⟩ = some (.func (.func 19) #[] cap) := hd.cell 0
  have co : w.cell? ⟨bo, 0, none⟩ = some (.int .u64 y) := ho.cell 0
  have fo := ho.frozen 0
  have hK := enter19 cap
  clear hd ho
  go_enter Try.func28, Try.ntmps28
  go_wp2_with (go_at_call 19; refine h.mono ?_; rintro e w' ⟨rfl, rfl⟩)
  go_end0
  exact ⟨rfl, rfl⟩

theorem get1_no (v : Value) (cap : Array Value) (bd bo : Nat) (w : World) (hd : Blk w bd 43 #[.func (.func 19) #[] cap])
    (h : Calls Try.prog 19 cap w fun e w' => e = .panicked [{ v := v, recovered := false }] ∧ w = w') :
    Calls Try.prog 28 #[.pointer (some ⟨bd, 0, none⟩), .pointer (some ⟨bo, 0, none⟩)] w fun e w' => e = .panicked [{ v := v, recovered := false }] ∧ w = w' := by
  have cd : w.cell? ⟨bd, 0, none⟩ = some (.func (.func 19) #[] cap) := hd.cell 0
  have hK := enter19 cap
  clear hd
  go_enter Try.func28, Try.ntmps28
  go_wp2_with (go_at_call 19; refine h.mono ?_; rintro e w' ⟨rfl, rfl⟩)
  exact ⟨rfl, rfl, rfl⟩

theorem get_ok (x : Int) (bx be : Nat) (w : World) (hx : Blk w bx 39 #[.int .u64 x]) (he : Blk w be 3 #[.int .i64 0]) :
    Calls Try.prog 18 #[.func (.func 19) #[] #[.pointer (some ⟨bx, 0, none⟩), .pointer (some ⟨be, 0, none⟩)]] w fun e w' => e = .returned (.tuple #[.int .u64 x, .int .i64 0]) ∧ Keeps NoS w w' := by
  obtain ⟨cap, hcap⟩ : ∃ cap : Array Value, #[.pointer (some ⟨bx, 0, none⟩), .pointer (some ⟨be, 0, none⟩)] = cap := ⟨_, rfl⟩
  rw [hcap]
  obtain ⟨W, hW⟩ : ∃ W, (w.alloc (.cells #[.func (.func 19) #[] cap] 43)).alloc (.cells #[.int .u64 0] 39) = W := ⟨_, rfl⟩
  have kW : Keeps NoS w W := by rw [← hW]; exact ((Keeps.refl _ _).alloc _).alloc _
  have hd : Blk W w.heap.size 43 #[.func (.func 19) #[] cap] := by rw [← hW]; exact (Blk.new _ _ _).alloc _
  have ho : Blk W (w.heap.size + 1) 39 #[.int .u64 0] := by rw [← hW]; simpa using Blk.new (w.alloc (.cells #[.func (.func 19) #[] cap] 43)) 39 #[.int .u64 0]
  have hin : Calls Try.prog 28 #[.pointer (some ⟨w.heap.size, 0, none⟩), .pointer (some ⟨w.heap.size + 1, 0, none⟩)] (W.alloc (.cells #[.int .i64 0] 27)) fun e w' => e = .returned (.tuple #[]) ∧ w' = (W.alloc (.cells #[.int .i64 0] 27)).setCell ⟨w.heap.size + 1, 0, none⟩ (.int .u64 x) := by
    refine get1_ok x 0 cap _ _ _ (hd.alloc _) (ho.alloc _) ?_
    rw [← hcap]
    exact gets1_ok x bx be _ ((hx.keep kW (fun h => h)).alloc _) ((he.keep kW (fun h => h)).alloc _)
  have hlt : w.heap.size + 1 < W.heap.size := ho.lt
  have hT : Calls Try.prog 7 #[.func (.func 28) #[] #[.pointer (some ⟨w.heap.size, 0, none⟩), .pointer (some ⟨w.heap.size + 1, 0, none⟩)]] W fun e w' => e = .returned (.int .i64 0) ∧ Keeps (· = w.heap.size + 1) W w' ∧ Blk w' (w.heap.size + 1) 39 #[.int .u64 x] := by
    refine (try_returns _ _ (enter28 _) W _ hin ?_).mono ?_
    · rintro w' rfl
      have hb := (Blk.new W 27 #[.int .i64 0]).far (p := ⟨w.heap.size + 1, 0, none⟩) (by simpa using (by omega)) (.int .u64 x)
      exact ⟨⟨0, hb.cell 0⟩, hb.frozen 0⟩
    · rintro e w' ⟨rfl, w2, rfl, rfl⟩
      refine ⟨rfl, (((Keeps.refl _ _).alloc _).setCell (.inl (by rfl)) _).setCell (.inr (Nat.le_refl _)) _, ?_⟩
      have := ((ho.alloc (.cells #[.int .i64 0] 27)).set_ 0 (.int .u64 x)).far (p := ⟨W.heap.size, 0, none⟩) (by simpa using (by omega)) (.int .i64 0)
      simpa using this
  have HT := Lib.hid hT
  have HK := Lib.hid kW
  have HW := Lib.hid hW
  clear hT hin hx he hd ho kW hW hcap hlt
  go_enter Try.func18, Try.ntmps18
  go_wp2_with fail
  rw [HW.out]
  refine HT.out.mono ?_
  rintro e w3 ⟨rfl, k3, b3⟩
  have c3 : w3.cell? ⟨w.heap.size + 1, 0, none⟩ = some (.int .u64 x) := b3.cell 0
  have K3 := Lib.hid k3
  clear k3 b3
  go_wp2
  go_ret2
  exact ⟨rfl, HK.out.trans' K3.out (by intro i hi e; omega)⟩

theorem get_no (x y : Int) (hy : (y != 0) = true) (bx be : Nat) (w : World) (hx : Blk w bx 39 #[.int .u64 x]) (he : Blk w be 3 #[.int .i64 y]) :
    Calls Try.prog 18 #[.func (.func 19) #[] #[.pointer (some ⟨bx, 0, none⟩), .pointer (some ⟨be, 0, none⟩)]] w fun e w' => e = .returned (.tuple #[.int .u64 0, .int .i64 y]) ∧ Keeps NoS w w' := by
  obtain ⟨cap, hcap⟩ : ∃ cap : Array Value, #[.pointer (some ⟨bx, 0, none⟩), .pointer (some ⟨be, 0, none⟩)] = cap := ⟨_, rfl⟩
  rw [hcap]
  obtain ⟨W, hW⟩ : ∃ W, (w.alloc (.cells #[.func (.func 19) #[] cap] 43)).alloc (.cells #[.int .u64 0] 39) = W := ⟨_, rfl⟩
  have kW : Keeps NoS w W := by rw [← hW]; exact ((Keeps.refl _ _).alloc _).alloc _
  have hd : Blk W w.heap.size 43 #[.func (.func 19) #[] cap] := by rw [← hW]; exact (Blk.new _ _ _).alloc _
  have hin : Calls Try.prog 28 #[.pointer (some ⟨w.heap.size, 0, none⟩), .pointer (some ⟨w.heap.size + 1, 0, none⟩)] (W.alloc (.cells #[.int .i64 0] 27)) fun e w' => e = .panicked [{ v := thrownV y, recovered := false }] ∧ (W.alloc (.cells #[.int .i64 0] 27)) = w' := by
    refine get1_no (thrownV y) cap _ _ _ (hd.alloc _) ?_
    rw [← hcap]
    exact gets1_no x y hy bx be _ ((hx.keep kW (fun h => h)).alloc _) ((he.keep kW (fun h => h)).alloc _)
  have hT : Calls Try.prog 7 #[.func (.func 28) #[] #[.pointer (some ⟨w.heap.size, 0, none⟩), .pointer (some ⟨w.heap.size + 1, 0, none⟩)]] W fun e w' => e = .returned (.int .i64 y) ∧ Keeps NoS W w' := by
    refine (try_throws y [] rfl _ _ (enter28 _) W _ hin ?_).mono ?_
    · rintro w' rfl
      have hb := Blk.new W 27 #[.int .i64 0]
      exact ⟨⟨0, hb.cell 0⟩, hb.frozen 0⟩
    · rintro e w' ⟨rfl, w2, rfl, rfl⟩
      exact ⟨rfl, (((Keeps.refl _ _).alloc _).alloc _).setCell (.inr (Nat.le_refl _)) _⟩
  have HT := Lib.hid hT
  have HK := Lib.hid kW
  have HW := Lib.hid hW
  clear hT hin hx he hd kW hW hcap
  go_enter Try.func18, Try.ntmps18
  go_wp2_with fail
  rw [HW.out]
  refine HT.out.mono ?_
  rintro e w3 ⟨rfl, k3⟩
  have K3 := Lib.hid k3
  clear k3
  go_wp2
  go_ret2
  exact ⟨rfl, HK.out.trans K3.out⟩

theorem gets2_ok (b : Bool) (y : Int) (h : b = true ∨ y = 0) (bb be : Nat) (w : World) (hb : Blk w bb 4 #[.bool b]) (he : Blk w be 3 #[.int .i64 y]) :
    Calls Try.prog 21 #[.pointer (some ⟨bb, 0, none⟩), .pointer (some ⟨be, 0, none⟩)] w fun e w' => e = .returned (.tuple #[]) ∧ w = w' := by
  have cb : w.cell? ⟨bb, 0, none⟩ = some (.bool b) := hb.cell 0
  have ce : w.cell? ⟨be, 0, none⟩ = some (.int .i64 y) := he.cell 0
  have H := Lib.hid h
  clear hb he h
  go_enter Try.func21, Try.ntmps21
  go_wp2_with (go_at_call 22; refine (check_ok b y H.out _).mono ?_; rintro e w' ⟨rfl, rfl⟩)
  go_end0
  exact ⟨rfl, rfl⟩

theorem gets2_no (y : Int) (hy : (y != 0) = true) (bb be : Nat) (w : World) (hb : Blk w bb 4 #[.bool false]) (he : Blk w be 3 #[.int .i64 y]) :
    Calls Try.prog 21 #[.pointer (some ⟨bb, 0, none⟩), .pointer (some ⟨be, 0, none⟩)] w fun e w' => e = .panicked [{ v := thrownV y, recovered := false }] ∧ w = w' := by
  have cb : w.cell? ⟨bb, 0, none⟩ = some (.bool false) := hb.cell 0
  have ce : w.cell? ⟨be, 0, none⟩ = some (.int .i64 y) := he.cell 0
  clear hb he
  go_enter Try.func21, Try.ntmps21
  go_wp2_with (go_at_call 22; refine (check_no y hy _).mono ?_; rintro e w' ⟨rfl, rfl⟩)
  exact ⟨rfl, rfl, rfl⟩

/-- What a try of the check comes to. -/
def got (b : Bool) (y : Int) : Int := if b then 0 else y

theorem try_gets2 (b : Bool) (y : Int) (bb be : Nat) (w : World) (hb : Blk w bb 4 #[.bool b]) (he : Blk w be 3 #[.int .i64 y]) :
    Calls Try.prog 7 #[.func (.func 21) #[] #[.pointer (some ⟨bb, 0, none⟩), .pointer (some ⟨be, 0, none⟩)]] w fun e w' => e = .returned (.int .i64 (got b y)) ∧ Keeps NoS w w' := by
  have hz : ∀ w' : World, w.alloc (.cells #[.int .i64 0] 27) = w' → (∃ y, w'.cell? ⟨w.heap.size, 0, none⟩ = some (.int .i64 y)) ∧ w'.frozen? ⟨w.heap.size, 0, none⟩ = false := by
    rintro w' rfl
    have hb := Blk.new w 27 #[.int .i64 0]
    exact ⟨⟨0, hb.cell 0⟩, hb.frozen 0⟩
  by_cases h : b = true ∨ y = 0
  · have hg : got b y = 0 := by rcases h with rfl | rfl <;> simp [got]
    rw [hg]
    refine (try_returns _ _ (enter21 _) w _ (gets2_ok b y h bb be _ (hb.alloc _) (he.alloc _)) hz).mono ?_
    rintro e w' ⟨rfl, w2, rfl, rfl⟩
    exact ⟨rfl, ((Keeps.refl _ _).alloc _).setCell (.inr (Nat.le_refl _)) _⟩
  · obtain rfl : b = false := by cases b <;> simp_all
    have hy : (y != 0) = true := by simpa using h
    have hg : got false y = y := rfl
    rw [hg]
    refine (try_throws y [] rfl _ _ (enter21 _) w _ (gets2_no y hy bb be _ (hb.alloc _) (he.alloc _)) hz).mono ?_
    rintro e w' ⟨rfl, w2, rfl, rfl⟩
    exact ⟨rfl, (((Keeps.refl _ _).alloc _).alloc _).setCell (.inr (Nat.le_refl _)) _⟩

set_option maxHeartbeats 1600000 in
theorem trapGets_walk (x y : Int) (b : Bool) (w : World) (_hx : (Lit.int .u64 x).wf = true) (_hy : (Lit.int .i64 y).wf = true) :
    Calls Try.prog 6 #[.int .u64 x, .int .i64 y, .bool b] w fun e w' => e = .returned (.bool true) ∧ Below w.heap.size w w' := by
  clear _hx _hy
  obtain ⟨W, hW⟩ : ∃ W, ((w.alloc (.cells #[.int .u64 x] 39)).alloc (.cells #[.int .i64 y] 3)).alloc (.cells #[.bool b] 4) = W := ⟨_, rfl⟩
  have kW : Keeps NoS w W := by rw [← hW]; exact (((Keeps.refl _ _).alloc _).alloc _).alloc _
  have bx : Blk W w.heap.size 39 #[.int .u64 x] := by rw [← hW]; exact ((Blk.new _ _ _).alloc _).alloc _
  have be : Blk W (w.heap.size + 1) 3 #[.int .i64 y] := by rw [← hW]; simpa using (Blk.new (w.alloc (.cells #[.int .u64 x] 39)) 3 #[.int .i64 y]).alloc _
  have bb : Blk W (w.heap.size + 2) 4 #[.bool b] := by rw [← hW]; simpa using Blk.new ((w.alloc (.cells #[.int .u64 x] 39)).alloc (.cells #[.int .i64 y] 3)) 4 #[.bool b]
  have cx : W.cell? ⟨w.heap.size, 0, none⟩ = some (.int .u64 x) := bx.cell 0
  have ce : W.cell? ⟨w.heap.size + 1, 0, none⟩ = some (.int .i64 y) := be.cell 0
  have cb : W.cell? ⟨w.heap.size + 2, 0, none⟩ = some (.bool b) := bb.cell 0
  have HW := Lib.hid hW
  have HK := Lib.hid kW
  have BX := Lib.hid bx
  have BE := Lib.hid be
  have BB := Lib.hid bb
  clear hW kW bx be bb
  by_cases hy : y = 0
  · subst hy
    have hg : got b 0 = 0 := by cases b <;> rfl
    have HG := Lib.hid hg
    clear hg
    go_enter Try.func6, Try.ntmps6
    go_wp2_with fail
    rw [HW.out]
    go_wp2_with fail
    refine (get_ok x _ _ W BX.out BE.out).mono ?_
    rintro e w3 ⟨rfl, k3⟩
    have ce3 : w3.cell? ⟨w.heap.size + 1, 0, none⟩ = some (.int .i64 0) := (BE.out.keep k3 (fun h => h)).cell 0
    have cb3 : w3.cell? ⟨w.heap.size + 2, 0, none⟩ = some (.bool b) := (BB.out.keep k3 (fun h => h)).cell 0
    have K3 := Lib.hid k3
    clear k3
    go_wp2_with fail
    refine (try_gets2 b 0 _ _ w3 (BB.out.keep K3.out (fun h => h)) (BE.out.keep K3.out (fun h => h))).mono ?_
    rw [HG.out]
    rintro e w4 ⟨rfl, k4⟩
    have ce4 : w4.cell? ⟨w.heap.size + 1, 0, none⟩ = some (.int .i64 0) := ((BE.out.keep K3.out (fun h => h)).keep k4 (fun h => h)).cell 0
    have cb4 : w4.cell? ⟨w.heap.size + 2, 0, none⟩ = some (.bool b) := ((BB.out.keep K3.out (fun h => h)).keep k4 (fun h => h)).cell 0
    have K4 := Lib.hid k4
    clear k4
    cases b
    all_goals
      go_wp2_with (go_at_call 11; refine (awake_any _).mono ?_; rintro e w5 ⟨rfl, b5⟩)
      go_ret
      exact ⟨rfl, (((HK.out.trans K3.out).trans K4.out).below (by intro k hk h; exact h) (Nat.le_refl _)).trans (b5.mono (Nat.le_trans HK.out.size (Nat.le_trans K3.out.size K4.out.size)))⟩
  · have hyb : (y != 0) = true := by simpa using hy
    have hyn : (y == 0) = false := by simpa using hy
    clear hy
    go_enter Try.func6, Try.ntmps6
    go_wp2_with fail
    rw [HW.out]
    go_wp2_with fail
    refine (get_no x y hyb _ _ W BX.out BE.out).mono ?_
    rintro e w3 ⟨rfl, k3⟩
    have ce3 : w3.cell? ⟨w.heap.size + 1, 0, none⟩ = some (.int .i64 y) := (BE.out.keep k3 (fun h => h)).cell 0
    have cb3 : w3.cell? ⟨w.heap.size + 2, 0, none⟩ = some (.bool b) := (BB.out.keep k3 (fun h => h)).cell 0
    have K3 := Lib.hid k3
    clear k3
    go_wp2_with fail
    refine (try_gets2 b y _ _ w3 (BB.out.keep K3.out (fun h => h)) (BE.out.keep K3.out (fun h => h))).mono ?_
    rintro e w4 ⟨rfl, k4⟩
    have ce4 : w4.cell? ⟨w.heap.size + 1, 0, none⟩ = some (.int .i64 y) := ((BE.out.keep K3.out (fun h => h)).keep k4 (fun h => h)).cell 0
    have cb4 : w4.cell? ⟨w.heap.size + 2, 0, none⟩ = some (.bool b) := ((BB.out.keep K3.out (fun h => h)).keep k4 (fun h => h)).cell 0
    have K4 := Lib.hid k4
    clear k4
    cases b
    case' false => have hgf : got false y = y := rfl
    case' true => have hgf : got true y = 0 := rfl
    all_goals
      rw [hgf]
      clear hgf
      go_wp2_with (go_at_call 11; refine (awake_any _).mono ?_; rintro e w5 ⟨rfl, b5⟩)
      go_ret
      exact ⟨rfl, (((HK.out.trans K3.out).trans K4.out).below (by intro k hk h; exact h) (Nat.le_refl _)).trans (b5.mono (Nat.le_trans HK.out.size (Nat.le_trans K3.out.size K4.out.size)))⟩
end Go.Proofs.Ytlgnepkapcjfnaa
