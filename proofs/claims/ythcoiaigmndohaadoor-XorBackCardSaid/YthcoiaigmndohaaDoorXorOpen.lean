/-
  The contract of xor.next where the window does not hold the number's own one. Conditions: as for next_hold.
-/
import Derived.Test.YthcoiaigmndohaaDoorXorNext
namespace Go.Proofs.YthcoiaigmndohaaDoor
open Go.RowKit BitM

set_option maxRecDepth 100000 in
set_option maxHeartbeats 3200000 in
theorem next_open {T : TypeId} {f : Nat} {v : Value} {B0 : Nat} {Inv : World → List Bool → Prop} (hS : Sink T f v B0 Inv) (x : Nat) (hx0 : x ≠ 0) (hxf : Fits x) (t e : Nat) (is : Bool) (hv : t ≤ 31 ∧ t + e ≤ 63)
    (hh : (is && (decide (t ≤ min 31 (lzN x)) && decide (e ≤ tzN x))) = false) (w : World) (b : List Bool) (hI : Inv w b) (hl : b.length ≤ 90000) (hB : B0 ≤ w.heap.size) (hBg : 1 < B0) (hT : Tab w) :
    Calls Tryd.prog 44 #[.iface T v, .int .u64 x, .agg (winC t e is)] w fun r w' => r = .returned (.agg (winC (min 31 (lzN x)) (tzN x) true)) ∧ Inv w' (b ++ ([true, true] ++ bitsL (min 31 (lzN x)) 5 ++ bitsL (63 - min 31 (lzN x) - tzN x) 6 ++ bitsL (x / 2 ^ tzN x) (64 - min 31 (lzN x) - tzN x))) ∧ Step B0 w w' := by
  have hcall := hS.call
  have hmeth := hS.meth
  have hahead := hS.ahead
  have hb5 : Blk ((w.alloc (.cells (winC t e is) 51)).alloc (.cells (winC 0 0 false) 51)) w.heap.size 51 (winC t e is) := (Blk.new w _ _).alloc _
  have hb6 := Blk.new (w.alloc (.cells (winC t e is) 51)) 51 (winC 0 0 false)
  rw [World.size_alloc] at hb6
  have hk0 : Keeps (fun _ => False) w ((w.alloc (.cells (winC t e is) 51)).alloc (.cells (winC 0 0 false) 51)) := ((Keeps.refl _ _).alloc _).alloc _
  have HP := Lib.hid (hS.put 1 1 _ b (hS.keep _ _ _ hI hk0) (by decide) (by omega) (by omega))
  have hx0i : ((x : Int) == 0) = false := by simp; omega
  have HB5 := Lib.hid hb5
  have HB6 := Lib.hid hb6
  have HK0 := Lib.hid hk0
  have HS := Lib.hid hS
  have HT := Lib.hid (hT.keep hk0)
  have HX0 := Lib.hid hx0
  have HXF := Lib.hid hxf
  have hwin := win_of hx0 hxf
  obtain ⟨a, ha⟩ : ∃ a, min 31 (lzN x) = a := ⟨_, rfl⟩
  obtain ⟨z, hz⟩ : ∃ z, tzN x = z := ⟨_, rfl⟩
  have haz : a ≤ 31 ∧ a + z ≤ 63 ∧ x < 2 ^ (64 - a) := by
    refine ⟨by omega, by omega, Nat.lt_of_lt_of_le hwin.2.1 (Nat.pow_le_pow_right (by decide) (by omega))⟩
  rw [ha, hz] at hh ⊢
  have OWN := fun (w : World) (hT : Tab w) => own_any x hxf hx0 w hT
  rw [ha, hz] at OWN
  have HOWN := Lib.hid OWN
  have HAZ := Lib.hid haz
  have HLT := Lib.hid haz.2.2
  have HH := Lib.hid hh
  clear hb5 hb6 hk0 hI hS hx0 hxf hT hv hh hwin haz OWN ha hz
  go_enter Tryd.func44, Tryd.ntmps44
  unfold winC
  go_wp2_with fail
  refine HP.out.mono ?_
  rintro r w1 ⟨rfl, hI1, hs1⟩
  have HI1 := Lib.hid hI1
  have HS1 := Lib.hid hs1
  clear hI1 hs1
  go_wp2_with fail
  refine (HOWN.out _ (HS1.out.tab hBg HT.out)).mono ?_
  rintro r w2 ⟨rfl, hk2⟩
  have H5 := Lib.hid (((HS1.out.win _ _ HB5.out).keep hk2 (fun h => h)).alloc (.cells (winC 0 0 false) 51))
  have H6 := Lib.hid (((HS1.out.win _ _ HB6.out).keep hk2 (fun h => h)).alloc (.cells (winC 0 0 false) 51))
  have H7 := Lib.hid (Blk.new w2 51 (winC 0 0 false))
  have hsz : w.heap.size + 1 < w2.heap.size := ((HS1.out.win _ _ HB6.out).keep hk2 (fun h => h)).lt
  have H5' := Lib.hid (H5.out.setRow_far (cs := winC a z true) (g' := w2.heap.size) (by omega))
  have H6' := Lib.hid (H6.out.setRow_far (cs := winC a z true) (g' := w2.heap.size) (by omega))
  have H7' := Lib.hid (H7.out.setRow (cs := winC a z true))
  have HI3 := Lib.hid (HS.out.row _ _ _ (winC a z true) _ (HS.out.keep _ _ _ HI1.out (hk2.alloc _)) H7.out)
  have HS3 := Lib.hid (step_row' (((Step.of HK0.out).trans HS1.out).trans (Step.of (hk2.alloc (.cells (winC 0 0 false) 51)))) (g := w2.heap.size) (cs := winC a z true) (by omega) hB)
  go_wp2_with (first
    | (refine wpList_store_row rfl 51 (.tmp 7) (.tmp 16) rfl _ _ rfl rfl 51 _ H7.out info51 rfl (winC_ones _ _ _) ?_)
    | (refine wpList_load_row rfl 51 (.tmp 5) rfl _ rfl 51 _ (0, 0) _ H5'.out Tryd.underlying51 rfl info51 ?_)
    | (refine wpList_load_row rfl 51 (.tmp 7) rfl _ rfl 51 _ (0, 0) _ H7'.out Tryd.underlying51 rfl info51 ?_))
  refine (holds_any t e is a z true _).mono ?_
  rw [HH.out]
  rintro r w4 ⟨rfl, hk4⟩
  go_wp2_with fail
  refine (HS.out.put 1 1 _ _ (HS.out.keep _ _ _ HI3.out hk4) (by decide) (by omega) (by simp only [List.length_append, bitsL_len]; omega)).mono ?_
  rintro r w5 ⟨rfl, hI5, hs5⟩
  have G5 := Lib.hid (hs5.win _ _ (H5'.out.keep hk4 (fun h => h)))
  have G6 := Lib.hid (hs5.win _ _ (H6'.out.keep hk4 (fun h => h)))
  have G7 := Lib.hid (hs5.win _ _ (H7'.out.keep hk4 (fun h => h)))
  have GS := Lib.hid ((HS3.out.trans (Step.of hk4)).trans hs5)
  have GI := Lib.hid hI5
  have c70 : w5.cell? ⟨w2.heap.size, 0, none⟩ = some (.int .i64 a) := G7.out.cell 0
  clear H5 H6 H7 H5' H6' H7' HI3 HS3 hI5 hs5
  have ha64 : IntKind.u64.wrap (a : Int) = (a : Int) := by have := HAZ.out.1; rw [IntKind.wrap_u64]; omega
  go_wp2_with fail
  refine (HS.out.put a 5 _ _ GI.out (by have := HAZ.out.1; omega) (by omega) (by simp only [List.length_append, bitsL_len]; omega)).mono ?_
  rintro r w6 ⟨rfl, hI6, hs6⟩
  have J5 := Lib.hid (hs6.win _ _ G5.out)
  have J6 := Lib.hid (hs6.win _ _ G6.out)
  have J7 := Lib.hid (hs6.win _ _ G7.out)
  have JS := Lib.hid (GS.out.trans hs6)
  have JI := Lib.hid hI6
  have HAZ64 := Lib.hid (show a + z ≤ 64 by have := HAZ.out.2.1; omega)
  clear G5 G6 G7 GS GI hI6 hs6 c70 ha64
  go_wp2_with fail
  have HQ1 := Lib.hid (show IntKind.i64.wrap (((64 - a - z : Nat) : Int) - 1) = ((63 - a - z : Nat) : Int) from by have := HAZ.out.2.1; rw [IntWalk.i64_left]; unfold wrap64; omega)
  have HQ2 := Lib.hid (show IntKind.u64.wrap ((63 - a - z : Nat) : Int) = ((63 - a - z : Nat) : Int) from by rw [IntKind.wrap_u64]; omega)
  refine wp_region_held_drew (S := Step B0 w6) (by kernel_rfl) (Step.of (Keeps.refl _ _).drew) ?_
  intro hS0
  have hkd : Keeps (fun _ => False) w6 (World.drew w6) := (Keeps.refl _ _).drew
  generalize World.drew _ = v0 at hS0 hkd ⊢
  refine held_take (i := 0) (v := .iface T v) rfl (by kernel_rfl) (by kernel_rfl) (by kernel_rfl) (some 29) (fun _ _ _ h => h) rfl (Or.inl ⟨by rfl, fun _ _ => by rfl⟩) hS0 ?_
  simp only [Act.put, List.setIfInBounds_toArray, List.set_cons_zero, List.set_cons_succ]
  refine held_take (i := 1) (v := .agg (winC a z true)) rfl (by kernel_rfl) (by kernel_rfl) (by kernel_rfl) (some 30) (fun _ _ _ h => h) rfl (yields_load 51 (.tmp 7) rfl _ rfl (by rfl) (fun w' hw' => load_win (hw'.win _ _ J7.out))) hS0 ?_
  simp only [Act.put, List.setIfInBounds_toArray, List.set_cons_zero, List.set_cons_succ]
  refine held_take (i := 5) (v := .func (.method "Put") #[.iface T v] #[]) rfl (by kernel_rfl) (by kernel_rfl) (by kernel_rfl) (some 34) (fun _ _ _ h => h) rfl (Or.inl ⟨by rfl, by intro w' _; go_simp⟩) hS0 ?_
  simp only [Act.put, List.setIfInBounds_toArray, List.set_cons_zero, List.set_cons_succ]
  refine held_take (i := 6) (v := .func (.method "Put") #[.iface T v] #[]) rfl (by kernel_rfl) (by kernel_rfl) (by kernel_rfl) (some 35) (fun _ _ _ h => h) rfl (Or.inl ⟨by rfl, by intro w' _; go_simp⟩) hS0 ?_
  simp only [Act.put, List.setIfInBounds_toArray, List.set_cons_zero, List.set_cons_succ]
  refine held_take (i := 7) (v := .iface T v) rfl (by kernel_rfl) (by kernel_rfl) (by kernel_rfl) (some 36) (fun _ _ _ h => h) rfl (Or.inl ⟨by rfl, fun _ _ => by rfl⟩) hS0 ?_
  simp only [Act.put, List.setIfInBounds_toArray, List.set_cons_zero, List.set_cons_succ]
  refine held_call (i := 2) (by kernel_rfl) rfl (by rfl) (some 31) rfl 41 #[.agg (winC a z true)] (by kernel_rfl) (fun r w' => r = .int .i64 ((64 - a - z : Nat) : Int) ∧ Keeps (fun _ => False) v0 w') ((wwide_any a z true HAZ64.out _).mono fun r w' ⟨he, hk⟩ => ⟨_, he, ⟨rfl, hk⟩, hS0.trans (Step.of hk)⟩) ?_
  rintro r v1 ⟨rfl, hk1⟩ hS1
  simp only [Act.put, List.setIfInBounds_toArray, List.set_cons_zero, List.set_cons_succ]
  refine held_take (i := 3) (v := .int .i64 ((63 - a - z : Nat) : Int)) rfl (by kernel_rfl) (by kernel_rfl) (by kernel_rfl) (some 32) (fun _ _ _ h => h) rfl (Or.inl ⟨by rfl, by intro w' _; go_simp; exact HQ1.out⟩) hS1 ?_
  simp only [Act.put, List.setIfInBounds_toArray, List.set_cons_zero, List.set_cons_succ]
  refine held_take (i := 4) (v := .int .u64 ((63 - a - z : Nat) : Int)) rfl (by kernel_rfl) (by kernel_rfl) (by kernel_rfl) (some 33) (fun _ _ _ h => h) rfl (Or.inl ⟨by rfl, by intro w' _; go_simp; exact HQ2.out⟩) hS1 ?_
  simp only [Act.put, List.setIfInBounds_toArray, List.set_cons_zero, List.set_cons_succ]
  refine held_call (i := 8) (by kernel_rfl) rfl (by rfl) (some 37) rfl f #[v, .int .u64 ((63 - a - z : Nat) : Int), .int .i64 6] (by go_simp) (fun r w' => r = .int .i64 0 ∧ Inv w' (b ++ bitsL 1 1 ++ bitsL 1 1 ++ bitsL a 5 ++ bitsL (63 - a - z) 6)) ((HS.out.put (63 - a - z) 6 _ _ (HS.out.keep _ _ _ JI.out (hkd.trans hk1)) (by omega) (by omega) (by simp only [List.length_append, bitsL_len]; omega)).mono fun r w' ⟨he, hi, hs⟩ => ⟨_, he, ⟨rfl, hi⟩, hS1.trans hs⟩) ?_
  rintro r w7 ⟨rfl, hI7⟩ hS2
  simp only [Act.put, List.setIfInBounds_toArray, List.set_cons_zero, List.set_cons_succ]
  refine wpAnyH_done (by kernel_rfl) ?_ _
  have L5 := Lib.hid (hS2.win _ _ J5.out)
  have L6 := Lib.hid (hS2.win _ _ J6.out)
  have L7 := Lib.hid (hS2.win _ _ J7.out)
  have hne65 : w.heap.size + 1 ≠ w.heap.size := by omega
  have HB5 := Lib.hid (L5.out.setRow (cs := winC a z true))
  have HB6 := Lib.hid (L6.out.setRow_far (cs := winC a z true) (g' := w.heap.size) hne65)
  have HI5 := Lib.hid (HS.out.row _ _ _ (winC a z true) _ hI7 L5.out)
  have HS5 := Lib.hid (step_row' (JS.out.trans hS2) (g := w.heap.size) (cs := winC a z true) (Nat.le_refl _) hB)
  have HTE := HAZ64
  clear hI7 hS0 hS1 hS2 hkd hk1 J5 J6 J7 JS JI hne65
  go_upto_region 12 with (first
    | (refine wpList_load_row rfl 51 (.tmp 7) rfl _ rfl 51 _ (0, 0) _ L7.out Tryd.underlying51 rfl info51 ?_)
    | (refine wpList_store_row rfl 51 (.tmp 5) (.tmp 38) rfl _ _ rfl rfl 51 _ L5.out info51 rfl (winC_ones _ _ _) ?_))
  obtain ⟨w8, hw8⟩ : ∃ w8, w7.setRow w.heap.size (winC a z true) = w8 := ⟨_, rfl⟩
  rw [hw8] at HB5 HB6 HI5 HS5
  try rw [hw8]
  clear hw8 L5 L6 L7
  have ht64 : min a 64 = a := by have := HTE.out; omega
  have he64 : min z 64 = z := by have := HTE.out; omega
  have HSH1 := Lib.hid (show IntKind.u64.wrap ((x : Int) * 2 ^ min a 64) = (x : Int) * 2 ^ a from by
    rw [ht64, IntKind.wrap_u64]
    have h1 := shl_fits HLT.out (by have := HTE.out; omega)
    have h2 : ((x : Int) * 2 ^ a) = ((x * 2 ^ a : Nat) : Int) := by rw [Int.natCast_mul, Int.natCast_pow]; rfl
    rw [h2]; omega)
  have HSH3 := Lib.hid (show (x : Int) * 2 ^ a / 2 ^ min a 64 = (x : Int) from by
    rw [ht64]
    exact Int.mul_ediv_cancel _ (Int.ne_of_gt (Int.pow_pos (by omega))))
  have HSH4 := Lib.hid (show (x : Int) / 2 ^ min z 64 = (x : Int) / 2 ^ z from by rw [he64])
  clear ht64 he64
  have HLE := Lib.hid (show x / 2 ^ z < 2 ^ (64 - a - z) from by
    have h1 := HLT.out
    have h2 := HTE.out
    rw [show 64 - a = (64 - a - z) + z by omega, Nat.pow_add] at h1
    exact (Nat.div_lt_iff_lt_mul (Nat.two_pow_pos z)).2 h1)
  have HLN := Lib.hid (show (b ++ bitsL 1 1 ++ bitsL 1 1 ++ bitsL a 5 ++ bitsL (63 - a - z) 6).length ≤ 100000 from by simp only [List.length_append, bitsL_len]; omega)
  refine wp_region_held_drew (S := Step B0 w8) (by kernel_rfl) (Step.of (Keeps.refl _ _).drew) ?_
  intro hS0
  have hkd : Keeps (fun _ => False) w8 (World.drew w8) := (Keeps.refl _ _).drew
  generalize World.drew _ = v0 at hS0 hkd ⊢
  refine held_take (i := 0) (v := .iface T v) rfl (by kernel_rfl) (by kernel_rfl) (by kernel_rfl) (some 39) (fun _ _ _ h => h) rfl (Or.inl ⟨by rfl, fun _ _ => by rfl⟩) hS0 ?_
  simp only [Act.put, List.setIfInBounds_toArray, List.set_cons_zero, List.set_cons_succ]
  refine held_take (i := 1) (v := .int .u64 x) rfl (by kernel_rfl) (by kernel_rfl) (by kernel_rfl) (some 40) (fun _ _ _ h => h) rfl (Or.inl ⟨by rfl, fun _ _ => by rfl⟩) hS0 ?_
  simp only [Act.put, List.setIfInBounds_toArray, List.set_cons_zero, List.set_cons_succ]
  refine held_take (i := 2) (v := .pointer (some ⟨w.heap.size, 0, none⟩)) rfl (by kernel_rfl) (by kernel_rfl) (by kernel_rfl) (some 41) (fun _ _ _ h => h) rfl (Or.inl ⟨by rfl, fun _ _ => by rfl⟩) hS0 ?_
  simp only [Act.put, List.setIfInBounds_toArray, List.set_cons_zero, List.set_cons_succ]
  refine held_take (i := 3) (v := .int .i64 a) rfl (by kernel_rfl) (by kernel_rfl) (by kernel_rfl) (some 42) (fun _ _ _ h => h) rfl (Or.inl ⟨by rfl, by intro w' hw'; have hc' : w'.cell? ⟨w.heap.size, 0, none⟩ = some (.int .i64 a) := (hw'.win _ _ HB5.out).cell 0; go_simp⟩) hS0 ?_
  simp only [Act.put, List.setIfInBounds_toArray, List.set_cons_zero, List.set_cons_succ]
  refine held_take (i := 4) (v := .int .u64 ((x * 2 ^ a : Nat) : Int)) rfl (by kernel_rfl) (by kernel_rfl) (by kernel_rfl) (some 43) (fun _ _ _ h => h) rfl (Or.inl ⟨by rfl, by intro w' _; go_simp; exact HSH1.out⟩) hS0 ?_
  simp only [Act.put, List.setIfInBounds_toArray, List.set_cons_zero, List.set_cons_succ]
  refine held_take (i := 5) (v := .pointer (some ⟨w.heap.size, 0, none⟩)) rfl (by kernel_rfl) (by kernel_rfl) (by kernel_rfl) (some 44) (fun _ _ _ h => h) rfl (Or.inl ⟨by rfl, fun _ _ => by rfl⟩) hS0 ?_
  simp only [Act.put, List.setIfInBounds_toArray, List.set_cons_zero, List.set_cons_succ]
  refine held_take (i := 6) (v := .int .i64 a) rfl (by kernel_rfl) (by kernel_rfl) (by kernel_rfl) (some 45) (fun _ _ _ h => h) rfl (Or.inl ⟨by rfl, by intro w' hw'; have hc' : w'.cell? ⟨w.heap.size, 0, none⟩ = some (.int .i64 a) := (hw'.win _ _ HB5.out).cell 0; go_simp⟩) hS0 ?_
  simp only [Act.put, List.setIfInBounds_toArray, List.set_cons_zero, List.set_cons_succ]
  refine held_take (i := 7) (v := .int .u64 x) rfl (by kernel_rfl) (by kernel_rfl) (by kernel_rfl) (some 46) (fun _ _ _ h => h) rfl (Or.inl ⟨by rfl, by intro w' _; go_simp; exact HSH3.out⟩) hS0 ?_
  simp only [Act.put, List.setIfInBounds_toArray, List.set_cons_zero, List.set_cons_succ]
  refine held_take (i := 8) (v := .pointer (some ⟨w.heap.size, 1, none⟩)) rfl (by kernel_rfl) (by kernel_rfl) (by kernel_rfl) (some 47) (fun _ _ _ h => h) rfl (Or.inl ⟨by rfl, fun _ _ => by rfl⟩) hS0 ?_
  simp only [Act.put, List.setIfInBounds_toArray, List.set_cons_zero, List.set_cons_succ]
  refine held_take (i := 9) (v := .int .i64 z) rfl (by kernel_rfl) (by kernel_rfl) (by kernel_rfl) (some 48) (fun _ _ _ h => h) rfl (Or.inl ⟨by rfl, by intro w' hw'; have hc' : w'.cell? ⟨w.heap.size, 1, none⟩ = some (.int .i64 z) := (hw'.win _ _ HB5.out).cell 1; go_simp⟩) hS0 ?_
  simp only [Act.put, List.setIfInBounds_toArray, List.set_cons_zero, List.set_cons_succ]
  refine held_take (i := 10) (v := .int .u64 ((x / 2 ^ z : Nat) : Int)) rfl (by kernel_rfl) (by kernel_rfl) (by kernel_rfl) (some 49) (fun _ _ _ h => h) rfl (Or.inl ⟨by rfl, by intro w' _; go_simp; exact HSH4.out⟩) hS0 ?_
  simp only [Act.put, List.setIfInBounds_toArray, List.set_cons_zero, List.set_cons_succ]
  refine held_take (i := 11) (v := .agg (winC a z true)) rfl (by kernel_rfl) (by kernel_rfl) (by kernel_rfl) (some 50) (fun _ _ _ h => h) rfl (yields_load 51 (.tmp 5) rfl _ rfl (by rfl) (fun w' hw' => load_win (hw'.win _ _ HB5.out))) hS0 ?_
  simp only [Act.put, List.setIfInBounds_toArray, List.set_cons_zero, List.set_cons_succ]
  refine held_take (i := 13) (v := .func (.method "Put") #[.iface T v] #[]) rfl (by kernel_rfl) (by kernel_rfl) (by kernel_rfl) (some 52) (fun _ _ _ h => h) rfl (Or.inl ⟨by rfl, by intro w' _; go_simp⟩) hS0 ?_
  simp only [Act.put, List.setIfInBounds_toArray, List.set_cons_zero, List.set_cons_succ]
  refine held_take (i := 14) (v := .func (.method "Put") #[.iface T v] #[]) rfl (by kernel_rfl) (by kernel_rfl) (by kernel_rfl) (some 53) (fun _ _ _ h => h) rfl (Or.inl ⟨by rfl, by intro w' _; go_simp⟩) hS0 ?_
  simp only [Act.put, List.setIfInBounds_toArray, List.set_cons_zero, List.set_cons_succ]
  refine held_take (i := 15) (v := .iface T v) rfl (by kernel_rfl) (by kernel_rfl) (by kernel_rfl) (some 54) (fun _ _ _ h => h) rfl (Or.inl ⟨by rfl, fun _ _ => by rfl⟩) hS0 ?_
  simp only [Act.put, List.setIfInBounds_toArray, List.set_cons_zero, List.set_cons_succ]
  refine held_call (i := 12) (by kernel_rfl) rfl (by rfl) (some 51) rfl 41 #[.agg (winC a z true)] (by kernel_rfl) (fun r w' => r = .int .i64 ((64 - a - z : Nat) : Int) ∧ Keeps (fun _ => False) v0 w') ((wwide_any a z true HTE.out _).mono fun r w' ⟨he, hk⟩ => ⟨_, he, ⟨rfl, hk⟩, hS0.trans (Step.of hk)⟩) ?_
  rintro r v1 ⟨rfl, hk1⟩ hS1
  simp only [Act.put, List.setIfInBounds_toArray, List.set_cons_zero, List.set_cons_succ]
  refine held_call (i := 16) (by kernel_rfl) rfl (by rfl) (some 55) rfl f #[v, .int .u64 ((x / 2 ^ z : Nat) : Int), .int .i64 ((64 - a - z : Nat) : Int)] (by go_simp) (fun r w' => r = .int .i64 0 ∧ Inv w' ((b ++ bitsL 1 1 ++ bitsL 1 1 ++ bitsL a 5 ++ bitsL (63 - a - z) 6) ++ bitsL (x / 2 ^ z) (64 - a - z))) ((HS.out.put (x / 2 ^ z) (64 - a - z) _ _ (HS.out.keep _ _ _ HI5.out (hkd.trans hk1)) HLE.out (by omega) HLN.out).mono fun r w' ⟨he, hi, hs⟩ => ⟨_, he, ⟨rfl, hi⟩, hS1.trans hs⟩) ?_
  rintro r v2 ⟨rfl, hI6⟩ hS2
  simp only [Act.put, List.setIfInBounds_toArray, List.set_cons_zero, List.set_cons_succ]
  refine wpAnyH_done (by kernel_rfl) ?_ _
  have H6 := Lib.hid (hS2.win _ _ HB6.out)
  have H5 := Lib.hid (hS2.win _ _ HB5.out)
  have HI6 := Lib.hid hI6
  have HST := Lib.hid (HS5.out.trans hS2)
  clear hI6 hS0 hS1 hS2 hkd hk1
  go_wp2_with (first
    | (refine wpList_load_row rfl 51 (.tmp 5) rfl _ rfl 51 _ (0, 0) _ H5.out Tryd.underlying51 rfl info51 ?_)
    | (refine wpList_store_row rfl 51 (.tmp 6) (.tmp 56) rfl _ _ rfl rfl 51 _ H6.out info51 rfl (winC_ones _ _ _) ?_))
  refine bodyPost_ret (results_cell_row Tryd.results44 _ _ _ 51 _ (0, 0) _ rfl H6.out.setRow Tryd.underlying51 rfl info51) rfl ⟨rfl, ?_, step_row' HST.out (Nat.le_succ _) hB⟩
  have := HS.out.row _ _ _ (winC a z true) _ HI6.out H6.out
  have b1 : bitsL 1 1 = [true] := by decide
  rw [b1] at this
  simpa using this
end Go.Proofs.YthcoiaigmndohaaDoor
