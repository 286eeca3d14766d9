/-
  The contract of xor.next where the window holds the number's own one, and the last step of both ways. Conditions: as for next_zero.
-/
import Derived.Test.YthcoiaigmndohaaDoorXorSink
namespace Go.Proofs.YthcoiaigmndohaaDoor
open Go.RowKit BitM

theorem load_win {w : World} {g t e : Nat} {is : Bool} (h : Blk w g 51 (winC t e is)) : (loadVar 51 ⟨g, 0, none⟩).run Tryd.prog w = .ok (.agg (winC t e is)) w :=
  run_loadVar_row w g _ _ _ (0, 0) _ h Tryd.underlying51 rfl info51

theorem shl_fits {x t : Nat} (h : x < 2 ^ (64 - t)) (ht : t ≤ 64) : x * 2 ^ t < 18446744073709551616 := by
  have e : 2 ^ (64 - t) * 2 ^ t = 18446744073709551616 := by rw [← Nat.pow_add, Nat.sub_add_cancel ht]
  rw [← e]
  exact Nat.mul_lt_mul_of_pos_right h (Nat.two_pow_pos t)

set_option maxRecDepth 100000 in
set_option maxHeartbeats 3200000 in
theorem next_hold {T : TypeId} {f : Nat} {v : Value} {B0 : Nat} {Inv : World → List Bool → Prop} (hS : Sink T f v B0 Inv) (x : Nat) (hx0 : x ≠ 0) (hxf : Fits x) (t e : Nat) (is : Bool) (hv : t ≤ 31 ∧ t + e ≤ 63)
    (hh : (is && (decide (t ≤ min 31 (lzN x)) && decide (e ≤ tzN x))) = true) (w : World) (b : List Bool) (hI : Inv w b) (hl : b.length ≤ 90000) (hB : B0 ≤ w.heap.size) (hBg : 1 < B0) (hT : Tab w) :
    Calls Tryd.prog 44 #[.iface T v, .int .u64 x, .agg (winC t e is)] w fun r w' => r = .returned (.agg (winC t e is)) ∧ Inv w' (b ++ ([true, false] ++ bitsL (x / 2 ^ e) (64 - t - e))) ∧ Step B0 w w' := by
  have hcall := hS.call
  have hmeth := hS.meth
  have hahead := hS.ahead
  have hb5 : Blk ((w.alloc (.cells (winC t e is) 51)).alloc (.cells (winC 0 0 false) 51)) w.heap.size 51 (winC t e is) := (Blk.new w _ _).alloc _
  have hb6 := Blk.new (w.alloc (.cells (winC t e is) 51)) 51 (winC 0 0 false)
  rw [World.size_alloc] at hb6
  have hk0 : Keeps (fun _ => False) w ((w.alloc (.cells (winC t e is) 51)).alloc (.cells (winC 0 0 false) 51)) := ((Keeps.refl _ _).alloc _).alloc _
  have HP := Lib.hid (hS.put 1 1 _ b (hS.keep _ _ _ hI hk0) (by decide) (by omega) (by omega))
  have hx0i : ((x : Int) == 0) = false := by simp; omega
  have HB5 := Lib.hid hb5
  have HB6 := Lib.hid hb6
  have HK0 := Lib.hid hk0
  have HS := Lib.hid hS
  have HT := Lib.hid (hT.keep hk0)
  have HX0 := Lib.hid hx0
  have HXF := Lib.hid hxf
  have HTE := Lib.hid (show t + e ≤ 64 by omega)
  have HH := Lib.hid hh
  have hwin := win_of hx0 hxf
  have hlt : x < 2 ^ (64 - t) := by
    have h1 : t ≤ lzN x := by
      simp only [Bool.and_eq_true, decide_eq_true_eq] at hh
      omega
    exact Nat.lt_of_lt_of_le hwin.2.1 (Nat.pow_le_pow_right (by decide) (by omega))
  have HLT := Lib.hid hlt
  clear hb5 hb6 hk0 hI hS hx0 hxf hT hv hh hwin hlt
  go_enter Tryd.func44, Tryd.ntmps44
  unfold winC
  go_wp2_with fail
  refine HP.out.mono ?_
  rintro r w1 ⟨rfl, hI1, hs1⟩
  have HI1 := Lib.hid hI1
  have HS1 := Lib.hid hs1
  clear hI1 hs1
  go_wp2_with fail
  refine (own_any x HXF.out HX0.out _ (HS1.out.tab hBg HT.out)).mono ?_
  rintro r w2 ⟨rfl, hk2⟩
  have H5 := Lib.hid (((HS1.out.win _ _ HB5.out).keep hk2 (fun h => h)).alloc (.cells (winC 0 0 false) 51))
  have H6 := Lib.hid (((HS1.out.win _ _ HB6.out).keep hk2 (fun h => h)).alloc (.cells (winC 0 0 false) 51))
  have H7 := Lib.hid (Blk.new w2 51 (winC 0 0 false))
  have hsz : w.heap.size + 1 < w2.heap.size := ((HS1.out.win _ _ HB6.out).keep hk2 (fun h => h)).lt
  have H5' := Lib.hid (H5.out.setRow_far (cs := winC (min 31 (lzN x)) (tzN x) true) (g' := w2.heap.size) (by omega))
  have H6' := Lib.hid (H6.out.setRow_far (cs := winC (min 31 (lzN x)) (tzN x) true) (g' := w2.heap.size) (by omega))
  have H7' := Lib.hid (H7.out.setRow (cs := winC (min 31 (lzN x)) (tzN x) true))
  have HI3 := Lib.hid (HS.out.row _ _ _ (winC (min 31 (lzN x)) (tzN x) true) _ (HS.out.keep _ _ _ HI1.out (hk2.alloc _)) H7.out)
  have HS3 := Lib.hid (step_row' (((Step.of HK0.out).trans HS1.out).trans (Step.of (hk2.alloc (.cells (winC 0 0 false) 51)))) (g := w2.heap.size) (cs := winC (min 31 (lzN x)) (tzN x) true) (by omega) hB)
  go_wp2_with (first
    | (refine wpList_store_row rfl 51 (.tmp 7) (.tmp 16) rfl _ _ rfl rfl 51 _ H7.out info51 rfl (winC_ones _ _ _) ?_)
    | (refine wpList_load_row rfl 51 (.tmp 5) rfl _ rfl 51 _ (0, 0) _ H5'.out Tryd.underlying51 rfl info51 ?_)
    | (refine wpList_load_row rfl 51 (.tmp 7) rfl _ rfl 51 _ (0, 0) _ H7'.out Tryd.underlying51 rfl info51 ?_))
  refine (holds_any t e is (min 31 (lzN x)) (tzN x) true _).mono ?_
  rw [HH.out]
  rintro r w4 ⟨rfl, hk4⟩
  go_wp2_with fail
  refine (HS.out.put 0 1 _ _ (HS.out.keep _ _ _ HI3.out hk4) (by decide) (by omega) (by rw [List.length_append, bitsL_len]; omega)).mono ?_
  rintro r w5 ⟨rfl, hI5, hs5⟩
  have HB5 := Lib.hid (hs5.win _ _ (H5'.out.keep hk4 (fun h => h)))
  have HB6 := Lib.hid (hs5.win _ _ (H6'.out.keep hk4 (fun h => h)))
  have HS5 := Lib.hid ((HS3.out.trans (Step.of hk4)).trans hs5)
  have HI5 := Lib.hid hI5
  clear H5 H6 H7 H5' H6' H7' HI3 HS3 hI5 hs5
  have ht64 : min t 64 = t := by have := HTE.out; omega
  have he64 : min e 64 = e := by have := HTE.out; omega
  have HSH1 := Lib.hid (show IntKind.u64.wrap ((x : Int) * 2 ^ min t 64) = (x : Int) * 2 ^ t from by
    rw [ht64, IntKind.wrap_u64]
    have h1 := shl_fits HLT.out (by have := HTE.out; omega)
    have h2 : ((x : Int) * 2 ^ t) = ((x * 2 ^ t : Nat) : Int) := by rw [Int.natCast_mul, Int.natCast_pow]; rfl
    rw [h2]; omega)
  have HSH3 := Lib.hid (show (x : Int) * 2 ^ t / 2 ^ min t 64 = (x : Int) from by
    rw [ht64]
    exact Int.mul_ediv_cancel _ (Int.ne_of_gt (Int.pow_pos (by omega))))
  have HSH4 := Lib.hid (show (x : Int) / 2 ^ min e 64 = (x : Int) / 2 ^ e from by rw [he64])
  clear ht64 he64
  have HLE := Lib.hid (show x / 2 ^ e < 2 ^ (64 - t - e) from by
    have h1 := HLT.out
    have h2 := HTE.out
    rw [show 64 - t = (64 - t - e) + e by omega, Nat.pow_add] at h1
    exact (Nat.div_lt_iff_lt_mul (Nat.two_pow_pos e)).2 h1)
  have HLN := Lib.hid (show (b ++ bitsL 1 1 ++ bitsL 0 1).length ≤ 100000 from by rw [List.length_append, List.length_append, bitsL_len, bitsL_len]; omega)
  go_wp2_with fail
  refine wp_region_held_drew (S := Step B0 w5) (by kernel_rfl) (Step.of (Keeps.refl _ _).drew) ?_
  intro hS0
  have hkd : Keeps (fun _ => False) w5 (World.drew w5) := (Keeps.refl _ _).drew
  generalize World.drew _ = v0 at hS0 hkd ⊢
  refine held_take (i := 0) (v := .iface T v) rfl (by kernel_rfl) (by kernel_rfl) (by kernel_rfl) (some 39) (fun _ _ _ h => h) rfl (Or.inl ⟨by rfl, fun _ _ => by rfl⟩) hS0 ?_
  simp only [Act.put, List.setIfInBounds_toArray, List.set_cons_zero, List.set_cons_succ]
  refine held_take (i := 1) (v := .int .u64 x) rfl (by kernel_rfl) (by kernel_rfl) (by kernel_rfl) (some 40) (fun _ _ _ h => h) rfl (Or.inl ⟨by rfl, fun _ _ => by rfl⟩) hS0 ?_
  simp only [Act.put, List.setIfInBounds_toArray, List.set_cons_zero, List.set_cons_succ]
  refine held_take (i := 2) (v := .pointer (some ⟨w.heap.size, 0, none⟩)) rfl (by kernel_rfl) (by kernel_rfl) (by kernel_rfl) (some 41) (fun _ _ _ h => h) rfl (Or.inl ⟨by rfl, fun _ _ => by rfl⟩) hS0 ?_
  simp only [Act.put, List.setIfInBounds_toArray, List.set_cons_zero, List.set_cons_succ]
  refine held_take (i := 3) (v := .int .i64 t) rfl (by kernel_rfl) (by kernel_rfl) (by kernel_rfl) (some 42) (fun _ _ _ h => h) rfl (Or.inl ⟨by rfl, by intro w' hw'; have hc' : w'.cell? ⟨w.heap.size, 0, none⟩ = some (.int .i64 t) := (hw'.win _ _ HB5.out).cell 0; go_simp⟩) hS0 ?_
  simp only [Act.put, List.setIfInBounds_toArray, List.set_cons_zero, List.set_cons_succ]
  refine held_take (i := 4) (v := .int .u64 ((x * 2 ^ t : Nat) : Int)) rfl (by kernel_rfl) (by kernel_rfl) (by kernel_rfl) (some 43) (fun _ _ _ h => h) rfl (Or.inl ⟨by rfl, by intro w' _; go_simp; exact HSH1.out⟩) hS0 ?_
  simp only [Act.put, List.setIfInBounds_toArray, List.set_cons_zero, List.set_cons_succ]
  refine held_take (i := 5) (v := .pointer (some ⟨w.heap.size, 0, none⟩)) rfl (by kernel_rfl) (by kernel_rfl) (by kernel_rfl) (some 44) (fun _ _ _ h => h) rfl (Or.inl ⟨by rfl, fun _ _ => by rfl⟩) hS0 ?_
  simp only [Act.put, List.setIfInBounds_toArray, List.set_cons_zero, List.set_cons_succ]
  refine held_take (i := 6) (v := .int .i64 t) rfl (by kernel_rfl) (by kernel_rfl) (by kernel_rfl) (some 45) (fun _ _ _ h => h) rfl (Or.inl ⟨by rfl, by intro w' hw'; have hc' : w'.cell? ⟨w.heap.size, 0, none⟩ = some (.int .i64 t) := (hw'.win _ _ HB5.out).cell 0; go_simp⟩) hS0 ?_
  simp only [Act.put, List.setIfInBounds_toArray, List.set_cons_zero, List.set_cons_succ]
  refine held_take (i := 7) (v := .int .u64 x) rfl (by kernel_rfl) (by kernel_rfl) (by kernel_rfl) (some 46) (fun _ _ _ h => h) rfl (Or.inl ⟨by rfl, by intro w' _; go_simp; exact HSH3.out⟩) hS0 ?_
  simp only [Act.put, List.setIfInBounds_toArray, List.set_cons_zero, List.set_cons_succ]
  refine held_take (i := 8) (v := .pointer (some ⟨w.heap.size, 1, none⟩)) rfl (by kernel_rfl) (by kernel_rfl) (by kernel_rfl) (some 47) (fun _ _ _ h => h) rfl (Or.inl ⟨by rfl, fun _ _ => by rfl⟩) hS0 ?_
  simp only [Act.put, List.setIfInBounds_toArray, List.set_cons_zero, List.set_cons_succ]
  refine held_take (i := 9) (v := .int .i64 e) rfl (by kernel_rfl) (by kernel_rfl) (by kernel_rfl) (some 48) (fun _ _ _ h => h) rfl (Or.inl ⟨by rfl, by intro w' hw'; have hc' : w'.cell? ⟨w.heap.size, 1, none⟩ = some (.int .i64 e) := (hw'.win _ _ HB5.out).cell 1; go_simp⟩) hS0 ?_
  simp only [Act.put, List.setIfInBounds_toArray, List.set_cons_zero, List.set_cons_succ]
  refine held_take (i := 10) (v := .int .u64 ((x / 2 ^ e : Nat) : Int)) rfl (by kernel_rfl) (by kernel_rfl) (by kernel_rfl) (some 49) (fun _ _ _ h => h) rfl (Or.inl ⟨by rfl, by intro w' _; go_simp; exact HSH4.out⟩) hS0 ?_
  simp only [Act.put, List.setIfInBounds_toArray, List.set_cons_zero, List.set_cons_succ]
  refine held_take (i := 11) (v := .agg (winC t e is)) rfl (by kernel_rfl) (by kernel_rfl) (by kernel_rfl) (some 50) (fun _ _ _ h => h) rfl (yields_load 51 (.tmp 5) rfl _ rfl (by rfl) (fun w' hw' => load_win (hw'.win _ _ HB5.out))) hS0 ?_
  simp only [Act.put, List.setIfInBounds_toArray, List.set_cons_zero, List.set_cons_succ]
  refine held_take (i := 13) (v := .func (.method "Put") #[.iface T v] #[]) rfl (by kernel_rfl) (by kernel_rfl) (by kernel_rfl) (some 52) (fun _ _ _ h => h) rfl (Or.inl ⟨by rfl, by intro w' _; go_simp⟩) hS0 ?_
  simp only [Act.put, List.setIfInBounds_toArray, List.set_cons_zero, List.set_cons_succ]
  refine held_take (i := 14) (v := .func (.method "Put") #[.iface T v] #[]) rfl (by kernel_rfl) (by kernel_rfl) (by kernel_rfl) (some 53) (fun _ _ _ h => h) rfl (Or.inl ⟨by rfl, by intro w' _; go_simp⟩) hS0 ?_
  simp only [Act.put, List.setIfInBounds_toArray, List.set_cons_zero, List.set_cons_succ]
  refine held_take (i := 15) (v := .iface T v) rfl (by kernel_rfl) (by kernel_rfl) (by kernel_rfl) (some 54) (fun _ _ _ h => h) rfl (Or.inl ⟨by rfl, fun _ _ => by rfl⟩) hS0 ?_
  simp only [Act.put, List.setIfInBounds_toArray, List.set_cons_zero, List.set_cons_succ]
  refine held_call (i := 12) (by kernel_rfl) rfl (by rfl) (some 51) rfl 41 #[.agg (winC t e is)] (by kernel_rfl) (fun r w' => r = .int .i64 ((64 - t - e : Nat) : Int) ∧ Keeps (fun _ => False) v0 w') ((wwide_any t e is HTE.out _).mono fun r w' ⟨he, hk⟩ => ⟨_, he, ⟨rfl, hk⟩, hS0.trans (Step.of hk)⟩) ?_
  rintro r v1 ⟨rfl, hk1⟩ hS1
  simp only [Act.put, List.setIfInBounds_toArray, List.set_cons_zero, List.set_cons_succ]
  refine held_call (i := 16) (by kernel_rfl) rfl (by rfl) (some 55) rfl f #[v, .int .u64 ((x / 2 ^ e : Nat) : Int), .int .i64 ((64 - t - e : Nat) : Int)] (by go_simp) (fun r w' => r = .int .i64 0 ∧ Inv w' ((b ++ bitsL 1 1 ++ bitsL 0 1) ++ bitsL (x / 2 ^ e) (64 - t - e))) ((HS.out.put (x / 2 ^ e) (64 - t - e) _ _ (HS.out.keep _ _ _ HI5.out (hkd.trans hk1)) HLE.out (by omega) HLN.out).mono fun r w' ⟨he, hi, hs⟩ => ⟨_, he, ⟨rfl, hi⟩, hS1.trans hs⟩) ?_
  rintro r v2 ⟨rfl, hI6⟩ hS2
  simp only [Act.put, List.setIfInBounds_toArray, List.set_cons_zero, List.set_cons_succ]
  refine wpAnyH_done (by kernel_rfl) ?_ _
  have H6 := Lib.hid (hS2.win _ _ HB6.out)
  have H5 := Lib.hid (hS2.win _ _ HB5.out)
  have HI6 := Lib.hid hI6
  have HST := Lib.hid (HS5.out.trans hS2)
  clear hI6 hS0 hS1 hS2 hkd hk1
  go_wp2_with (first
    | (refine wpList_load_row rfl 51 (.tmp 5) rfl _ rfl 51 _ (0, 0) _ H5.out Tryd.underlying51 rfl info51 ?_)
    | (refine wpList_store_row rfl 51 (.tmp 6) (.tmp 56) rfl _ _ rfl rfl 51 _ H6.out info51 rfl (winC_ones _ _ _) ?_))
  refine bodyPost_ret (results_cell_row Tryd.results44 _ _ _ 51 _ (0, 0) _ rfl H6.out.setRow Tryd.underlying51 rfl info51) rfl ⟨rfl, ?_, step_row' HST.out (Nat.le_succ _) hB⟩
  have := HS.out.row _ _ _ (winC t e is) _ HI6.out H6.out
  have b1 : bitsL 1 1 = [true] := by decide
  have b0 : bitsL 0 1 = [false] := by decide
  rw [b1, b0] at this
  simpa using this
end Go.Proofs.YthcoiaigmndohaaDoor
