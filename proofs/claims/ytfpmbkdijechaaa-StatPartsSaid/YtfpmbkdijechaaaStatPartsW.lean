/-
  The law StatParts: its walk. No conditions beyond the row's own.
-/
import Derived.Test.YtfpmbkdijechaaaStatTellsW
import Derived.Test.YtfpmbkdijechaaaStatPlain
import Derived.Test.YtfpmbkdijechaaaApp64
namespace Go.Proofs.Ytfpmbkdijechaaa
open Go.RowKit Flt
attribute [local go_sem] run_store_float

set_option maxRecDepth 100000 in
set_option maxHeartbeats 6400000 in
theorem statParts_nat (A1 : Option Addr) (c1 : Nat) (M1 : List Nat) (A2 : Option Addr) (c2 : Nat) (M2 : List Nat) (A3 : Option Addr) (c3 : Nat) (M3 : List Nat) (w : World) (hI1 : In64 w A1 c1 M1) (hI2 : In64 w A2 c2 M2) (hI3 : In64 w A3 c3 M3) (hl1 : M1.length ≤ 100) (hl2 : M2.length ≤ 100) (hl3 : M3.length ≤ 100) :
    Calls Try.prog 4 #[.slice A1 M1.length c1, .slice A2 M2.length c2, .slice A3 M3.length c3] w fun e w' => e = .returned (.bool true) ∧ Keeps (fun _ => False) w w' := by
  obtain ⟨e0, he0, hz0, hz1, hz2⟩ := info_parts info64
  have hle1 : (M1.length : Int) ≤ 100 := by omega
  have hle2 : (M2.length : Int) ≤ 100 := by omega
  have hle3 : (M3.length : Int) ≤ 100 := by omega
  have f12 : ∀ x ∈ M1 ++ M2, Fits x := fun x hx => by
    rcases List.mem_append.1 hx with h | h
    · exact hI1.fits x h
    · exact hI2.fits x h
  have f31 : ∀ x ∈ M3 ++ M1, Fits x := fun x hx => by
    rcases List.mem_append.1 hx with h | h
    · exact hI3.fits x h
    · exact hI1.fits x h
  have fall : ∀ x ∈ M1 ++ M2 ++ M3, Fits x := fun x hx => by
    rcases List.mem_append.1 hx with h | h
    · exact f12 x h
    · exact hI3.fits x h
  obtain ⟨N, hN⟩ : ∃ N, (M1 ++ M2 ++ M3).length = N := ⟨_, rfl⟩
  have hN300 : N ≤ 300 := by rw [← hN]; simp; omega
  obtain ⟨W, hW⟩ : ∃ W, ofSt (M1 ++ M2 ++ M3) = W := ⟨_, rfl⟩
  have okW : W.Ok N := by rw [← hW, ← hN]; exact ofSt_ok fall
  have J12 := fun w : World => join_any (ofSt_ok hI1.fits) (ofSt_ok hI2.fits) (by omega) w
  rw [← ofSt_append] at J12
  have J31 := fun w : World => join_any (ofSt_ok hI3.fits) (ofSt_ok hI1.fits) (by omega) w
  rw [← ofSt_append] at J31
  have J12_3 := fun w : World => join_any (ofSt_ok f12) (ofSt_ok hI3.fits) (by simp; omega) w
  rw [← ofSt_append, hW] at J12_3
  have J3_12 := fun w : World => join_any (ofSt_ok hI3.fits) (ofSt_ok f12) (by simp; omega) w
  rw [← ofSt_append, ofSt_comm hI3.fits f12, hW] at J3_12
  have J2_31 := fun w : World => join_any (ofSt_ok hI2.fits) (ofSt_ok f31) (by simp; omega) w
  have e2 : ofSt (M2 ++ (M3 ++ M1)) = W := by
    rw [← hW, ← List.append_assoc, ofSt_comm (M := M2 ++ M3) (K := M1) (fun x hx => by
      rcases List.mem_append.1 hx with h | h
      · exact hI2.fits x h
      · exact hI3.fits x h) hI1.fits, List.append_assoc]
  rw [← ofSt_append, e2] at J2_31
  have LK := fun w : World => like_any okW (by omega) w
  obtain ⟨T, hT0⟩ : ∃ T, (M1 ++ M2 ++ M3).reverse = T := ⟨_, rfl⟩
  have hTl : T.length = N := by rw [← hT0, List.length_reverse, hN]
  have fT : ∀ x ∈ T, Fits x := fun x hx => fall x (List.mem_reverse.1 (by rw [hT0]; exact hx))
  have OT : ∀ (A : Option Addr) (c : Nat) (w : World), InF w A c T → Calls Try.prog 7 #[.slice A T.length c] w fun e w' => e = .returned (.agg W.cells) ∧ Keeps (fun _ => False) w w' := by
    intro A c w hF
    have := of_any A c T w hF (by omega)
    rw [← hT0, ofSt_reverse fall, hW] at this
    rw [← hT0]
    exact this
  have HJ12 := Lib.hid J12
  have HJ31 := Lib.hid J31
  have HJ12_3 := Lib.hid J12_3
  have HJ3_12 := Lib.hid J3_12
  have HJ2_31 := Lib.hid J2_31
  have HLK := Lib.hid LK
  have HOT := Lib.hid OT
  have HFA := Lib.hid fall
  have HFT := Lib.hid fT
  have HWE := Lib.hid hW
  have HT0 := Lib.hid hT0
  have HTL := Lib.hid hTl
  have HNE := Lib.hid hN
  clear J12 J31 J12_3 J3_12 J2_31 LK OT fall fT f12 f31 e2 hW hT0 hTl okW hN
  go_enter Try.func4, Try.ntmps4
  go_upto_region 3 with fail
  go_cut [7, 8, 9] from 7 to 35 (fun p1 p2 p3 wx => ∃ g1 g2 g3, p1 = .pointer (some ⟨g1, 0, none⟩) ∧ p2 = .pointer (some ⟨g2, 0, none⟩) ∧ p3 = .pointer (some ⟨g3, 0, none⟩) ∧ Blk wx g1 27 (ofSt M1).cells ∧ Blk wx g2 27 (ofSt M2).cells ∧ Blk wx g3 27 (ofSt M3).cells ∧ Keeps (fun _ => False) w wx)
  case first =>
    go_wp2_with fail
    refine (reals_any A1 c1 M1 _ hI1).mono ?_
    rintro e w1 ⟨v, rfl, hown, hk1⟩
    obtain ⟨B1, d1, rfl, hF⟩ := InF.of_own hown hI1.le hI1.fits
    have HF1 := Lib.hid hF
    clear hown hF
    go_wp2_with fail
    refine (of_any B1 d1 M1 _ HF1.out (by omega)).mono ?_
    rintro e w2 ⟨rfl, hk2⟩
    go_wp2_with fail
    refine (reals_any A2 c2 M2 _ (hI2.keep (hk1.trans hk2))).mono ?_
    rintro e w3 ⟨v, rfl, hown, hk3⟩
    obtain ⟨B2, d2, rfl, hF⟩ := InF.of_own hown hI2.le hI2.fits
    have HF2 := Lib.hid hF
    clear hown hF
    go_wp2_with fail
    refine (of_any B2 d2 M2 _ HF2.out (by omega)).mono ?_
    rintro e w4 ⟨rfl, hk4⟩
    go_wp2_with fail
    refine (reals_any A3 c3 M3 _ (hI3.keep (((hk1.trans hk2).trans hk3).trans hk4))).mono ?_
    rintro e w5 ⟨v, rfl, hown, hk5⟩
    obtain ⟨B3, d3, rfl, hF⟩ := InF.of_own hown hI3.le hI3.fits
    have HF3 := Lib.hid hF
    clear hown hF
    go_wp2_with fail
    refine (of_any B3 d3 M3 _ HF3.out (by omega)).mono ?_
    rintro e w6 ⟨rfl, hk6⟩
    have HB1 := Lib.hid (show Blk (((w6.alloc (.cells zeroSt.cells 27)).alloc (.cells zeroSt.cells 27)).alloc (.cells zeroSt.cells 27)) w6.heap.size 27 zeroSt.cells from ((Blk.new w6 _ _).alloc _).alloc _)
    have hb2 := (Blk.new (w6.alloc (.cells zeroSt.cells 27)) 27 zeroSt.cells).alloc (.cells zeroSt.cells 27)
    rw [World.size_alloc] at hb2
    have HB2 := Lib.hid (hb2.setRow_far (cs := (ofSt M1).cells) (g' := w6.heap.size) (by omega))
    have hb3 := Blk.new ((w6.alloc (.cells zeroSt.cells 27)).alloc (.cells zeroSt.cells 27)) 27 zeroSt.cells
    rw [World.size_alloc, World.size_alloc] at hb3
    have HB3 := Lib.hid ((hb3.setRow_far (cs := (ofSt M1).cells) (g' := w6.heap.size) (by omega)).setRow_far (cs := (ofSt M2).cells) (g' := w6.heap.size + 1) (by omega))
    clear hb2 hb3
    go_wp2_with (first
      | (refine wpList_store_row rfl 27 (.tmp 7) (.tmp 29) rfl _ _ rfl rfl 27 _ HB1.out info27 rfl (statC_ones _ _ _ _ _ _) ?_)
      | (refine wpList_store_row rfl 27 (.tmp 8) (.tmp 32) rfl _ _ rfl rfl 27 _ HB2.out info27 rfl (statC_ones _ _ _ _ _ _) ?_)
      | (refine wpList_store_row rfl 27 (.tmp 9) (.tmp 35) rfl _ _ rfl rfl 27 _ HB3.out info27 rfl (statC_ones _ _ _ _ _ _) ?_))
    go_meet
    case rel =>
      refine ⟨_, _, _, rfl, rfl, rfl, ((HB1.out.setRow).setRow_far (by omega)).setRow_far (by omega), (HB2.out.setRow).setRow_far (by omega), HB3.out.setRow, ?_⟩
      have hkk := ((((hk1.trans hk2).trans hk3).trans hk4).trans hk5).trans hk6
      have hsz := hkk.size
      exact (((((hkk.alloc _).alloc _).alloc _).setRow (.inr hsz) _).setRow (.inr (by omega)) _).setRow (.inr (by omega)) _
  case rest =>
    obtain ⟨g1, g2, g3, rfl, rfl, rfl, hb1, hb2, hb3, hkx⟩ := hcut
    have HBA := Lib.hid hb1
    have HBB := Lib.hid hb2
    have HBC := Lib.hid hb3
    clear hb1 hb2 hb3
    go_upto_region 5 with (first
      | (at_builtin; refine wpList_append_in rfl (.tmp 36) (.tmp 37) rfl wc.heap.size (.slice (some ⟨wc.heap.size, 0, none⟩) 0 0) 0 [] rfl (World.ownsRow_lit wc #[] 0 (Nat.le_refl _) (Nat.zero_le _) rfl) A1 c1 M1 rfl (hI1.keep (hkx.alloc _)) (by omega) (by simp) ?_; intro v1 w1 hown1 hgrow1; have hk1 := ((Keeps.refl (fun _ => False) wc).alloc (.cells #[] 23)).grown hgrow1 (by intro k hk; right; simp [Value.ownBlock] at hk; omega); have HO1 := Lib.hid hown1; clear hown1)
      | (at_builtin; refine wpList_append_in rfl (.tmp 38) (.tmp 39) rfl wc.heap.size v1 (0 + M1.length) ([] ++ u64s M1) rfl HO1.out A2 c2 M2 rfl (hI2.keep (hkx.trans hk1)) (by omega) hk1.size ?_; intro v2 w2 hown2 hgrow2; have hk2 := hk1.grown hgrow2 (by intro k hk; right; exact (HO1.out.lt k hk).1); have HO2 := Lib.hid hown2; clear hown2)
      | (at_builtin; refine wpList_append_in rfl (.tmp 40) (.tmp 41) rfl wc.heap.size v2 (0 + M1.length + M2.length) ([] ++ u64s M1 ++ u64s M2) rfl HO2.out A3 c3 M3 rfl (hI3.keep (hkx.trans hk2)) (by omega) hk2.size ?_; intro v3 w3 hown3 hgrow3; have hk3 := hk2.grown hgrow3 (by intro k hk; right; exact (HO2.out.lt k hk).1); have hown3' : w3.ownsRow wc.heap.size 23 1 v3 (M1 ++ M2 ++ M3).length (u64s (M1 ++ M2 ++ M3)) := (by simpa [u64s, Nat.add_assoc] using hown3); obtain ⟨A10, c10, rfl, hIA⟩ := In64.of_own hown3' (by have := HNE.out; omega) HFA.out; have HIA := Lib.hid hIA; clear hown3 hown3' hIA))
    have hlen := HNE.out
    have hlen3 : M1.length + (M2.length + M3.length) = N := by rw [← hlen]; simp
    rw [hlen3]
    clear hlen3
    obtain ⟨R, hR⟩ : ∃ R, M1 ++ M2 ++ M3 = R := ⟨_, rfl⟩
    have hIA := HIA.out
    rw [hR] at hIA hlen
    have hN64 : (N : Int) ≤ 300 := by omega
    have hTR : R.reverse = T := by rw [← hR]; exact HT0.out
    clear HIA hlen
    have HLEN := Lib.hid (show R.length = N from by rw [← hR]; exact HNE.out)
    have HRR := Lib.hid hR
    have HTR := Lib.hid hTR
    clear hR hTR
    go_wp2_with fail
    go_loopw [11, 12] (fun o x wr => ∃ j : Nat, j ≤ N ∧ x = .int .i64 ((j : Int) - 1) ∧ wr.ownsRow w3.heap.size 23 1 o (N - j) (u64s (R.drop j).reverse) ∧ Keeps (fun _ => False) w3 wr) (fun _ x _ => (intOf x + 1).toNat)
    case atStart => exact ⟨N, Nat.le_refl _, by first | rfl | go_num, by rw [← HLEN.out]; simpa [u64s] using World.ownsRow_nil _ _ _ _, Keeps.refl _ _⟩
    case round =>
      obtain ⟨j, hj, rfl, hown, hkr⟩ := hrel
      have HO := Lib.hid hown
      clear hown
      by_cases hlt : 0 < j
      · obtain ⟨i, rfl⟩ : ∃ i, j = i + 1 := ⟨j - 1, by omega⟩
        have hi : (((i + 1 : Nat) : Int) - 1) = (i : Int) := by omega
        rw [hi]
        have hiR : i < R.length := by rw [HLEN.out]; omega
        have hiN : (i : Int) < (N : Int) := by omega
        obtain ⟨b, off, hA, hb, hc, hf⟩ := (hIA.keep hkr).at_ hiR
        have hdrop : (R.drop i).reverse = (R.drop (i + 1)).reverse ++ [R[i]] := by
          rw [← List.getElem_cons_drop hiR, List.reverse_cons]
        obtain ⟨x, hx⟩ : ∃ x, R[i] = x := ⟨_, rfl⟩
        rw [hx] at hc hdrop
        have HD := Lib.hid hdrop
        clear hdrop hx hf hi
        subst hA
        go_wp2_with (at_builtin; go_loud (refine wpList_append_own_at _ rfl _ _ 22 rfl w3.heap.size 23 e0 (.int .u64 0) 1 8 Try.underlying22 he0 hz0 hz1 hz2 rfl (by decide) u11 (N - (i + 1)) _ rfl (HO.out.alloc _) ⟨wr.heap.size, 0, none⟩ 1 1 [.int .u64 x] rfl rfl (World.news_of_block (cs := #[.int .u64 x]) (t := 23) (fr := (0, 0)) (heap_alloc_new wr _)) (by simp [Value.oneCell']) (by unfold maxLen; omega) (by omega) (by have := hkr.size; simp; omega) ?_; intro v4 w4 hown4 hgrow4 _ _))
        go_roundw
        case rel =>
          refine ⟨i, by omega, by first | rfl | go_num, ?_, (hkr.alloc _).grown hgrow4 (by intro k hk; right; exact (HO.out.lt k hk).1)⟩
          have e1 : N - i = N - (i + 1) + 1 := by omega
          rw [HD.out, e1]
          simpa [u64s] using hown4
        case measure => simp [intOf]
      · obtain rfl : j = 0 := by omega
        have hownT : wr.ownsRow w3.heap.size 23 1 u11 T.length (u64s T) := by
          have := HO.out
          rw [List.drop_zero, HTR.out] at this
          rw [HTL.out]
          exact this
        obtain ⟨A11, c11, rfl, hT⟩ := In64.of_own hownT (by rw [HTL.out]; omega) HFT.out
        clear HO hownT
        have hIr := hIA.keep hkr
        have hlen := HLEN.out
        go_upto_region 10 with fail
        go_cut [13] from 13 to 58 (fun p wx => ∃ g4, p = .pointer (some ⟨g4, 0, none⟩) ∧ Blk wx g4 34 W.rcells ∧ Keeps (fun _ => False) wr wx)
        case first =>
          have hrf := refOf_any A10 c10 R wr hIr (by omega)
          rw [hlen] at hrf
          have hRW : ofSt R = W := by rw [← HRR.out]; exact HWE.out
          rw [hRW] at hrf
          have HRF := Lib.hid hrf
          clear hrf hRW
          go_wp2_with fail
          refine HRF.out.mono ?_
          rintro e w5 ⟨rfl, hk5⟩
          have HB1 := Lib.hid (Blk.new w5 34 zeroSt.rcells)
          go_wp2_with (refine wpList_store_row rfl 34 (.tmp 13) (.tmp 58) rfl _ _ rfl rfl 34 _ HB1.out info34 rfl (statR_ones _ _ _ _ _ _) ?_)
          go_meet
          case rel => exact ⟨_, rfl, HB1.out.setRow, (hk5.alloc _).setRow (.inr hk5.size) _⟩
        case rest =>
          obtain ⟨g4, rfl, hd4, hk4⟩ := hcut
          have hkc := (hk3.trans hkr).trans hk4
          have hd1 := HBA.out.keep hkc (fun h => h)
          have hd2 := HBB.out.keep hkc (fun h => h)
          have hd3 := HBC.out.keep hkc (fun h => h)
          have hT := hT.keep hk4
          have hkw := hkx.trans hkc
          go_upto_region 11 with fail
          refine wp_region_held_drew (S := Keeps (fun _ => False) wc) (by kernel_rfl) (Keeps.refl _ _).drew ?_
          intro hS0
          generalize World.drew _ = v0 at hS0 ⊢
          refine held_take (i := 0) (v := .agg (ofSt M1).cells) rfl (by kernel_rfl) (by kernel_rfl) (by kernel_rfl) (some 59) (fun _ _ _ h => h) rfl (yields_load 27 (.tmp 7) rfl _ rfl (by rfl) (fun w' hw' => load_st (hd1.keep hw' (fun h => h)))) hS0 ?_
          simp only [Act.put, List.setIfInBounds_toArray, List.set_cons_zero, List.set_cons_succ]
          refine held_take (i := 1) (v := .agg (ofSt M2).cells) rfl (by kernel_rfl) (by kernel_rfl) (by kernel_rfl) (some 60) (fun _ _ _ h => h) rfl (yields_load 27 (.tmp 8) rfl _ rfl (by rfl) (fun w' hw' => load_st (hd2.keep hw' (fun h => h)))) hS0 ?_
          simp only [Act.put, List.setIfInBounds_toArray, List.set_cons_zero, List.set_cons_succ]
          refine held_take (i := 3) (v := .agg (ofSt M3).cells) rfl (by kernel_rfl) (by kernel_rfl) (by kernel_rfl) (some 62) (fun _ _ _ h => h) rfl (yields_load 27 (.tmp 9) rfl _ rfl (by rfl) (fun w' hw' => load_st (hd3.keep hw' (fun h => h)))) hS0 ?_
          simp only [Act.put, List.setIfInBounds_toArray, List.set_cons_zero, List.set_cons_succ]
          refine held_take (i := 5) (v := .agg W.rcells) rfl (by kernel_rfl) (by kernel_rfl) (by kernel_rfl) (some 64) (fun _ _ _ h => h) rfl (yields_load 34 (.tmp 13) rfl _ rfl (by rfl) (fun w' hw' => load_ref (hd4.keep hw' (fun h => h)))) hS0 ?_
          simp only [Act.put, List.setIfInBounds_toArray, List.set_cons_zero, List.set_cons_succ]
          refine held_call (i := 2) (by kernel_rfl) rfl (by rfl) (some 61) rfl 10 #[.agg (ofSt M1).cells, .agg (ofSt M2).cells] (by kernel_rfl) (fun v _ => v = .agg (ofSt (M1 ++ M2)).cells) ((HJ12.out _).mono fun e w' ⟨he, hk⟩ => ⟨_, he, rfl, (hS0).trans hk⟩) ?_
          rintro v v1 rfl hS1
          simp only [Act.put, List.setIfInBounds_toArray, List.set_cons_zero, List.set_cons_succ]
          refine held_call (i := 4) (by kernel_rfl) rfl (by rfl) (some 63) rfl 10 #[.agg (ofSt (M1 ++ M2)).cells, .agg (ofSt M3).cells] (by kernel_rfl) (fun v _ => v = .agg W.cells) ((HJ12_3.out _).mono fun e w' ⟨he, hk⟩ => ⟨_, he, rfl, (hS1).trans hk⟩) ?_
          rintro v v2 rfl hS2
          simp only [Act.put, List.setIfInBounds_toArray, List.set_cons_zero, List.set_cons_succ]
          refine held_call (i := 6) (by kernel_rfl) rfl (by rfl) (some 65) rfl 9 #[.agg W.cells, .agg W.rcells] (by kernel_rfl) (fun v _ => v = .bool true) ((HLK.out _).mono fun e w' ⟨he, hk⟩ => ⟨_, he, rfl, (hS2).trans hk⟩) ?_
          rintro v v3 rfl hS3
          simp only [Act.put, List.setIfInBounds_toArray, List.set_cons_zero, List.set_cons_succ]
          refine held_take (i := 7) (v := .bool true) rfl (by kernel_rfl) (by kernel_rfl) (by kernel_rfl) (some 66) (fun _ _ _ h => h) rfl (Or.inl ⟨by rfl, fun _ _ => by rfl⟩) hS3 ?_
          simp only [Act.put, List.setIfInBounds_toArray, List.set_cons_zero, List.set_cons_succ]
          refine held_take (i := 8) (v := .agg (ofSt M3).cells) rfl (by kernel_rfl) (by kernel_rfl) (by kernel_rfl) (some 67) (fun _ _ _ h => h) rfl (yields_load 27 (.tmp 9) rfl _ rfl (by rfl) (fun w' hw' => load_st (hd3.keep hw' (fun h => h)))) hS3 ?_
          simp only [Act.put, List.setIfInBounds_toArray, List.set_cons_zero, List.set_cons_succ]
          refine held_take (i := 9) (v := .agg (ofSt M1).cells) rfl (by kernel_rfl) (by kernel_rfl) (by kernel_rfl) (some 68) (fun _ _ _ h => h) rfl (yields_load 27 (.tmp 7) rfl _ rfl (by rfl) (fun w' hw' => load_st (hd1.keep hw' (fun h => h)))) hS3 ?_
          simp only [Act.put, List.setIfInBounds_toArray, List.set_cons_zero, List.set_cons_succ]
          refine held_take (i := 10) (v := .agg (ofSt M2).cells) rfl (by kernel_rfl) (by kernel_rfl) (by kernel_rfl) (some 69) (fun _ _ _ h => h) rfl (yields_load 27 (.tmp 8) rfl _ rfl (by rfl) (fun w' hw' => load_st (hd2.keep hw' (fun h => h)))) hS3 ?_
          simp only [Act.put, List.setIfInBounds_toArray, List.set_cons_zero, List.set_cons_succ]
          refine held_take (i := 13) (v := .agg W.rcells) rfl (by kernel_rfl) (by kernel_rfl) (by kernel_rfl) (some 72) (fun _ _ _ h => h) rfl (yields_load 34 (.tmp 13) rfl _ rfl (by rfl) (fun w' hw' => load_ref (hd4.keep hw' (fun h => h)))) hS3 ?_
          simp only [Act.put, List.setIfInBounds_toArray, List.set_cons_zero, List.set_cons_succ]
          refine held_call (i := 11) (by kernel_rfl) rfl (by rfl) (some 70) rfl 10 #[.agg (ofSt M1).cells, .agg (ofSt M2).cells] (by kernel_rfl) (fun v _ => v = .agg (ofSt (M1 ++ M2)).cells) ((HJ12.out _).mono fun e w' ⟨he, hk⟩ => ⟨_, he, rfl, (hS3).trans hk⟩) ?_
          rintro v v4 rfl hS4
          simp only [Act.put, List.setIfInBounds_toArray, List.set_cons_zero, List.set_cons_succ]
          refine held_call (i := 12) (by kernel_rfl) rfl (by rfl) (some 71) rfl 10 #[.agg (ofSt M3).cells, .agg (ofSt (M1 ++ M2)).cells] (by kernel_rfl) (fun v _ => v = .agg W.cells) ((HJ3_12.out _).mono fun e w' ⟨he, hk⟩ => ⟨_, he, rfl, (hS4).trans hk⟩) ?_
          rintro v v5 rfl hS5
          simp only [Act.put, List.setIfInBounds_toArray, List.set_cons_zero, List.set_cons_succ]
          refine held_call (i := 14) (by kernel_rfl) rfl (by rfl) (some 73) rfl 9 #[.agg W.cells, .agg W.rcells] (by kernel_rfl) (fun v _ => v = .bool true) ((HLK.out _).mono fun e w' ⟨he, hk⟩ => ⟨_, he, rfl, (hS5).trans hk⟩) ?_
          rintro v v6 rfl hS6
          simp only [Act.put, List.setIfInBounds_toArray, List.set_cons_zero, List.set_cons_succ]
          refine held_take (i := 15) (v := .bool true) rfl (by kernel_rfl) (by kernel_rfl) (by kernel_rfl) (some 74) (fun _ _ _ h => h) rfl (Or.inl ⟨by rfl, fun _ _ => by rfl⟩) hS6 ?_
          simp only [Act.put, List.setIfInBounds_toArray, List.set_cons_zero, List.set_cons_succ]
          refine held_take (i := 16) (v := .bool true) rfl (by kernel_rfl) (by kernel_rfl) (by kernel_rfl) (some 75) (fun _ _ _ h => h) rfl (Or.inl ⟨by rfl, fun _ _ => by rfl⟩) hS6 ?_
          simp only [Act.put, List.setIfInBounds_toArray, List.set_cons_zero, List.set_cons_succ]
          refine held_take (i := 17) (v := .agg (ofSt M2).cells) rfl (by kernel_rfl) (by kernel_rfl) (by kernel_rfl) (some 76) (fun _ _ _ h => h) rfl (yields_load 27 (.tmp 8) rfl _ rfl (by rfl) (fun w' hw' => load_st (hd2.keep hw' (fun h => h)))) hS6 ?_
          simp only [Act.put, List.setIfInBounds_toArray, List.set_cons_zero, List.set_cons_succ]
          refine held_take (i := 18) (v := .agg (ofSt M3).cells) rfl (by kernel_rfl) (by kernel_rfl) (by kernel_rfl) (some 77) (fun _ _ _ h => h) rfl (yields_load 27 (.tmp 9) rfl _ rfl (by rfl) (fun w' hw' => load_st (hd3.keep hw' (fun h => h)))) hS6 ?_
          simp only [Act.put, List.setIfInBounds_toArray, List.set_cons_zero, List.set_cons_succ]
          refine held_take (i := 19) (v := .agg (ofSt M1).cells) rfl (by kernel_rfl) (by kernel_rfl) (by kernel_rfl) (some 78) (fun _ _ _ h => h) rfl (yields_load 27 (.tmp 7) rfl _ rfl (by rfl) (fun w' hw' => load_st (hd1.keep hw' (fun h => h)))) hS6 ?_
          simp only [Act.put, List.setIfInBounds_toArray, List.set_cons_zero, List.set_cons_succ]
          refine held_take (i := 22) (v := .agg W.rcells) rfl (by kernel_rfl) (by kernel_rfl) (by kernel_rfl) (some 81) (fun _ _ _ h => h) rfl (yields_load 34 (.tmp 13) rfl _ rfl (by rfl) (fun w' hw' => load_ref (hd4.keep hw' (fun h => h)))) hS6 ?_
          simp only [Act.put, List.setIfInBounds_toArray, List.set_cons_zero, List.set_cons_succ]
          refine held_call (i := 20) (by kernel_rfl) rfl (by rfl) (some 79) rfl 10 #[.agg (ofSt M3).cells, .agg (ofSt M1).cells] (by kernel_rfl) (fun v _ => v = .agg (ofSt (M3 ++ M1)).cells) ((HJ31.out _).mono fun e w' ⟨he, hk⟩ => ⟨_, he, rfl, (hS6).trans hk⟩) ?_
          rintro v v7 rfl hS7
          simp only [Act.put, List.setIfInBounds_toArray, List.set_cons_zero, List.set_cons_succ]
          refine held_call (i := 21) (by kernel_rfl) rfl (by rfl) (some 80) rfl 10 #[.agg (ofSt M2).cells, .agg (ofSt (M3 ++ M1)).cells] (by kernel_rfl) (fun v _ => v = .agg W.cells) ((HJ2_31.out _).mono fun e w' ⟨he, hk⟩ => ⟨_, he, rfl, (hS7).trans hk⟩) ?_
          rintro v v8 rfl hS8
          simp only [Act.put, List.setIfInBounds_toArray, List.set_cons_zero, List.set_cons_succ]
          refine held_call (i := 23) (by kernel_rfl) rfl (by rfl) (some 82) rfl 9 #[.agg W.cells, .agg W.rcells] (by kernel_rfl) (fun v _ => v = .bool true) ((HLK.out _).mono fun e w' ⟨he, hk⟩ => ⟨_, he, rfl, (hS8).trans hk⟩) ?_
          rintro v v9 rfl hS9
          simp only [Act.put, List.setIfInBounds_toArray, List.set_cons_zero, List.set_cons_succ]
          refine held_take (i := 24) (v := .bool true) rfl (by kernel_rfl) (by kernel_rfl) (by kernel_rfl) (some 83) (fun _ _ _ h => h) rfl (Or.inl ⟨by rfl, fun _ _ => by rfl⟩) hS9 ?_
          simp only [Act.put, List.setIfInBounds_toArray, List.set_cons_zero, List.set_cons_succ]
          refine held_take (i := 25) (v := .bool true) rfl (by kernel_rfl) (by kernel_rfl) (by kernel_rfl) (some 84) (fun _ _ _ h => h) rfl (Or.inl ⟨by rfl, fun _ _ => by rfl⟩) hS9 ?_
          simp only [Act.put, List.setIfInBounds_toArray, List.set_cons_zero, List.set_cons_succ]
          refine held_take (i := 26) (v := .slice A11 T.length c11) rfl (by kernel_rfl) (by kernel_rfl) (by kernel_rfl) (some 85) (fun _ _ _ h => h) rfl (Or.inl ⟨by rfl, fun _ _ => by rfl⟩) hS9 ?_
          simp only [Act.put, List.setIfInBounds_toArray, List.set_cons_zero, List.set_cons_succ]
          refine held_take (i := 29) (v := .agg W.rcells) rfl (by kernel_rfl) (by kernel_rfl) (by kernel_rfl) (some 88) (fun _ _ _ h => h) rfl (yields_load 34 (.tmp 13) rfl _ rfl (by rfl) (fun w' hw' => load_ref (hd4.keep hw' (fun h => h)))) hS9 ?_
          simp only [Act.put, List.setIfInBounds_toArray, List.set_cons_zero, List.set_cons_succ]
          refine held_call (i := 27) (by kernel_rfl) rfl (by rfl) (some 86) rfl 8 #[.slice A11 T.length c11] (by kernel_rfl) (fun v w' => ∃ A c, v = .slice A T.length c ∧ InF w' A c T) ((reals_any A11 c11 T _ (hT.keep hS9)).mono fun e w' ⟨v, he, hown, hk⟩ => ⟨v, he, InF.of_own hown hT.le hT.fits, (hS9).trans hk⟩) ?_
          rintro v v10 ⟨A12, c12, rfl, hFT⟩ hS10
          simp only [Act.put, List.setIfInBounds_toArray, List.set_cons_zero, List.set_cons_succ]
          refine held_call (i := 28) (by kernel_rfl) rfl (by rfl) (some 87) rfl 7 #[.slice A12 T.length c12] (by kernel_rfl) (fun v _ => v = .agg W.cells) ((HOT.out A12 c12 _ hFT).mono fun e w' ⟨he, hk⟩ => ⟨_, he, rfl, (hS10).trans hk⟩) ?_
          rintro v v11 rfl hS11
          simp only [Act.put, List.setIfInBounds_toArray, List.set_cons_zero, List.set_cons_succ]
          refine held_call (i := 30) (by kernel_rfl) rfl (by rfl) (some 89) rfl 9 #[.agg W.cells, .agg W.rcells] (by kernel_rfl) (fun v _ => v = .bool true) ((HLK.out _).mono fun e w' ⟨he, hk⟩ => ⟨_, he, rfl, (hS11).trans hk⟩) ?_
          rintro v v12 rfl hS12
          simp only [Act.put, List.setIfInBounds_toArray, List.set_cons_zero, List.set_cons_succ]
          refine held_take (i := 31) (v := .bool true) rfl (by kernel_rfl) (by kernel_rfl) (by kernel_rfl) (some 90) (fun _ _ _ h => h) rfl (Or.inl ⟨by rfl, fun _ _ => by rfl⟩) hS12 ?_
          simp only [Act.put, List.setIfInBounds_toArray, List.set_cons_zero, List.set_cons_succ]
          refine held_take (i := 32) (v := .bool true) rfl (by kernel_rfl) (by kernel_rfl) (by kernel_rfl) (some 91) (fun _ _ _ h => h) rfl (Or.inl ⟨by rfl, fun _ _ => by rfl⟩) hS12 ?_
          simp only [Act.put, List.setIfInBounds_toArray, List.set_cons_zero, List.set_cons_succ]
          refine held_call (i := 33) (by kernel_rfl) rfl (by rfl) (some 92) rfl 14 #[] (by kernel_rfl) (fun v _ => v = .bool true) ((awake_any _).mono fun e w' ⟨he, hk⟩ => ⟨_, he, rfl, (hS12).trans hk⟩) ?_
          rintro v v13 rfl hS13
          simp only [Act.put, List.setIfInBounds_toArray, List.set_cons_zero, List.set_cons_succ]
          refine held_take (i := 34) (v := .bool true) rfl (by kernel_rfl) (by kernel_rfl) (by kernel_rfl) (some 93) (fun _ _ _ h => h) rfl (Or.inl ⟨by rfl, fun _ _ => by rfl⟩) hS13 ?_
          simp only [Act.put, List.setIfInBounds_toArray, List.set_cons_zero, List.set_cons_succ]
          refine held_take (i := 35) (v := .bool true) rfl (by kernel_rfl) (by kernel_rfl) (by kernel_rfl) (some 6) (fun _ _ _ h => h) rfl (Or.inl ⟨by rfl, fun _ _ => by rfl⟩) hS13 ?_
          simp only [Act.put, List.setIfInBounds_toArray, List.set_cons_zero, List.set_cons_succ]
          refine wpAnyH_done (by kernel_rfl) ?_ _
          go_wp2
          go_ret
          exact ⟨rfl, hkw.trans hS13⟩

theorem statParts_walk (L1 : List Int) (A1 : Option Addr) (c1 : Nat) (L2 : List Int) (A2 : Option Addr) (c2 : Nat) (L3 : List Int) (A3 : Option Addr) (c3 : Nat) (w : World)
    (hrow1 : Row w w.heap.size A1 L1.length (L1.map (.int .u64))) (hc1 : L1.length ≤ c1) (hm1 : c1 ≤ maxLen) (hwf1 : ∀ z ∈ L1, (Lit.int .u64 z).wf = true) (hnil1 : A1 = none → c1 = 0)
    (hrow2 : Row w w.heap.size A2 L2.length (L2.map (.int .u64))) (hc2 : L2.length ≤ c2) (hm2 : c2 ≤ maxLen) (hwf2 : ∀ z ∈ L2, (Lit.int .u64 z).wf = true) (hnil2 : A2 = none → c2 = 0)
    (hrow3 : Row w w.heap.size A3 L3.length (L3.map (.int .u64))) (hc3 : L3.length ≤ c3) (hm3 : c3 ≤ maxLen) (hwf3 : ∀ z ∈ L3, (Lit.int .u64 z).wf = true) (hnil3 : A3 = none → c3 = 0) :
    Calls Try.prog 4 #[.slice A1 L1.length c1, .slice A2 L2.length c2, .slice A3 L3.length c3] w fun e w' => e = .returned (.bool true) ∧ Below w.heap.size w w' := by
  have hmx1 : (L1.length : Int) ≤ 9223372036854775807 := by unfold maxLen at hm1; omega
  have hmx2 : (L2.length : Int) ≤ 9223372036854775807 := by unfold maxLen at hm2; omega
  have hmx3 : (L3.length : Int) ≤ 9223372036854775807 := by unfold maxLen at hm3; omega
  by_cases hl1 : L1.length ≤ 100
  · by_cases hl2 : L2.length ≤ 100
    · by_cases hl3 : L3.length ≤ 100
      · obtain ⟨M1, hM1, rfl, hI1⟩ := In64.came hrow1 hwf1 hnil1 (by omega)
        obtain ⟨M2, hM2, rfl, hI2⟩ := In64.came hrow2 hwf2 hnil2 (by omega)
        obtain ⟨M3, hM3, rfl, hI3⟩ := In64.came hrow3 hwf3 hnil3 (by omega)
        rw [← hM1, ← hM2, ← hM3]
        exact (statParts_nat A1 c1 M1 A2 c2 M2 A3 c3 M3 w hI1 hI2 hI3 (by omega) (by omega) (by omega)).mono fun _ _ ⟨he, hw⟩ => ⟨he, hw.below (fun _ _ h => h) (Nat.le_refl _)⟩
      · have h1 : (L1.length : Int) ≤ 100 := by omega
        have h2 : (L2.length : Int) ≤ 100 := by omega
        have h3 : (100 : Int) < (L3.length : Int) := by omega
        clear hrow1 hwf1 hrow2 hwf2 hrow3 hwf3 hl1 hl2 hl3
        go_enter Try.func4, Try.ntmps4
        go_wp2
        go_ret
        exact ⟨rfl, Below.refl _ _⟩
    · have h1 : (L1.length : Int) ≤ 100 := by omega
      have h2 : (100 : Int) < (L2.length : Int) := by omega
      clear hrow1 hwf1 hrow2 hwf2 hrow3 hwf3 hl1 hl2
      go_enter Try.func4, Try.ntmps4
      go_wp2
      go_ret
      exact ⟨rfl, Below.refl _ _⟩
  · have h1 : (100 : Int) < (L1.length : Int) := by omega
    clear hrow1 hwf1 hrow2 hwf2 hrow3 hwf3 hl1
    go_enter Try.func4, Try.ntmps4
    go_wp2
    go_ret
    exact ⟨rfl, Below.refl _ _⟩
end Go.Proofs.Ytfpmbkdijechaaa
