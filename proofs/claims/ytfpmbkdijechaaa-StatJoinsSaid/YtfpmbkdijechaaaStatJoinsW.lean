/-
  The law StatJoins: its walk. No conditions beyond the row's own.
-/
import Derived.Test.YtfpmbkdijechaaaStatTellsW
import Derived.Test.YtfpmbkdijechaaaStatPlain
import Derived.Test.YtfpmbkdijechaaaApp64
namespace Go.Proofs.Ytfpmbkdijechaaa
open Go.RowKit Flt
attribute [local go_sem] run_store_float

set_option maxRecDepth 100000 in
set_option maxHeartbeats 3200000 in
theorem statJoins_nat (A : Option Addr) (c : Nat) (M : List Nat) (B : Option Addr) (d : Nat) (K : List Nat) (f : Nat) (hf : Fits f) (w : World) (hI : In64 w A c M) (hJ : In64 w B d K) (hl1 : M.length ≤ 200) (hl2 : K.length ≤ 200) :
    Calls Try.prog 3 #[.slice A M.length c, .slice B K.length d, .int .u64 f] w fun e w' => e = .returned (.bool true) ∧ Keeps (fun _ => False) w w' := by
  obtain ⟨e0, he0, hz0, hz1, hz2⟩ := info_parts info64
  have hle1 : (M.length : Int) ≤ 200 := by omega
  have hle2 : (K.length : Int) ≤ 200 := by omega
  have hf1 : ∀ x ∈ M ++ K, Fits x := fun x hx => by
    rcases List.mem_append.1 hx with h | h
    · exact hI.fits x h
    · exact hJ.fits x h
  have hf2 : ∀ x ∈ M ++ [f], Fits x := fun x hx => by
    rcases List.mem_append.1 hx with h | h
    · exact hI.fits x h
    · simp at h; subst h; exact hf
  have HOK1 := Lib.hid (ofSt_ok hf1)
  have HOK2 := Lib.hid (ofSt_ok hf2)
  have HN1 := Lib.hid (show ((M ++ K).length : Int) ≤ 1000000 by simp; omega)
  have HN2 := Lib.hid (show ((M ++ [f]).length : Int) ≤ 1000000 by simp; omega)
  have J := fun w : World => join_any (ofSt_ok hI.fits) (ofSt_ok hJ.fits) (by omega) w
  rw [← ofSt_append] at J
  have AD := fun w : World => add_any (ofSt_ok hI.fits) (by omega) hf w
  rw [← ofSt_snoc] at AD
  have HJ := Lib.hid J
  have HA := Lib.hid AD
  have HF := Lib.hid hf
  have HF1 := Lib.hid hf1
  have HF2 := Lib.hid hf2
  clear J AD hf hf1 hf2
  go_enter Try.func3, Try.ntmps3
  go_upto_region 3 with fail
  go_cut [7, 8] from 7 to 24 (fun p1 p2 wx => ∃ g1 g2, p1 = .pointer (some ⟨g1, 0, none⟩) ∧ p2 = .pointer (some ⟨g2, 0, none⟩) ∧ Blk wx g1 27 (ofSt M).cells ∧ Blk wx g2 27 (ofSt K).cells ∧ Keeps (fun _ => False) w wx)
  case first =>
    go_wp2_with fail
    refine (reals_any A c M _ hI).mono ?_
    rintro e w1 ⟨v, rfl, hown, hk1⟩
    obtain ⟨A1, c1, rfl, hF⟩ := InF.of_own hown hI.le hI.fits
    have HFF := Lib.hid hF
    clear hown hF
    go_wp2_with fail
    refine (of_any A1 c1 M _ HFF.out (by omega)).mono ?_
    rintro e w2 ⟨rfl, hk2⟩
    go_wp2_with fail
    refine (reals_any B d K _ (hJ.keep (hk1.trans hk2))).mono ?_
    rintro e w3 ⟨v, rfl, hown, hk3⟩
    obtain ⟨A2, c2, rfl, hF⟩ := InF.of_own hown hJ.le hJ.fits
    have HFG := Lib.hid hF
    clear hown hF
    go_wp2_with fail
    refine (of_any A2 c2 K _ HFG.out (by omega)).mono ?_
    rintro e w4 ⟨rfl, hk4⟩
    have HB1 := Lib.hid (show Blk ((w4.alloc (.cells zeroSt.cells 27)).alloc (.cells zeroSt.cells 27)) w4.heap.size 27 zeroSt.cells from (Blk.new w4 _ _).alloc _)
    have hb2 := Blk.new (w4.alloc (.cells zeroSt.cells 27)) 27 zeroSt.cells
    rw [World.size_alloc] at hb2
    have HB2 := Lib.hid (hb2.setRow_far (cs := (ofSt M).cells) (g' := w4.heap.size) (by omega))
    clear hb2
    go_wp2_with (first
      | (refine wpList_store_row rfl 27 (.tmp 7) (.tmp 21) rfl _ _ rfl rfl 27 _ HB1.out info27 rfl (statC_ones _ _ _ _ _ _) ?_)
      | (refine wpList_store_row rfl 27 (.tmp 8) (.tmp 24) rfl _ _ rfl rfl 27 _ HB2.out info27 rfl (statC_ones _ _ _ _ _ _) ?_))
    go_meet
    case rel =>
      refine ⟨_, _, rfl, rfl, (HB1.out.setRow).setRow_far (by omega), HB2.out.setRow, ?_⟩
      have hkk := ((hk1.trans hk2).trans hk3).trans hk4
      have hsz := hkk.size
      exact (((hkk.alloc _).alloc _).setRow (.inr hsz) _).setRow (.inr (by omega)) _
  case rest =>
    obtain ⟨g1, g2, rfl, rfl, hb1, hb2, hkx⟩ := hcut
    have HIc := Lib.hid (hI.keep hkx)
    have HJc := Lib.hid (hJ.keep hkx)
    go_upto_region 6 with (first
      | (at_builtin; refine wpList_append_in rfl (.tmp 25) (.tmp 26) rfl wc.heap.size (.slice (some ⟨wc.heap.size, 0, none⟩) 0 0) 0 [] rfl (World.ownsRow_lit wc #[] 0 (Nat.le_refl _) (Nat.zero_le _) rfl) A c M rfl (hI.keep (hkx.alloc _)) (by omega) (by simp) ?_; intro v1 w1 hown1 hgrow1; have hk1 := ((Keeps.refl (fun _ => False) wc).alloc (.cells #[] 23)).grown hgrow1 (by intro k hk; right; simp [Value.ownBlock] at hk; omega); have HO1 := Lib.hid hown1; clear hown1)
      | (at_builtin; refine wpList_append_in rfl (.tmp 27) (.tmp 28) rfl wc.heap.size v1 (0 + M.length) ([] ++ u64s M) rfl HO1.out B d K rfl (hJ.keep (hkx.trans hk1)) (by omega) hk1.size ?_; intro v2 w2 hown2 hgrow2; have hk2 := hk1.grown hgrow2 (by intro k hk; right; exact (HO1.out.lt k hk).1); have hown2' : w2.ownsRow wc.heap.size 23 1 v2 (M ++ K).length (u64s (M ++ K)) := (by simpa [u64s] using hown2); obtain ⟨A9, c9, rfl, hI9⟩ := In64.of_own hown2' (by simp; omega) HF1.out; have HI9 := Lib.hid hI9; clear hown2 hown2' hI9)
      | (at_builtin; refine wpList_append_in rfl (.tmp 30) (.tmp 31) rfl w2.heap.size (.slice (some ⟨w2.heap.size, 0, none⟩) 0 0) 0 [] rfl (World.ownsRow_lit w2 #[] 0 (Nat.le_refl _) (Nat.zero_le _) rfl) A c M rfl (hI.keep ((hkx.trans hk2).alloc _)) (by omega) (by simp) ?_; intro v3 w3 hown3 hgrow3; have hk23 := ((Keeps.refl (fun _ => False) w2).alloc (.cells #[] 23)).grown hgrow3 (by intro k hk; right; simp [Value.ownBlock] at hk; omega); have HO3 := Lib.hid hown3; clear hown3)
      | (at_builtin; go_loud (refine wpList_append_own_at _ rfl (.tmp 32) (.tmp 34) 22 rfl w2.heap.size 23 e0 (.int .u64 0) 1 8 Try.underlying22 he0 hz0 hz1 hz2 rfl (by decide) v3 (0 + M.length) ([] ++ u64s M) rfl (HO3.out.alloc _) ⟨w3.heap.size, 0, none⟩ 1 1 [.int .u64 f] rfl rfl (World.news_of_block (cs := #[.int .u64 f]) (t := 23) (fr := (0, 0)) (heap_alloc_new w3 _)) (by simp [Value.oneCell']) (by unfold maxLen; omega) (by omega) (by have := hk23.size; simp; omega) ?_; intro v4 w4 hown4 hgrow4 _ _; have hk24 := (hk23.alloc (.cells #[.int .u64 f] 23)).grown hgrow4 (by intro k hk; right; exact (HO3.out.lt k hk).1); have hown4' : w4.ownsRow w2.heap.size 23 1 v4 (M ++ [f]).length (u64s (M ++ [f])) := (by simpa [u64s] using hown4); obtain ⟨A10, c10, rfl, hI10'⟩ := In64.of_own hown4' (by simp; omega) HF2.out; have HI10 := Lib.hid hI10'; clear hown4 hown4' hI10')))
    have hI9 := HI9.out.keep hk24
    have hI10 := HI10.out
    have hc1 := hb1.keep (hk2.trans hk24) (fun h => h)
    have hc2 := hb2.keep (hk2.trans hk24) (fun h => h)
    have hkw := (hkx.trans hk2).trans hk24
    have HR1 := Lib.hid (show ∀ w : World, In64 w A9 c9 (M ++ K) → Calls Try.prog 11 #[.slice A9 (M.length + K.length) c9] w fun e w' => e = .returned (.agg (ofSt (M ++ K)).rcells) ∧ Keeps (fun _ => False) w w' from fun w h => by
      have h0 := refOf_any A9 c9 (M ++ K) w h (by simp; omega)
      rw [List.length_append] at h0
      exact h0)
    have HR2 := Lib.hid (show ∀ w : World, In64 w A10 c10 (M ++ [f]) → Calls Try.prog 11 #[.slice A10 (M.length + 1) c10] w fun e w' => e = .returned (.agg (ofSt (M ++ [f])).rcells) ∧ Keeps (fun _ => False) w w' from fun w h => by
      have h0 := refOf_any A10 c10 (M ++ [f]) w h (by simp; omega)
      rw [List.length_append] at h0
      exact h0)
    refine wp_region_held_drew (S := Keeps (fun _ => False) w4) (by kernel_rfl) (Keeps.refl _ _).drew ?_
    intro hS0
    generalize World.drew _ = v0 at hS0 ⊢
    refine held_take (i := 0) (v := .agg (ofSt M).cells) rfl (by kernel_rfl) (by kernel_rfl) (by kernel_rfl) (some 36) (fun _ _ _ h => h) rfl (yields_load 27 (.tmp 7) rfl _ rfl (by rfl) (fun w' hw' => load_st (hc1.keep hw' (fun h => h)))) hS0 ?_
    simp only [Act.put, List.setIfInBounds_toArray, List.set_cons_zero, List.set_cons_succ]
    refine held_take (i := 1) (v := .agg (ofSt K).cells) rfl (by kernel_rfl) (by kernel_rfl) (by kernel_rfl) (some 37) (fun _ _ _ h => h) rfl (yields_load 27 (.tmp 8) rfl _ rfl (by rfl) (fun w' hw' => load_st (hc2.keep hw' (fun h => h)))) hS0 ?_
    simp only [Act.put, List.setIfInBounds_toArray, List.set_cons_zero, List.set_cons_succ]
    refine held_take (i := 3) (v := .slice A9 (M.length + K.length) c9) rfl (by kernel_rfl) (by kernel_rfl) (by kernel_rfl) (some 39) (fun _ _ _ h => h) rfl (Or.inl ⟨by rfl, fun _ _ => by rfl⟩) hS0 ?_
    simp only [Act.put, List.setIfInBounds_toArray, List.set_cons_zero, List.set_cons_succ]
    refine held_call (i := 2) (by kernel_rfl) rfl (by rfl) (some 38) rfl 10 #[.agg (ofSt M).cells, .agg (ofSt K).cells] (by kernel_rfl) (fun v _ => v = .agg (ofSt (M ++ K)).cells) ((HJ.out _).mono fun e w' ⟨he, hk⟩ => ⟨_, he, rfl, (hS0).trans hk⟩) ?_
    rintro v v1 rfl hS1
    simp only [Act.put, List.setIfInBounds_toArray, List.set_cons_zero, List.set_cons_succ]
    refine held_call (i := 4) (by kernel_rfl) rfl (by rfl) (some 40) rfl 11 #[.slice A9 (M.length + K.length) c9] (by kernel_rfl) (fun v _ => v = .agg (ofSt (M ++ K)).rcells) ((HR1.out _ (hI9.keep hS1)).mono fun e w' ⟨he, hk⟩ => ⟨_, he, rfl, (hS1).trans hk⟩) ?_
    rintro v v2 rfl hS2
    simp only [Act.put, List.setIfInBounds_toArray, List.set_cons_zero, List.set_cons_succ]
    refine held_call (i := 5) (by kernel_rfl) rfl (by rfl) (some 41) rfl 9 #[.agg (ofSt (M ++ K)).cells, .agg (ofSt (M ++ K)).rcells] (by kernel_rfl) (fun v _ => v = .bool true) ((like_any HOK1.out HN1.out _).mono fun e w' ⟨he, hk⟩ => ⟨_, he, rfl, (hS2).trans hk⟩) ?_
    rintro v v3 rfl hS3
    simp only [Act.put, List.setIfInBounds_toArray, List.set_cons_zero, List.set_cons_succ]
    refine held_take (i := 6) (v := .bool true) rfl (by kernel_rfl) (by kernel_rfl) (by kernel_rfl) (some 42) (fun _ _ _ h => h) rfl (Or.inl ⟨by rfl, fun _ _ => by rfl⟩) hS3 ?_
    simp only [Act.put, List.setIfInBounds_toArray, List.set_cons_zero, List.set_cons_succ]
    refine held_take (i := 7) (v := .agg (ofSt M).cells) rfl (by kernel_rfl) (by kernel_rfl) (by kernel_rfl) (some 43) (fun _ _ _ h => h) rfl (yields_load 27 (.tmp 7) rfl _ rfl (by rfl) (fun w' hw' => load_st (hc1.keep hw' (fun h => h)))) hS3 ?_
    simp only [Act.put, List.setIfInBounds_toArray, List.set_cons_zero, List.set_cons_succ]
    refine held_take (i := 8) (v := .int .u64 f) rfl (by kernel_rfl) (by kernel_rfl) (by kernel_rfl) (some 44) (fun _ _ _ h => h) rfl (Or.inl ⟨by rfl, fun _ _ => by rfl⟩) hS3 ?_
    simp only [Act.put, List.setIfInBounds_toArray, List.set_cons_zero, List.set_cons_succ]
    refine held_take (i := 9) (v := .float .f64 f) rfl (by kernel_rfl) (by kernel_rfl) (by kernel_rfl) (some 45) (fun _ _ _ h => h) rfl (Or.inl ⟨by rfl, fun w' _ => by kernel_rfl⟩) hS3 ?_
    simp only [Act.put, List.setIfInBounds_toArray, List.set_cons_zero, List.set_cons_succ]
    refine held_take (i := 11) (v := .slice A10 (M.length + 1) c10) rfl (by kernel_rfl) (by kernel_rfl) (by kernel_rfl) (some 47) (fun _ _ _ h => h) rfl (Or.inl ⟨by rfl, fun _ _ => by rfl⟩) hS3 ?_
    simp only [Act.put, List.setIfInBounds_toArray, List.set_cons_zero, List.set_cons_succ]
    refine held_call (i := 10) (by kernel_rfl) rfl (by rfl) (some 46) rfl 12 #[.agg (ofSt M).cells, .float .f64 f] (by kernel_rfl) (fun v _ => v = .agg (ofSt (M ++ [f])).cells) ((HA.out _).mono fun e w' ⟨he, hk⟩ => ⟨_, he, rfl, (hS3).trans hk⟩) ?_
    rintro v v4 rfl hS4
    simp only [Act.put, List.setIfInBounds_toArray, List.set_cons_zero, List.set_cons_succ]
    refine held_call (i := 12) (by kernel_rfl) rfl (by rfl) (some 48) rfl 11 #[.slice A10 (M.length + 1) c10] (by kernel_rfl) (fun v _ => v = .agg (ofSt (M ++ [f])).rcells) ((HR2.out _ (hI10.keep hS4)).mono fun e w' ⟨he, hk⟩ => ⟨_, he, rfl, (hS4).trans hk⟩) ?_
    rintro v v5 rfl hS5
    simp only [Act.put, List.setIfInBounds_toArray, List.set_cons_zero, List.set_cons_succ]
    refine held_call (i := 13) (by kernel_rfl) rfl (by rfl) (some 49) rfl 9 #[.agg (ofSt (M ++ [f])).cells, .agg (ofSt (M ++ [f])).rcells] (by kernel_rfl) (fun v _ => v = .bool true) ((like_any HOK2.out HN2.out _).mono fun e w' ⟨he, hk⟩ => ⟨_, he, rfl, (hS5).trans hk⟩) ?_
    rintro v v6 rfl hS6
    simp only [Act.put, List.setIfInBounds_toArray, List.set_cons_zero, List.set_cons_succ]
    refine held_take (i := 14) (v := .bool true) rfl (by kernel_rfl) (by kernel_rfl) (by kernel_rfl) (some 50) (fun _ _ _ h => h) rfl (Or.inl ⟨by rfl, fun _ _ => by rfl⟩) hS6 ?_
    simp only [Act.put, List.setIfInBounds_toArray, List.set_cons_zero, List.set_cons_succ]
    refine held_take (i := 15) (v := .bool true) rfl (by kernel_rfl) (by kernel_rfl) (by kernel_rfl) (some 51) (fun _ _ _ h => h) rfl (Or.inl ⟨by rfl, fun _ _ => by rfl⟩) hS6 ?_
    simp only [Act.put, List.setIfInBounds_toArray, List.set_cons_zero, List.set_cons_succ]
    refine held_call (i := 16) (by kernel_rfl) rfl (by rfl) (some 52) rfl 14 #[] (by kernel_rfl) (fun v _ => v = .bool true) ((awake_any _).mono fun e w' ⟨he, hk⟩ => ⟨_, he, rfl, (hS6).trans hk⟩) ?_
    rintro v v7 rfl hS7
    simp only [Act.put, List.setIfInBounds_toArray, List.set_cons_zero, List.set_cons_succ]
    refine held_take (i := 17) (v := .bool true) rfl (by kernel_rfl) (by kernel_rfl) (by kernel_rfl) (some 53) (fun _ _ _ h => h) rfl (Or.inl ⟨by rfl, fun _ _ => by rfl⟩) hS7 ?_
    simp only [Act.put, List.setIfInBounds_toArray, List.set_cons_zero, List.set_cons_succ]
    refine held_take (i := 18) (v := .bool true) rfl (by kernel_rfl) (by kernel_rfl) (by kernel_rfl) (some 6) (fun _ _ _ h => h) rfl (Or.inl ⟨by rfl, fun _ _ => by rfl⟩) hS7 ?_
    simp only [Act.put, List.setIfInBounds_toArray, List.set_cons_zero, List.set_cons_succ]
    refine wpAnyH_done (by kernel_rfl) ?_ _
    go_wp2
    go_ret
    exact ⟨rfl, hkw.trans hS7⟩

theorem statJoins_walk (L : List Int) (A : Option Addr) (c : Nat) (L' : List Int) (A' : Option Addr) (c' : Nat) (b : Int) (w : World) (hrow : Row w w.heap.size A L.length (L.map (.int .u64))) (hc : L.length ≤ c) (hm : c ≤ maxLen) (hwf : ∀ z ∈ L, (Lit.int .u64 z).wf = true) (hnil : A = none → c = 0)
    (hrow' : Row w w.heap.size A' L'.length (L'.map (.int .u64))) (hc' : L'.length ≤ c') (hm' : c' ≤ maxLen) (hwf' : ∀ z ∈ L', (Lit.int .u64 z).wf = true) (hnil' : A' = none → c' = 0) (hbw : (Lit.int .u64 b).wf = true) :
    Calls Try.prog 3 #[.slice A L.length c, .slice A' L'.length c', .int .u64 b] w fun e w' => e = .returned (.bool true) ∧ Below w.heap.size w w' := by
  obtain ⟨x, rfl, hb⟩ := nat_of_u64 hbw
  by_cases hlen : L.length ≤ 200
  · by_cases hlen2 : L'.length ≤ 200
    · obtain ⟨M, hM, rfl, hI⟩ := In64.came hrow hwf hnil (by omega)
      obtain ⟨K, hK, rfl, hJ⟩ := In64.came hrow' hwf' hnil' (by omega)
      rw [← hM, ← hK]
      exact (statJoins_nat A c M A' c' K x hb w hI hJ (by omega) (by omega)).mono fun _ _ ⟨he, hw⟩ => ⟨he, hw.below (fun _ _ h => h) (Nat.le_refl _)⟩
    · have h1 : (L.length : Int) ≤ 200 := by omega
      have h2 : (200 : Int) < (L'.length : Int) := by omega
      have hmx : (L'.length : Int) ≤ 9223372036854775807 := by unfold maxLen at hm'; omega
      clear hrow hwf hlen hrow' hwf' hlen2
      go_enter Try.func3, Try.ntmps3
      go_wp2
      go_ret
      exact ⟨rfl, Below.refl _ _⟩
  · have h1 : (200 : Int) < (L.length : Int) := by omega
    have hmx : (L.length : Int) ≤ 9223372036854775807 := by unfold maxLen at hm; omega
    have hmx' : (L'.length : Int) ≤ 9223372036854775807 := by unfold maxLen at hm'; omega
    clear hrow hwf hlen hrow' hwf'
    go_enter Try.func3, Try.ntmps3
    go_wp2
    go_ret
    exact ⟨rfl, Below.refl _ _⟩
end Go.Proofs.Ytfpmbkdijechaaa
