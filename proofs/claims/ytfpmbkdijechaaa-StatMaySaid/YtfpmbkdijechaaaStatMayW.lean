/-
  The law StatMay: its walk. No conditions beyond the row's own.
-/
import Derived.Test.YtfpmbkdijechaaaStatTellsW
import Derived.Test.YtfpmbkdijechaaaStatPlain
namespace Go.Proofs.Ytfpmbkdijechaaa
open Go.RowKit Flt
attribute [local go_sem] run_store_float

set_option maxRecDepth 100000 in
set_option maxHeartbeats 1600000 in
theorem statMay_nat (A : Option Addr) (c : Nat) (M : List Nat) (w : World) (hI : In64 w A c M) (hl : M.length ≤ 200) :
    Calls Try.prog 6 #[.slice A M.length c] w fun e w' => e = .returned (.bool true) ∧ Keeps (fun _ => False) w w' := by
  have hle := hI.le
  have hok := ofSt_ok hI.fits
  have htold := told_of M
  rw [ofSt_c] at htold
  obtain ⟨hs9, _, hany⟩ := htold
  have hl200 : (M.length : Int) ≤ 200 := by omega
  have HOK := Lib.hid hok
  have HANY := Lib.hid hany
  have HS9 := Lib.hid hs9
  clear hok hany hs9
  go_enter Try.func6, Try.ntmps6
  go_upto_region 3 with fail
  go_cut [3] from 3 to 12 (fun p wx => ∃ g, p = .pointer (some ⟨g, 0, none⟩) ∧ Blk wx g 27 (ofSt M).cells ∧ Keeps (fun _ => False) w wx)
  case first =>
    go_wp2_with fail
    refine (reals_any A c M _ hI).mono ?_
    rintro e w1 ⟨v, rfl, hown, hk1⟩
    obtain ⟨A1, c1, rfl, hF⟩ := InF.of_own hown hI.le hI.fits
    have HF := Lib.hid hF
    clear hown hF
    go_wp2_with fail
    refine (of_any A1 c1 M _ HF.out (by omega)).mono ?_
    rintro e w2 ⟨rfl, hk2⟩
    have HB1 := Lib.hid (Blk.new w2 27 zeroSt.cells)
    go_wp2_with (refine wpList_store_row rfl 27 (.tmp 3) (.tmp 12) rfl _ _ rfl rfl 27 _ HB1.out info27 rfl (statC_ones _ _ _ _ _ _) ?_)
    go_meet
    case rel =>
      have hkk := hk1.trans hk2
      exact ⟨_, rfl, HB1.out.setRow, (hkk.alloc _).setRow (.inr hkk.size) _⟩
  case rest =>
    obtain ⟨g, rfl, hb, hkx⟩ := hcut
    have HB := Lib.hid hb
    clear hb
    go_wp2_with fail
    go_loopw [4, 5] (fun s x wr => ∃ j : Nat, j ≤ 9 ∧ s = .int .i64 (sumK (ofSt M).k j) ∧ x = .int .i64 j ∧ wc = wr) (fun _ x _ => 9 - (intOf x).toNat)
    case atStart => exact ⟨0, Nat.zero_le _, rfl, rfl, rfl⟩
    case round =>
      obtain ⟨j, hj, rfl, rfl, rfl⟩ := hrel
      by_cases hlt : j < 9
      · have hji : (j : Int) < 9 := by omega
        have cj : wc.cell? ⟨g, 1 + j, none⟩ = some (.int .i64 ((ofSt M).k j)) := by
          rw [HB.out.cell]
          exact statC_k _ _ _ _ _ _ hlt
        obtain ⟨q, hq⟩ : ∃ q, sumK (ofSt M).k j = q := ⟨_, rfl⟩
        obtain ⟨r, hr⟩ : ∃ r, (ofSt M).k j = r := ⟨_, rfl⟩
        have hw1 : wrap64 (q + r) = sumK (ofSt M).k (j + 1) := by
          have h1 := sumK_bound HOK.out.k j
          have h2 := HOK.out.k j
          have h3 : (M.length : Int) * j ≤ 200 * 9 := Int.mul_le_mul hl200 (by omega) (by omega) (by omega)
          show wrap64 (q + r) = sumK (ofSt M).k j + (ofSt M).k j
          rw [hq, hr] at *
          unfold wrap64; omega
        rw [hr] at cj
        rw [hq]
        have HW1 := Lib.hid hw1
        clear hw1 hq hr
        go_wp2_with fail
        go_roundw
        case rel => exact ⟨j + 1, by omega, by rw [HW1.out], by go_num, by first | trivial | rfl⟩
        case measure => simp [intOf]; omega
      · obtain rfl : j = 9 := by omega
        rw [HS9.out]
        go_wp2_with fail
        go_loopw [6] (fun x wr => ∃ j : Nat, j ≤ M.length ∧ x = .int .i64 j ∧ Keeps (fun _ => False) wc wr) (fun x _ => M.length - (intOf x).toNat)
        case atStart => exact ⟨0, Nat.zero_le _, rfl, Keeps.refl _ _⟩
        case round =>
          obtain ⟨j, hj, rfl, hkr⟩ := hrel
          have hbr := HB.out.keep hkr (fun h => h)
          by_cases hlt : j < M.length
          · obtain ⟨b, off, hA, hbl, hc, hf⟩ := (hI.keep (hkx.trans hkr)).at_ hlt
            obtain ⟨x, hx⟩ : ∃ x, M[j] = x := ⟨_, rfl⟩
            have hmay := may_of hI.fits (List.getElem_mem hlt)
            rw [hx] at hc hf hmay
            have HCell := Lib.hid (show ∀ wx : World, Keeps (fun _ => False) wc wx → wx.cell? ⟨b, off + j, none⟩ = some (.int .u64 x) from fun wx hk => by
              obtain ⟨b', off', hA', _, hc', _⟩ := (hI.keep (hkx.trans hk)).at_ hlt
              rw [hA] at hA'
              cases hA'
              rw [hx] at hc'
              exact hc')
            have MAY := fun w : World => may_any (ofSt M) x HOK.out.mn HOK.out.mx hf w
            rw [hmay] at MAY
            have HMAY := Lib.hid MAY
            have hji : (j : Int) < (M.length : Int) := by omega
            subst hA
            clear hx hmay MAY hc hf
            go_upto_region 12 with fail
            refine wp_region_held_drew (S := Keeps (fun _ => False) wr) (by kernel_rfl) (Keeps.refl _ _).drew ?_
            intro hS0
            generalize World.drew _ = v0 at hS0 ⊢
            refine held_take (i := 0) (v := .agg (ofSt M).cells) rfl (by kernel_rfl) (by kernel_rfl) (by kernel_rfl) (some 29) (fun _ _ _ h => h) rfl (yields_load 27 (.tmp 3) rfl _ rfl (by rfl) (fun w' hw' => load_st (hbr.keep hw' (fun h => h)))) hS0 ?_
            simp only [Act.put, List.setIfInBounds_toArray, List.set_cons_zero, List.set_cons_succ]
            refine held_take (i := 1) (v := .slice (some ⟨b, off, none⟩) M.length c) rfl (by kernel_rfl) (by kernel_rfl) (by kernel_rfl) (some 30) (fun _ _ _ h => h) rfl (Or.inl ⟨by rfl, fun _ _ => by rfl⟩) hS0 ?_
            simp only [Act.put, List.setIfInBounds_toArray, List.set_cons_zero, List.set_cons_succ]
            refine held_take (i := 2) (v := .int .i64 j) rfl (by kernel_rfl) (by kernel_rfl) (by kernel_rfl) (some 31) (fun _ _ _ h => h) rfl (Or.inl ⟨by rfl, fun _ _ => by rfl⟩) hS0 ?_
            simp only [Act.put, List.setIfInBounds_toArray, List.set_cons_zero, List.set_cons_succ]
            refine held_take (i := 3) (v := .pointer (some ⟨b, off + j, none⟩)) rfl (by kernel_rfl) (by kernel_rfl) (by kernel_rfl) (some 32) (fun _ _ _ h => h) rfl (Or.inl ⟨by rfl, by intro w' _; go_simp⟩) hS0 ?_
            simp only [Act.put, List.setIfInBounds_toArray, List.set_cons_zero, List.set_cons_succ]
            refine held_take (i := 4) (v := .int .u64 x) rfl (by kernel_rfl) (by kernel_rfl) (by kernel_rfl) (some 33) (fun _ _ _ h => h) rfl (Or.inl ⟨by rfl, by intro w' hw'; have hcw := HCell.out w' (hkr.trans hw'); go_simp⟩) hS0 ?_
            simp only [Act.put, List.setIfInBounds_toArray, List.set_cons_zero, List.set_cons_succ]
            refine held_take (i := 5) (v := .float .f64 x) rfl (by kernel_rfl) (by kernel_rfl) (by kernel_rfl) (some 34) (fun _ _ _ h => h) rfl (Or.inl ⟨by rfl, fun w' _ => by kernel_rfl⟩) hS0 ?_
            simp only [Act.put, List.setIfInBounds_toArray, List.set_cons_zero, List.set_cons_succ]
            refine held_call (i := 6) (by kernel_rfl) rfl (by rfl) (some 35) rfl 15 #[.agg (ofSt M).cells, .float .f64 x] (by kernel_rfl) (fun v _ => v = .bool true) ((HMAY.out _).mono fun e w' ⟨he, hk⟩ => ⟨_, he, rfl, (hS0).trans hk⟩) ?_
            rintro v v1 rfl hS1
            simp only [Act.put, List.setIfInBounds_toArray, List.set_cons_zero, List.set_cons_succ]
            refine held_take (i := 7) (v := .bool false) rfl (by kernel_rfl) (by kernel_rfl) (by kernel_rfl) (some 36) (fun _ _ _ h => h) rfl (Or.inl ⟨by rfl, fun _ _ => by rfl⟩) hS1 ?_
            simp only [Act.put, List.setIfInBounds_toArray, List.set_cons_zero, List.set_cons_succ]
            refine wpAnyH_done (by kernel_rfl) ?_ _
            go_wp2_with fail
            go_roundw
            case rel => exact ⟨j + 1, by omega, by go_num, hkr.trans hS1⟩
            case measure => simp [intOf]; omega
          · obtain rfl : j = M.length := by omega
            obtain ⟨t, ht⟩ : ∃ t, (ofSt M).an = t := ⟨_, rfl⟩
            have d11 : wr.cell? ⟨g, 11, none⟩ = some (.bool t) := by rw [hbr.cell, ← ht]; rfl
            have d9 : wr.cell? ⟨g, 9, none⟩ = some (.int .i64 ((ofSt M).k 8)) := by rw [hbr.cell]; rfl
            obtain ⟨k8, hk8⟩ : ∃ k8, (ofSt M).k 8 = k8 := ⟨_, rfl⟩
            have hd := HANY.out
            rw [ht, hk8] at hd
            rw [hk8] at d9
            have hd' := hd.symm
            have htt : (t == t) = true := by simp
            clear hbr hd ht hk8 HB
            go_wp2_with fail
            refine (awake_any _).mono ?_
            rintro e w' ⟨rfl, hka⟩
            go_wp2
            go_ret
            exact ⟨rfl, (hkx.trans hkr).trans hka⟩

theorem statMay_walk (L : List Int) (A : Option Addr) (c : Nat) (w : World) (hrow : Row w w.heap.size A L.length (L.map (.int .u64))) (hc : L.length ≤ c) (hm : c ≤ maxLen) (hwf : ∀ z ∈ L, (Lit.int .u64 z).wf = true) (hnil : A = none → c = 0) :
    Calls Try.prog 6 #[.slice A L.length c] w fun e w' => e = .returned (.bool true) ∧ Below w.heap.size w w' := by
  by_cases hlen : L.length ≤ 200
  · obtain ⟨M, hM, rfl, hI⟩ := In64.came hrow hwf hnil (by omega)
    rw [← hM]
    exact (statMay_nat A c M w hI (by omega)).mono fun _ _ ⟨he, hw⟩ => ⟨he, hw.below (fun _ _ h => h) (Nat.le_refl _)⟩
  · have hlen' : (200 : Int) < (L.length : Int) := by omega
    have hmx : (L.length : Int) ≤ 9223372036854775807 := by unfold maxLen at hm; omega
    clear hrow hwf hlen
    go_enter Try.func6, Try.ntmps6
    go_wp2
    go_ret
    exact ⟨rfl, Below.refl _ _⟩
end Go.Proofs.Ytfpmbkdijechaaa
