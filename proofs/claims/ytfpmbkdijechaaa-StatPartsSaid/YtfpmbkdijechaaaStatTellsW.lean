/-
  The law StatTells: its walk. No conditions beyond the row's own.
-/
import Derived.Test.YtfpmbkdijechaaaStatAwake
import Derived.Test.YtfpmbkdijechaaaHeld
import Derived.Test.YtfpmbkdijechaaaOpen
namespace Go.Proofs.Ytfpmbkdijechaaa
open Go.RowKit Flt
attribute [local go_sem] run_store_float

theorem nat_of_u64 {z : Int} (h : (Lit.int .u64 z).wf = true) : ∃ b : Nat, z = (b : Int) ∧ Fits b := by
  have m1 : IntKind.u64.min = 0 := by decide
  have m2 : IntKind.u64.max = 18446744073709551615 := by decide
  simp only [Lit.wf, m1, m2, Bool.and_eq_true, decide_eq_true_eq] at h
  exact ⟨z.toNat, by omega, by unfold Fits; omega⟩

theorem In64.came {w : World} {A : Option Addr} {c : Nat} {L : List Int} (hrow : Row w w.heap.size A L.length (L.map (.int .u64))) (hwf : ∀ z ∈ L, (Lit.int .u64 z).wf = true) (hnil : A = none → c = 0) (hl : L.length ≤ 100000) :
    ∃ M : List Nat, M.length = L.length ∧ L = M.map (fun x : Nat => (x : Int)) ∧ In64 w A c M := by
  refine ⟨L.map Int.toNat, by simp, ?_, ?_⟩
  · rw [List.map_map]
    symm
    conv => rhs; rw [← List.map_id L]
    refine List.map_congr_left fun z hz => ?_
    obtain ⟨b, rfl, _⟩ := nat_of_u64 (hwf z hz)
    simp
  · refine ⟨?_, hnil, by simpa using hl, ?_⟩
    · have e : (L.map Int.toNat).map (fun x : Nat => Value.int .u64 x) = L.map (.int .u64) := by
        rw [List.map_map]
        refine List.map_congr_left fun z hz => ?_
        obtain ⟨b, rfl, _⟩ := nat_of_u64 (hwf z hz)
        simp
      rw [e, List.length_map]
      exact hrow
    · intro x hx
      obtain ⟨z, hz, rfl⟩ := List.mem_map.1 hx
      obtain ⟨b, rfl, hb⟩ := nat_of_u64 (hwf z hz)
      simpa using hb

section
variable {w : World} {g : Nat}
theorem load_ref {s : St} (h : Blk w g 34 s.rcells) : (loadVar 34 ⟨g, 0, none⟩).run Try.prog w = .ok (.agg s.rcells) w :=
  run_loadVar_row w g _ _ _ (0, 0) _ h Try.underlying34 rfl info34
theorem load_st {s : St} (h : Blk w g 27 s.cells) : (loadVar 27 ⟨g, 0, none⟩).run Try.prog w = .ok (.agg s.cells) w := load_stat h
end

set_option maxRecDepth 100000 in
set_option maxHeartbeats 1600000 in
theorem statTells_nat (A : Option Addr) (c : Nat) (M : List Nat) (b : Nat) (hb : Fits b) (w : World) (hI : In64 w A c M) :
    Calls Try.prog 5 #[.slice A M.length c, .int .u64 b] w fun e w' => e = .returned (.bool true) ∧ Keeps (fun _ => False) w w' := by
  have hle := hI.le
  by_cases hlen : (200 : Int) < (M.length : Int)
  · go_enter Try.func5, Try.ntmps5
    go_wp2
    go_ret
    exact ⟨rfl, Keeps.refl _ _⟩
  · have hl : M.length ≤ 1000 := by omega
    have hok := ofSt_ok hI.fits
    have hN : (M.length : Int) ≤ 1000000 := by omega
    obtain ⟨m, hm⟩ : ∃ m, mayOf (ofSt M) b = m := ⟨_, rfl⟩
    have M1 := fun w : World => may_any (ofSt M) b hok.mn hok.mx hb w
    have M2 := fun w : World => refMay_any (ofSt M) b hok.mn hok.mx hb w
    rw [hm] at M1 M2
    have HM1 := Lib.hid M1
    have HM2 := Lib.hid M2
    have HOK := Lib.hid hok
    clear M1 M2 hm hok
    go_enter Try.func5, Try.ntmps5
    go_upto_region 3 with fail
    go_cut [5, 6] from 5 to 14 (fun p1 p2 wx => ∃ g1 g2, p1 = .pointer (some ⟨g1, 0, none⟩) ∧ p2 = .pointer (some ⟨g2, 0, none⟩) ∧ Blk wx g1 27 (ofSt M).cells ∧ Blk wx g2 34 (ofSt M).rcells ∧ Keeps (fun _ => False) w wx)
    case first =>
      go_wp2_with fail
      refine (reals_any A c M _ hI).mono ?_
      rintro e w1 ⟨v, rfl, hown, hk1⟩
      obtain ⟨A1, c1, rfl, hF⟩ := InF.of_own hown hI.le hI.fits
      have HF := Lib.hid hF
      clear hown hF
      go_wp2_with fail
      refine (of_any A1 c1 M _ HF.out hl).mono ?_
      rintro e w2 ⟨rfl, hk2⟩
      go_wp2_with fail
      refine (refOf_any A c M _ (hI.keep (hk1.trans hk2)) hl).mono ?_
      rintro e w3 ⟨rfl, hk3⟩
      have HB1 := Lib.hid (show Blk ((w3.alloc (.cells zeroSt.cells 27)).alloc (.cells zeroSt.rcells 34)) w3.heap.size 27 zeroSt.cells from (Blk.new w3 _ _).alloc _)
      have hb2 := Blk.new (w3.alloc (.cells zeroSt.cells 27)) 34 zeroSt.rcells
      rw [World.size_alloc] at hb2
      have HB2 := Lib.hid (hb2.setRow_far (cs := (ofSt M).cells) (g' := w3.heap.size) (by omega))
      clear hb2
      go_wp2_with (first
        | (refine wpList_store_row rfl 27 (.tmp 5) (.tmp 12) rfl _ _ rfl rfl 27 _ HB1.out info27 rfl (statC_ones _ _ _ _ _ _) ?_)
        | (refine wpList_store_row rfl 34 (.tmp 6) (.tmp 14) rfl _ _ rfl rfl 34 _ HB2.out info34 rfl (statR_ones _ _ _ _ _ _) ?_))
      go_meet
      case rel =>
        refine ⟨_, _, rfl, rfl, (HB1.out.setRow).setRow_far (by omega), HB2.out.setRow, ?_⟩
        have hkk := (hk1.trans hk2).trans hk3
        have hsz := hkk.size
        exact (((hkk.alloc _).alloc _).setRow (.inr hsz) _).setRow (.inr (by omega)) _
    case rest =>
      obtain ⟨g1, g2, rfl, rfl, hb1, hb2, hkx⟩ := hcut
      have hok := HOK.out
      go_upto_region 4 with fail
      refine wp_region_held_drew (S := Keeps (fun _ => False) wc) (by kernel_rfl) (Keeps.refl _ _).drew ?_
      intro hS0
      generalize World.drew _ = v0 at hS0 ⊢
      refine held_take (i := 0) (v := .agg (ofSt M).cells) rfl (by kernel_rfl) (by kernel_rfl) (by kernel_rfl) (some 15) (fun _ _ _ h => h) rfl (yields_load 27 (.tmp 5) rfl _ rfl (by rfl) (fun w' hw' => load_stat (hb1.keep hw' (fun h => h)))) hS0 ?_
      simp only [Act.put, List.setIfInBounds_toArray, List.set_cons_zero, List.set_cons_succ]
      refine held_take (i := 1) (v := .agg (ofSt M).rcells) rfl (by kernel_rfl) (by kernel_rfl) (by kernel_rfl) (some 16) (fun _ _ _ h => h) rfl (yields_load 34 (.tmp 6) rfl _ rfl (by rfl) (fun w' hw' => load_ref (hb2.keep hw' (fun h => h)))) hS0 ?_
      simp only [Act.put, List.setIfInBounds_toArray, List.set_cons_zero, List.set_cons_succ]
      refine held_call (i := 2) (by kernel_rfl) rfl (by rfl) (some 17) rfl 9 #[.agg (ofSt M).cells, .agg (ofSt M).rcells] (by kernel_rfl) (fun v _ => v = .bool true) ((like_any hok hN _).mono fun e w' ⟨he, hk⟩ => ⟨_, he, rfl, (hS0).trans hk⟩) ?_
      rintro v v1 rfl hS1
      simp only [Act.put, List.setIfInBounds_toArray, List.set_cons_zero, List.set_cons_succ]
      refine held_take (i := 3) (v := .bool true) rfl (by kernel_rfl) (by kernel_rfl) (by kernel_rfl) (some 18) (fun _ _ _ h => h) rfl (Or.inl ⟨by rfl, fun _ _ => by rfl⟩) hS1 ?_
      simp only [Act.put, List.setIfInBounds_toArray, List.set_cons_zero, List.set_cons_succ]
      refine held_take (i := 4) (v := .agg (ofSt M).cells) rfl (by kernel_rfl) (by kernel_rfl) (by kernel_rfl) (some 19) (fun _ _ _ h => h) rfl (yields_load 27 (.tmp 5) rfl _ rfl (by rfl) (fun w' hw' => load_stat (hb1.keep hw' (fun h => h)))) hS1 ?_
      simp only [Act.put, List.setIfInBounds_toArray, List.set_cons_zero, List.set_cons_succ]
      refine held_take (i := 5) (v := .int .u64 b) rfl (by kernel_rfl) (by kernel_rfl) (by kernel_rfl) (some 20) (fun _ _ _ h => h) rfl (Or.inl ⟨by rfl, fun _ _ => by rfl⟩) hS1 ?_
      simp only [Act.put, List.setIfInBounds_toArray, List.set_cons_zero, List.set_cons_succ]
      refine held_take (i := 6) (v := .float .f64 b) rfl (by kernel_rfl) (by kernel_rfl) (by kernel_rfl) (some 21) (fun _ _ _ h => h) rfl (Or.inl ⟨by rfl, fun w' _ => by kernel_rfl⟩) hS1 ?_
      simp only [Act.put, List.setIfInBounds_toArray, List.set_cons_zero, List.set_cons_succ]
      refine held_take (i := 8) (v := .agg (ofSt M).rcells) rfl (by kernel_rfl) (by kernel_rfl) (by kernel_rfl) (some 23) (fun _ _ _ h => h) rfl (yields_load 34 (.tmp 6) rfl _ rfl (by rfl) (fun w' hw' => load_ref (hb2.keep hw' (fun h => h)))) hS1 ?_
      simp only [Act.put, List.setIfInBounds_toArray, List.set_cons_zero, List.set_cons_succ]
      refine held_take (i := 9) (v := .int .u64 b) rfl (by kernel_rfl) (by kernel_rfl) (by kernel_rfl) (some 24) (fun _ _ _ h => h) rfl (Or.inl ⟨by rfl, fun _ _ => by rfl⟩) hS1 ?_
      simp only [Act.put, List.setIfInBounds_toArray, List.set_cons_zero, List.set_cons_succ]
      refine held_call (i := 7) (by kernel_rfl) rfl (by rfl) (some 22) rfl 15 #[.agg (ofSt M).cells, .float .f64 b] (by kernel_rfl) (fun v _ => v = .bool m) ((HM1.out _).mono fun e w' ⟨he, hk⟩ => ⟨_, he, rfl, (hS1).trans hk⟩) ?_
      rintro v v2 rfl hS2
      simp only [Act.put, List.setIfInBounds_toArray, List.set_cons_zero, List.set_cons_succ]
      refine held_call (i := 10) (by kernel_rfl) rfl (by rfl) (some 25) rfl 16 #[.agg (ofSt M).rcells, .int .u64 b] (by kernel_rfl) (fun v _ => v = .bool m) ((HM2.out _).mono fun e w' ⟨he, hk⟩ => ⟨_, he, rfl, (hS2).trans hk⟩) ?_
      rintro v v3 rfl hS3
      simp only [Act.put, List.setIfInBounds_toArray, List.set_cons_zero, List.set_cons_succ]
      refine held_take (i := 11) (v := .bool true) rfl (by kernel_rfl) (by kernel_rfl) (by kernel_rfl) (some 26) (fun _ _ _ h => h) rfl (Or.inl ⟨by rfl, fun _ _ => by cases m <;> rfl⟩) hS3 ?_
      simp only [Act.put, List.setIfInBounds_toArray, List.set_cons_zero, List.set_cons_succ]
      refine held_take (i := 12) (v := .bool true) rfl (by kernel_rfl) (by kernel_rfl) (by kernel_rfl) (some 27) (fun _ _ _ h => h) rfl (Or.inl ⟨by rfl, fun _ _ => by rfl⟩) hS3 ?_
      simp only [Act.put, List.setIfInBounds_toArray, List.set_cons_zero, List.set_cons_succ]
      refine held_take (i := 13) (v := .bool true) rfl (by kernel_rfl) (by kernel_rfl) (by kernel_rfl) (some 28) (fun _ _ _ h => h) rfl (Or.inl ⟨by rfl, fun _ _ => by rfl⟩) hS3 ?_
      simp only [Act.put, List.setIfInBounds_toArray, List.set_cons_zero, List.set_cons_succ]
      refine held_call (i := 14) (by kernel_rfl) rfl (by rfl) (some 29) rfl 14 #[] (by kernel_rfl) (fun v _ => v = .bool true) ((awake_any _).mono fun e w' ⟨he, hk⟩ => ⟨_, he, rfl, (hS3).trans hk⟩) ?_
      rintro v v4 rfl hS4
      simp only [Act.put, List.setIfInBounds_toArray, List.set_cons_zero, List.set_cons_succ]
      refine held_take (i := 15) (v := .bool true) rfl (by kernel_rfl) (by kernel_rfl) (by kernel_rfl) (some 30) (fun _ _ _ h => h) rfl (Or.inl ⟨by rfl, fun _ _ => by rfl⟩) hS4 ?_
      simp only [Act.put, List.setIfInBounds_toArray, List.set_cons_zero, List.set_cons_succ]
      refine held_take (i := 16) (v := .bool true) rfl (by kernel_rfl) (by kernel_rfl) (by kernel_rfl) (some 4) (fun _ _ _ h => h) rfl (Or.inl ⟨by rfl, fun _ _ => by rfl⟩) hS4 ?_
      simp only [Act.put, List.setIfInBounds_toArray, List.set_cons_zero, List.set_cons_succ]
      refine wpAnyH_done (by kernel_rfl) ?_ _
      go_wp2
      go_ret
      exact ⟨rfl, hkx.trans hS4⟩

theorem statTells_walk (L : List Int) (A : Option Addr) (c : Nat) (b : Int) (w : World) (hrow : Row w w.heap.size A L.length (L.map (.int .u64))) (hc : L.length ≤ c) (hm : c ≤ maxLen) (hwf : ∀ z ∈ L, (Lit.int .u64 z).wf = true) (hnil : A = none → c = 0) (hbw : (Lit.int .u64 b).wf = true) :
    Calls Try.prog 5 #[.slice A L.length c, .int .u64 b] w fun e w' => e = .returned (.bool true) ∧ Below w.heap.size w w' := by
  obtain ⟨x, rfl, hb⟩ := nat_of_u64 hbw
  by_cases hlen : L.length ≤ 200
  · obtain ⟨M, hM, rfl, hI⟩ := In64.came hrow hwf hnil (by omega)
    rw [← hM]
    exact (statTells_nat A c M x hb w hI).mono fun _ _ ⟨he, hw⟩ => ⟨he, hw.below (fun _ _ h => h) (Nat.le_refl _)⟩
  · have hlen' : (200 : Int) < (L.length : Int) := by omega
    have hmx : (L.length : Int) ≤ 9223372036854775807 := by unfold maxLen at hm; omega
    clear hrow hwf hlen
    go_enter Try.func5, Try.ntmps5
    go_wp2
    go_ret
    exact ⟨rfl, Below.refl _ _⟩
end Go.Proofs.Ytfpmbkdijechaaa
