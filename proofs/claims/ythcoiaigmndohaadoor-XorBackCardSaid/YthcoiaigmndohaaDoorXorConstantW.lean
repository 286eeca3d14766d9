/-
  The law XorConstant: its walk. Condition: the table of TrailingZeros64 is in its variable (out of the row's 'laid').
-/
import Derived.Test.YthcoiaigmndohaaDoorXorAwake
import Derived.Test.YthcoiaigmndohaaDoorXorReals
namespace Go.Proofs.YthcoiaigmndohaaDoor
open Go.RowKit BitM

theorem same_rest (x : Nat) (v : Win) : ∀ n : Nat, (restB x v (List.replicate n x)).length = n
  | 0 => rfl
  | n + 1 => by
    have e1 : x ^^^ x = 0 := Nat.xor_self x
    have e2 : nextB 0 v = [false] := rfl
    have e3 : nextW 0 v = v := rfl
    rw [List.replicate_succ]
    simp only [restB, e1, e2, e3, List.length_append, same_rest x v n]
    simp
    omega

theorem same_size (x n : Nat) (h1 : 1 ≤ n) (h2 : n ≤ 1024) : sizeOf (List.replicate n x) = 8 + (n + 6) / 8 := by
  obtain ⟨m, rfl⟩ : ∃ m, n = m + 1 := ⟨n - 1, by omega⟩
  have hb : (blockB (List.replicate (m + 1) x)).length = 64 + m := by
    rw [List.replicate_succ]
    simp only [blockB, List.length_append, bitsL_len, same_rest]
  unfold sizeOf
  rw [hb, List.length_replicate]
  have : blockOk (m + 1) = true := by unfold blockOk; simp; omega
  rw [this, if_pos rfl]
  omega

set_option maxRecDepth 100000 in
set_option maxHeartbeats 1600000 in
theorem xorConstant_nat (x n : Nat) (hx : Fits x) (hn : n < 65536) (w : World) (hT : Tab w) :
    Calls Tryd.prog 6 #[.int .u64 x, .int .u16 n] w fun e w' => e = .returned (.bool true) ∧ Keeps (fun _ => False) w w' := by
  obtain ⟨e0, he0, hz0, hz1, hz2⟩ := info_parts info64
  have hBg : 1 < w.heap.size := World.block_lt_of_cell? w _ (hT 0 (by decide))
  by_cases h1 : n < 1
  · have h1i : (n : Int) < 1 := by omega
    go_enter Tryd.func6, Tryd.ntmps6
    go_wp2
    go_ret
    exact ⟨rfl, Keeps.refl _ _⟩
  by_cases h2 : 1024 < n
  · have h1i : ¬ (n : Int) < 1 := by omega
    have h2i : (1024 : Int) < (n : Int) := by omega
    go_enter Tryd.func6, Tryd.ntmps6
    go_wp2
    go_ret
    exact ⟨rfl, Keeps.refl _ _⟩
  have h1i : (1 : Int) ≤ (n : Int) := by omega
  have h2i : (n : Int) ≤ 1024 := by omega
  have HSZ := Lib.hid (same_size x n (by omega) (by omega))
  have HX := Lib.hid hx
  have HT := Lib.hid hT
  clear hx hT
  go_enter Tryd.func6, Tryd.ntmps6
  go_wp2_with fail
  go_loopw [5, 6] (fun o i wr => ∃ j : Nat, j ≤ n ∧ i = .int .i64 j ∧ wr.ownsRow w.heap.size 41 1 o j (u64s (List.replicate j x)) ∧ Keeps (fun _ => False) w wr) (fun _ i _ => n - (intOf i).toNat)
  case atStart => exact ⟨0, Nat.zero_le _, rfl, World.ownsRow_nil _ _ _ _, Keeps.refl _ _⟩
  case round =>
    obtain ⟨j, hj, rfl, hown, hkr⟩ := hrel
    have HO := Lib.hid hown
    clear hown
    by_cases hlt : j < n
    · have hji : (j : Int) < (n : Int) := by omega
      go_wp2_with (at_builtin; go_loud (refine wpList_append_own_at _ rfl _ _ 27 rfl w.heap.size 41 e0 (.int .u64 0) 1 8 Tryd.underlying27 he0 hz0 hz1 hz2 rfl (by decide) u5 j _ rfl (HO.out.alloc _) ⟨wr.heap.size, 0, none⟩ 1 1 [.int .u64 x] rfl rfl (World.news_of_block (cs := #[.int .u64 x]) (t := 41) (fr := (0, 0)) (heap_alloc_new wr _)) (by simp [Value.oneCell']) (by unfold maxLen; omega) (by omega) (by have := hkr.size; simp; omega) ?_; intro v4 w4 hown4 hgrow4 _ _))
      go_roundw
      case rel =>
        refine ⟨j + 1, by omega, by go_num, ?_, (hkr.alloc _).grown hgrow4 (by intro k hk; right; exact (HO.out.lt k hk).1)⟩
        rw [List.replicate_succ']
        simpa [u64s] using hown4
      case measure => simp [intOf]; omega
    · obtain rfl : j = n := by omega
      have hown' : wr.ownsRow w.heap.size 41 1 u5 (List.replicate j x).length (u64s (List.replicate j x)) := by rw [List.length_replicate]; exact HO.out
      have hfr : ∀ y ∈ List.replicate j x, Fits y := fun y hy => by rw [List.eq_of_mem_replicate hy]; exact HX.out
      obtain ⟨A, c, rfl, hI⟩ := In64.of_own hown' (by simp; omega) hfr
      have hre : ∀ w : World, In64 w A c (List.replicate j x) → Calls Tryd.prog 14 #[.slice A j c] w fun e w' => ∃ v, e = .returned v ∧ w'.ownsRow w.heap.size 53 1 v (List.replicate j x).length (fls (List.replicate j x)) ∧ Keeps (fun _ => False) w w' := by
        intro w h
        have := reals_any A c (List.replicate j x) w h
        rw [List.length_replicate] at this ⊢
        exact this
      have HRE := Lib.hid hre
      have HI := Lib.hid hI
      have HFR := Lib.hid hfr
      clear hown' hfr hI hre HO
      go_wp2_with fail
      refine (HRE.out _ HI.out).mono ?_
      rintro e w1 ⟨u, rfl, hown1, hk1⟩
      obtain ⟨A2, c2, rfl, hlc, hcm, hF⟩ := InFB.of_own hown1 (by rw [List.length_replicate]; omega) (by rw [List.length_replicate]; omega) HFR.out
      have hkw := hkr.trans hk1
      have hsz := size_any A2 c2 (List.replicate j x) w1 hF (by rw [List.length_replicate]; omega) hlc hcm (Nat.lt_of_lt_of_le hBg hkw.size) (HT.out.keep hkw)
      rw [HSZ.out, List.length_replicate] at hsz
      have HZ := Lib.hid hsz
      have HKW := Lib.hid hkw
      have hq : (8 : Int) + ((j : Int) - 1 + 7).tdiv 8 = ((8 + (j + 6) / 8 : Nat) : Int) := by rw [Int.tdiv_eq_ediv_of_nonneg (by omega)]; omega
      have HQ := Lib.hid hq
      clear hown1 hlc hcm hF hsz hkw hk1 hkr hq
      go_wp2_with fail
      refine HZ.out.mono ?_
      rintro e w2 ⟨rfl, hk2⟩
      have HK2 := Lib.hid (HKW.out.trans hk2)
      have HB2 := Lib.hid (Nat.lt_of_lt_of_le hBg HK2.out.size)
      clear hk2
      go_wp2_with fail
      refine (awake_any _ HB2.out (HT.out.keep HK2.out)).mono ?_
      rintro e w3 ⟨rfl, hka⟩
      go_wp2
      go_ret
      exact ⟨rfl, HK2.out.trans hka⟩

theorem xorConstant_walk (a n : Int) (w : World) (hT : Tab w) (ha : (Lit.int .u64 a).wf = true) (hn : (Lit.int .u16 n).wf = true) :
    Calls Tryd.prog 6 #[.int .u64 a, .int .u16 n] w fun e w' => e = .returned (.bool true) ∧ Below w.heap.size w w' := by
  have m1 : IntKind.u64.min = 0 := by decide
  have m2 : IntKind.u64.max = 18446744073709551615 := by decide
  have m3 : IntKind.u16.min = 0 := by decide
  have m4 : IntKind.u16.max = 65535 := by decide
  simp only [Lit.wf, m1, m2, Bool.and_eq_true, decide_eq_true_eq] at ha
  simp only [Lit.wf, m3, m4, Bool.and_eq_true, decide_eq_true_eq] at hn
  obtain ⟨x, rfl⟩ : ∃ x : Nat, a = (x : Int) := ⟨a.toNat, by omega⟩
  obtain ⟨k, rfl⟩ : ∃ k : Nat, n = (k : Int) := ⟨n.toNat, by omega⟩
  exact (xorConstant_nat x k (by unfold Fits; omega) (by omega) w hT).mono fun _ _ ⟨he, hw⟩ => ⟨he, hw.below (fun _ _ h => h) (Nat.le_refl _)⟩
end Go.Proofs.YthcoiaigmndohaaDoor
