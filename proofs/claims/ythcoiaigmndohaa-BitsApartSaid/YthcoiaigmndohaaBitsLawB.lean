/-
  The laws BitsApart, BitsBack: their walks.
-/
import Derived.Test.YthcoiaigmndohaaBitsPlain2
import Derived.Deep.RegionWith
namespace Go.Proofs.Ythcoiaigmndohaa
open Go.RowKit BitM

theorem toList_data (a : ByteArray) : a.toList = a.data.toList := ByteArray.toList_eq a
theorem str_beq_false {a b : ByteArray} (h : ¬ a = b) : (a.toList == b.toList) = false := by
  rw [beq_eq_false_iff_ne]
  intro e
  rw [toList_data, toList_data] at e
  apply h
  cases a
  cases b
  congr 1
  exact Array.toList_inj.mp e

set_option maxRecDepth 100000 in
set_option maxHeartbeats 3200000 in
theorem bitsApart_walk (L : List Int) (A : Option Addr) (c : Nat) (L' : List Int) (A' : Option Addr) (c' : Nat) (k : Int) (w : World) (hrow : Row w w.heap.size A L.length (L.map (.int .u64))) (hc : L.length ≤ c) (hm : c ≤ maxLen) (hwf : ∀ z ∈ L, (Lit.int .u64 z).wf = true) (hnil : A = none → c = 0)
    (hrow' : Row w w.heap.size A' L'.length (L'.map (.int .u64))) (hc' : L'.length ≤ c') (hm' : c' ≤ maxLen) (hwf' : ∀ z ∈ L', (Lit.int .u64 z).wf = true) (hnil' : A' = none → c' = 0) (_hk : (Lit.int .i64 k).wf = true) :
    Calls Try.prog 3 #[.slice A L.length c, .slice A' L'.length c', .int .i64 k] w fun e w' => e = .returned (.bool true) ∧ Below w.heap.size w w' := by
  have hlm : L.length ≤ maxLen := Nat.le_trans hc hm
  have hlm' : L'.length ≤ maxLen := Nat.le_trans hc' hm'
  unfold maxLen at hlm hlm'
  by_cases hl : 200 < L.length
  · clear hrow hwf hnil hm hrow' hwf' hnil' hm'
    go_enter Try.func3, Try.ntmps3
    go_wp2
    go_ret
    exact ⟨rfl, Below.refl _ _⟩
  · by_cases hle : L'.length = L.length
    · obtain ⟨M, hml, hLM, hI⟩ := In64.came hrow hwf hnil (by omega)
      obtain ⟨M', hml', hLM', hI'⟩ := In64.came hrow' hwf' hnil' (by omega)
      rw [← hml, ← hml'] at hle
      rw [← hml] at hl ⊢
      rw [← hml']
      have hpl := packL_le (k := k) hI.le
      have hpl' := packL_le (k := k) hI'.le
      have HLE := Lib.hid hle
      have hne : ((M'.length : Int) != (M.length : Int)) = false := by simp [hle]
      clear hrow hc hm hwf hnil hml hLM hrow' hc' hm' hwf' hnil' hml' hLM' hlm hlm' hle
      go_enter Try.func3, Try.ntmps3
      go_wp2_with fail
      refine (pack_any k A c M _ hI).mono ?_
      rintro e w1 ⟨v1, rfl, ho1, hk1⟩
      obtain ⟨A1, c1, rfl, hI1⟩ := In.of_own ho1 hpl
      go_wp2_with fail
      refine (pack_any k A' c' M' _ (hI'.keep hk1)).mono ?_
      rintro e w2 ⟨v2, rfl, ho2, hk2⟩
      obtain ⟨A2, c2, rfl, hI2⟩ := In.of_own ho2 hpl'
      have hI1' := hI1.keep (hk2.below (fun _ _ h => h) (Nat.le_refl _))
      have hk12 := hk1.trans hk2
      have HI := Lib.hid hI
      have HI' := Lib.hid hI'
      clear hI hI' ho1 ho2 hI1
      obtain ⟨x, hx⟩ : ∃ x, packE k M = x := ⟨_, rfl⟩
      obtain ⟨y, hy⟩ : ∃ y, packE k M' = y := ⟨_, rfl⟩
      obtain ⟨P, hP⟩ : ∃ P, packL k M = P := ⟨_, rfl⟩
      obtain ⟨P', hP'⟩ : ∃ P', packL k M' = P' := ⟨_, rfl⟩
      have hxe : x ≠ 0 → P.length = 0 := fun h => by rw [← hP, packL_err hx h]; rfl
      have hye : y ≠ 0 → P'.length = 0 := fun h => by rw [← hP', packL_err hy h]; rfl
      have hap : x = 0 → y = 0 → (strOfNums P = strOfNums P' ↔ M = M') := fun h1 h2 => by
        rw [← hP, ← hP']
        exact pack_apart HLE.out.symm (hx.trans h1) (hy.trans h2)
      rw [hx, hy, hP, hP']
      rw [hP] at hI1' hpl
      rw [hP'] at hI2 hpl'
      have HXE := Lib.hid hxe
      have HYE := Lib.hid hye
      have HAP := Lib.hid hap
      clear hx hy hP hP' hxe hye hap
      by_cases hx0 : x = 0
      · subst hx0
        by_cases hy0 : y = 0
        · subst hy0
          have hs1 : ∀ n, (convert 23 9 (.slice A1 P.length c1)).run Try.prog (w2.drewN n) = .ok (.string (strOfNums P)) (w2.drewN n) := fun n => (hI1'.drewN n).str
          have hs2 : ∀ n, (convert 23 9 (.slice A2 P'.length c2)).run Try.prog (w2.drewN n) = .ok (.string (strOfNums P')) (w2.drewN n) := fun n => (hI2.drewN n).str
          have hs3 : (convert 23 9 (.slice A1 P.length c1)).run Try.prog w2.drew = .ok (.string (strOfNums P)) w2.drew := hs1 1
          have hs4 : (convert 23 9 (.slice A2 P'.length c2)).run Try.prog w2.drew = .ok (.string (strOfNums P')) w2.drew := hs2 1
          have hJ := HI.out.keep hk12
          have hJ' := HI'.out.keep (hk1.trans hk2)
          have hQ : In64 w2.drew A c M := ⟨hJ.row, hJ.cap, hJ.le, hJ.fits⟩
          have hQ' : In64 w2.drew A' c' M' := ⟨hJ'.row, hJ'.cap, hJ'.le, hJ'.fits⟩
          by_cases hMM : M = M'
          · have hPP : strOfNums P = strOfNums P' := (HAP.out rfl rfl).mpr hMM
            have hd : decide (M = M') = true := decide_eq_true hMM
            have HD := Lib.hid hd
            rw [hPP] at hs1 hs3
            clear hPP hMM hd
            go_upto_region 7 with fail
            go_region_with (first | (go_at_call 13; go_loud (refine (refSame_drawn A A' c c' M M' _ hQ hQ').mono ?_; rw [HD.out]; rintro e w' ⟨rfl, m, rfl⟩)) | (go_at_call 12; refine (awake_any _).mono ?_; rintro e w' ⟨rfl, hk4⟩))
            all_goals (go_wp2; go_ret; exact ⟨rfl, (hk12.trans (((Keeps.refl _ w2).drewN _).trans hk4)).below (fun _ _ h => h) (Nat.le_refl _)⟩)
          · have hPP : ¬ strOfNums P = strOfNums P' := fun h => hMM ((HAP.out rfl rfl).mp h)
            have hd : decide (M = M') = false := decide_eq_false hMM
            have hds : decide (strOfNums P = strOfNums P') = false := decide_eq_false hPP
            have hdb : ((strOfNums P).toList == (strOfNums P').toList) = false := str_beq_false hPP
            have HD := Lib.hid hd
            clear hMM hd
            go_upto_region 7 with fail
            go_region_with (first | (go_at_call 13; go_loud (refine (refSame_drawn A A' c c' M M' _ hQ hQ').mono ?_; rw [HD.out]; rintro e w' ⟨rfl, m, rfl⟩)) | (go_at_call 12; refine (awake_any _).mono ?_; rintro e w' ⟨rfl, hk4⟩))
            all_goals (go_wp2; go_ret; exact ⟨rfl, (hk12.trans (((Keeps.refl _ w2).drewN _).trans hk4)).below (fun _ _ h => h) (Nat.le_refl _)⟩)
        · have hy1 := HYE.out hy0
          have hyi : ((y : Int) != 0) = true := by simp; omega
          have hyj : ((y : Int) == 0) = false := by simp; omega
          rw [hy1]
          go_wp2_with fail
          refine (awake_any _).mono ?_
          rintro e w4 ⟨rfl, hk4⟩
          go_wp2
          go_ret
          exact ⟨rfl, (hk12.trans hk4).below (fun _ _ h => h) (Nat.le_refl _)⟩
      · have hx1 := HXE.out hx0
        have hxi : ((x : Int) != 0) = true := by simp; omega
        have hxj : ((x : Int) == 0) = false := by simp; omega
        rw [hx1]
        by_cases hy0 : y = 0
        · subst hy0
          go_wp2_with fail
          refine (awake_any _).mono ?_
          rintro e w4 ⟨rfl, hk4⟩
          go_wp2
          go_ret
          exact ⟨rfl, (hk12.trans hk4).below (fun _ _ h => h) (Nat.le_refl _)⟩
        · have hy1 := HYE.out hy0
          have hyi : ((y : Int) != 0) = true := by simp; omega
          have hyj : ((y : Int) == 0) = false := by simp; omega
          rw [hy1]
          go_wp2_with fail
          refine (awake_any _).mono ?_
          rintro e w4 ⟨rfl, hk4⟩
          go_wp2
          go_ret
          exact ⟨rfl, (hk12.trans hk4).below (fun _ _ h => h) (Nat.le_refl _)⟩
    · have hne : ((L'.length : Int) != (L.length : Int)) = true := by simp; omega
      clear hrow hwf hnil hm hrow' hwf' hnil' hm'
      go_enter Try.func3, Try.ntmps3
      go_wp2
      go_ret
      exact ⟨rfl, Below.refl _ _⟩
end Go.Proofs.Ythcoiaigmndohaa
