/-
  The law XorEncodes: its walk. Condition: the table of TrailingZeros64 is in its variable (out of the row's 'laid').
-/
import Derived.Test.YthcoiaigmndohaaDoorXorBoundW
import Derived.Test.YthcoiaigmndohaaDoorXorRefEnc
namespace Go.Proofs.YthcoiaigmndohaaDoor
open Go.RowKit BitM

/-- May a block have so many numbers? -/
def blockZ (n : Int) : Bool := decide (1 ≤ n) && decide (n ≤ 1024)

theorem refBlock_any (n : Int) (w : World) : Calls Tryd.prog 15 #[.int .i64 n] w fun e w' => e = .returned (.bool (blockZ n)) ∧ w = w' := by
  unfold blockZ
  by_cases h : 1 ≤ n
  · go_enter Tryd.func15, Tryd.ntmps15
    go_wp2
    go_ret
    refine ⟨congrArg (fun b => Ending.returned (.bool b)) ?_, rfl⟩
    rw [decide_eq_true h]
    try rw [Bool.eq_iff_iff]
    try simp
  · have hi : ¬ (1 : Int) ≤ n := h
    go_enter Tryd.func15, Tryd.ntmps15
    go_wp2
    go_ret
    refine ⟨congrArg (fun b => Ending.returned (.bool b)) ?_, rfl⟩
    rw [decide_eq_false (show ¬ 1 ≤ n by omega)]
    first | rfl | simp

theorem blockZ_nat (n : Nat) : blockZ (n : Int) = blockOk n := by
  unfold blockZ blockOk
  rw [Bool.eq_iff_iff]
  simp only [Bool.and_eq_true, decide_eq_true_eq]
  omega

theorem InFB.of_own0 {w : World} {B : Nat} {v : Value} {M : List Nat} (h : w.ownsRow B 53 1 v M.length (fls M)) (hl : M.length ≤ 100000) (hf : ∀ x ∈ M, Fits x) : ∃ A c, v = .slice A M.length c ∧ M.length ≤ c ∧ c ≤ maxLen ∧ InFB w.heap.size w A c M := by
  rcases h.2 with ⟨rfl, hx⟩ | ⟨g, cap, cur, rfl, hb, hg, hge, hcm, r⟩
  · have hL : M = [] := by simpa using hx
    subst hL
    exact ⟨none, 0, rfl, Nat.le_refl _, by unfold maxLen; omega, ⟨⟨rfl, fun hn => by simp at hn⟩, hl, hf⟩⟩
  · exact ⟨_, _, rfl, hge, hcm, ⟨Row.of_own h, hl, hf⟩⟩

theorem InFB.mono {B B' : Nat} {w : World} {A : Option Addr} {c : Nat} {M : List Nat} (h : InFB B w A c M) (hB : B ≤ B') : InFB B' w A c M := ⟨h.row.mono hB, h.le, h.fits⟩

set_option maxRecDepth 100000 in
set_option maxHeartbeats 1600000 in
theorem xorEncodes_nat (A : Option Addr) (c : Nat) (M : List Nat) (w : World) (hI : In64 w A c M) (h2 : M.length ≤ 1100) (hT : Tab w) :
    Calls Tryd.prog 5 #[.slice A M.length c] w fun e w' => e = .returned (.bool true) ∧ Keeps (fun _ => False) w w' := by
  have hBg : 1 < w.heap.size := World.block_lt_of_cell? w _ (hT 0 (by decide))
  have h2i : (M.length : Int) ≤ 1100 := by omega
  have HT := Lib.hid hT
  have HI := Lib.hid hI
  clear hT hI
  go_enter Tryd.func5, Tryd.ntmps5
  go_wp2_with fail
  refine (reals_any A c M _ HI.out).mono ?_
  rintro e w1 ⟨u, rfl, hown1, hk1⟩
  obtain ⟨A2, c2, rfl, hlc, hcm, hF⟩ := InFB.of_own0 hown1 HI.out.le HI.out.fits
  cases hb : blockOk M.length with
  | false =>
    have henc := encode_none A2 c2 M w1 hb h2
    have HE := Lib.hid henc
    have hsz := size_any A2 c2 M w1 hF h2 hlc hcm (Nat.lt_of_lt_of_le hBg hk1.size) (HT.out.keep hk1)
    have hs0 : sizeOf M = 0 := by unfold sizeOf; rw [hb]; rfl
    rw [hs0] at hsz
    have HZ := Lib.hid hsz
    have hbz : blockZ (M.length : Int) = false := by rw [blockZ_nat]; exact hb
    have HBZ := Lib.hid hbz
    clear henc hsz hs0 hbz hb hF hown1 hlc hcm
    go_wp2_with fail
    refine HE.out.mono ?_
    rintro e w2 ⟨rfl, rfl⟩
    go_wp2_with fail
    refine (refBlock_any _ _).mono ?_
    rw [HBZ.out]
    rintro e w2 ⟨rfl, rfl⟩
    go_wp2_with fail
    refine HZ.out.mono ?_
    rintro e w2 ⟨rfl, hk2⟩
    have HK2 := Lib.hid (hk1.trans hk2)
    clear hk1 hk2
    go_wp2_with fail
    refine (awake_any _ (Nat.lt_of_lt_of_le hBg HK2.out.size) (HT.out.keep HK2.out)).mono ?_
    rintro e w3 ⟨rfl, hka⟩
    go_wp2
    go_ret
    exact ⟨rfl, HK2.out.trans hka⟩
  | true =>
    have h1 : 1 ≤ M.length := by
      unfold blockOk at hb
      simp only [Bool.and_eq_true, decide_eq_true_eq] at hb
      exact hb.1
    have hB1 := Nat.lt_of_lt_of_le hBg hk1.size
    have hT1 := HT.out.keep hk1
    have henc := encode_any A2 c2 M w1 hb hF h2 hlc hcm hB1 hT1
    have hsz := fun w' (hk : Keeps (fun _ => False) w1 w') => size_any A2 c2 M w' ((hF.keep (hk.mono (fun _ h => h.elim)) (Nat.le_refl _)).mono hk.size) h2 hlc hcm (Nat.lt_of_lt_of_le hB1 hk.size) (hT1.keep hk)
    have hs0 : sizeOf M = ((blockB M).length + 7) / 8 := by unfold sizeOf; rw [hb]; rfl
    rw [hs0] at hsz
    have hlen := blockB_len hF.fits
    obtain ⟨n, hn⟩ : ∃ n, ((blockB M).length + 7) / 8 = n := ⟨_, rfl⟩
    obtain ⟨L, hL⟩ : ∃ L, bytesL (boolsN (blockB M)) n = L := ⟨_, rfl⟩
    have hLn : L.length = n := by rw [← hL, bytesL_len]
    have href := fun w' (hk : Keeps (fun _ => False) w w') => refEnc_any A c M w' (HI.out.keep hk) h1 h2
    rw [hn, hL] at henc href
    rw [hn] at hsz
    subst hLn
    have hL5 : L.length ≤ 100000 := by omega
    have hbz : blockZ (M.length : Int) = true := by rw [blockZ_nat]; exact hb
    have HE := Lib.hid henc
    have HZ := Lib.hid hsz
    have HR := Lib.hid href
    have HBZ := Lib.hid hbz
    clear henc hsz href hbz hb hs0 hlen hn hL hF hown1 hlc hcm
    go_wp2_with fail
    refine HE.out.mono ?_
    rintro e w2 ⟨u, rfl, hown2, hk2⟩
    obtain ⟨A3, c3, rfl, hI3⟩ := In.of_own hown2 hL5
    have HI3 := Lib.hid hI3
    clear hown2 hI3
    go_wp2_with fail
    refine (refBlock_any _ _).mono ?_
    rw [HBZ.out]
    rintro e w2 ⟨rfl, rfl⟩
    go_wp2_with fail
    refine (HR.out _ (hk1.trans hk2)).mono ?_
    rintro e w4 ⟨u, rfl, hown4, hk4⟩
    obtain ⟨A4, c4, rfl, hI4⟩ := In.of_own hown4 hL5
    have hc3 := (HI3.out.keep (hk4.below (fun _ _ h => h) (Nat.le_refl _))).str
    have hc4 := hI4.str
    have heq : ((strOfNums L).toList == (strOfNums L).toList) = true := by simp
    have HK14 := Lib.hid (hk2.trans hk4)
    have HK4 := Lib.hid (hk1.trans (hk2.trans hk4))
    clear hown4 hI4 hk1 hk2 hk4 hB1 hT1
    go_wp2_with fail
    refine (HZ.out _ HK14.out).mono ?_
    rintro e w5 ⟨rfl, hk5⟩
    have HK5 := Lib.hid (HK4.out.trans hk5)
    clear hk5
    go_wp2_with fail
    refine (awake_any _ (Nat.lt_of_lt_of_le hBg HK5.out.size) (HT.out.keep HK5.out)).mono ?_
    rintro e w6 ⟨rfl, hka⟩
    go_wp2
    go_ret
    exact ⟨rfl, HK5.out.trans hka⟩

theorem xorEncodes_walk (L : List Int) (A : Option Addr) (c : Nat) (w : World) (hT : Tab w) (hrow : Row w w.heap.size A L.length (L.map (.int .u64))) (hc : L.length ≤ c) (hm : c ≤ maxLen) (hwf : ∀ z ∈ L, (Lit.int .u64 z).wf = true) (hnil : A = none → c = 0) :
    Calls Tryd.prog 5 #[.slice A L.length c] w fun e w' => e = .returned (.bool true) ∧ Below w.heap.size w w' := by
  by_cases hlen : L.length ≤ 1100
  · obtain ⟨M, hM, rfl, hI⟩ := In64.came hrow hwf hnil (by omega)
    rw [← hM]
    exact (xorEncodes_nat A c M w hI (by omega) hT).mono fun _ _ ⟨he, hw⟩ => ⟨he, hw.below (fun _ _ h => h) (Nat.le_refl _)⟩
  · have hlen' : (1100 : Int) < (L.length : Int) := by omega
    have hmx : (L.length : Int) ≤ 9223372036854775807 := by unfold maxLen at hm; omega
    clear hrow hwf hlen
    go_enter Tryd.func5, Tryd.ntmps5
    go_wp2
    go_ret
    exact ⟨rfl, Below.refl _ _⟩
end Go.Proofs.YthcoiaigmndohaaDoor
