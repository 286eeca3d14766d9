/-
  The law XorDecodes: its walk. Condition: the table of TrailingZeros64 is in its variable (out of the row's 'laid').
-/
import Derived.Test.YthcoiaigmndohaaDoorXorBitsF
import Derived.Test.YthcoiaigmndohaaDoorXorRefDec
namespace Go.Proofs.YthcoiaigmndohaaDoor
open Go.RowKit BitM

theorem keeps_below {w w' : World} (h : Keeps (fun _ => False) w w') : Below w.heap.size w w' := h.below (fun _ _ h => h) (Nat.le_refl _)

set_option maxRecDepth 100000 in
set_option maxHeartbeats 1600000 in
theorem xorDecodes_nat (A : Option Addr) (c : Nat) (L : List Int) (n : Int) (w : World) (hI : In w A c L) (hL : ∀ z ∈ L, 0 ≤ z ∧ z < 256) (h2 : L.length ≤ 9000) (hT : Tab w) :
    Calls Tryd.prog 3 #[.slice A L.length c, .int .i64 n] w fun e w' => e = .returned (.bool true) ∧ Keeps (fun _ => False) w w' := by
  have hBg : 1 < w.heap.size := World.block_lt_of_cell? w _ (hT 0 (by decide))
  have h2i : (L.length : Int) ≤ 9000 := by omega
  have hok := decM_ok (N := ofBytes L) (T := 8 * L.length) (n := n)
  have hdec := decode_any A c L n w hI hL
  have href := fun w' (hk : Keeps (fun _ => False) w w') => refDec_any A c L n w' (hI.keep (keeps_below hk)) hL
  obtain ⟨r, hr⟩ : ∃ r, decM (ofBytes L) (8 * L.length) n = r := ⟨_, rfl⟩
  rw [hr] at hok hdec
  simp only [hr] at href
  obtain ⟨k, l⟩ := r
  have HT := Lib.hid hT
  have HD := Lib.hid hdec
  have HR := Lib.hid href
  have HOK := Lib.hid (show l.length ≤ 1024 ∧ ∀ x ∈ l, Fits x from hok)
  clear hT hdec href hr hok hI hL
  go_enter Tryd.func3, Tryd.ntmps3
  go_wp2_with fail
  refine HD.out.mono ?_
  rintro e w1 ⟨hk1, u, rfl, hown1⟩
  obtain ⟨A1, c1, rfl, _, _, hF⟩ := InFB.of_own0 (show w1.ownsRow w.heap.size 53 1 u l.length (fls l) from hown1) (by have := HOK.out.1; omega) HOK.out.2
  have HF := Lib.hid hF
  clear hown1 hF
  go_wp2_with fail
  refine (HR.out _ hk1).mono ?_
  rintro e w2 ⟨hk2, u2, rfl, hown2⟩
  obtain ⟨A2, c2, rfl, hI2⟩ := In64.of_own (show w2.ownsRow w1.heap.size 41 1 u2 l.length (u64s l) from hown2) (by have := HOK.out.1; omega) HOK.out.2
  have HI2 := Lib.hid hI2
  have HF2 := Lib.hid ((HF.out.keep (keeps_none hk2) (Nat.le_refl _)).mono hk2.size)
  have HK2 := Lib.hid (hk1.trans hk2)
  clear hown2 hI2 hk1 hk2
  go_wp2_with fail
  refine (bitsF_any A1 c1 l _ HF2.out).mono ?_
  rintro e w3 ⟨u3, rfl, hown3, hk3⟩
  obtain ⟨A3, c3, rfl, hI3⟩ := In64.of_own hown3 (by have := HOK.out.1; omega) HOK.out.2
  have HI3 := Lib.hid hI3
  have HK3 := Lib.hid (HK2.out.trans hk3)
  have HI23 := Lib.hid (HI2.out.keep hk3)
  clear hown3 hI3 hk3
  go_wp2_with fail
  refine (refSame_any A3 A2 c3 c2 l l _ HI3.out HI23.out).mono ?_
  rintro e w4 ⟨rfl, hk4⟩
  have hdec : decide (l = l) = true := decide_eq_true rfl
  rw [hdec]
  have HK4 := Lib.hid (HK3.out.trans hk4)
  clear hk4
  have hkk : ((k : Int) == (k : Int)) = true := by simp
  go_wp2_with fail
  refine (awake_any _ (Nat.lt_of_lt_of_le hBg HK4.out.size) (HT.out.keep HK4.out)).mono ?_
  rintro e w5 ⟨rfl, hka⟩
  go_wp2
  go_ret
  exact ⟨rfl, HK4.out.trans hka⟩

theorem xorDecodes_walk (L : List Int) (A : Option Addr) (c : Nat) (n : Int) (w : World) (hT : Tab w) (hrow : Row w w.heap.size A L.length (L.map (.int .u8))) (hc : L.length ≤ c) (hm : c ≤ maxLen) (hwf : ∀ z ∈ L, (Lit.int .u8 z).wf = true) (hnil : A = none → c = 0) (hn : (Lit.int .i64 n).wf = true) :
    Calls Tryd.prog 3 #[.slice A L.length c, .int .i64 n] w fun e w' => e = .returned (.bool true) ∧ Below w.heap.size w w' := by
  by_cases hlen : L.length ≤ 9000
  · obtain ⟨hI, hb⟩ := In.came hrow hwf hnil (by omega)
    exact (xorDecodes_nat A c L n w hI hb hlen hT).mono fun _ _ ⟨he, hw⟩ => ⟨he, keeps_below hw⟩
  · have hlen' : (9000 : Int) < (L.length : Int) := by omega
    have hmx : (L.length : Int) ≤ 9223372036854775807 := by unfold maxLen at hm; omega
    clear hrow hwf hlen
    go_enter Tryd.func3, Tryd.ntmps3
    go_wp2
    go_ret
    exact ⟨rfl, Below.refl _ _⟩
end Go.Proofs.YthcoiaigmndohaaDoor
