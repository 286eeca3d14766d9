/-
  The contracts of the reference for bits: Pack, Unpack.
-/
import Derived.Test.YthcoiaigmndohaaBitsRef
namespace Go.Proofs.Ythcoiaigmndohaa
open Go.RowKit BitM

theorem bool_one (l : List Bool) : ∀ u ∈ l.map Value.bool, u.oneCell' = true := by
  intro u hu
  rw [List.mem_map] at hu
  obtain ⟨_, _, rfl⟩ := hu
  rfl

/-- Bits are put behind: the row of both. -/
theorem bool_snoc {w : World} {B n m : Nat} {v : Value} {l : List Bool} (h : w.ownsRow B 4 1 v n (l.map Value.bool)) (hn : n = m) : w.ownsRow B 4 1 v m (l.map Value.bool) := hn ▸ h

set_option maxRecDepth 100000 in
set_option maxHeartbeats 3200000 in
theorem refPack_any (k : Int) (A : Option Addr) (c : Nat) (M : List Nat) (w : World) (hI : In64 w A c M) :
    Calls Try.prog 22 #[.int .i64 k, .slice A M.length c] w (Packed w k M) := by
  obtain ⟨e0, he0, hz0, hz1, hz2⟩ := info_parts info4
  cases hw : wideB k with
  | false =>
    have he : packE k M = 6 := by unfold packE; rw [if_pos hw]
    have HW := Lib.hid hw
    have HE := Lib.hid he
    clear hw he
    go_enter Try.func22, Try.ntmps22
    go_wp2_with fail
    refine (refWide_any k _).mono ?_
    rw [HW.out]
    rintro e w' ⟨rfl, rfl⟩
    go_wp2
    go_ret2
    exact Packed.err HE.out (by decide) (Keeps.refl _ _)
  | true =>
    by_cases hl : 1024 < M.length
    · have he : packE k M = 7 := by unfold packE; rw [if_neg (by simp [hw]), if_pos hl]
      have HW := Lib.hid hw
      have HE := Lib.hid he
      clear hw he
      go_enter Try.func22, Try.ntmps22
      go_wp2_with fail
      refine (refWide_any k _).mono ?_
      rw [HW.out]
      rintro e w' ⟨rfl, rfl⟩
      go_wp2
      go_ret2
      exact Packed.err HE.out (by decide) (Keeps.refl _ _)
    · have hk : 0 ≤ k ∧ k ≤ 64 := by simpa [wideB] using hw
      obtain ⟨W, rfl⟩ : ∃ W : Nat, k = (W : Int) := ⟨k.toNat, by omega⟩
      have hW : W ≤ 64 := by omega
      have hml : M.length ≤ 1024 := by omega
      have HW := Lib.hid hw
      have HL := Lib.hid hl
      clear hw hk hl
      go_enter Try.func22, Try.ntmps22
      go_wp2_with fail
      refine (refWide_any W _).mono ?_
      rw [HW.out]
      rintro e w' ⟨rfl, rfl⟩
      go_wp2_with fail
      go_loopw [6, 7] (fun o x wr => ∃ (j : Nat) (al : List Bool), j ≤ M.length ∧ x = .int .i64 j ∧ wr.ownsRow w.heap.size 4 1 o al.length (al.map Value.bool) ∧ al.length = j * W ∧ boolsN al = packN W (M.take j) ∧ (M.take j).all (fun x => fitsB x W) = true ∧ Keeps (fun _ => False) w wr) (fun _ x _ => M.length - (intOf x).toNat)
      case atStart => exact ⟨0, [], Nat.zero_le _, rfl, World.ownsRow_nil _ _ _ _, by simp, by simp [boolsN, packN], by simp, Keeps.refl _ _⟩
      case round =>
        obtain ⟨j, al, hj, rfl, hown, hal, hnum, hall, hkr⟩ := hrel
        have hjW : j * W ≤ 100000 := by
          have : j * W ≤ 1024 * 64 := Nat.mul_le_mul (by omega) hW
          omega
        have HO := Lib.hid hown
        have HA := Lib.hid hal
        have HNM := Lib.hid hnum
        clear hown hal hnum
        by_cases hlt : j < M.length
        · obtain ⟨b, off, rfl, hb, hc, hf⟩ := (hI.keep hkr).at_ hlt
          obtain ⟨x, hx⟩ : ∃ x, M[j] = x := ⟨_, rfl⟩
          have hsnoc : M.take (j + 1) = M.take j ++ [x] := by rw [List.take_succ_eq_append_getElem hlt, hx]
          rw [hx] at hc hf
          have hji : (j : Int) < (M.length : Int) := by omega
          have hm : x ∈ M := by rw [← hx]; exact List.getElem_mem hlt
          have HS := Lib.hid hsnoc
          have HF := Lib.hid hf
          have HM := Lib.hid hm
          clear hx hsnoc hf hm
          go_wp2_with fail
          refine (refFits_any x W HF.out hW _).mono ?_
          by_cases hfx : fitsB x W = true
          · rw [hfx]
            rintro e w1 ⟨rfl, rfl⟩
            have hX : x < 2 ^ W := by simpa [fitsB] using hfx
            have HFX := Lib.hid hfx
            have HX := Lib.hid hX
            clear hfx hX
            go_wp2_with fail
            refine (refBits_any x W HF.out hW _).mono ?_
            rintro e w2 ⟨v, rfl, hv, hk2⟩
            have hkr2 := hkr.trans hk2
            have hown2 := own_keep HO.out hk2 (fun _ _ h => h)
            have HV := Lib.hid hv
            have HO2 := Lib.hid hown2
            clear hv hown2
            have hbl := bitsL_len x W
            have hnum2 : boolsN (al ++ bitsL x W) = packN W (M.take (j + 1)) := by
              rw [boolsN_append, boolsN_bits, HNM.out, HA.out, HS.out, packN_snoc, Nat.mod_eq_of_lt HX.out, List.length_take, Nat.min_eq_left hj]
            have hlen2 : (al ++ bitsL x W).length = (j + 1) * W := by rw [List.length_append, HA.out, hbl, Nat.succ_mul]
            have hall2 : (M.take (j + 1)).all (fun x => fitsB x W) = true := by
              rw [HS.out, List.all_append, hall]
              simp [HFX.out]
            have HN2 := Lib.hid hnum2
            have HL2 := Lib.hid hlen2
            have HAL := Lib.hid HA.out
            clear hnum2 hlen2 hbl
            rcases HV.out.2 with ⟨hv0, h0⟩ | ⟨g, cap, cur, hv0, _⟩
            · subst hv0
              have hb0 : al ++ bitsL x W = al := by rw [h0]; simp [bitsL]
              have HB0 := Lib.hid hb0
              clear hb0 h0
              go_wp2_with (at_builtin; refine wpList_append_own_none rfl _ _ 33 rfl w.heap.size 4 e0 1 Try.underlying33 he0 u6 al.length _ rfl HO2.out rfl ?_)
              go_roundw
              case rel =>
                refine ⟨j + 1, al, by omega, by go_num, HO2.out, ?_, ?_, hall2, hkr2⟩
                · have := HL2.out; rw [HB0.out] at this; exact this
                · have := HN2.out; rw [HB0.out] at this; exact this
              case measure => simp [intOf]; omega
            · subst hv0
              have halW : al.length + W ≤ 200000 := by have := HA.out; omega
              go_wp2_with (at_builtin; refine wpList_append_own_at _ rfl _ _ 33 rfl w.heap.size 4 e0 (.bool false) 1 1 Try.underlying33 he0 hz0 hz1 hz2 rfl (by decide) u6 al.length _ rfl HO2.out ⟨g, 0, none⟩ W cap ((bitsL x W).map Value.bool) rfl (by simp [bitsL_len]) (HV.out.cells rfl) (bool_one _) (by unfold maxLen; omega) (by omega) hkr2.size ?_; intro v3 w3 hown3 hgrow _ _)
              go_roundw
              case rel =>
                refine ⟨j + 1, al ++ bitsL x W, by omega, by go_num, ?_, HL2.out, HN2.out, hall2, hkr2.grown hgrow (by intro k hk; right; exact (HO2.out.lt k hk).1)⟩
                have hl3 : al.length + W = (al ++ bitsL x W).length := by rw [List.length_append, bitsL_len]
                rw [List.map_append, ← hl3]
                exact hown3
              case measure => simp [intOf]; omega
          · have hfx' : fitsB x W = false := by simpa using hfx
            rw [hfx']
            rintro e w1 ⟨rfl, rfl⟩
            have he : packE W M = 4 := by
              unfold packE
              rw [if_neg (by rw [HW.out]; decide), if_neg HL.out, if_pos]
              rw [List.all_eq_false]
              exact ⟨x, HM.out, by simpa using hfx⟩
            have HE := Lib.hid he
            clear he hfx hfx'
            go_wp2_with fail
            go_ret2
            exact Packed.err HE.out (by decide) hkr
        · obtain rfl : j = M.length := by omega
          rw [List.take_of_length_le (Nat.le_refl _)] at hall HNM
          have he : packE W M = 0 := by
            unfold packE
            rw [if_neg (by rw [HW.out]; decide), if_neg HL.out, if_neg (by rw [Int.toNat_natCast, hall]; decide)]
          have HE := Lib.hid he
          clear he hall
          obtain ⟨A2, c2, rfl, hI2⟩ := InB.of_own HO.out (by rw [HA.out]; exact hjW)
          go_wp2_with fail
          refine (refBytes_any _ _ al _ hI2).mono ?_
          rintro e w2 ⟨u, rfl, hown, hk2⟩
          have HU := Lib.hid hown
          clear hown
          go_wp2_with fail
          go_ret2
          have hpl : packL W M = bytesL (packN W M) ((M.length * W + 7) / 8) := by
            unfold packL
            rw [if_pos HE.out, Int.toNat_natCast]
          have hown := HU.out
          rw [HA.out, HNM.out] at hown
          refine ⟨u, by rw [HE.out]; rfl, ?_, hkr.trans hk2⟩
          rw [hpl, bytesL_len]
          exact own_mono hown hkr.size
end Go.Proofs.Ythcoiaigmndohaa
