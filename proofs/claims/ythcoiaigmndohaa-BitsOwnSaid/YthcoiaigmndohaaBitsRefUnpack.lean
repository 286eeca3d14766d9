/-
  The contract of the reference's Unpack.
-/
import Derived.Test.YthcoiaigmndohaaBitsRefPack
namespace Go.Proofs.Ythcoiaigmndohaa
open Go.RowKit BitM

set_option maxRecDepth 100000 in
set_option maxHeartbeats 3200000 in
theorem refUnpack_any (k n : Int) (A : Option Addr) (c : Nat) (L : List Int) (w : World) (hI : In w A c L) (hL : ∀ z ∈ L, 0 ≤ z ∧ z < 256) :
    Calls Try.prog 30 #[.slice A L.length c, .int .i64 k, .int .i64 n] w (Unpacked w L k n) := by
  obtain ⟨e0, he0, hz0, hz1, hz2⟩ := info_parts info35
  cases hw : wideB k with
  | false =>
    have he : unpackE L k n = 6 := by unfold unpackE; rw [if_pos hw]
    have HW := Lib.hid hw
    have HE := Lib.hid he
    clear hw he
    go_enter Try.func30, Try.ntmps30
    go_wp2_with fail
    refine (refWide_any k _).mono ?_
    rw [HW.out]
    rintro e w' ⟨rfl, rfl⟩
    go_wp2
    go_ret2
    exact Unpacked.err HE.out (by decide) (Keeps.refl _ _)
  | true =>
    by_cases h0 : n < 0
    · have he : unpackE L k n = 7 := by unfold unpackE; rw [if_neg (by simp [hw]), if_pos (.inl h0)]
      have HW := Lib.hid hw
      have HE := Lib.hid he
      clear hw he
      go_enter Try.func30, Try.ntmps30
      go_wp2_with fail
      refine (refWide_any k _).mono ?_
      rw [HW.out]
      rintro e w' ⟨rfl, rfl⟩
      go_wp2
      go_ret2
      exact Unpacked.err HE.out (by decide) (Keeps.refl _ _)
    · by_cases h1 : 1024 < n
      · have he : unpackE L k n = 7 := by unfold unpackE; rw [if_neg (by simp [hw]), if_pos (.inr h1)]
        have HW := Lib.hid hw
        have HE := Lib.hid he
        clear hw he
        go_enter Try.func30, Try.ntmps30
        go_wp2_with fail
        refine (refWide_any k _).mono ?_
        rw [HW.out]
        rintro e w' ⟨rfl, rfl⟩
        go_wp2
        go_ret2
        exact Unpacked.err HE.out (by decide) (Keeps.refl _ _)
      · obtain ⟨nd, hnd⟩ : ∃ nd, needI n k = nd := ⟨_, rfl⟩
        have hL5 := hI.le
        have HW := Lib.hid hw
        have HN := Lib.hid hnd
        by_cases h2 : L.length < nd
        · have he : unpackE L k n = 1 := by unfold unpackE; rw [if_neg (by simp [hw]), if_neg (by omega), if_pos (by omega)]
          have h2i : (L.length : Int) < (nd : Int) := by omega
          have HE := Lib.hid he
          clear hw he hnd
          go_enter Try.func30, Try.ntmps30
          go_wp2_with fail
          refine (refWide_any k _).mono ?_
          rw [HW.out]
          rintro e w' ⟨rfl, rfl⟩
          go_wp2_with fail
          refine (refNeed_any n k _).mono ?_
          rw [HN.out]
          rintro e w' ⟨rfl, rfl⟩
          go_wp2
          go_ret2
          exact Unpacked.err HE.out (by decide) (Keeps.refl _ _)
        · by_cases h3 : nd < L.length
          · have he : unpackE L k n = 2 := by unfold unpackE; rw [if_neg (by simp [hw]), if_neg (by omega), if_neg (by omega), if_pos (by omega)]
            have h2i : ¬ (L.length : Int) < (nd : Int) := by omega
            have h3i : (nd : Int) < (L.length : Int) := by omega
            have HE := Lib.hid he
            clear hw he hnd
            go_enter Try.func30, Try.ntmps30
            go_wp2_with fail
            refine (refWide_any k _).mono ?_
            rw [HW.out]
            rintro e w' ⟨rfl, rfl⟩
            go_wp2_with fail
            refine (refNeed_any n k _).mono ?_
            rw [HN.out]
            rintro e w' ⟨rfl, rfl⟩
            go_wp2_with fail
            refine (refNeed_any n k _).mono ?_
            rw [HN.out]
            rintro e w' ⟨rfl, rfl⟩
            go_wp2
            go_ret2
            exact Unpacked.err HE.out (by decide) (Keeps.refl _ _)
          · obtain rfl : nd = L.length := by omega
            have hk : 0 ≤ k ∧ k ≤ 64 := by simpa [wideB] using hw
            obtain ⟨W, rfl⟩ : ∃ W : Nat, k = (W : Int) := ⟨k.toNat, by omega⟩
            obtain ⟨m, rfl⟩ : ∃ m : Nat, n = (m : Int) := ⟨n.toNat, by omega⟩
            have hW : W ≤ 64 := by omega
            have hm : m ≤ 1024 := by omega
            have hlen : L.length = (m * W + 7) / 8 := by
              rw [← hnd]
              unfold needI
              rw [if_pos ⟨by omega, by omega, hw⟩]
              rfl
            have hle8 : m * W ≤ 8 * L.length := by omega
            have hrs : 8 * L.length - m * W < 8 := by omega
            have HLEN := Lib.hid hlen
            clear hw hk hnd h0 h1 h2 h3 hlen
            go_enter Try.func30, Try.ntmps30
            go_wp2_with fail
            refine (refWide_any W _).mono ?_
            rw [HW.out]
            rintro e w' ⟨rfl, rfl⟩
            go_wp2_with fail
            refine (refNeed_any m W _).mono ?_
            rw [HN.out]
            rintro e w' ⟨rfl, rfl⟩
            go_wp2_with fail
            refine (refNeed_any m W _).mono ?_
            rw [HN.out]
            rintro e w' ⟨rfl, rfl⟩
            go_wp2_with fail
            have hlen5 : L.length ≤ 9000 := by have := HLEN.out; have : m * W ≤ 1024 * 64 := Nat.mul_le_mul hm hW; omega
            go_loopw [8, 9] (fun o x wr => ∃ j : Nat, j ≤ m ∧ x = .int .i64 j ∧ wr.ownsRow w.heap.size 35 1 o j (u64s (numsL L W j)) ∧ Keeps (fun _ => False) w wr) (fun _ x _ => m - (intOf x).toNat)
            case atStart => exact ⟨0, Nat.zero_le _, rfl, World.ownsRow_nil _ _ _ _, Keeps.refl _ _⟩
            case round =>
              obtain ⟨j, hj, rfl, hown, hkr⟩ := hrel
              have HO := Lib.hid hown
              clear hown
              by_cases hlt : j < m
              · have hji : (j : Int) < (m : Int) := by omega
                have hjm : (j + 1) * W ≤ m * W := Nat.mul_le_mul_right _ hlt
                obtain ⟨y, hy⟩ : ∃ y : Nat, j * W = y := ⟨_, rfl⟩
                have hyi : (j : Int) * (W : Int) = (y : Int) := by rw [← hy, Int.natCast_mul]
                have hyL : y + W ≤ 8 * L.length := by rw [Nat.succ_mul, hy] at hjm; omega
                have hwy : wrap64 ((j : Int) * (W : Int)) = (y : Int) := by rw [hyi]; exact wid (by omega) (by omega)
                have HJ := Lib.hid hjm
                have HY := Lib.hid hy
                have HWY := Lib.hid hwy
                clear hjm hy hyi hwy
                go_wp2_with fail
                rw [HWY.out]
                refine (refNumber_any A c L y W _ (hI.keep (hkr.below (fun _ _ h => h) (Nat.le_refl _))) hL hW hyL).mono ?_
                rintro e w2 ⟨rfl, rfl⟩
                obtain ⟨x, hx⟩ : ∃ x, numAt L y W = x := ⟨_, rfl⟩
                rw [hx]
                have HX := Lib.hid hx
                clear hx
                go_wp2_with (at_builtin; refine wpList_append_own_at _ rfl _ _ 22 rfl w.heap.size 35 e0 (.int .u64 0) 1 8 Try.underlying22 he0 hz0 hz1 hz2 rfl (by decide) u8 j _ rfl (HO.out.alloc _) ⟨wr.heap.size, 0, none⟩ 1 1 [.int .u64 x] rfl rfl (World.news_of_block (cs := #[.int .u64 x]) (t := 35) (fr := (0, 0)) (heap_alloc_new wr _)) (by simp [Value.oneCell']) (by unfold maxLen; omega) (by omega) (by have := hkr.size; simp; omega) ?_; intro v3 w3 hown3 hgrow _ _)
                go_roundw
                case rel =>
                  refine ⟨j + 1, by omega, by go_num, ?_, ?_⟩
                  · rw [numsL_succ, HY.out, HX.out]
                    simpa [u64s] using hown3
                  · exact (hkr.alloc _).grown hgrow (by intro k hk; right; exact (HO.out.lt k hk).1)
                case measure => simp [intOf]; omega
              · obtain rfl : j = m := by omega
                obtain ⟨y, hy⟩ : ∃ y : Nat, j * W = y := ⟨_, rfl⟩
                have hyi : (j : Int) * (W : Int) = (y : Int) := by rw [← hy, Int.natCast_mul]
                have hwy : wrap64 ((j : Int) * (W : Int)) = (y : Int) := by rw [hyi]; exact wid (by omega) (by omega)
                rw [hy] at hle8 hrs
                have HY := Lib.hid hy
                have HWY := Lib.hid hwy
                have hz := num_zero (ofBytes L) y (8 * L.length - y)
                have hrest : restN L W j = ofBytes L / 2 ^ y % 2 ^ (8 * L.length - y) := by unfold restN numAt; rw [hy]
                rw [← hrest] at hz
                have HZ := Lib.hid hz
                clear hyi hwy hy hz hrest
                go_wp2_with fail
                rw [HWY.out]
                have hn6 : ¬ ((j : Int) < 0 ∨ 1024 < (j : Int)) := by omega
                have HN6 := Lib.hid hn6
                have HRS := Lib.hid hrs
                clear hn6 hrs
                have hl1 := Lib.hid (show ¬ (L.length < L.length) by omega)
                go_loopw [10] (fun x wx => wr = wx ∧ ∃ i : Nat, x = .int .i64 i ∧ y ≤ i ∧ i ≤ 8 * L.length ∧ ∀ k, y ≤ k → k < i → bitN (ofBytes L) k = false) (fun x _ => 8 * L.length - (intOf x).toNat)
                case atStart => exact ⟨rfl, y, rfl, Nat.le_refl _, hle8, by intro k h1 h2; omega⟩
                case round =>
                  obtain ⟨rfl, i, rfl, hyi, hi8, hall⟩ := hrel
                  have HALL := Lib.hid hall
                  clear hall
                  by_cases hli : i < 8 * L.length
                  · have hii : (i : Int) < 8 * (L.length : Int) := by omega
                    go_wp2_with fail
                    refine (refHas_any A c L i _ (hI.keep (hkr.below (fun _ _ h => h) (Nat.le_refl _))) hL hli).mono ?_
                    rintro e w2 ⟨rfl, rfl⟩
                    cases hb : bitN (ofBytes L) i with
                    | false =>
                      have HB := Lib.hid hb
                      clear hb
                      go_wp2_with fail
                      go_roundw
                      case rel =>
                        refine ⟨trivial, i + 1, by go_num, by omega, by omega, ?_⟩
                        intro k h1 h2
                        by_cases hk : k = i
                        · subst hk; exact HB.out
                        · exact HALL.out k h1 (by omega)
                      case measure => simp [intOf]; omega
                    | true =>
                      have hr : restN L W j ≠ 0 := by
                        intro h0
                        have := HZ.out.mp h0 i hyi (by omega)
                        rw [hb] at this
                        cases this
                      have he : unpackE L W j = 3 := by
                        unfold unpackE
                        rw [if_neg (by rw [HW.out]; decide), if_neg HN6.out, HN.out, if_neg hl1.out, if_neg hl1.out, if_pos (by rw [Int.toNat_natCast, Int.toNat_natCast]; exact hr)]
                      have HE := Lib.hid he
                      clear he hr hb
                      go_wp2_with fail
                      go_ret2
                      exact Unpacked.err HE.out (by decide) hkr
                  · obtain rfl : i = 8 * L.length := by omega
                    have hr : restN L W j = 0 := HZ.out.mpr (fun k h1 h2 => HALL.out k h1 (by omega))
                    have he : unpackE L W j = 0 := by
                      unfold unpackE
                      rw [if_neg (by rw [HW.out]; decide), if_neg HN6.out, HN.out, if_neg hl1.out, if_neg hl1.out, if_neg (by rw [Int.toNat_natCast, Int.toNat_natCast]; exact fun h => h hr)]
                    have HE := Lib.hid he
                    clear he hr
                    go_wp2_with fail
                    go_ret2
                    have hpl : unpackL L W j = numsL L W j := by
                      unfold unpackL
                      rw [if_pos HE.out]
                      rfl
                    refine ⟨_, by rw [HE.out]; rfl, ?_, hkr⟩
                    rw [hpl, numsL_len]
                    exact HO.out
end Go.Proofs.Ythcoiaigmndohaa
