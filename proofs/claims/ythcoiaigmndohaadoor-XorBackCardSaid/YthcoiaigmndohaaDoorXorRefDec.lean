/-
  The contract of the reference's Decode. Condition: at most 100000 bytes.
-/
import Derived.Test.YthcoiaigmndohaaDoorXorDecode
import Derived.Test.YthcoiaigmndohaaDoorXorRef
import Derived.Deep.CutBlock
import Derived.Deep.CutRange
namespace Go.Proofs.YthcoiaigmndohaaDoor
open Go.RowKit BitM

/-- What the reference answers. -/
def RefPost (w : World) (r : Nat × List Nat) (e : Ending) (w' : World) : Prop :=
  Keeps (fun _ => False) w w' ∧ ∃ u, e = .returned (.tuple #[u, .int .i64 r.1]) ∧ w'.ownsRow w.heap.size 41 1 u r.2.length (u64s r.2)

theorem RefPost.err {w w' : World} {k : Nat} (h : Keeps (fun _ => False) w w') : RefPost w (k, []) (.returned (.tuple #[.slice none 0 0, .int .i64 k])) w' := ⟨h, _, rfl, World.ownsRow_nil _ _ _ _⟩

theorem one_bitN (N k : Nat) : N / 2 ^ k % 2 ^ 1 = (bitN N k).toNat := by rw [bit_nat, Nat.pow_one]

theorem readN_nought {N T z : Nat} {v : Win} (h1 : ¬ T < z + 1) (hb : bitN N z = false) : readN N T z v = .ok (0, z + 1, v) := by
  unfold readN
  rw [if_neg h1, if_pos (by rw [one_bitN, hb]; rfl)]
theorem readN_short {N T z : Nat} {v : Win} (h1 : ¬ T < z + 1) (hb : bitN N z = true) (h2 : T < z + 2) : readN N T z v = .error 1 := by
  unfold readN
  rw [if_neg h1, if_neg (by rw [one_bitN, hb]; decide), if_pos h2]
theorem readN_old {N T z : Nat} {v : Win} (h2 : ¬ T < z + 2) (hb : bitN N z = true) (hb2 : bitN N (z + 1) = false) : readN N T z v = if v.is = true then payN N T (z + 2) v else .error 3 := by
  unfold readN
  rw [if_neg (by omega), if_neg (by rw [one_bitN, hb]; decide), if_neg h2, if_pos (by rw [one_bitN, hb2]; rfl)]
theorem readN_new {N T z : Nat} {v : Win} (h2 : ¬ T < z + 2) (hb : bitN N z = true) (hb2 : bitN N (z + 1) = true) : readN N T z v = if T < z + 13 then .error 1 else if 64 < N / 2 ^ (z + 2) % 2 ^ 5 + (N / 2 ^ (z + 7) % 2 ^ 6 + 1) then .error 4 else payN N T (z + 13) ⟨N / 2 ^ (z + 2) % 2 ^ 5, 64 - N / 2 ^ (z + 2) % 2 ^ 5 - (N / 2 ^ (z + 7) % 2 ^ 6 + 1), true⟩ := by
  conv => lhs; unfold readN
  rw [if_neg (by omega), if_neg (by rw [one_bitN, hb]; decide), if_neg h2, if_neg (by rw [one_bitN, hb2]; decide)]

set_option maxRecDepth 100000 in
set_option maxHeartbeats 3200000 in
theorem refDec_any (A : Option Addr) (c : Nat) (L : List Int) (n : Int) (w : World) (hI : In w A c L) (hL : ∀ z ∈ L, 0 ≤ z ∧ z < 256) :
    Calls Tryd.prog 9 #[.slice A L.length c, .int .i64 n] w (RefPost w (decM (ofBytes L) (8 * L.length) n)) := by
  obtain ⟨e0, he0, hz0, hz1, hz2⟩ := info_parts info64
  have hle := hI.le
  by_cases hn : 1 ≤ n ∧ n ≤ 1024
  · obtain ⟨m, rfl⟩ : ∃ m : Nat, n = (m : Int) := ⟨n.toNat, by omega⟩
    have hbz : blockZ (m : Int) = true := by unfold blockZ; simp; omega
    have hm1 : 1 ≤ m := by omega
    have hm2 : m ≤ 1024 := by omega
    obtain ⟨r, hr⟩ : ∃ r, decM (ofBytes L) (8 * L.length) m = r := ⟨_, rfl⟩
    rw [hr]
    unfold decM at hr
    rw [if_neg (by omega), Int.toNat_natCast] at hr
    have HBZ := Lib.hid hbz
    have HR := Lib.hid hr
    have HI := Lib.hid hI
    have HL := Lib.hid hL
    have HLE := Lib.hid hle
    clear hbz hn hr hI hL
    by_cases h8 : L.length < 8
    · have hr := HR.out
      rw [if_pos (by omega)] at hr
      subst hr
      have h8i : (L.length : Int) < 8 := by omega
      go_enter Tryd.func9, Tryd.ntmps9
      go_wp2_with fail
      refine (refBlock_any _ _).mono ?_
      rw [HBZ.out]
      rintro e w' ⟨rfl, rfl⟩
      go_wp2
      go_ret2
      exact RefPost.err (Keeps.refl _ _)
    · have hr := HR.out
      rw [if_neg (by omega)] at hr
      have hx0 : numAt L 0 64 = ofBytes L / 2 ^ 0 % 2 ^ 64 := rfl
      rw [← hx0] at hr
      have hnum := refNumber_any A c L 0 64 w HI.out HL.out (Nat.le_refl _) (by omega)
      obtain ⟨x0, hx⟩ : ∃ x, numAt L 0 64 = x := ⟨_, rfl⟩
      have hf0 : Fits x0 := by rw [← hx]; exact Nat.mod_lt _ (Nat.two_pow_pos 64)
      rw [hx] at hr hnum
      have HR2 := Lib.hid hr
      have HF0 := Lib.hid hf0
      have HN := Lib.hid hnum
      have h8i : (8 : Int) ≤ (L.length : Int) := by omega
      have HT64 := Lib.hid (show 64 ≤ 8 * L.length by omega)
      clear hr hx0 hx hf0 hnum h8 HR
      go_enter Tryd.func9, Tryd.ntmps9
      go_wp2_with fail
      refine (refBlock_any _ _).mono ?_
      rw [HBZ.out]
      rintro e w' ⟨rfl, rfl⟩
      go_wp2_with fail
      refine HN.out.mono ?_
      rintro e w' ⟨rfl, rfl⟩
      have hown0 : (w.alloc (.cells #[.int .u64 x0] 41)).ownsRow w.heap.size 41 1 (.slice (some ⟨w.heap.size, 0, none⟩) 1 1) 1 (u64s [x0]) := by
        have := World.ownsRow_lit (e := 41) (size := 1) (base := w.heap.size) w #[.int .u64 x0] 1 (Nat.le_refl _) (by unfold maxLen; omega) (by simp)
        simpa [u64s] using this
      have HO0 := Lib.hid hown0
      clear hown0
      go_wp2_with fail
      go_loopw [6, 7, 8, 9, 10] (fun o a tp en is wr => ∃ (acc : List Nat) (z last : Nat) (vw : Win), a = .int .i64 z ∧ tp = .int .i64 vw.t ∧ en = .int .i64 vw.e ∧ is = .bool vw.is ∧ 1 ≤ acc.length ∧ acc.length ≤ m ∧ vw.Ok ∧ Fits last ∧ acc[acc.length - 1]? = some last ∧ z ≤ 8 * L.length ∧ wr.ownsRow w.heap.size 41 1 o acc.length (u64s acc) ∧ Keeps (fun _ => False) w wr ∧ decEnd (ofBytes L) (8 * L.length) (decGo (ofBytes L) (8 * L.length) (m - acc.length) z vw last acc) = r) (fun o _ _ _ _ _ => m - sliceLen o)
      case atStart => exact ⟨[x0], 64, x0, ⟨0, 0, false⟩, rfl, rfl, rfl, rfl, Nat.le_refl _, hm1, ⟨by decide, by decide⟩, HF0.out, rfl, HT64.out, HO0.out, (Keeps.refl _ _).alloc _, HR2.out⟩
      case round =>
        obtain ⟨acc, z, last, vw, rfl, rfl, rfl, rfl, hl1, hlm, hok, hfl, hlast, hzT, hown, hkr, hrr⟩ := hrel
        obtain ⟨g6, cap6, rfl, _, _⟩ := hown.form (by omega)
        have HO := Lib.hid hown
        have HOK := Lib.hid hok
        have HFL := Lib.hid hfl
        have HRR := Lib.hid hrr
        have HZT := Lib.hid hzT
        have HLA := Lib.hid hlast
        have hIr := HI.out.keep (hkr.below (fun _ _ h => h) (Nat.le_refl _))
        have HIR := Lib.hid hIr
        have hz5 : (z : Int) ≤ 800000 := by omega
        by_cases hlt : acc.length < m
        · obtain ⟨k, hk⟩ : ∃ k, m - acc.length = k + 1 := ⟨m - acc.length - 1, by omega⟩
          have hrr2 := hrr
          rw [hk, decGo] at hrr2
          have HK := Lib.hid hk
          have hli : (acc.length : Int) < (m : Int) := by omega
          obtain ⟨al, hal⟩ : ∃ al, acc.length - 1 = al := ⟨_, rfl⟩
          have hali : (acc.length : Int) - 1 = (al : Int) := by omega
          have cl : wr.cell? ⟨g6, al, none⟩ = some (.int .u64 last) := by
            rw [hown.cellAt al (by omega)]
            unfold u64s
            rw [List.getElem?_map, ← hal, hlast]
            rfl
          have hal0 : (al : Int) < (acc.length : Int) := by omega
          have al0 : (0 : Int) ≤ (al : Int) := by omega
          have HRR2 := Lib.hid hrr2
          clear hown hok hfl hrr hzT hlast hIr hrr2 hk hal
          by_cases h1 : 8 * L.length < z + 1
          · have hq : readN (ofBytes L) (8 * L.length) z vw = .error 1 := by unfold readN; rw [if_pos h1]
            have hrr2 := HRR2.out
            rw [hq] at hrr2
            subst hrr2
            have h1i : 8 * (L.length : Int) ≤ (z : Int) := by omega
            clear h1 hq HRR HRR2
            go_wp2
            go_ret2
            exact RefPost.err hkr
          · have hq1 : readN (ofBytes L) (8 * L.length) z vw = readN (ofBytes L) (8 * L.length) z vw := rfl
            have h1i : (z : Int) < 8 * (L.length : Int) := by omega
            have hzm : ((z : Int) + 1) - 1 = (z : Int) := by omega
            have hHas := refHas_any A c L z wr HIR.out HL.out (by omega)
            have HH := Lib.hid hHas
            have H1 := Lib.hid h1
            clear h1 hq1 hHas
            go_wp2_with fail
            refine HH.out.mono ?_
            cases hb : bitN (ofBytes L) z with
            | false =>
              rintro e w' ⟨rfl, rfl⟩
              have hrr2 := HRR2.out
              rw [readN_nought H1.out hb] at hrr2
              simp only [Nat.xor_zero] at hrr2
              have HRR3 := Lib.hid hrr2
              clear hrr2 hb HRR HRR2
              go_wp2_with (at_builtin; go_loud (refine wpList_append_own_at _ rfl (.tmp 49) (.tmp 51) 27 rfl w.heap.size 41 e0 (.int .u64 0) 1 8 Tryd.underlying27 he0 hz0 hz1 hz2 rfl (by decide) (.slice (some ⟨g6, 0, none⟩) acc.length cap6) acc.length _ rfl (HO.out.alloc _) ⟨wr.heap.size, 0, none⟩ 1 1 [.int .u64 last] rfl rfl (World.news_of_block (cs := #[.int .u64 last]) (t := 41) (fr := (0, 0)) (heap_alloc_new wr _)) (by simp [Value.oneCell']) (by unfold maxLen; omega) (by omega) (by have := hkr.size; simp; omega) ?_; intro v7 w7 hown7 hgrow7 _ _))
              go_roundw
              case rel =>
                refine ⟨acc ++ [last], z + 1, last, vw, by go_num, rfl, rfl, rfl, by simp, by simp; omega, HOK.out, HFL.out, by simp, by have := H1.out; omega, by simpa [u64s] using hown7, (hkr.alloc _).grown hgrow7 (by intro k hk; right; exact (HO.out.lt k hk).1), ?_⟩
                have := HRR3.out
                rw [List.length_append, List.length_singleton, show m - (acc.length + 1) = k by have := HK.out; omega]
                exact this
              case measure =>
                have hv := hown7
                obtain ⟨g8, cap8, rfl, _, _⟩ := hv.form (by omega)
                simp [sliceLen]; omega
            | true =>
              rintro e w' ⟨rfl, rfl⟩
              have HB := Lib.hid hb
              clear hb
              by_cases h2 : 8 * L.length < z + 2
              · have hrr2 := HRR2.out
                rw [readN_short H1.out HB.out h2] at hrr2
                subst hrr2
                have h2i : 8 * (L.length : Int) ≤ (z : Int) + 1 := by omega
                clear h2 HRR HRR2
                go_wp2
                go_ret2
                exact RefPost.err hkr
              · have H2 := Lib.hid h2
                have h2i : (z : Int) + 1 < 8 * (L.length : Int) := by omega
                have hHas2 := refHas_any A c L (z + 1) wr HIR.out HL.out (by omega)
                have e2 : ((z : Int) + 1 + 1) - 1 = ((z + 1 : Nat) : Int) := by omega
                have HH2 := Lib.hid hHas2
                clear h2 hHas2
                go_wp2_with fail
                refine HH2.out.mono ?_
                obtain ⟨b2, hb2⟩ : ∃ b2, bitN (ofBytes L) (z + 1) = b2 := ⟨_, rfl⟩
                rw [hb2]
                rintro e w' ⟨rfl, rfl⟩
                have HB2 := Lib.hid hb2
                clear hb2 e2
                obtain ⟨R, hR⟩ : ∃ R, readN (ofBytes L) (8 * L.length) z vw = R := ⟨_, rfl⟩
                have hrr2 := HRR2.out
                rw [hR] at hrr2
                have HRR3 := Lib.hid hrr2
                have HRD := Lib.hid hR
                clear hrr2 hR HRR HRR2
                go_upto_if 64 with fail
                go_cut [7, 8, 9, 10, 12, 13] from 27 to 124 (fun a tp en is _ _ wx => wr = wx ∧ ∃ (z2 : Nat) (v2 : Win), a = .int .i64 z2 ∧ tp = .int .i64 v2.t ∧ en = .int .i64 v2.e ∧ is = .bool v2.is ∧ v2.Ok ∧ z2 ≤ 8 * L.length ∧ payN (ofBytes L) (8 * L.length) z2 v2 = R)
                case first =>
                  cases b2 with
                  | false =>
                    have hR := HRD.out
                    rw [readN_old H2.out HB.out HB2.out] at hR
                    obtain ⟨t, e, is⟩ := vw
                    cases is with
                    | true =>
                      have HR4 := Lib.hid hR
                      clear hR
                      go_wp2_with fail
                      go_meet
                      case rel => exact ⟨rfl, z + 2, ⟨t, e, true⟩, by go_num, rfl, rfl, rfl, HOK.out, by have := H2.out; omega, HR4.out⟩
                    | false =>
                      have hR2 : R = .error 3 := by simpa using hR.symm
                      subst hR2
                      have hr := HRR3.out
                      subst hr
                      clear hR
                      go_wp2_with fail
                      go_ret2
                      exact RefPost.err hkr
                  | true =>
                    have hR := HRD.out
                    rw [readN_new H2.out HB.out HB2.out] at hR
                    by_cases h13 : 8 * L.length < z + 13
                    · rw [if_pos h13] at hR
                      subst hR
                      have hr := HRR3.out
                      subst hr
                      have h13i : 8 * (L.length : Int) < (z : Int) + 1 + 1 + 11 := by omega
                      clear h13
                      go_wp2_with fail
                      go_ret2
                      exact RefPost.err hkr
                    · rw [if_neg h13] at hR
                      have n1 := refNumber_any A c L (z + 2) 5 wr HIR.out HL.out (by omega) (by omega)
                      have n2 := refNumber_any A c L (z + 7) 6 wr HIR.out HL.out (by omega) (by omega)
                      obtain ⟨a, ha⟩ : ∃ a, numAt L (z + 2) 5 = a := ⟨_, rfl⟩
                      obtain ⟨s6, hs6⟩ : ∃ a, numAt L (z + 7) 6 = a := ⟨_, rfl⟩
                      have ha2 : ofBytes L / 2 ^ (z + 2) % 2 ^ 5 = a := ha
                      have hs2 : ofBytes L / 2 ^ (z + 7) % 2 ^ 6 = s6 := hs6
                      have ha31 : a < 2 ^ 5 := by rw [← ha2]; exact Nat.mod_lt _ (by decide)
                      have hs63 : s6 < 2 ^ 6 := by rw [← hs2]; exact Nat.mod_lt _ (by decide)
                      rw [ha2, hs2] at hR
                      rw [ha] at n1
                      rw [hs6] at n2
                      have h13i : (z : Int) + 1 + 1 + 11 ≤ 8 * (L.length : Int) := by omega
                      have ai : (a : Int) ≤ 31 := by omega
                      have si : (s6 : Int) ≤ 63 := by omega
                      have N1 := Lib.hid n1
                      have N2 := Lib.hid n2
                      have HR4 := Lib.hid hR
                      have H13 := Lib.hid h13
                      have e3 : (z : Int) + 1 + 1 = ((z + 2 : Nat) : Int) := by omega
                      have e4 : ((z + 2 : Nat) : Int) + 5 = ((z + 7 : Nat) : Int) := by omega
                      clear n1 n2 ha hs6 ha2 hs2 hR h13 h13i
                      have h13i : ((z + 2 : Nat) : Int) + 11 ≤ 8 * (L.length : Int) := by have := H13.out; omega
                      go_wp2_with fail
                      refine N1.out.mono ?_
                      rintro e w' ⟨rfl, rfl⟩
                      go_wp2_with fail
                      refine N2.out.mono ?_
                      rintro e w' ⟨rfl, rfl⟩
                      have hR := HR4.out
                      by_cases h64 : 64 < a + (s6 + 1)
                      · rw [if_pos h64] at hR
                        subst hR
                        have hr := HRR3.out
                        subst hr
                        have h64i : (64 : Int) < (a : Int) + ((s6 : Int) + 1) := by omega
                        clear h64 HR4
                        go_wp2_with fail
                        go_ret2
                        exact RefPost.err hkr
                      · rw [if_neg h64] at hR
                        have h64i : (a : Int) + ((s6 : Int) + 1) ≤ 64 := by omega
                        have HR5 := Lib.hid hR
                        have hsub : (64 : Int) - (a : Int) = ((64 - a : Nat) : Int) := by omega
                        have hsub2 : ((64 - a : Nat) : Int) - ((s6 : Int) + 1) = ((64 - a - (s6 + 1) : Nat) : Int) := by omega
                        have HOK2 := Lib.hid (show Win.Ok ⟨a, 64 - a - (s6 + 1), true⟩ from ⟨by show a ≤ 31; omega, by show a + (64 - a - (s6 + 1)) ≤ 63; omega⟩)
                        clear hR h64
                        go_wp2_with fail
                        go_meet
                        case rel => exact ⟨rfl, z + 13, ⟨a, 64 - a - (s6 + 1), true⟩, by go_num, rfl, rfl, rfl, HOK2.out, by have := H13.out; omega, HR5.out⟩
                case rest =>
                  obtain ⟨rfl, z2, v2, rfl, rfl, rfl, rfl, hok2, hz2T, hpay⟩ := hcut
                  obtain ⟨t, e, is⟩ := v2
                  have htl : t ≤ 31 := hok2.1
                  have hte : t + e ≤ 63 := hok2.2
                  obtain ⟨W, hW⟩ : ∃ W, 64 - t - e = W := ⟨_, rfl⟩
                  have hsub : (64 : Int) - (t : Int) = ((64 - t : Nat) : Int) := by omega
                  have hsub2 : ((64 - t : Nat) : Int) - (e : Int) = (W : Int) := by omega
                  have hz25 : (z2 : Int) ≤ 800000 := by omega
                  have hW64 : (W : Int) ≤ 64 := by omega
                  unfold payN at hpay
                  simp only [hW] at hpay
                  by_cases hT : 8 * L.length < z2 + W
                  · rw [if_pos hT] at hpay
                    subst hpay
                    have hr := HRR3.out
                    subst hr
                    have hTi : 8 * (L.length : Int) < (z2 : Int) + (W : Int) := by omega
                    clear hT HRR3 HRD
                    go_wp2_with fail
                    go_ret2
                    exact RefPost.err hkr
                  · rw [if_neg hT] at hpay
                    have hTi : (z2 : Int) + (W : Int) ≤ 8 * (L.length : Int) := by omega
                    have n1 := refNumber_any A c L z2 W wr HIR.out HL.out (by omega) (by omega)
                    obtain ⟨n, hn⟩ : ∃ n, numAt L z2 W = n := ⟨_, rfl⟩
                    have hn2 : ofBytes L / 2 ^ z2 % 2 ^ W = n := hn
                    have hlt2 : n < 2 ^ W := by rw [← hn2]; exact Nat.mod_lt _ (Nat.two_pow_pos _)
                    rw [hn] at n1
                    rw [hn2] at hpay
                    subst hpay
                    have hne : ∀ j, j ≤ e → n * 2 ^ j < 18446744073709551616 := fun j hj => by
                      have q1 := Nat.mul_lt_mul_of_pos_right hlt2 (Nat.two_pow_pos j)
                      rw [← Nat.pow_add] at q1
                      have q2 : 2 ^ (W + j) ≤ 2 ^ 64 := Nat.pow_le_pow_right (by decide) (by omega)
                      omega
                    have HNE := Lib.hid hne
                    have N1 := Lib.hid n1
                    have hxor := xor_u64 HFL.out (show Fits (n * 2 ^ e) from hne e (Nat.le_refl _))
                    obtain ⟨y, hy⟩ : ∃ y, last ^^^ (n * 2 ^ e) = y := ⟨_, rfl⟩
                    have hr := HRR3.out
                    simp only [hy] at hr
                    rw [hy] at hxor
                    have HRR4 := Lib.hid hr
                    have HFY := Lib.hid hxor.2
                    have HXB := Lib.hid hxor.1
                    have HOK2 := Lib.hid hok2
                    have HTN := Lib.hid hT
                    clear hT hn hn2 hlt2 n1 hne hxor hy hr HRR3 HRD hok2 hz2T
                    go_wp2_with fail
                    refine N1.out.mono ?_
                    rintro e' w' ⟨rfl, rfl⟩
                    go_upto_block 2 with fail
                    go_cut [15, 16] from 27 to 124 (fun x _ wx => x = .int .u64 ((n * 2 ^ e : Nat) : Int) ∧ wr = wx)
                    case first =>
                      go_wp2_with fail
                      go_loopw [15, 16] (fun x i wx => wr = wx ∧ ∃ j : Nat, j ≤ e ∧ i = .int .i64 j ∧ x = .int .u64 ((n * 2 ^ j : Nat) : Int)) (fun _ i _ => e - (intOf i).toNat)
                      case atStart => exact ⟨rfl, 0, by omega, rfl, by simp⟩
                      case round =>
                        obtain ⟨rfl, j, hj, rfl, rfl⟩ := hrel
                        by_cases hje : j < e
                        · have hji : (j : Int) < (e : Int) := by omega
                          obtain ⟨q, hq⟩ : ∃ q, n * 2 ^ j = q := ⟨_, rfl⟩
                          have hq2 : n * 2 ^ (j + 1) = 2 * q := by rw [Nat.pow_succ, ← Nat.mul_assoc, hq, Nat.mul_comm]
                          have hqf : 2 * q < 18446744073709551616 := by rw [← hq2]; exact HNE.out (j + 1) hje
                          have HQ := Lib.hid hq2
                          have HW := Lib.hid (show IntKind.u64.wrap (2 * (q : Int)) = ((2 * q : Nat) : Int) from by rw [IntKind.wrap_u64]; omega)
                          rw [hq]
                          clear hq hq2 hqf
                          go_wp2_with fail
                          go_roundw
                          case rel =>
                            refine ⟨trivial, j + 1, by omega, by go_num, ?_⟩
                            rw [HQ.out]
                            exact congrArg (Value.int .u64) HW.out
                          case measure => simp [intOf]; omega
                        · obtain rfl : j = e := by omega
                          go_wp2_with fail
                          go_meet
                          case rel => exact ⟨rfl, rfl⟩
                    case rest =>
                      obtain ⟨rfl, rfl⟩ := hcut
                      have hxb := HXB.out
                      obtain ⟨q, hq⟩ : ∃ q, n * 2 ^ e = q := ⟨_, rfl⟩
                      rw [hq] at hxb ⊢
                      clear hq
                      go_wp2_with (at_builtin; go_loud (refine wpList_append_own_at _ rfl (.tmp 119) (.tmp 123) 27 rfl w.heap.size 41 e0 (.int .u64 0) 1 8 Tryd.underlying27 he0 hz0 hz1 hz2 rfl (by decide) (.slice (some ⟨g6, 0, none⟩) acc.length cap6) acc.length _ rfl (HO.out.alloc _) ⟨wr.heap.size, 0, none⟩ 1 1 [.int .u64 y] rfl rfl (World.news_of_block (cs := #[.int .u64 y]) (t := 41) (fr := (0, 0)) (heap_alloc_new wr _)) (by simp [Value.oneCell']) (by unfold maxLen; omega) (by omega) (by have := hkr.size; simp; omega) ?_; intro v7 w7 hown7 hgrow7 _ _))
                      go_roundw
                      case rel =>
                        refine ⟨acc ++ [y], z2 + W, y, ⟨t, e, is⟩, by go_num, rfl, rfl, rfl, by simp, by simp; omega, HOK2.out, HFY.out, by simp, by have := HTN.out; omega, by simpa [u64s] using hown7, (hkr.alloc _).grown hgrow7 (by intro k hk; right; exact (HO.out.lt k hk).1), ?_⟩
                        have := HRR4.out
                        rw [List.length_append, List.length_singleton, show m - (acc.length + 1) = k by have := HK.out; omega]
                        exact this
                      case measure =>
                        have hv := hown7
                        obtain ⟨g8, cap8, rfl, _, _⟩ := hv.form (by omega)
                        simp [sliceLen]; omega
        · obtain rfl : acc.length = m := by omega
          have hrr2 := hrr
          rw [Nat.sub_self, decGo] at hrr2
          unfold decEnd at hrr2
          simp only [] at hrr2
          obtain ⟨nn, hnn⟩ : ∃ nn, 8 * L.length - z = nn := ⟨_, rfl⟩
          rw [hnn] at hrr2
          have hnni : 8 * (L.length : Int) - (z : Int) = (nn : Int) := by omega
          have HNN := Lib.hid hnn
          clear hown hok hfl hrr hzT hlast hIr HRR
          by_cases h8 : 8 ≤ nn
          · rw [if_pos h8] at hrr2
            subst hrr2
            have h8b : (7 : Int) < (nn : Int) := by omega
            clear h8 hnn
            go_wp2
            go_ret2
            exact RefPost.err hkr
          · rw [if_neg h8] at hrr2
            have h8b : (nn : Int) ≤ 7 := by omega
            have HRE := Lib.hid hrr2
            have HZ := Lib.hid (num_zero (ofBytes L) z nn)
            clear h8 hnn hrr2
            go_wp2_with fail
            go_loopw [17] (fun x wx => wr = wx ∧ ∃ i : Nat, x = .int .i64 i ∧ z ≤ i ∧ i ≤ 8 * L.length ∧ ∀ k, z ≤ k → k < i → bitN (ofBytes L) k = false) (fun x _ => 8 * L.length - (intOf x).toNat)
            case atStart => exact ⟨rfl, z, rfl, Nat.le_refl _, HZT.out, by intro k h1 h2; omega⟩
            case round =>
              obtain ⟨rfl, i, rfl, hzi, hi8, hall⟩ := hrel
              have HALL := Lib.hid hall
              clear hall
              by_cases hli : i < 8 * L.length
              · have hii : (i : Int) < 8 * (L.length : Int) := by omega
                go_wp2_with fail
                refine (refHas_any A c L i _ HIR.out HL.out hli).mono ?_
                rintro e w2 ⟨rfl, rfl⟩
                cases hb : bitN (ofBytes L) i with
                | false =>
                  have HB := Lib.hid hb
                  clear hb
                  go_wp2_with fail
                  go_roundw
                  case rel =>
                    refine ⟨trivial, i + 1, by go_num, by omega, by omega, ?_⟩
                    intro k h1 h2
                    by_cases hk : k = i
                    · subst hk; exact HB.out
                    · exact HALL.out k h1 (by omega)
                  case measure => simp [intOf]; omega
                | true =>
                  have hq : ¬ ofBytes L / 2 ^ z % 2 ^ nn = 0 := by
                    intro h0
                    have := HZ.out.mp h0 i hzi (by have := HNN.out; omega)
                    rw [hb] at this
                    cases this
                  have hre := HRE.out
                  rw [if_neg hq] at hre
                  subst hre
                  clear hb hq
                  go_wp2_with fail
                  go_ret2
                  exact RefPost.err hkr
              · obtain rfl : i = 8 * L.length := by omega
                have hq : ofBytes L / 2 ^ z % 2 ^ nn = 0 := HZ.out.mpr (fun k h1 h2 => HALL.out k h1 (by have := HNN.out; omega))
                have hre := HRE.out
                rw [if_pos hq] at hre
                subst hre
                clear hq
                go_wp2_with fail
                go_ret2
                exact ⟨hkr, _, rfl, HO.out⟩
  · have hbz : blockZ n = false := by
      unfold blockZ
      rw [Bool.and_eq_false_iff]
      simp only [decide_eq_false_iff_not]
      omega
    have hr : decM (ofBytes L) (8 * L.length) n = (7, []) := by unfold decM; rw [if_pos hn]
    rw [hr]
    have HBZ := Lib.hid hbz
    clear hbz hr hn hI hL
    go_enter Tryd.func9, Tryd.ntmps9
    go_wp2_with fail
    refine (refBlock_any _ _).mono ?_
    rw [HBZ.out]
    rintro e w' ⟨rfl, rfl⟩
    go_wp2
    go_ret2
    exact RefPost.err (Keeps.refl _ _)
end Go.Proofs.YthcoiaigmndohaaDoor
