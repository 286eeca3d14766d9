/-
  The contracts of xor.next and xor.write, whatever the sink. Conditions: 1 to 1100 reals, the bits fit 64; the table of TrailingZeros64 is in its variable.
-/
import Derived.Test.YthcoiaigmndohaaDoorXorOpen
import Derived.Test.YthcoiaigmndohaaDoorXorReal
namespace Go.Proofs.YthcoiaigmndohaaDoor
open Go.RowKit BitM

theorem next_any {T : TypeId} {f : Nat} {v : Value} {B0 : Nat} {Inv : World → List Bool → Prop} (hS : Sink T f v B0 Inv) (x : Nat) (hxf : Fits x) (vw : Win) (hv : vw.Ok) (w : World) (b : List Bool) (hI : Inv w b) (hl : b.length ≤ 90000) (hB : B0 ≤ w.heap.size) (hBg : 1 < B0) (hT : Tab w) :
    Calls Tryd.prog 44 #[.iface T v, .int .u64 x, .agg (winC vw.t vw.e vw.is)] w fun r w' => r = .returned (.agg (winC (nextW x vw).t (nextW x vw).e (nextW x vw).is)) ∧ Inv w' (b ++ nextB x vw) ∧ Step B0 w w' := by
  by_cases h0 : x = 0
  · subst h0
    have := next_zero hS vw w b hI hl hB
    have e1 : nextW 0 vw = vw := rfl
    have e2 : nextB 0 vw = [false] := rfl
    rw [e1, e2]
    exact this
  · cases hh : (vw.is && (decide (vw.t ≤ min 31 (lzN x)) && decide (vw.e ≤ tzN x))) with
    | true =>
      have := next_hold hS x h0 hxf vw.t vw.e vw.is hv hh w b hI hl hB hBg hT
      have e1 : nextW x vw = vw := by unfold nextW; rw [if_neg h0, if_pos hh]
      have e2 : nextB x vw = [true, false] ++ bitsL (x / 2 ^ vw.e) (64 - vw.t - vw.e) := by unfold nextB; rw [if_neg h0, if_pos hh]
      rw [e1, e2]
      exact this
    | false =>
      have := next_open hS x h0 hxf vw.t vw.e vw.is hv hh w b hI hl hB hBg hT
      have e1 : nextW x vw = ⟨min 31 (lzN x), tzN x, true⟩ := by unfold nextW; rw [if_neg h0, if_neg (by rw [hh]; decide)]
      have e2 : nextB x vw = [true, true] ++ bitsL (min 31 (lzN x)) 5 ++ bitsL (63 - min 31 (lzN x) - tzN x) 6 ++ bitsL (x / 2 ^ tzN x) (64 - min 31 (lzN x) - tzN x) := by unfold nextB; rw [if_neg h0, if_neg (by rw [hh]; decide)]
      rw [e1, e2]
      exact this

theorem nextB_len {x : Nat} {v : Win} (hx : Fits x) : 1 ≤ (nextB x v).length ∧ (nextB x v).length ≤ 77 := by
  unfold nextB
  split
  · exact ⟨Nat.le_refl _, by decide⟩
  · split
    · simp only [List.length_append, bitsL_len, List.length_cons, List.length_nil]; omega
    · simp only [List.length_append, bitsL_len, List.length_cons, List.length_nil]; omega

theorem xor_u64 {x y : Nat} (hx : Fits x) (hy : Fits y) : Go.bits .xor .u64 (x : Int) (y : Int) = ((x ^^^ y : Nat) : Int) ∧ Fits (x ^^^ y) := by
  have hx' : x < 2 ^ 64 := by unfold Fits at hx; omega
  have hy' : y < 2 ^ 64 := by unfold Fits at hy; omega
  have hz : x ^^^ y < 2 ^ 64 := Nat.xor_lt_two_pow hx' hy'
  refine ⟨?_, by unfold Fits; omega⟩
  show IntKind.u64.wrap ((BitVec.ofInt 64 (x : Int) ^^^ BitVec.ofInt 64 (y : Int)).toNat : Int) = _
  rw [BitVec.ofInt_natCast, BitVec.ofInt_natCast, BitVec.toNat_xor, BitVec.toNat_ofNat, BitVec.toNat_ofNat, Nat.mod_eq_of_lt hx', Nat.mod_eq_of_lt hy', IntKind.wrap_u64]
  omega

set_option maxRecDepth 100000 in
set_option maxHeartbeats 3200000 in
theorem write_any {T : TypeId} {f : Nat} {v : Value} {B0 : Nat} {Inv : World → List Bool → Prop} (hS : Sink T f v B0 Inv) (A : Option Addr) (c : Nat) (M : List Nat) (h1 : 1 ≤ M.length) (hm : M.length ≤ 1100) (hlc : M.length ≤ c) (hcm : c ≤ maxLen) (w : World) (hI : Inv w []) (hF : InFB B0 w A c M) (hB : B0 ≤ w.heap.size) (hBg : 1 < B0) (hT : Tab w) :
    Calls Tryd.prog 31 #[.iface T v, .slice A M.length c] w fun r w' => r = .returned (.tuple #[]) ∧ Inv w' (blockB M) ∧ Step B0 w w' := by
  have hcall := hS.call
  have hmeth := hS.meth
  have hahead := hS.ahead
  obtain ⟨b, off, hA, hc0, hf0⟩ := (hF.keep ((Keeps.refl _ w).alloc (.cells (winC 0 0 false) 51)) hB).at_ (j := 0) (by omega)
  subst hA
  obtain ⟨x0, hx0⟩ : ∃ x0, M[0] = x0 := ⟨_, rfl⟩
  rw [hx0, Nat.add_zero] at hc0
  rw [hx0] at hf0
  have hc0' : (w.alloc (.cells #[.int .i64 0, .int .i64 0, .bool false] 51)).cell? ⟨b, off, none⟩ = some (.float .f64 x0) := hc0
  clear hc0
  have hib := ibits_back hf0
  have h1i : (1 : Int) ≤ (M.length : Int) := by omega
  have h0i : (0 : Int) < (M.length : Int) := by omega
  have hci : (M.length : Int) ≤ (c : Int) := by omega
  have HX0 := Lib.hid hx0
  have HF0 := Lib.hid hf0
  have HS := Lib.hid hS
  have HI := Lib.hid (HS.out.keep _ _ _ hI ((Keeps.refl _ w).alloc (.cells (winC 0 0 false) 51)))
  have HB4 := Lib.hid (Blk.new w 51 (winC 0 0 false))
  have HST := Lib.hid (Step.of (B0 := B0) ((Keeps.refl (fun _ => False) w).alloc (.cells (winC 0 0 false) 51)))
  clear hx0 hf0 hS hI
  go_enter Tryd.func31, Tryd.ntmps31
  go_wp2_with fail
  refine (rbits_any x0 HF0.out _).mono ?_
  rintro e w' ⟨rfl, rfl⟩
  go_wp2_with fail
  refine (HS.out.put x0 64 _ _ HI.out (by have := HF0.out; unfold Fits at this; omega) (by omega) (by simp)).mono ?_
  rintro r w1 ⟨rfl, hI1, hs1⟩
  have HI1 := Lib.hid hI1
  have HB41 := Lib.hid (hs1.win _ _ HB4.out)
  have HS1 := Lib.hid (HST.out.trans hs1)
  have HF := Lib.hid hF
  clear hI1 hs1 hF
  have hstart : bitsL x0 64 ++ restB (M.getD 0 0) ⟨0, 0, false⟩ (M.drop 1) = blockB M := by
    have := HX0.out
    cases M with
    | nil => simp at h1
    | cons y M' =>
      simp at this
      subst this
      rfl
  have hg0 : M.getD 0 0 = x0 := by
    rw [List.getD_eq_getElem?_getD, List.getElem?_eq_getElem (by omega : 0 < M.length), HX0.out]; rfl
  have HSTART := Lib.hid hstart
  have HG0 := Lib.hid hg0
  clear hstart hg0
  by_cases hc1 : c = 1
  · have hm1 : M.length = 1 := by omega
    have hm0 : ((M.length - 1 : Nat) : Int) = 0 := by omega
    have HM1 := Lib.hid hm1
    subst hc1
    clear hm1
    go_wp2_with fail
    go_loopw [5, 20] (fun l i wr => l = .int .u64 x0 ∧ i = .int .i64 0 ∧ w1 = wr) (fun _ _ _ => 0)
    case atStart => exact ⟨rfl, rfl, rfl⟩
    case round =>
      obtain ⟨rfl, rfl, rfl⟩ := hrel
      go_wp2_with fail
      go_returns
      refine ⟨rfl, ?_, HS1.out⟩
      have := HSTART.out
      rw [List.drop_of_length_le (by rw [HM1.out]; omega)] at this
      have h2 : bitsL x0 64 = blockB M := by simpa [restB] using this
      rw [← h2]
      simpa using HI1.out
  · have hc2 : ¬ c - 1 = 0 := by omega
    have hl1 : ((M.length - 1 : Nat) : Int) = (M.length : Int) - 1 := by omega
    go_wp2_with fail
    go_loopw [5, 20] (fun l i wr => ∃ (j : Nat) (bj : List Bool) (vj : Win), j + 1 ≤ M.length ∧ i = .int .i64 j ∧ l = .int .u64 (M.getD j 0 : Nat) ∧ bj ++ restB (M.getD j 0) vj (M.drop (j + 1)) = blockB M ∧ vj.Ok ∧ bj.length ≤ 64 + 77 * j ∧ Inv wr bj ∧ Blk wr w.heap.size 51 (winC vj.t vj.e vj.is) ∧ Step B0 w wr) (fun _ i _ => M.length - 1 - (intOf i).toNat)
    case atStart => exact ⟨0, bitsL x0 64, ⟨0, 0, false⟩, h1, rfl, by rw [HG0.out], HSTART.out, ⟨by decide, by decide⟩, by rw [bitsL_len]; omega, by simpa using HI1.out, HB41.out, HS1.out⟩
    case round =>
      obtain ⟨j, bj, vj, hj, rfl, rfl, hrest, hok, hbl, hIj, hBj, hSj⟩ := hrel
      by_cases hlt : j + 1 < M.length
      · have hFj := HF.out.keep hSj.keeps hB
        obtain ⟨b', off', hA', hc, hfx⟩ := hFj.at_ hlt
        cases hA'
        have hfy : Fits (M.getD j 0) := by
          rw [List.getD_eq_getElem?_getD, List.getElem?_eq_getElem (by omega : j < M.length)]
          exact hFj.fits _ (List.getElem_mem _)
        obtain ⟨x, hx⟩ : ∃ x, M[j + 1] = x := ⟨_, rfl⟩
        obtain ⟨y, hy⟩ : ∃ y, M.getD j 0 = y := ⟨_, rfl⟩
        have hgx : M.getD (j + 1) 0 = x := by rw [List.getD_eq_getElem?_getD, List.getElem?_eq_getElem hlt, hx]; rfl
        have hdrop : M.drop (j + 1) = x :: M.drop (j + 2) := by rw [← hx]; exact (List.getElem_cons_drop hlt).symm
        rw [hx] at hc hfx
        rw [hy] at hrest hfy
        rw [hy]
        have hxor := xor_u64 hfx hfy
        have hib2 := ibits_back hfx
        have hji : (j : Int) < ((M.length - 1 : Nat) : Int) := by omega
        have hoff : off + 1 + j = off + (j + 1) := by omega
        rw [← hoff] at hc
        have HXOR := Lib.hid hxor.1
        have HXF := Lib.hid hxor.2
        have HFX := Lib.hid hfx
        have HR := Lib.hid hrest
        have HOK := Lib.hid hok
        have HBL := Lib.hid hbl
        have HIJ := Lib.hid hIj
        have HBJ := Lib.hid hBj
        have HSJ := Lib.hid hSj
        have HGX := Lib.hid hgx
        have HD := Lib.hid hdrop
        clear hxor hfx hfy hrest hok hbl hIj hBj hSj hgx hdrop hx hy hoff hFj
        go_wp2_with fail
        refine (rbits_any x HFX.out _).mono ?_
        rintro e w' ⟨rfl, rfl⟩
        go_wp2_with (refine wpList_load_row rfl 51 (.tmp 4) rfl _ rfl 51 _ (0, 0) _ HBJ.out Tryd.underlying51 rfl info51 ?_)
        have hTj := HSJ.out.tab hBg hT
        have hBj2 : B0 ≤ wr.heap.size := Nat.le_trans hB HSJ.out.keeps.size
        try rw [HXOR.out]
        refine (next_any HS.out (x ^^^ y) HXF.out vj HOK.out _ bj HIJ.out (by have := HBL.out; omega) hBj2 hBg hTj).mono ?_
        rintro r w4 ⟨rfl, hI4, hs4⟩
        have HI4 := Lib.hid hI4
        have HS4 := Lib.hid hs4
        have HB44 := Lib.hid (hs4.win _ _ HBJ.out)
        clear hI4 hs4
        go_wp2_with (refine wpList_store_row rfl 51 (.tmp 4) (.tmp 32) rfl _ _ rfl rfl 51 _ HB44.out info51 rfl (winC_ones _ _ _) ?_)
        go_roundw
        case rel =>
          refine ⟨j + 1, bj ++ nextB (x ^^^ y) vj, nextW (x ^^^ y) vj, by omega, by go_num, by rw [HGX.out], ?_, nextW_ok HXF.out HOK.out, ?_, HS.out.row _ _ _ _ _ HI4.out HB44.out, HB44.out.setRow, step_row' (HSJ.out.trans HS4.out) (Nat.le_refl _) hB⟩
          · have := HR.out
            rw [HD.out] at this
            rw [HGX.out, List.append_assoc]
            exact this
          · have := (nextB_len (x := x ^^^ y) (v := vj) HXF.out).2
            have := HBL.out
            rw [List.length_append]; omega
        case measure => simp [intOf]; omega
      · have hjl : j + 1 = M.length := by omega
        have hji : ((M.length - 1 : Nat) : Int) ≤ (j : Int) := by omega
        have HR := Lib.hid hrest
        have HIJ := Lib.hid hIj
        have HSJ := Lib.hid hSj
        have HJL := Lib.hid hjl
        clear hrest hok hbl hIj hBj hSj hjl
        go_wp2_with fail
        go_returns
        refine ⟨rfl, ?_, HSJ.out⟩
        have := HR.out
        rw [List.drop_of_length_le (by rw [HJL.out]; omega)] at this
        have h2 : bj = blockB M := by simpa [restB] using this
        rw [← h2]
        exact HIJ.out
end Go.Proofs.YthcoiaigmndohaaDoor
