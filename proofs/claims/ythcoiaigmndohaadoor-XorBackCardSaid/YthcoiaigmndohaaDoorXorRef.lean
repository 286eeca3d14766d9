/-
  The contracts of the reference for bits, as the blocks of reals use it: Bits, Bytes, Has, Number, Same. No conditions but the sizes.
-/
import Derived.Test.YthcoiaigmndohaaDoorBoolModel
import Derived.Test.YthcoiaigmndohaaDoorXorAwake
import Derived.Test.YthcoiaigmndohaaDoorXorReals
import Derived.Laws.AppendOwnNone
namespace Go.Proofs.YthcoiaigmndohaaDoor
open Go.RowKit BitM

theorem wid {x : Int} (h0 : -4611686018427387904 ≤ x) (h1 : x ≤ 4611686018427387904) : wrap64 x = x := (IntWalk.i64_left _).symm.trans (IntWalk.i64_in _ ⟨by omega, by omega⟩)

theorem info4 : (Tryd.prog.info? 4).map (fun i => (i.zero, i.size, i.bytes)) = some (some (.bool false), 1, 1) := by kernel_rfl

theorem refBits_any (x k : Nat) (hx : Fits x) (hk : k ≤ 64) (w : World) : Calls Tryd.prog 34 #[.int .u64 x, .int .i64 k] w fun e w' => ∃ v, e = .returned v ∧ w'.ownsRow w.heap.size 4 1 v k ((bitsL x k).map Value.bool) ∧ Keeps (fun _ => False) w w' := by
  obtain ⟨e0, he0, hz0, hz1, hz2⟩ := info_parts info4
  have HF := Lib.hid hx
  clear hx
  go_enter Tryd.func34, Tryd.ntmps34
  go_wp2_with fail
  go_loopw [0, 5, 6] (fun v o i wr => ∃ j : Nat, j ≤ k ∧ i = .int .i64 j ∧ v = .int .u64 ((x / 2 ^ j : Nat) : Int) ∧ wr.ownsRow w.heap.size 4 1 o j ((bitsL x j).map Value.bool) ∧ Keeps (fun _ => False) w wr) (fun _ _ i _ => k - (intOf i).toNat)
  case atStart => exact ⟨0, Nat.zero_le _, rfl, by simp, World.ownsRow_nil _ _ _ _, Keeps.refl _ _⟩
  case round =>
    obtain ⟨j, hj, rfl, rfl, hown, hkr⟩ := hrel
    have HO := Lib.hid hown
    clear hown
    by_cases hlt : j < k
    · obtain ⟨y, hy⟩ : ∃ y, x / 2 ^ j = y := ⟨_, rfl⟩
      rw [hy]
      have hy2 : Fits y := by have := HF.out; have := Nat.div_le_self x (2 ^ j); unfold Fits at *; omega
      have hyb : ((y : Int) % 2 == 1) = decide (x / 2 ^ j % 2 = 1) := by
        rw [hy, Bool.eq_iff_iff]
        simp only [beq_iff_eq, decide_eq_true_eq]
        omega
      have HY2 := Lib.hid hy2
      have HY := Lib.hid hy
      have HB := Lib.hid hyb
      clear hy hy2 hyb
      go_wp2_with (at_builtin; refine wpList_append_own_at _ rfl _ _ 70 rfl w.heap.size 4 e0 (.bool false) 1 1 Tryd.underlying70 he0 hz0 hz1 hz2 rfl (by decide) u5 j _ rfl (HO.out.alloc _) ⟨wr.heap.size, 0, none⟩ 1 1 [.bool ((y : Int) % 2 == 1)] rfl rfl (World.news_of_block (cs := #[.bool ((y : Int) % 2 == 1)]) (t := 4) (fr := (0, 0)) (heap_alloc_new wr _)) (by simp [Value.oneCell']) (by unfold maxLen; omega) (by omega) (by have := hkr.size; simp; omega) ?_; intro v3 w3 hown3 hgrow _ _)
      go_roundw
      case rel =>
        refine ⟨j + 1, by omega, by go_num, ?_, ?_, ?_⟩
        · congr 1
          rw [Nat.pow_succ, ← Nat.div_div_eq_div_mul, HY.out]
          have h2 : (y : Int) / 2 = ((y / 2 : Nat) : Int) := by omega
          rw [h2]
          exact u64_wrap_id (by have := HY2.out; unfold Fits at *; omega)
        · rw [bitsL_succ, ← HB.out]
          simpa using hown3
        · exact (hkr.alloc _).grown hgrow (by intro k hk; right; exact (HO.out.lt k hk).1)
      case measure => simp [intOf]; omega
    · obtain rfl : j = k := by omega
      go_wp2
      go_ret
      exact ⟨_, rfl, HO.out, hkr⟩

/-- A slice of bits: its address, its capacity. -/
structure InB (w : World) (A : Option Addr) (c : Nat) (l : List Bool) : Prop where
  row : Row w w.heap.size A l.length (l.map Value.bool)
  cap : A = none → c = 0
  le : l.length ≤ 100000

theorem InB.keep {w w' : World} {A : Option Addr} {c : Nat} {l : List Bool} (h : InB w A c l) (hb : Keeps (fun _ => False) w w') : InB w' A c l :=
  ⟨(h.row.keep hb (Nat.le_refl _) (fun _ _ h => h)).mono hb.size, h.cap, h.le⟩

theorem InB.at_ {w : World} {A : Option Addr} {c : Nat} {l : List Bool} (h : InB w A c l) {j : Nat} (hj : j < l.length) : ∃ b off, A = some ⟨b, off, none⟩ ∧ b < w.heap.size ∧ w.cell? ⟨b, off + j, none⟩ = some (.bool l[j]) := by
  obtain ⟨b, off, u, rfl, hb, hx, hc⟩ := h.row.at_ hj
  have : u = .bool l[j] := by
    rw [List.getElem?_map, List.getElem?_eq_getElem hj] at hx
    injection hx with hx
    exact hx.symm
  exact ⟨b, off, rfl, hb, this ▸ hc⟩

theorem InB.of_own {w : World} {B : Nat} {v : Value} {L : List Bool} (h : w.ownsRow B 4 1 v L.length (L.map Value.bool)) (hl : L.length ≤ 100000) : ∃ A c, v = .slice A L.length c ∧ InB w A c L := by
  rcases h.2 with ⟨rfl, hx⟩ | ⟨g, cap, cur, rfl, _⟩
  · have hL : L = [] := by simpa using hx
    subst hL
    exact ⟨none, 0, rfl, ⟨⟨rfl, fun hn => by simp at hn⟩, fun _ => rfl, hl⟩⟩
  · exact ⟨_, _, rfl, ⟨Row.of_own h, fun h => (nomatch h), hl⟩⟩

theorem bytesL_zero (len : Nat) : bytesL 0 len = List.replicate len 0 := by
  apply List.ext_getElem?
  intro j
  by_cases hj : j < len
  · rw [bytesL_get hj, List.getElem?_replicate, if_pos hj]
    simp [byteN]
  · rw [List.getElem?_eq_none (by rw [bytesL_len]; omega), List.getElem?_replicate, if_neg hj]

set_option maxRecDepth 100000 in
set_option maxHeartbeats 1600000 in
theorem refBytes_any (A : Option Addr) (c : Nat) (l : List Bool) (w : World) (hI : InB w A c l) :
    Calls Tryd.prog 35 #[.slice A l.length c] w fun e w' => ∃ v, e = .returned v ∧ w'.ownsRow w.heap.size 5 1 v ((l.length + 7) / 8) ((bytesL (boolsN l) ((l.length + 7) / 8)).map (Value.int .u8)) ∧ Keeps (fun _ => False) w w' := by
  obtain ⟨e0, he0, hz0, hz1, hz2⟩ := info_parts info5
  have hle := hI.le
  obtain ⟨len, hlen⟩ : ∃ len, (l.length + 7) / 8 = len := ⟨_, rfl⟩
  have hli : ((l.length : Int) + 7) / 8 = (len : Int) := by omega
  rw [hlen]
  go_enter Tryd.func35, Tryd.ntmps35
  go_wp2_with (at_make; refine wpList_make_full _ rfl _ _ 22 rfl w.heap.size 5 e0 (.int .u8 0) 1 Tryd.underlying22 he0 hz0 hz1 .i64 .i64 _ _ len rfl rfl hli hli (by rw [hz2]; omega) (by unfold maxLen; omega) (Nat.le_refl _) ?_; intro w1 hown1 hgrow1)
  have hbase : w1.ownsRow w.heap.size 5 1 (.slice (some ⟨w.heap.size, 0, none⟩) len len) len ((bytesL 0 len).map (Value.int .u8)) := by
    rw [bytesL_zero, List.map_replicate, ← toList_madeCells_one]
    rw [Nat.mul_one] at hown1
    exact hown1
  have hk1 : Keeps (fun _ => False) w w1 := (Keeps.refl _ w).grown hgrow1 (fun k hk => by cases hk)
  clear hown1
  have HI := Lib.hid hlen
  have HB := Lib.hid hbase
  clear hlen hbase hli
  go_wp2_with fail
  go_loopw [4] (fun i wr => ∃ j : Nat, j ≤ l.length ∧ i = .int .i64 j ∧ wr.ownsRow w.heap.size 5 1 (.slice (some ⟨w.heap.size, 0, none⟩) len len) len ((bytesL (boolsN (l.take j)) len).map (Value.int .u8)) ∧ Keeps (fun _ => False) w wr) (fun i _ => l.length - (intOf i).toNat)
  case atStart => exact ⟨0, Nat.zero_le _, rfl, by simpa [boolsN] using HB.out, hk1⟩
  case round =>
    obtain ⟨j, hj, rfl, hown, hkr⟩ := hrel
    by_cases hlt : j < l.length
    · obtain ⟨b, off, rfl, hb, hc⟩ := (hI.keep hkr).at_ hlt
      have hji : (j : Int) < (l.length : Int) := by omega
      have htake := boolsN_take hlt
      have HO := Lib.hid hown
      have HT := Lib.hid htake
      clear hown htake
      cases hbit : l[j] with
      | false =>
        rw [hbit] at hc
        have HBT := Lib.hid hbit
        clear hbit
        go_wp2_with fail
        go_roundw
        case rel =>
          refine ⟨j + 1, by omega, by go_num, ?_, hkr⟩
          rw [HT.out, HBT.out]
          simpa using HO.out
        case measure => simp [intOf]; omega
      | true =>
        rw [hbit] at hc
        obtain ⟨a, ha⟩ : ∃ a, j % 8 = a := ⟨_, rfl⟩
        obtain ⟨q, hq⟩ : ∃ q, j / 8 = q := ⟨_, rfl⟩
        have hai : (j : Int) % 8 = (a : Int) := by omega
        have hqi : (j : Int) / 8 = (q : Int) := by omega
        have hqL : q < len := by have := HI.out; omega
        obtain ⟨N, hN⟩ : ∃ N, boolsN (l.take j) = N := ⟨_, rfl⟩
        obtain ⟨z, hz⟩ : ∃ z, byteN N q = z := ⟨_, rfl⟩
        have hNlt : N < 2 ^ j := by
          have := boolsN_lt (l.take j)
          rw [List.length_take, Nat.min_eq_left hj, hN] at this
          exact this
        have hjq : j = 8 * q + a := by omega
        have ha8 : a < 8 := by omega
        have hown := HO.out
        rw [hN] at hown
        have e1 : wr.cell? ⟨w.heap.size, q, none⟩ = some (.int .u8 z) := by
          rw [hown.cellAt q (by omega), List.getElem?_map, bytesL_get hqL, hz]; rfl
        have e2 : wr.frozen? ⟨w.heap.size, q, none⟩ = false := hown.frozenAt q
        have hsm : z + 2 ^ a < 256 := by
          have := byte_small (q := q) (hjq ▸ hNlt) ha8
          rw [hz] at this
          exact this
        have hst := hown.stored q (.int .u8 ((z + 2 ^ a : Nat) : Int))
        have hbb := bytes_bit (q := q) (len := len) (hjq ▸ hNlt) ha8 hqL
        rw [hz, ← hjq] at hbb
        rw [← List.map_set, hbb] at hst
        have HST := Lib.hid hst
        have HBT := Lib.hid hbit
        have HN := Lib.hid hN
        have HSM := Lib.hid hsm
        have hqt : (j : Int).tdiv 8 = (q : Int) := by rw [Int.tdiv_eq_ediv_of_nonneg (by omega)]; exact hqi
        have hat : (j : Int).tmod 8 = (a : Int) := by rw [Int.tmod_eq_emod_of_nonneg (by omega)]; exact hai
        have q0 : (0 : Int) ≤ (q : Int) := by omega
        have q1 : (q : Int) < (len : Int) := by omega
        have a8i : (a : Int) ≤ 8 := by omega
        clear hst hbb hsm hN hz hNlt hbit hown hjq ha hq
        go_upto_region 6 with fail
        have hwq : IntKind.i64.wrap (q : Int) = (q : Int) := IntWalk.i64_in _ ⟨by omega, by omega⟩
        have hwa : IntKind.i64.wrap (a : Int) = (a : Int) := IntWalk.i64_in _ ⟨by omega, by omega⟩
        go_still_tail 13, (by kernel_rfl)
        have hu : IntKind.u8.wrap ((z : Int) + IntKind.u8.wrap (2 ^ a)) = ((z + 2 ^ a : Nat) : Int) := by
          have h1 := HSM.out
          have h2 : ((2 : Int) ^ a) = ((2 ^ a : Nat) : Int) := by rw [Int.natCast_pow]; rfl
          have e0 : ∀ x : Int, IntKind.u8.wrap x = x % 256 := fun _ => rfl
          rw [h2, e0, e0]
          clear hwq hwa
          obtain ⟨t, ht⟩ : ∃ t, 2 ^ a = t := ⟨_, rfl⟩
          rw [ht] at h1 ⊢
          omega
        rw [hu]
        change wpList _ _ _ _ _ wr.drew
        go_wp2_with fail
        go_roundw
        case rel =>
          refine ⟨j + 1, by omega, by go_num, ?_, ?_⟩
          · rw [HT.out, HBT.out, HN.out]
            have := own_keep HST.out.1 ((Keeps.refl (fun _ => False) _).drew) (fun _ _ h => h)
            simpa using this
          · exact (hkr.drew).setCell (p := ⟨w.heap.size, q, none⟩) (.inr (Nat.le_refl _)) _
        case measure => simp [intOf]; omega
    · obtain rfl : j = l.length := by omega
      rw [List.take_of_length_le (Nat.le_refl _)] at hown
      have HO := Lib.hid hown
      clear hown
      go_wp2
      go_ret
      exact ⟨_, rfl, HO.out, hkr⟩

/-- A bit of bytes. -/
theorem refHas_any (A : Option Addr) (c : Nat) (L : List Int) (k : Nat) (w : World) (hI : In w A c L) (hL : ∀ z ∈ L, 0 ≤ z ∧ z < 256) (hk : k < 8 * L.length) :
    Calls Tryd.prog 28 #[.slice A L.length c, .int .i64 k] w fun e w' => e = .returned (.bool (bitN (ofBytes L) k)) ∧ w = w' := by
  obtain ⟨a, ha⟩ : ∃ a, k % 8 = a := ⟨_, rfl⟩
  obtain ⟨q, hq⟩ : ∃ q, k / 8 = q := ⟨_, rfl⟩
  have hbit := bit_byte (ofBytes L) k
  rw [ha, hq] at hbit
  have hqL : q < L.length := by omega
  have hle := hI.le
  obtain ⟨b, off, u, rfl, hb, hx, hc⟩ := hI.row.at_ hqL
  have hz := byte_of L q hL hqL
  obtain ⟨z, hzz⟩ : ∃ z, byteN (ofBytes L) q = z := ⟨_, rfl⟩
  rw [hzz] at hz hbit
  have hu : u = .int .u8 z := by
    rw [List.getElem?_map, List.getElem?_eq_getElem hqL, ← hz] at hx
    injection hx with hx
    exact hx.symm
  subst hu
  have ha8 : a < 8 := by omega
  have hqt : (k : Int) / 8 = (q : Int) := by omega
  have hat : (k : Int) % 8 = (a : Int) := by omega
  have hres : ((z : Int) / 2 ^ a % 2 == 1) = bitN (ofBytes L) k := by
    unfold bitN
    rw [← hbit, Bool.eq_iff_iff]
    have e1 : ((z : Int) / 2 ^ a) = ((z / 2 ^ a : Nat) : Int) := by rw [Int.natCast_ediv, Int.natCast_pow]; rfl
    rw [e1]
    simp only [beq_iff_eq, decide_eq_true_eq]
    omega
  have q0 : (0 : Int) ≤ (q : Int) := by omega
  have q1 : (q : Int) < (L.length : Int) := by omega
  have a8i : (a : Int) ≤ 8 := by omega
  have HR := Lib.hid hres
  have HB := Lib.hid hbit
  clear hres hbit ha hq hz hzz hk hx
  go_enter Tryd.func28, Tryd.ntmps28
  go_wp2
  go_ret
  exact ⟨congrArg (fun b => Ending.returned (.bool b)) HR.out, rfl⟩

set_option maxHeartbeats 800000 in
theorem refNumber_any (A : Option Addr) (c : Nat) (L : List Int) (at_ W : Nat) (w : World) (hI : In w A c L) (hL : ∀ z ∈ L, 0 ≤ z ∧ z < 256) (hW : W ≤ 64) (hk : at_ + W ≤ 8 * L.length) :
    Calls Tryd.prog 27 #[.slice A L.length c, .int .i64 at_, .int .i64 W] w fun e w' => e = .returned (.int .u64 (numAt L at_ W : Nat)) ∧ w = w' := by
  have hle := hI.le
  go_enter Tryd.func27, Tryd.ntmps27
  go_wp2_with fail
  go_loopw [7, 8] (fun v i wr => ∃ j : Nat, j ≤ W ∧ i = .int .i64 ((j : Int) - 1) ∧ v = .int .u64 ((numAt L (at_ + j) (W - j) : Nat) : Int) ∧ w = wr) (fun _ i _ => (intOf i + 1).toNat)
  case atStart => exact ⟨W, Nat.le_refl _, rfl, by simp [numAt, Nat.mod_one], rfl⟩
  case round =>
    obtain ⟨j, hj, rfl, rfl, rfl⟩ := hrel
    by_cases hlt : 0 < j
    · obtain ⟨i, rfl⟩ : ∃ i, j = i + 1 := ⟨j - 1, by omega⟩
      have hi : (((i + 1 : Nat) : Int) - 1) = (i : Int) := by omega
      obtain ⟨y, hy⟩ : ∃ y, numAt L (at_ + (i + 1)) (W - (i + 1)) = y := ⟨_, rfl⟩
      have hdn : numAt L (at_ + i) (W - i) = 2 * y + (bitN (ofBytes L) (at_ + i)).toNat := by
        have := num_down (ofBytes L) (at_ + i) (W - (i + 1))
        have e1 : W - (i + 1) + 1 = W - i := by omega
        rw [e1] at this
        rw [← hy]
        exact this
      have hlt64 : numAt L (at_ + i) (W - i) < 2 ^ 64 := Nat.lt_of_lt_of_le (Nat.mod_lt _ (Nat.two_pow_pos _)) (Nat.pow_le_pow_right (by decide) (by omega))
      rw [hdn] at hlt64
      rw [hy, hi]
      have hyw : IntKind.u64.wrap (2 * (y : Int)) = ((2 * y : Nat) : Int) := by
        have := u64_wrap_id (x := 2 * y) (by unfold Fits; omega)
        rw [← this]; rfl
      have HD := Lib.hid hdn
      have HY := Lib.hid hyw
      have hfit : Fits (2 * y + (bitN (ofBytes L) (at_ + i)).toNat) := by unfold Fits; omega
      have HLT := Lib.hid hfit
      clear hfit
      clear hy hdn hyw hlt64
      clear hi
      go_wp2_with fail
      refine (refHas_any A c L (at_ + i) _ hI hL (by omega)).mono ?_
      rintro e w' ⟨rfl, rfl⟩
      rw [HY.out]
      have hy2 : 2 * (y : Int) + 1 = ((2 * y + 1 : Nat) : Int) := by omega
      cases hb : bitN (ofBytes L) (at_ + i) with
      | false =>
        have HB := Lib.hid hb
        clear hb hy2
        go_wp2_with fail
        go_roundw
        case rel =>
          refine ⟨i, by omega, rfl, ?_, trivial⟩
          rw [HD.out, HB.out]
          simp
        case measure => simp [intOf]
      | true =>
        have HB := Lib.hid hb
        have hf := HLT.out
        rw [HB.out] at hf
        have HW := Lib.hid (u64_wrap_id (x := 2 * y + 1) hf)
        have HY2 := Lib.hid hy2
        clear hb hf hy2
        go_wp2_with fail
        go_roundw
        case rel =>
          refine ⟨i, by omega, rfl, ?_, trivial⟩
          rw [HD.out, HB.out]
          have := HW.out
          rw [← HY2.out] at this
          simpa using this
        case measure => simp [intOf]
    · obtain rfl : j = 0 := by omega
      go_wp2
      go_ret
      exact ⟨rfl, rfl⟩

theorem drewN_drewN (w : World) (a b : Nat) : (w.drewN a).drewN b = w.drewN (a + b) := by simp [World.drewN, Nat.add_assoc]

set_option maxHeartbeats 800000 in
theorem refSame_drawn (A A' : Option Addr) (c c' : Nat) (M M' : List Nat) (w : World) (hI : In64 w A c M) (hI' : In64 w A' c' M') :
    Calls Tryd.prog 10 #[.slice A M.length c, .slice A' M'.length c'] w fun e w' => e = .returned (.bool (decide (M = M'))) ∧ ∃ m, w' = w.drewN m := by
  have hle := hI.le
  have hle' := hI'.le
  by_cases hl : M.length = M'.length
  · have hli : ((M.length : Int) != (M'.length : Int)) = false := by simp [hl]
    have HL := Lib.hid hl
    clear hl
    go_enter Tryd.func10, Tryd.ntmps10
    go_wp2_with fail
    go_loopw [5] (fun i wr => ∃ j : Nat, j ≤ M.length ∧ i = .int .i64 j ∧ M.take j = M'.take j ∧ ∃ m, wr = w.drewN m) (fun i _ => M.length - (intOf i).toNat)
    case atStart => exact ⟨0, Nat.zero_le _, rfl, by simp, 0, rfl⟩
    case round =>
      obtain ⟨j, hj, rfl, hp, dm, hdm⟩ := hrel
      have hkr : Keeps (fun _ => False) w wr := hdm ▸ (Keeps.refl _ w).drewN dm
      have HDM := Lib.hid hdm
      clear hdm
      by_cases hlt : j < M.length
      · have hlt' : j < M'.length := by have := HL.out; omega
        obtain ⟨b, off, rfl, hb, hc, hf⟩ := (hI.keep hkr).at_ hlt
        obtain ⟨b', off', rfl, hb', hc', hf'⟩ := (hI'.keep hkr).at_ hlt'
        have hji : (j : Int) < (M.length : Int) := by omega
        have hji' : (j : Int) < (M'.length : Int) := by omega
        have j0 : (0 : Int) ≤ (j : Int) := by omega
        have hs1 : M.take (j + 1) = M.take j ++ [M[j]] := List.take_succ_eq_append_getElem hlt
        have hs2 : M'.take (j + 1) = M'.take j ++ [M'[j]] := List.take_succ_eq_append_getElem hlt'
        obtain ⟨x, hx⟩ : ∃ x, M[j] = x := ⟨_, rfl⟩
        obtain ⟨y, hy⟩ : ∃ y, M'[j] = y := ⟨_, rfl⟩
        have hMx : M[j]? = some x := by rw [List.getElem?_eq_getElem hlt, hx]
        have hMy : M'[j]? = some y := by rw [List.getElem?_eq_getElem hlt', hy]
        rw [hx] at hc hs1
        rw [hy] at hc' hs2
        have HS1 := Lib.hid hs1
        have HS2 := Lib.hid hs2
        have HP := Lib.hid hp
        have HMX := Lib.hid hMx
        have HMY := Lib.hid hMy
        clear hs1 hs2 hp hMx hMy hx hy hf hf' hkr
        by_cases hxy : x = y
        · subst hxy
          have hne : ((x : Int) != (x : Int)) = false := by simp
          go_upto_region 6 with fail
          go_quiet (fail)
          go_wp2_with fail
          go_roundw
          case rel => exact ⟨j + 1, by omega, by go_num, by rw [HS1.out, HS2.out, HP.out], dm + nq, by rw [HDM.out, drewN_drewN]⟩
          case measure => simp [intOf]; omega
        · have hne : ((x : Int) != (y : Int)) = true := by simp; omega
          go_upto_region 6 with fail
          go_quiet (fail)
          go_wp2_with fail
          go_ret
          have hMM : M ≠ M' := by
            rintro rfl
            rw [HMX.out] at HMY
            have := HMY.out
            injection this with this
            exact hxy this
          exact ⟨by simp [hMM], dm + nq, by rw [HDM.out, drewN_drewN]⟩
      · obtain rfl : j = M.length := by omega
        rw [List.take_of_length_le (Nat.le_refl _), HL.out, List.take_of_length_le (Nat.le_refl _)] at hp
        have HP := Lib.hid hp
        clear hp
        go_wp2
        go_ret
        exact ⟨by simp [HP.out], dm, HDM.out⟩
  · have hli : ((M.length : Int) != (M'.length : Int)) = true := by simp; omega
    have hMM : M ≠ M' := fun h => hl (by rw [h])
    have HM := Lib.hid hMM
    clear hMM hl
    go_enter Tryd.func10, Tryd.ntmps10
    go_wp2
    go_ret
    exact ⟨by simp [HM.out], 0, rfl⟩
theorem refSame_any (A A' : Option Addr) (c c' : Nat) (M M' : List Nat) (w : World) (hI : In64 w A c M) (hI' : In64 w A' c' M') :
    Calls Tryd.prog 10 #[.slice A M.length c, .slice A' M'.length c'] w fun e w' => e = .returned (.bool (decide (M = M'))) ∧ Keeps (fun _ => False) w w' :=
  (refSame_drawn A A' c c' M M' w hI hI').mono fun e w' ⟨he, m, hm⟩ => ⟨he, hm ▸ (Keeps.refl _ w).drewN m⟩
end Go.Proofs.YthcoiaigmndohaaDoor
