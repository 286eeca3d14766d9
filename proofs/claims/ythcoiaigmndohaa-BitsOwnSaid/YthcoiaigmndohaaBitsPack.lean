/-
  The contracts of Need, Pack. Conditions: the numbers fit 64 bits.
-/
import Derived.Test.YthcoiaigmndohaaBitsReader
namespace Go.Proofs.Ythcoiaigmndohaa
open Go.RowKit BitM

/-- How many bytes numbers take. -/
def needI (n k : Int) : Nat := if 0 ≤ n ∧ n ≤ 1024 ∧ wideB k = true then (n.toNat * k.toNat + 7) / 8 else 0

theorem wid {x : Int} (h0 : -4611686018427387904 ≤ x) (h1 : x ≤ 4611686018427387904) : wrap64 x = x := (IntWalk.i64_left _).symm.trans (IntWalk.i64_in _ ⟨by omega, by omega⟩)

theorem need_any (n k : Int) (w : World) : Calls Try.prog 23 #[.int .i64 n, .int .i64 k] w fun e w' => e = .returned (.int .i64 (needI n k : Nat)) ∧ w = w' := by
  by_cases h0 : n < 0
  · have hn : needI n k = 0 := by unfold needI; rw [if_neg (by omega)]
    rw [hn]
    clear hn
    go_enter Try.func23, Try.ntmps23
    go_wp2
    go_ret
    exact ⟨rfl, rfl⟩
  · by_cases h1 : 1024 < n
    · have hn : needI n k = 0 := by unfold needI; rw [if_neg (by omega)]
      rw [hn]
      clear hn
      go_enter Try.func23, Try.ntmps23
      go_wp2
      go_ret
      exact ⟨rfl, rfl⟩
    · cases hw : wideB k with
      | false =>
        have hn : needI n k = 0 := by unfold needI; rw [if_neg (by simp [hw])]
        rw [hn]
        have HW := Lib.hid hw
        clear hn hw
        go_enter Try.func23, Try.ntmps23
        go_wp2_with fail
        refine (wide_any k _).mono ?_
        rw [HW.out]
        rintro e w' ⟨rfl, rfl⟩
        go_wp2
        go_ret
        exact ⟨rfl, rfl⟩
      | true =>
        have hk : 0 ≤ k ∧ k ≤ 64 := by simpa [wideB] using hw
        have hn : ((needI n k : Nat) : Int) = (n * k + 7) / 8 := by
          unfold needI
          rw [if_pos ⟨by omega, by omega, hw⟩]
          have e1 : n = (n.toNat : Int) := by omega
          have e2 : k = (k.toNat : Int) := by omega
          rw [e1, e2]
          simp only [Int.toNat_natCast, Int.natCast_ediv, Int.natCast_add, Int.natCast_mul]
          rfl
        have hnk : 0 ≤ n * k := Int.mul_nonneg (by omega) hk.1
        have hnk2 : n * k ≤ 1024 * 64 := Int.mul_le_mul (by omega) hk.2 hk.1 (by omega)
        rw [hn]
        obtain ⟨y, hy⟩ : ∃ y, n * k = y := ⟨_, rfl⟩
        rw [hy] at hnk hnk2 ⊢
        have HW := Lib.hid hw
        have HY := Lib.hid hy
        clear hn hw hk hy
        go_enter Try.func23, Try.ntmps23
        go_wp2_with fail
        refine (wide_any k _).mono ?_
        rw [HW.out]
        rintro e w' ⟨rfl, rfl⟩
        go_wp2
        go_ret
        have w1 : wrap64 (n * k) = y := by rw [HY.out]; exact wid (by omega) (by omega)
        have w2 : wrap64 (y + 8) = y + 8 := wid (by omega) (by omega)
        have w3 : wrap64 (y + 8 - 1) = y + 7 := by rw [wid (by omega) (by omega)]; omega
        have w4 : (y + 7).tdiv 8 = (y + 7) / 8 := Int.tdiv_eq_ediv_of_nonneg (by omega)
        have w5 : wrap64 ((y + 7) / 8) = (y + 7) / 8 := wid (by omega) (by omega)
        refine ⟨congrArg (fun z => Ending.returned (.int .i64 z)) ?_, rfl⟩
        show wrap64 ((wrap64 (wrap64 (wrap64 (n * k) + 8) - 1)).tdiv 8) = (y + 7) / 8
        rw [w1, w2, w3, w4, w5]

theorem refWide_any (k : Int) (w : World) : Calls Try.prog 16 #[.int .i64 k] w fun e w' => e = .returned (.bool (wideB k)) ∧ w = w' := by
  by_cases h0 : 0 ≤ k
  · by_cases h1 : k ≤ 64
    · have hw : wideB k = true := by unfold wideB; simp [h0, h1]
      rw [hw]
      clear hw
      go_enter Try.func16, Try.ntmps16
      go_wp2
      go_ret
      exact ⟨rfl, rfl⟩
    · have hw : wideB k = false := by unfold wideB; simp [h1]
      rw [hw]
      clear hw
      go_enter Try.func16, Try.ntmps16
      go_wp2
      go_ret
      exact ⟨rfl, rfl⟩
  · have hw : wideB k = false := by unfold wideB; simp [h0]
    rw [hw]
    clear hw
    go_enter Try.func16, Try.ntmps16
    go_wp2
    go_ret
    exact ⟨rfl, rfl⟩

theorem refNeed_any (n k : Int) (w : World) : Calls Try.prog 24 #[.int .i64 n, .int .i64 k] w fun e w' => e = .returned (.int .i64 (needI n k : Nat)) ∧ w = w' := by
  by_cases h0 : n < 0
  · have hn : needI n k = 0 := by unfold needI; rw [if_neg (by omega)]
    rw [hn]
    clear hn
    go_enter Try.func24, Try.ntmps24
    go_wp2
    go_ret
    exact ⟨rfl, rfl⟩
  · by_cases h1 : 1024 < n
    · have hn : needI n k = 0 := by unfold needI; rw [if_neg (by omega)]
      rw [hn]
      clear hn
      go_enter Try.func24, Try.ntmps24
      go_wp2
      go_ret
      exact ⟨rfl, rfl⟩
    · cases hw : wideB k with
      | false =>
        have hn : needI n k = 0 := by unfold needI; rw [if_neg (by simp [hw])]
        rw [hn]
        have HW := Lib.hid hw
        clear hn hw
        go_enter Try.func24, Try.ntmps24
        go_wp2_with fail
        refine (refWide_any k _).mono ?_
        rw [HW.out]
        rintro e w' ⟨rfl, rfl⟩
        go_wp2
        go_ret
        exact ⟨rfl, rfl⟩
      | true =>
        have hk : 0 ≤ k ∧ k ≤ 64 := by simpa [wideB] using hw
        have hn : ((needI n k : Nat) : Int) = (n * k + 7) / 8 := by
          unfold needI
          rw [if_pos ⟨by omega, by omega, hw⟩]
          have e1 : n = (n.toNat : Int) := by omega
          have e2 : k = (k.toNat : Int) := by omega
          rw [e1, e2]
          simp only [Int.toNat_natCast, Int.natCast_ediv, Int.natCast_add, Int.natCast_mul]
          rfl
        have hnk : 0 ≤ n * k := Int.mul_nonneg (by omega) hk.1
        have hnk2 : n * k ≤ 1024 * 64 := Int.mul_le_mul (by omega) hk.2 hk.1 (by omega)
        rw [hn]
        obtain ⟨y, hy⟩ : ∃ y, n * k = y := ⟨_, rfl⟩
        rw [hy] at hnk hnk2 ⊢
        have HW := Lib.hid hw
        have HY := Lib.hid hy
        clear hn hw hk hy
        go_enter Try.func24, Try.ntmps24
        go_wp2_with fail
        refine (refWide_any k _).mono ?_
        rw [HW.out]
        rintro e w' ⟨rfl, rfl⟩
        go_wp2
        go_ret
        have w1 : wrap64 (n * k) = y := by rw [HY.out]; exact wid (by omega) (by omega)
        have w3 : wrap64 (y + 7) = y + 7 := wid (by omega) (by omega)
        have w4 : (y + 7).tdiv 8 = (y + 7) / 8 := Int.tdiv_eq_ediv_of_nonneg (by omega)
        have w5 : wrap64 ((y + 7) / 8) = (y + 7) / 8 := wid (by omega) (by omega)
        refine ⟨congrArg (fun z => Ending.returned (.int .i64 z)) ?_, rfl⟩
        show wrap64 ((wrap64 (wrap64 (n * k) + 7)).tdiv 8) = (y + 7) / 8
        rw [w1, w3, w4, w5]

theorem own_mono {w : World} {base base' : Nat} {e : TypeId} {size n : Nat} {v : Value} {xs : List Value} (h : w.ownsRow base e size v n xs) (hb : base' ≤ base) : w.ownsRow base' e size v n xs := by
  refine ⟨h.1, ?_⟩
  rcases h.2 with h2 | ⟨g, cap, cur, hv, hg, r⟩
  · exact .inl h2
  · exact .inr ⟨g, cap, cur, hv, Nat.le_trans hb hg, r⟩

/-- A slice of numbers: its address, its capacity. -/
structure In64 (w : World) (A : Option Addr) (c : Nat) (M : List Nat) : Prop where
  row : Row w w.heap.size A M.length (M.map (fun x : Nat => Value.int .u64 x))
  cap : A = none → c = 0
  le : M.length ≤ 100000
  fits : ∀ x ∈ M, Fits x

theorem In64.keep {w w' : World} {A : Option Addr} {c : Nat} {M : List Nat} (h : In64 w A c M) (hb : Keeps (fun _ => False) w w') : In64 w' A c M :=
  ⟨(h.row.keep hb (Nat.le_refl _) (fun _ _ h => h)).mono hb.size, h.cap, h.le, h.fits⟩

theorem In64.at_ {w : World} {A : Option Addr} {c : Nat} {M : List Nat} (h : In64 w A c M) {j : Nat} (hj : j < M.length) : ∃ b off, A = some ⟨b, off, none⟩ ∧ b < w.heap.size ∧ w.cell? ⟨b, off + j, none⟩ = some (.int .u64 (M[j] : Nat)) ∧ Fits M[j] := by
  obtain ⟨b, off, u, rfl, hb, hx, hc⟩ := h.row.at_ hj
  have : u = .int .u64 (M[j] : Nat) := by
    rw [List.getElem?_map, List.getElem?_eq_getElem hj] at hx
    injection hx with hx
    exact hx.symm
  exact ⟨b, off, rfl, hb, this ▸ hc, h.fits _ (List.getElem_mem hj)⟩

/-- Numbers of width k as one number. -/
def packN (k : Nat) : List Nat → Nat
  | [] => 0
  | x :: r => x + 2 ^ k * packN k r

theorem packN_snoc (k : Nat) : ∀ (l : List Nat) (x : Nat), packN k (l ++ [x]) = packN k l + x * 2 ^ (l.length * k)
  | [], x => by simp [packN]
  | y :: r, x => by
    simp only [List.cons_append, packN, packN_snoc k r x, List.length_cons, Nat.add_mul, Nat.one_mul, Nat.pow_add, Nat.mul_add]
    rw [Nat.add_assoc, Nat.mul_comm (2 ^ (r.length * k)), Nat.mul_left_comm]

/-- Why numbers are not packed (0: they are). -/
def packE (k : Int) (M : List Nat) : Nat := if wideB k = false then 6 else if 1024 < M.length then 7 else if M.all (fun x => fitsB x k.toNat) = false then 4 else 0
/-- The packed bytes. -/
def packL (k : Int) (M : List Nat) : List Int := if packE k M = 0 then bytesL (packN k.toNat M) ((M.length * k.toNat + 7) / 8) else []

theorem packL_err {k : Int} {M : List Nat} {e : Nat} (he : packE k M = e) (h0 : e ≠ 0) : packL k M = [] := by unfold packL; rw [if_neg (by rw [he]; exact h0)]

/-- What packing answers. -/
def Packed (w : World) (k : Int) (M : List Nat) (e : Ending) (w' : World) : Prop :=
  ∃ v, e = .returned (.tuple #[v, .int .i64 (packE k M : Nat)]) ∧ w'.ownsRow w.heap.size 5 1 v (packL k M).length ((packL k M).map (Value.int .u8)) ∧ Keeps (fun _ => False) w w'

theorem Packed.err {w w' : World} {k : Int} {M : List Nat} {n : Nat} (h : packE k M = n) (h0 : n ≠ 0) (hk : Keeps (fun _ => False) w w') : Packed w k M (.returned (.tuple #[.slice none 0 0, .int .i64 n])) w' := by
  refine ⟨.slice none 0 0, by rw [h], ?_, hk⟩
  rw [packL_err h h0]
  exact World.ownsRow_nil _ _ _ _

set_option maxRecDepth 100000 in
set_option maxHeartbeats 3200000 in
theorem pack_any (k : Int) (A : Option Addr) (c : Nat) (M : List Nat) (w : World) (hI : In64 w A c M) :
    Calls Try.prog 11 #[.int .i64 k, .slice A M.length c] w (Packed w k M) := by
  cases hw : wideB k with
  | false =>
    have he : packE k M = 6 := by unfold packE; rw [if_pos hw]
    have HW := Lib.hid hw
    have HE := Lib.hid he
    clear hw he
    go_enter Try.func11, Try.ntmps11
    go_wp2_with fail
    refine (wide_any k _).mono ?_
    rw [HW.out]
    rintro e w' ⟨rfl, rfl⟩
    go_wp2
    go_ret2
    exact Packed.err HE.out (by decide) (Keeps.refl _ _)
  | true =>
    by_cases hl : 1024 < M.length
    · have he : packE k M = 7 := by unfold packE; rw [if_neg (by simp [hw]), if_pos hl]
      have HW := Lib.hid hw
      have HE := Lib.hid he
      clear hw he
      go_enter Try.func11, Try.ntmps11
      go_wp2_with fail
      refine (wide_any k _).mono ?_
      rw [HW.out]
      rintro e w' ⟨rfl, rfl⟩
      go_wp2
      go_ret2
      exact Packed.err HE.out (by decide) (Keeps.refl _ _)
    · have hk : 0 ≤ k ∧ k ≤ 64 := by simpa [wideB] using hw
      obtain ⟨W, rfl⟩ : ∃ W : Nat, k = (W : Int) := ⟨k.toNat, by omega⟩
      have hW : W ≤ 64 := by omega
      have HW := Lib.hid hw
      clear hw hk
      go_enter Try.func11, Try.ntmps11
      go_wp2_with fail
      refine (wide_any W _).mono ?_
      rw [HW.out]
      rintro e w' ⟨rfl, rfl⟩
      go_wp2_with fail
      refine (newWriter_any _).mono ?_
      rintro e w1 ⟨rfl, hw1⟩
      have hk1 : Keeps (fun _ => False) w w1 := by rw [hw1]; exact (Keeps.refl _ w).alloc _
      have hwr1 : Wr w.heap.size w.heap.size w1 (.slice none 0 0) 0 0 := by
        rw [hw1]
        exact ⟨Blk.new _ _ _, World.ownsRow_nil _ _ _ _, by decide⟩
      have HL := Lib.hid hl
      clear hw1 hl
      go_wp2_with fail
      go_loopw [21] (fun x wr => ∃ (j : Nat) (v : Value), j ≤ M.length ∧ x = .int .i64 j ∧ Wr w.heap.size w.heap.size wr v (packN W (M.take j)) (j * W) ∧ (M.take j).all (fun x => fitsB x W) = true ∧ Keeps (fun _ => False) w wr) (fun x _ => M.length - (intOf x).toNat)
      case atStart => exact ⟨0, _, Nat.zero_le _, rfl, by simpa [packN] using hwr1, by simp, hk1⟩
      case round =>
        obtain ⟨j, v, hj, rfl, hwr, hall, hkr⟩ := hrel
        by_cases hlt : j < M.length
        · obtain ⟨b, off, rfl, hb, hc, hf⟩ := (hI.keep hkr).at_ hlt
          obtain ⟨x, hx⟩ : ∃ x, M[j] = x := ⟨_, rfl⟩
          have hsnoc : M.take (j + 1) = M.take j ++ [x] := by rw [List.take_succ_eq_append_getElem hlt, hx]
          rw [hx] at hc hf
          have hji : (j : Int) < (M.length : Int) := by omega
          have hm : x ∈ M := by rw [← hx]; exact List.getElem_mem hlt
          have hml : M.length ≤ 100000 := hI.le
          have HWR := Lib.hid hwr
          have HS := Lib.hid hsnoc
          have HF := Lib.hid hf
          have HM := Lib.hid hm
          clear hx hsnoc hwr hf hm
          go_wp2_with fail
          by_cases hfx : fitsB x W = true
          · have hjW : j * W ≤ 100000 := by
              have : j * W ≤ 1024 * 64 := Nat.mul_le_mul (by have := HL.out; omega) hW
              omega
            refine (put_ok w.heap.size w.heap.size x W wr v _ _ HF.out hW hfx hjW HWR.out hkr.size).mono ?_
            rintro e w2 ⟨rfl, v2, hwr2, hmv⟩
            have hkr2 : Keeps (fun _ => False) w w2 := hkr.trans' hmv.keeps (by
              rintro i hi (h | h)
              · omega
              · have := (HWR.out.own.lt i h).1; omega)
            go_wp2_with fail
            go_roundw
            case rel =>
              refine ⟨j + 1, v2, by omega, by go_num, ?_, ?_, hkr2⟩
              · rw [HS.out, packN_snoc, List.length_take, Nat.min_eq_left hj, Nat.succ_mul]
                exact hwr2
              · rw [HS.out, List.all_append, hall]
                simp [hfx]
            case measure => simp [intOf]; omega
          · have hfx' : fitsB x W = false := by simpa using hfx
            refine (put_range _ x W HF.out hW hfx' _).mono ?_
            rintro e w2 ⟨rfl, rfl⟩
            have he : packE W M = 4 := by
              unfold packE
              rw [if_neg (by rw [HW.out]; decide), if_neg HL.out, if_pos]
              rw [List.all_eq_false]
              exact ⟨x, HM.out, by simpa using hfx⟩
            have HE := Lib.hid he
            clear he
            go_wp2_with fail
            go_ret2
            exact Packed.err HE.out (by decide) hkr
        · obtain rfl : j = M.length := by omega
          rw [List.take_of_length_le (Nat.le_refl _)] at hwr hall
          have he : packE W M = 0 := by
            unfold packE
            rw [if_neg (by rw [HW.out]; decide), if_neg HL.out, if_neg (by rw [Int.toNat_natCast, hall]; decide)]
          have hlm : M.length * W ≤ 100000 := by
            have : M.length * W ≤ 1024 * 64 := Nat.mul_le_mul (by have := HL.out; omega) hW
            omega
          have HE := Lib.hid he
          have HWR := Lib.hid hwr
          clear he hwr hall
          go_wp2_with fail
          refine (bytes_any _ _ _ v _ _ (by omega) HWR.out).mono ?_
          rintro e w2 ⟨u, rfl, hown, hk2⟩
          go_wp2_with fail
          go_ret2
          have hpl : packL W M = bytesL (packN W M) ((M.length * W + 7) / 8) := by
            unfold packL
            rw [if_pos HE.out, Int.toNat_natCast]
          refine ⟨u, by rw [HE.out]; rfl, ?_, hkr.trans hk2⟩
          rw [hpl, bytesL_len]
          exact own_mono hown hkr.size
end Go.Proofs.Ythcoiaigmndohaa
