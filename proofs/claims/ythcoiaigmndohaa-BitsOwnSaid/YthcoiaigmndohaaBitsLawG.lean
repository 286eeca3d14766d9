/-
  The law BitsOwn: its walk.
-/
import Derived.Test.YthcoiaigmndohaaBitsLawF
namespace Go.Proofs.Ythcoiaigmndohaa
open Go.RowKit BitM

theorem ofBytes_snoc : ∀ (l : List Int) (z : Int), ofBytes (l ++ [z]) = ofBytes l + z.toNat * 2 ^ (8 * l.length)
  | [], z => by simp [ofBytes]
  | y :: r, z => by
    simp only [List.cons_append, ofBytes, ofBytes_snoc r z, List.length_cons]
    have e : 2 ^ (8 * (r.length + 1)) = 256 * 2 ^ (8 * r.length) := by
      rw [Nat.mul_add, Nat.pow_add, Nat.mul_comm]
    rw [e, Nat.mul_add, Nat.add_assoc, Nat.mul_left_comm 256]

theorem numAt_byte {L : List Int} {i : Nat} (hL : ∀ z ∈ L, 0 ≤ z ∧ z < 256) (hi : i < L.length) : ((numAt L (8 * i) 8 : Nat) : Int) = L[i] := by
  rw [← byte_of L i hL hi]
  unfold numAt byteN
  rw [pow256]

theorem put8 (B p : Nat) (x : Nat) (w : World) (v : Value) (N n : Nat) (hx : x < 256) (hn : n ≤ 100000) (hN : Wr B p w v N n) (hB : B ≤ w.heap.size) :
    Calls Try.prog 15 #[.pointer (some ⟨p, 0, none⟩), .int .u64 x, .int .i64 8] w fun e w' => e = .returned (.int .i64 0) ∧ ∃ v', Wr B p w' v' (N + x * 2 ^ n) (n + 8) ∧ Moves p v w v' w' :=
  put_ok B p x 8 w v N n (by unfold Fits; omega) (by decide) (by unfold fitsB; exact decide_eq_true hx) hn hN hB

theorem get8 (B p : Nat) (w : World) (v : Value) (L : List Int) (a : Nat) (h : Rd B p w v L a) (hs : a + 8 ≤ 8 * L.length) : Calls Try.prog 26 #[.pointer (some ⟨p, 0, none⟩), .int .i64 8] w fun e w' => e = .returned (.tuple #[.int .u64 (numAt L a 8 : Nat), .int .i64 0]) ∧ Rd B p w' v L (a + 8) ∧ Keeps (fun i => i = p) w w' :=
  get_ok B p 8 w v L a h (by decide) hs

theorem In.at_ {w : World} {A : Option Addr} {c : Nat} {L : List Int} (h : In w A c L) {j : Nat} (hj : j < L.length) : ∃ b off, A = some ⟨b, off, none⟩ ∧ b < w.heap.size ∧ w.cell? ⟨b, off + j, none⟩ = some (.int .u8 L[j]) := by
  obtain ⟨b, off, u, rfl, hb, hx, hc⟩ := h.row.at_ hj
  have : u = .int .u8 L[j] := by
    rw [List.getElem?_map, List.getElem?_eq_getElem hj] at hx
    injection hx with hx
    exact hx.symm
  exact ⟨b, off, rfl, hb, this ▸ hc⟩

set_option maxRecDepth 100000 in
set_option maxHeartbeats 6400000 in
theorem bitsOwn_walk (L : List Int) (A : Option Addr) (c : Nat) (w : World) (hrow : Row w w.heap.size A L.length (L.map (.int .u8))) (hc : L.length ≤ c) (hm : c ≤ maxLen) (hwf : ∀ z ∈ L, (Lit.int .u8 z).wf = true) (hnil : A = none → c = 0) :
    Calls Try.prog 8 #[.slice A L.length c] w fun e w' => e = .returned (.bool true) ∧ Below w.heap.size w w' := by
  have hlm : L.length ≤ maxLen := Nat.le_trans hc hm
  unfold maxLen at hlm
  by_cases hl : 100 < L.length
  · clear hrow hwf hnil hm
    go_enter Try.func8, Try.ntmps8
    go_wp2
    go_ret
    exact ⟨rfl, Below.refl _ _⟩
  · obtain ⟨hI, hL⟩ := In.came hrow hwf hnil (by omega)
    have hl2 : L.length ≤ 100 := by omega
    have HL := Lib.hid hL
    clear hrow hc hm hwf hnil hlm hL
    go_enter Try.func8, Try.ntmps8
    go_wp2_with fail
    refine (newWriter_any _).mono ?_
    rintro e w1 ⟨rfl, hw1⟩
    have hk1 : Keeps (fun _ => False) w w1 := by rw [hw1]; exact (Keeps.refl _ w).alloc _
    have hwr1 : Wr w.heap.size w.heap.size w1 (.slice none 0 0) 0 0 := by
      rw [hw1]
      exact ⟨Blk.new _ _ _, World.ownsRow_nil _ _ _ _, by decide⟩
    have HWR1 := Lib.hid hwr1
    clear hw1 hwr1
    go_wp2_with fail
    go_loopw [4] (fun x wr => ∃ (j : Nat) (v : Value), j ≤ L.length ∧ x = .int .i64 j ∧ Wr w.heap.size w.heap.size wr v (ofBytes (L.take j)) (8 * j) ∧ Keeps (fun _ => False) w wr) (fun x _ => L.length - (intOf x).toNat)
    case atStart => exact ⟨0, _, Nat.zero_le _, rfl, by simpa [ofBytes] using HWR1.out, hk1⟩
    case round =>
      obtain ⟨j, v, hj, rfl, hwr, hkr⟩ := hrel
      have HWR := Lib.hid hwr
      clear hwr
      by_cases hlt : j < L.length
      · obtain ⟨b, off, rfl, hb, hcell⟩ := hI.at_ hlt
        have hz := HL.out _ (List.getElem_mem hlt)
        have hsn := ofBytes_snoc (L.take j) L[j]
        rw [← List.take_succ_eq_append_getElem hlt, List.length_take, Nat.min_eq_left hj] at hsn
        obtain ⟨zi, hzi⟩ : ∃ zi, L[j] = zi := ⟨_, rfl⟩
        rw [hzi] at hcell hz hsn
        obtain ⟨z, rfl⟩ : ∃ z : Nat, zi = (z : Int) := ⟨zi.toNat, by omega⟩
        rw [Int.toNat_natCast] at hsn
        have hz8 : z < 256 := by omega
        have hji : (j : Int) < (L.length : Int) := by omega
        have j0 : (0 : Int) ≤ (j : Int) := by omega
        have r1 : wr.cell? ⟨b, off + j, none⟩ = some (.int .u8 z) := (hkr.cell (p := ⟨b, off + j, none⟩) hb (fun h => h)).trans hcell
        have huw := u64_wrap_id (x := z) (by unfold Fits; omega)
        have HS := Lib.hid hsn
        clear hsn hzi
        go_wp2_with fail
        refine (put8 w.heap.size w.heap.size z wr v _ _ hz8 (by omega) HWR.out hkr.size).mono ?_
        rintro e w2 ⟨rfl, v2, hwr2, hmv⟩
        have HW2 := Lib.hid hwr2
        clear hwr2
        go_wp2_with fail
        go_roundw
        case rel =>
          refine ⟨j + 1, v2, by omega, by go_num, ?_, ?_⟩
          · rw [HS.out, Nat.mul_succ]
            exact HW2.out
          · refine hkr.trans' hmv.keeps ?_
            rintro i hi (h | h)
            · omega
            · have := (HWR.out.own.lt i h).1; omega
        case measure => simp [intOf]; omega
      · obtain rfl : j = L.length := by omega
        have hwr := HWR.out
        rw [List.take_of_length_le (Nat.le_refl _)] at hwr
        have hlen : (8 * L.length + 7) / 8 = L.length := by omega
        have hbl : bytesL (ofBytes L) L.length = L := bytesL_of L HL.out
        have HWX := Lib.hid hwr
        clear hwr HWR
        go_wp2_with fail
        refine (bytes_any w.heap.size w.heap.size _ v _ _ (by omega) HWX.out).mono ?_
        rw [hlen, hbl]
        rintro e w2 ⟨u, rfl, hu, hkA⟩
        have hkr2 := hkr.trans hkA
        have HB := Lib.hid hbl
        have HLEN := Lib.hid hlen
        have HW2 := Lib.hid (HWX.out.quiet hkA)
        have hwp : w.heap.size < wr.heap.size := HWX.out.blk.lt
        have hvp : ∀ k, v.ownBlock = some k → k < wr.heap.size := fun k hk => (HWX.out.own.lt k hk).2
        obtain ⟨B3, hB3⟩ : ∃ B3, wr.heap.size = B3 := ⟨_, rfl⟩
        rw [hB3] at hwp hvp hu
        have HU := Lib.hid hu
        clear hbl hu hlen hB3
        go_wp2_with fail
        go_loopw [6] (fun x wx => ∃ (i : Nat) (K : List Int), i ≤ L.length ∧ x = .int .i64 i ∧ K.length = L.length ∧ wx.ownsRow B3 5 1 u L.length (K.map (Value.int .u8)) ∧ Keeps (fun k => u.ownBlock = some k) w2 wx) (fun x _ => L.length - (intOf x).toNat)
        case atStart => exact ⟨0, L, Nat.zero_le _, rfl, rfl, HU.out, Keeps.refl _ _⟩
        case round =>
          obtain ⟨i, K, hi, rfl, hKl, hown, hk3⟩ := hrel
          have HO := Lib.hid hown
          clear hown
          by_cases hit : i < L.length
          · obtain ⟨g, cap, hu6, _, hg2⟩ := HO.out.form (by omega)
            subst hu6
            have hiK : i < K.length := by omega
            obtain ⟨z, hz⟩ : ∃ z, K[i] = z := ⟨_, rfl⟩
            have q1 : wr.cell? ⟨g, i, none⟩ = some (.int .u8 z) := by
              rw [HO.out.cellAt i (by omega), List.getElem?_map, List.getElem?_eq_getElem hiK, hz]
              rfl
            have q2 : wr.frozen? ⟨g, i, none⟩ = false := HO.out.frozenAt i
            have hii : (i : Int) < (L.length : Int) := by omega
            have i0 : (0 : Int) ≤ (i : Int) := by omega
            clear hz
            go_wp2_with fail
            go_roundw
            case rel =>
              have hst := (HO.out.stored i (.int .u8 (IntKind.u8.wrap (z + 1)))).1
              rw [← List.map_set] at hst
              exact ⟨i + 1, K.set i (IntKind.u8.wrap (z + 1)), by omega, by go_num, by simpa using hKl, hst, hk3.setCell (p := ⟨g, i, none⟩) (.inl rfl) _⟩
            case measure => simp [intOf]; omega
          · obtain rfl : i = L.length := by omega
            obtain ⟨A6, c6, hu6⟩ := own_slice HO.out
            subst hu6
            have hW3 : Wr w.heap.size w.heap.size wr v (ofBytes L) (8 * L.length) := by
              refine ⟨HW2.out.blk.keep hk3 ?_, own_keep HW2.out.own hk3 ?_, HW2.out.lt⟩
              · intro h
                have := (HU.out.lt _ h).1
                omega
              · intro k hk h
                have h1 := (HU.out.lt _ h).1
                have h2 := hvp k hk
                omega
            have hkr4 : Keeps (fun _ => False) w wr := hkr2.trans' hk3 (by intro k hk h; have := (HU.out.lt _ h).1; omega)
            have HW3 := Lib.hid hW3
            clear hW3
            go_wp2_with fail
            refine (bytes_any w.heap.size w.heap.size _ v _ _ (by omega) HW3.out).mono ?_
            rw [HLEN.out, HB.out]
            rintro e w5 ⟨u2, rfl, hu2, hk5⟩
            obtain ⟨A7, c7, rfl, hI7⟩ := In.of_own hu2 (by omega)
            have HU2 := Lib.hid hu2
            clear hu2
            go_wp2_with fail
            refine (newReader_any A7 c7 L _ hI7 HL.out).mono ?_
            rintro e w6 ⟨p2, v6, rfl, hp2, hrd, hk6⟩
            have hkr6 := (hkr4.trans hk5).trans hk6
            have hs1 := (hI7.keeps hk6).str
            have hs2 := (hI.keeps hkr6).str
            have HRD := Lib.hid hrd
            have HU3 := Lib.hid (own_keep HU2.out hk6 (fun _ _ h => h))
            have hvp6 : ∀ k, v6.ownBlock = some k → w5.heap.size ≤ k := fun k hk => (hrd.own.lt k hk).1
            have hup6 : ∀ k, (Value.slice A7 L.length c7).ownBlock = some k → k < w5.heap.size := fun k hk => (HU2.out.lt k hk).2
            have htt : ((strOfNums L).toList != (strOfNums L).toList) = false := by simp
            have hwr6 : w.heap.size ≤ wr.heap.size := hkr4.size
            clear hrd
            go_wp2_with fail
            obtain ⟨B6, hB6⟩ : ∃ B6, wr.heap.size = B6 := ⟨_, rfl⟩
            have HU4 := Lib.hid (hB6 ▸ HU3.out)
            rw [hB6] at hwr6
            go_loopw [9] (fun x wx => ∃ (i : Nat) (K : List Int), i ≤ L.length ∧ x = .int .i64 i ∧ K.length = L.length ∧ wx.ownsRow B6 5 1 (.slice A7 L.length c7) L.length (K.map (Value.int .u8)) ∧ Keeps (fun k => (Value.slice A7 L.length c7).ownBlock = some k) w6 wx) (fun x _ => L.length - (intOf x).toNat)
            case atStart => exact ⟨0, L, Nat.zero_le _, rfl, rfl, HU4.out, Keeps.refl _ _⟩
            case round =>
              obtain ⟨i, K, hi, rfl, hKl, hown, hk7⟩ := hrel
              have HO7 := Lib.hid hown
              clear hown
              by_cases hit : i < L.length
              · obtain ⟨g, cap, hu7, _, hg2⟩ := HO7.out.form (by omega)
                injection hu7 with hA7 _ hc7
                subst hA7
                subst hc7
                have hiK : i < K.length := by omega
                obtain ⟨z, hz⟩ : ∃ z, K[i] = z := ⟨_, rfl⟩
                have q1 : wr.cell? ⟨g, i, none⟩ = some (.int .u8 z) := by
                  rw [HO7.out.cellAt i (by omega), List.getElem?_map, List.getElem?_eq_getElem hiK, hz]
                  rfl
                have q2 : wr.frozen? ⟨g, i, none⟩ = false := HO7.out.frozenAt i
                have hii : (i : Int) < (L.length : Int) := by omega
                have i0 : (0 : Int) ≤ (i : Int) := by omega
                clear hz
                go_wp2_with fail
                go_roundw
                case rel =>
                  have hst := (HO7.out.stored i (.int .u8 (IntKind.u8.wrap (z + 1)))).1
                  rw [← List.map_set] at hst
                  exact ⟨i + 1, K.set i (IntKind.u8.wrap (z + 1)), by omega, by go_num, by simpa using hKl, hst, hk7.setCell (p := ⟨g, i, none⟩) (.inl rfl) _⟩
                case measure => simp [intOf]; omega
              · obtain rfl : i = L.length := by omega
                have hR7 : Rd w5.heap.size p2 wr v6 L 0 := by
                  refine ⟨HRD.out.blk.keep hk7 ?_, own_keep HRD.out.own hk7 ?_, HRD.out.le, HRD.out.len, HRD.out.byt⟩
                  · intro h
                    have := hup6 _ h
                    omega
                  · intro k hk h
                    have h1 := hup6 _ h
                    have h2 := hvp6 k hk
                    omega
                have hkr7 : Keeps (fun _ => False) w wr := hkr6.trans' hk7 (by intro k hk h; have := (HU4.out.lt _ h).1; omega)
                have hw5 : w.heap.size ≤ w5.heap.size := (hkr4.trans hk5).size
                have HR7 := Lib.hid hR7
                clear hR7
                go_wp2_with fail
                go_loopw [10] (fun x wx => ∃ i : Nat, i ≤ L.length ∧ x = .int .i64 i ∧ Rd w5.heap.size p2 wx v6 L (8 * i) ∧ Keeps (fun _ => False) w wx) (fun x _ => L.length - (intOf x).toNat)
                case atStart => exact ⟨0, Nat.zero_le _, rfl, HR7.out, hkr7⟩
                case round =>
                  obtain ⟨i, hi, rfl, hrd, hk8⟩ := hrel
                  have HRD8 := Lib.hid hrd
                  clear hrd
                  by_cases hit : i < L.length
                  · obtain ⟨b, off, rfl, hb, hcell⟩ := hI.at_ hit
                    have hval := numAt_byte HL.out hit
                    have hz := HL.out _ (List.getElem_mem hit)
                    obtain ⟨zi, hzi⟩ : ∃ zi, L[i] = zi := ⟨_, rfl⟩
                    rw [hzi] at hcell hval hz
                    obtain ⟨z, rfl⟩ : ∃ z : Nat, zi = (z : Int) := ⟨zi.toNat, by omega⟩
                    have hval2 : numAt L (8 * i) 8 = z := by omega
                    have hii : (i : Int) < (L.length : Int) := by omega
                    have i0 : (0 : Int) ≤ (i : Int) := by omega
                    have huw := u64_wrap_id (x := z) (by unfold Fits; omega)
                    have hxx : ((z : Int) != (z : Int)) = false := by simp
                    have HV := Lib.hid hval2
                    clear hval hval2 hzi
                    go_wp2_with fail
                    refine (get8 w5.heap.size p2 _ v6 L (8 * i) HRD8.out (by omega)).mono ?_
                    rw [HV.out]
                    rintro e w8 ⟨rfl, hrd8, hk9⟩
                    have hk10 : Keeps (fun _ => False) w w8 := hk8.trans' hk9 (by rintro i hi rfl; omega)
                    have r8 : w8.cell? ⟨b, off + i, none⟩ = some (.int .u8 z) := (hk10.cell (p := ⟨b, off + i, none⟩) hb (fun h => h)).trans hcell
                    have HRD9 := Lib.hid hrd8
                    clear hrd8
                    go_wp2_with fail
                    go_roundw
                    case rel => exact ⟨i + 1, by omega, by go_num, by rw [Nat.mul_succ]; exact HRD9.out, hk10⟩
                    case measure => simp [intOf]; omega
                  · obtain rfl : i = L.length := by omega
                    go_wp2_with fail
                    refine (awake_any _).mono ?_
                    rintro e w9 ⟨rfl, hk9⟩
                    go_wp2
                    go_ret
                    exact ⟨rfl, Below.of_keeps (hk8.trans hk9)⟩
end Go.Proofs.Ythcoiaigmndohaa
