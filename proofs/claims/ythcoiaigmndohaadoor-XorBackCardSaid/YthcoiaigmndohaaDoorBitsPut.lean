/-
  The contract of Writer.Put. Conditions: the number fits 64 bits; fewer than 2^40 bits were written.
-/
import Derived.Test.YthcoiaigmndohaaDoorBitsBase
import Derived.Test.YthcoiaigmndohaaDoorMoves
import Derived.Deep.CutRange
import Derived.StillTailTactics
import Derived.Deep.AppendLies
namespace Go.Proofs.YthcoiaigmndohaaDoor
open Go.RowKit BitM

/-- The writer at block p: n bits, the number N (its slice is v, in blocks from B on). -/
structure Wr (B p : Nat) (w : World) (v : Value) (N n : Nat) : Prop where
  blk : Blk w p 82 #[v, .int .i64 n]
  own : w.ownsRow B 5 1 v ((n + 7) / 8) ((bytesL N ((n + 7) / 8)).map (Value.int .u8))
  lt : N < 2 ^ n

theorem Wr.quiet {B p : Nat} {w w' : World} {v : Value} {N n : Nat} (h : Wr B p w v N n) (k : Keeps (fun _ => False) w w') : Wr B p w' v N n :=
  ⟨h.blk.keep k (fun h => h), own_keep h.own k (fun _ _ h => h), h.lt⟩

theorem or_u8 {z y : Nat} (hz : z < 256) : Go.bits .or .u8 (z : Int) (IntKind.u64.wrap (y : Int) % 256) = ((z ||| y % 256 : Nat) : Int) := by
  have e0 : IntKind.u64.wrap (y : Int) = (y : Int) % 18446744073709551616 := rfl
  have e : IntKind.u64.wrap (y : Int) % 256 = ((y % 256 : Nat) : Int) := by rw [e0]; omega
  have hy : y % 256 < 256 := Nat.mod_lt _ (by decide)
  rw [e]
  unfold Go.bits
  have hb : IntKind.u8.bits = 8 := rfl
  have ho : (BitVec.ofInt IntKind.u8.bits (z : Int) ||| BitVec.ofInt IntKind.u8.bits ((y % 256 : Nat) : Int)).toNat = z ||| y % 256 := by
    rw [hb, BitVec.ofInt_natCast, BitVec.ofInt_natCast, BitVec.toNat_or, BitVec.toNat_ofNat, BitVec.toNat_ofNat, Nat.mod_eq_of_lt (by simpa using hz), Nat.mod_eq_of_lt (by simpa using hy)]
  simp only [ho]
  have hlt : z ||| y % 256 < 256 := Nat.or_lt_two_pow (n := 8) hz hy
  show ((z ||| y % 256 : Nat) : Int) % 256 = _
  omega

theorem info5 : (Tryd.prog.info? 5).map (fun i => (i.zero, i.size, i.bytes)) = some (some (.int .u8 0), 1, 1) := by kernel_rfl

theorem put_wide (p : Addr) (x : Nat) (k : Int) (hk : wideB k = false) (w : World) : Calls Tryd.prog 68 #[.pointer (some p), .int .u64 x, .int .i64 k] w fun e w' => e = .returned (.int .i64 6) ∧ w = w' := by
  have HW := Lib.hid hk
  clear hk
  go_enter Tryd.func68, Tryd.ntmps68
  go_wp2_with fail
  refine (wide_any k _).mono ?_
  rw [HW.out]
  rintro e w' ⟨rfl, rfl⟩
  go_wp2
  go_ret
  exact ⟨rfl, rfl⟩

theorem put_range (p : Addr) (x k : Nat) (hx : Fits x) (hk : k ≤ 64) (hf : fitsB x k = false) (w : World) : Calls Tryd.prog 68 #[.pointer (some p), .int .u64 x, .int .i64 k] w fun e w' => e = .returned (.int .i64 4) ∧ w = w' := by
  have hw : wideB k = true := by unfold wideB; simp; omega
  have HW := Lib.hid hw
  have HF := Lib.hid hf
  clear hw hf
  go_enter Tryd.func68, Tryd.ntmps68
  go_wp2_with fail
  refine (wide_any k _).mono ?_
  rw [HW.out]
  rintro e w' ⟨rfl, rfl⟩
  go_wp2_with fail
  refine (fits_any x k hx hk _).mono ?_
  rw [HF.out]
  rintro e w' ⟨rfl, rfl⟩
  go_wp2
  go_ret
  exact ⟨rfl, rfl⟩

set_option maxRecDepth 100000 in
set_option maxHeartbeats 3200000 in
theorem put_ok (B p : Nat) (X W : Nat) (w : World) (v : Value) (N n : Nat) (hX : Fits X) (hW : W ≤ 64) (hf : fitsB X W = true) (hn : n ≤ 100000) (hN : Wr B p w v N n) (hB : B ≤ w.heap.size) :
    Calls Tryd.prog 68 #[.pointer (some ⟨p, 0, none⟩), .int .u64 X, .int .i64 W] w fun e w' => e = .returned (.int .i64 0) ∧ ∃ v', Wr B p w' v' (N + X * 2 ^ n) (n + W) ∧ Moves p v w v' w' := by
  obtain ⟨e0, he0, hz0, hz1, hz2⟩ := info_parts info5
  have hw : wideB W = true := by unfold wideB; simp; omega
  have hXW : X < 2 ^ W := by simpa [fitsB] using hf
  have HW := Lib.hid hw
  have HF := Lib.hid hf
  have HX := Lib.hid hXW
  have HN := Lib.hid hN
  clear hw hf hXW hN
  go_enter Tryd.func68, Tryd.ntmps68
  go_wp2_with fail
  refine (wide_any W _).mono ?_
  rw [HW.out]
  rintro e w' ⟨rfl, rfl⟩
  go_wp2_with fail
  refine (fits_any X W hX hW _).mono ?_
  rw [HF.out]
  rintro e w' ⟨rfl, rfl⟩
  go_wp2_with fail
  have HX64 := Lib.hid hX
  clear hX
  go_loopw [1, 2] (fun x k wr => ∃ (d : Nat) (v' : Value), d ≤ W ∧ x = .int .u64 ((X / 2 ^ d : Nat) : Int) ∧ k = .int .i64 ((W - d : Nat) : Int) ∧ Wr B p wr v' (N + X % 2 ^ d * 2 ^ n) (n + d) ∧ Moves p v w v' wr) (fun _ k _ => (intOf k).toNat)
  case atStart => exact ⟨0, v, Nat.zero_le _, by simp, by simp, by simpa [Nat.mod_one] using HN.out, Moves.refl _ _ _⟩
  case round =>
    obtain ⟨d, v1, hd, rfl, rfl, hwr, hmv⟩ := hrel
    by_cases hlt : d < W
    · obtain ⟨r, hr⟩ : ∃ r, X / 2 ^ d = r := ⟨_, rfl⟩
      obtain ⟨m, hm⟩ : ∃ m, n + d = m := ⟨_, rfl⟩
      obtain ⟨M, hM⟩ : ∃ M, N + X % 2 ^ d * 2 ^ n = M := ⟨_, rfl⟩
      obtain ⟨kk, hkk⟩ : ∃ kk, W - d = kk := ⟨_, rfl⟩
      rw [hr, hkk]
      rw [hM, hm] at hwr
      have hmle : m ≤ 101000 := by omega
      have hk0 : 0 < (kk : Int) := by omega
      have hk64 : kk ≤ 64 := by omega
      have hr64 : Fits r := by
        have h1 : X / 2 ^ d ≤ X := Nat.div_le_self _ _
        have h2 := HX64.out
        unfold Fits at *
        omega
      have c1 : wr.cell? ⟨p, 1, none⟩ = some (.int .i64 m) := hwr.blk.cell 1
      obtain ⟨a, ha⟩ : ∃ a, m % 8 = a := ⟨_, rfl⟩
      obtain ⟨q, hq⟩ : ∃ q, m / 8 = q := ⟨_, rfl⟩
      have hmq : m = 8 * q + a := by omega
      have ha8 : a < 8 := by omega
      have hai : (m : Int) % 8 = (a : Int) := by omega
      have HR64 := Lib.hid hr64
      have HR := Lib.hid hr
      have HM := Lib.hid hM
      have HMM := Lib.hid hm
      have HKK := Lib.hid hkk
      have HWR := Lib.hid hwr
      have HMV := Lib.hid hmv
      have HQ := Lib.hid hmq
      clear hr hM hm hkk hwr hmv ha hq hmq hr64
      have c0 : wr.cell? ⟨p, 0, none⟩ = some v1 := HWR.out.blk.cell 0
      have f0 : wr.frozen? ⟨p, 0, none⟩ = false := HWR.out.blk.frozen 0
      go_upto_if 26 with fail
      have HAI := Lib.hid hai
      clear hai
      go_cut [7] from 18 to 71 (fun at_ wc => at_ = .int .i64 a ∧ ∃ g cap, Blk wc p 82 #[.slice (some ⟨g, 0, none⟩) (q + 1) cap, .int .i64 m] ∧ wc.ownsRow B 5 1 (.slice (some ⟨g, 0, none⟩) (q + 1) cap) (q + 1) ((bytesL M (q + 1)).map (Value.int .u8)) ∧ Moves p v1 wr (.slice (some ⟨g, 0, none⟩) (q + 1) cap) wc)
      case first =>
        by_cases ha0 : a = 0
        · subst ha0
          have hown := HWR.out.own
          have hlen : (m + 7) / 8 = q := by have := HQ.out; omega
          have hMq := HWR.out.lt
          rw [HQ.out] at hMq
          have hmore := bytes_more hMq
          have hql : q ≤ 101000 := by have := HQ.out; omega
          rw [hlen] at hown
          have hBs : B ≤ wr.heap.size := Nat.le_trans hB HMV.out.keeps.size
          have hpw := HWR.out.blk.lt
          have hpv : v1.ownBlock ≠ some p := HWR.out.blk.own_ne hown (by decide)
          have HO := Lib.hid hown
          have HMO := Lib.hid hmore
          clear hown hlen hMq hmore
          go_wp2_with (at_builtin; refine wpList_append_lies _ rfl _ _ 22 rfl B 5 e0 (.int .u8 0) 1 1 Tryd.underlying22 he0 hz0 hz1 hz2 rfl (by decide) v1 q _ rfl (HO.out.alloc _) ⟨wr.heap.size, 0, none⟩ 1 1 [.int .u8 0] rfl rfl (World.news_of_block (cs := #[.int .u8 0]) (t := 5) (fr := (0, 0)) (heap_alloc_new wr _)) (by simp [Value.oneCell']) (by omega) (by unfold maxLen; omega) (by omega) (by simp; omega) _ rfl ?_; intro g cap w1 hown1 hgrow hat hlt1; have fz : w1.frozen? ⟨p, 0, none⟩ = false := (hgrow.frozen_far ⟨p, 0, none⟩ ((HWR.out.blk.alloc _).lt) (Ne.symm hpv)).trans ((HWR.out.blk.alloc _).frozen 0); have fc : w1.cell? ⟨p, 0, none⟩ = some v1 := (hgrow.cell_far ⟨p, 0, none⟩ ((HWR.out.blk.alloc _).lt) (Ne.symm hpv)).trans ((HWR.out.blk.alloc _).cell 0))
          have hp1 : p < w1.heap.size := Nat.lt_of_lt_of_le (HWR.out.blk.alloc (.cells #[.int .u8 0] 5)).lt hgrow.size
          have hb1 : Blk w1 p 82 #[v1, .int .i64 m] := (hgrow.block p (HWR.out.blk.alloc _).lt (Ne.symm hpv)).trans (HWR.out.blk.alloc _)
          have hgp : g ≠ p := by
            rintro rfl
            exact hb1.own_ne hown1 (by decide) rfl
          go_meet
          case rel =>
            have hk := (((Keeps.refl (fun i => i = p ∨ v1.ownBlock = some i) wr).alloc (.cells #[.int .u8 0] 5)).grown hgrow (fun k hk => .inl (.inr hk))).setCell (p := ⟨p, 0, none⟩) (.inl (.inl rfl)) (.slice (some ⟨g, 0, none⟩) (q + 1) cap)
            refine ⟨congrArg (Value.int .i64) HAI.out, g, cap, by simpa using hb1.set_ 0 (.slice (some ⟨g, 0, none⟩) (q + 1) cap), ?_, hk, ?_⟩
            · have hmm := HMO.out
              have : List.map (Value.int .u8) (bytesL M (q + 1)) = List.map (Value.int .u8) (bytesL M q) ++ [Value.int .u8 0] := by rw [← hmm]; simp
              rw [this]
              exact own_keep hown1 ((Keeps.refl (fun i => i = p) _).setCell (p := ⟨p, 0, none⟩) (.inl rfl) _) (by rintro k hx rfl; exact hgp (by simpa [Value.ownBlock] using hx))
            · intro i hi
              have hig : g = i := by simpa [Value.ownBlock] using hi
              subst hig
              rcases hat with h | h
              · exact .inl h
              · right; rw [h]; simp
        · have hab : ((a : Int) == 0) = false := by simp; omega
          have hown := HWR.out.own
          have hlen : (m + 7) / 8 = q + 1 := by have := HQ.out; omega
          rw [hlen] at hown
          obtain ⟨g, cap, rfl, _, _⟩ := hown.form (by omega)
          have HO := Lib.hid hown
          clear hown hlen ha0
          go_wp2_with fail
          go_meet
          case rel => exact ⟨congrArg (Value.int .i64) HAI.out, g, cap, HWR.out.blk, HO.out, Moves.refl _ _ _⟩
      case rest =>
        obtain ⟨rfl, g, cap, bw, how, hm2⟩ := hcut
        have hgl : g < wc.heap.size := (how.lt g rfl).2
        have d0 : wc.cell? ⟨p, 0, none⟩ = some (.slice (some ⟨g, 0, none⟩) (q + 1) cap) := bw.cell 0
        have d1 : wc.cell? ⟨p, 1, none⟩ = some (.int .i64 m) := bw.cell 1
        have e1 : wc.cell? ⟨g, q, none⟩ = some (.int .u8 (byteN M q)) := by
          rw [how.cellAt q (by omega), List.getElem?_map, bytesL_get (by omega)]; rfl
        have e2 : wc.frozen? ⟨g, q, none⟩ = false := how.frozenAt q
        have g1 : wc.frozen? ⟨p, 1, none⟩ = false := bw.frozen 1
        have hbq := byteN_lt M q
        obtain ⟨z, hz⟩ : ∃ z, byteN M q = z := ⟨_, rfl⟩
        rw [hz] at e1 hbq
        have q0 : (0 : Int) ≤ (q : Int) := by omega
        have q1 : (q : Int) < (q : Int) + 1 := by omega
        have ql : (q : Int) ≤ 101000 := by have := HQ.out; omega
        have HZ := Lib.hid hz
        have HBW := Lib.hid bw
        have HOW := Lib.hid how
        have HM2 := Lib.hid hm2
        clear bw how hm2 hz
        go_upto_region 9 with fail
        go_cut [8] from 18 to 71 (fun s wx => (∃ t : Nat, s = .int .i64 t ∧ 1 ≤ t ∧ a + t ≤ 8 ∧ t ≤ kk ∧ (t = 8 - a ∨ t = kk)) ∧ wc = wx)
        case first =>
          by_cases hmin : (kk : Int) < 8 - (a : Int)
          · go_wp2_with fail
            go_meet
            case rel => exact ⟨⟨kk, rfl, by omega, by omega, by omega, .inr rfl⟩, rfl⟩
          · go_wp2_with fail
            go_meet
            case rel => exact ⟨⟨8 - a, congrArg (Value.int .i64) (by omega), by omega, by omega, by omega, .inl rfl⟩, rfl⟩
        case rest =>
          obtain ⟨⟨t, rfl, ht1, hat, htk, htor⟩, rfl⟩ := hcut
          have HTOR := Lib.hid htor
          clear htor
          go_upto_region 10 with fail
          have hwq : IntKind.i64.wrap (q : Int) = (q : Int) := IntWalk.i64_in _ ⟨by omega, by omega⟩
          go_still_tail 18, (by kernel_rfl)
          clear hwq
          change wpList _ _ _ _ _ wc.drew
          have hpg : p ≠ g := fun e => HBW.out.own_ne HOW.out (by decide) (by rw [← e]; rfl)
          have k1 : ∀ u, (wc.setCell ⟨g, q, none⟩ u).cell? ⟨p, 1, none⟩ = some (.int .i64 m) := fun u => (HBW.out.far (p := ⟨g, q, none⟩) hpg u).cell 1
          have k2 : ∀ u, (wc.setCell ⟨g, q, none⟩ u).frozen? ⟨p, 1, none⟩ = false := fun u => (HBW.out.far (p := ⟨g, q, none⟩) hpg u).frozen 1
          go_wp2_with fail
          have hor := or_u8 (y := r * 2 ^ a) hbq
          have hci : ((r * 2 ^ a : Nat) : Int) = (r : Int) * 2 ^ a := by simp
          rw [hci] at hor
          have hX2 : X / 2 ^ d / 2 ^ t = X / 2 ^ (d + t) := by rw [Nat.div_div_eq_div_mul, ← Nat.pow_add]
          have hNM := HWR.out.lt
          rw [HQ.out] at hNM
          have hrt : t = 8 - a ∨ r < 2 ^ t := by
            rcases HTOR.out with h | h
            · exact .inl h
            · right
              rw [h, ← HKK.out, ← HR.out, Nat.div_lt_iff_lt_mul (Nat.two_pow_pos _), ← Nat.pow_add]
              have : W - d + d = W := by omega
              rw [this]
              exact HX.out
          have hstep := bytes_step hNM ht1 hat hrt
          rw [HZ.out, ← HQ.out] at hstep
          have hst := HOW.out.stored q (.int .u8 ((z ||| r * 2 ^ a % 256 : Nat) : Int))
          rw [← List.map_set, hstep] at hst
          have hkeep := ((Keeps.refl (fun i => i = p ∨ (Value.slice (some ⟨g, 0, none⟩) (q + 1) cap).ownBlock = some i) wc).setCell (p := ⟨g, q, none⟩) (.inl (.inr rfl)) (.int .u8 ((z ||| r * 2 ^ a % 256 : Nat) : Int))).setCell (p := ⟨p, 1, none⟩) (.inl (.inl rfl)) (.int .i64 ((m : Int) + t))
          have hlen : (m + t + 7) / 8 = q + 1 := by have := HQ.out; omega
          have hpu := put_two (X := X) (N := N) (n := n) (d := d) (s := t)
          rw [HM.out, HR.out, HMM.out] at hpu
          have em : n + (d + t) = m + t := by have := HMM.out; omega
          refine ⟨⟨d + t, .slice (some ⟨g, 0, none⟩) (q + 1) cap, by have := HKK.out; omega, ?_, ?_, ?_, ?_⟩, ?_⟩
          · congr 1
            rw [← hX2, HR.out, Int.natCast_ediv, Int.natCast_pow]
            rfl
          · congr 1
            have := HKK.out
            omega
          · rw [hor]
            refine ⟨?_, ?_, ?_⟩
            · have := ((HBW.out.far (p := ⟨g, q, none⟩) hpg (.int .u8 ((z ||| r * 2 ^ a % 256 : Nat) : Int))).set_ 1 (.int .i64 ((m : Int) + t))).drew
              rw [em]
              simpa using this
            · rw [em, hlen, ← hpu]
              exact own_keep hst.1 (((Keeps.refl (fun i => i = p) _).setCell (p := ⟨p, 1, none⟩) (.inl rfl) _).drew) (by rintro k hk rfl; exact hpg (by simpa [Value.ownBlock] using hk.symm))
            · rw [em, ← hpu]
              exact fit_step HWR.out.lt
          · rw [hor]
            exact (HMV.out.trans HM2.out).trans ⟨hkeep.drew, fun i hi => .inl hi⟩
          · simp [intOf]; omega
    · obtain rfl : d = W := by omega
      go_wp2
      go_ret
      have hx := Nat.mod_eq_of_lt HX.out
      rw [hx] at hwr
      exact ⟨rfl, v1, hwr, hmv⟩
end Go.Proofs.YthcoiaigmndohaaDoor
