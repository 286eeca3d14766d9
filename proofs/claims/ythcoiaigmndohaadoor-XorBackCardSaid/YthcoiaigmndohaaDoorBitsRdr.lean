/-
  The contracts of bytes.Clone, Writer.Bytes, NewReader, Reader.Left, Reader.Get, Need. Conditions: fewer than 100000 bytes.
-/
import Derived.Test.YthcoiaigmndohaaDoorBitsPut
import Derived.WalkSpells
import Derived.Deep.QuietTactic
import Derived.BigQuiet
import Derived.Lib.SliceRun
namespace Go.Proofs.YthcoiaigmndohaaDoor
open Go.RowKit BitM

/-- A slice of bytes L: its address, its capacity. -/
structure In (w : World) (A : Option Addr) (c : Nat) (L : List Int) : Prop where
  row : Row w w.heap.size A L.length (L.map (Value.int .u8))
  cap : A = none → c = 0
  le : L.length ≤ 100000

theorem own_keeps_of_below {w w' : World} (h : Below w.heap.size w w') (S : Nat → Prop) : Keeps S w w' := Keeps.of_below_size h S

set_option maxHeartbeats 800000 in
theorem clone_any (A : Option Addr) (c : Nat) (L : List Int) (w : World) (hI : In w A c L) :
    Calls Tryd.prog 38 #[.slice A L.length c] w fun e w' => ∃ v, e = .returned v ∧ w'.ownsRow w.heap.size 5 1 v L.length (L.map (Value.int .u8)) ∧ Keeps (fun _ => False) w w' := by
  obtain ⟨e0, he0, hz0, hz1, hz2⟩ := info_parts info5
  have hle := hI.le
  have hq : ∀ (w : World) (a : Option Addr) (n c : Nat), (binOp .eql 22 (.slice a n c) (.slice none 0 0)).run Tryd.prog w = .ok (.bool a.isNone) w := fun w a n c => Lib.run_eql_slice_nil w _ _ a n c 0 0 Tryd.underlying22
  cases A with
  | none =>
    have hn : L.length = 0 := by
      rcases Nat.eq_zero_or_pos L.length with h | h
      · exact h
      · obtain ⟨b, off, h1, _⟩ := hI.row.2 h
        cases h1
    obtain rfl := List.eq_nil_of_length_eq_zero hn
    obtain rfl := hI.cap rfl
    change Calls _ _ #[.slice none 0 0] _ _
    go_enter Tryd.func38, Tryd.ntmps38
    go_wp2
    go_ret
    exact ⟨_, rfl, World.ownsRow_nil _ _ _ _, Keeps.refl _ _⟩
  | some ad =>
    have hnews : ∀ j u, (L.map (Value.int .u8))[j]? = some u → w.cell? (ad.add j) = some u := by
      intro j u hu
      have hj : j < L.length := by
        rcases Nat.lt_or_ge j L.length with h | h
        · exact h
        · rw [List.getElem?_eq_none (by simpa using h)] at hu; cases hu
      obtain ⟨b, off, h1, _, h2⟩ := hI.row.2 (by omega)
      injection h1 with h1
      subst h1
      have := h2 j u hu
      unfold Addr.add
      by_cases h0 : j = 0
      · subst h0; simpa using this
      · simpa [h0] using this
    go_enter Tryd.func38, Tryd.ntmps38
    go_wp2_with (at_builtin; refine wpList_append_own_at _ rfl _ _ 22 rfl w.heap.size 5 e0 (.int .u8 0) 1 1 Tryd.underlying22 he0 hz0 hz1 hz2 rfl (by decide) (.slice (some ⟨w.heap.size, 0, none⟩) 0 0) 0 [] rfl (World.ownsRow_lit w #[] 0 (Nat.le_refl _) (Nat.zero_le _) rfl) ad L.length c (L.map (Value.int .u8)) rfl (by simp) (fun j u hu => (World.cell?_alloc_lt _ _ _ (World.block_lt_of_cell? w _ (hnews j u hu))).trans (hnews j u hu)) (by simp [Value.oneCell']) (by unfold maxLen; omega) (by omega) (by simp) ?_; intro v1 w1 hown1 hgrow _ _)
    go_ret
    refine ⟨_, rfl, by simpa using hown1, ((Keeps.refl _ w).alloc _).grown hgrow (by intro k hk; right; simp only [Value.ownBlock, Option.some.injEq] at hk; omega)⟩

theorem In.of_own {w : World} {B : Nat} {v : Value} {L : List Int} (h : w.ownsRow B 5 1 v L.length (L.map (Value.int .u8))) (hl : L.length ≤ 100000) : ∃ A c, v = .slice A L.length c ∧ In w A c L := by
  rcases h.2 with ⟨rfl, hx⟩ | ⟨g, cap, cur, rfl, _⟩
  · have hL : L = [] := by simpa using hx
    subst hL
    exact ⟨none, 0, rfl, ⟨⟨rfl, fun hn => by simp at hn⟩, fun _ => rfl, hl⟩⟩
  · exact ⟨_, _, rfl, ⟨Row.of_own h, fun h => (nomatch h), hl⟩⟩

theorem In.keep {w w' : World} {A : Option Addr} {c : Nat} {L : List Int} (h : In w A c L) (hb : Below w.heap.size w w') : In w' A c L :=
  ⟨(h.row.below hb).mono hb.size, h.cap, h.le⟩

theorem bytes_any (B p : Nat) (w : World) (v : Value) (N n : Nat) (hn : n ≤ 101000) (hN : Wr B p w v N n) :
    Calls Tryd.prog 32 #[.pointer (some ⟨p, 0, none⟩)] w fun e w' => ∃ u, e = .returned u ∧ w'.ownsRow w.heap.size 5 1 u ((n + 7) / 8) ((bytesL N ((n + 7) / 8)).map (Value.int .u8)) ∧ Keeps (fun _ => False) w w' := by
  have ho := hN.own
  obtain ⟨k, hk⟩ : ∃ k, (n + 7) / 8 = k := ⟨_, rfl⟩
  rw [hk] at ho ⊢
  obtain ⟨L, hL⟩ : ∃ L, bytesL N k = L := ⟨_, rfl⟩
  have hl : L.length = k := by rw [← hL, bytesL_len]
  rw [hL] at ho ⊢
  subst hl
  obtain ⟨A, c, rfl, hI⟩ := In.of_own ho (by omega)
  have c0 : w.cell? ⟨p, 0, none⟩ = some (.slice A L.length c) := hN.blk.cell 0
  clear hk hL
  go_enter Tryd.func32, Tryd.ntmps32
  go_wp2_with fail
  refine (clone_any A c L _ hI).mono ?_
  rintro e w' ⟨u, rfl, h1, h2⟩
  go_wp2
  go_ret
  exact ⟨u, rfl, h1, h2⟩

/-- The reader at block p of bytes L; at_ bits were read. -/
structure Rd (B p : Nat) (w : World) (v : Value) (L : List Int) (at_ : Nat) : Prop where
  blk : Blk w p 76 #[v, .int .i64 at_]
  own : w.ownsRow B 5 1 v L.length (L.map (Value.int .u8))
  le : at_ ≤ 8 * L.length
  len : L.length ≤ 100000
  byt : ∀ z ∈ L, 0 ≤ z ∧ z < 256

theorem Rd.quiet {B p : Nat} {w w' : World} {v : Value} {L : List Int} {a : Nat} (h : Rd B p w v L a) (k : Keeps (fun _ => False) w w') : Rd B p w' v L a :=
  ⟨h.blk.keep k (fun h => h), own_keep h.own k (fun _ _ h => h), h.le, h.len, h.byt⟩

theorem newReader_any (A : Option Addr) (c : Nat) (L : List Int) (w : World) (hI : In w A c L) (hL : ∀ z ∈ L, 0 ≤ z ∧ z < 256) :
    Calls Tryd.prog 21 #[.slice A L.length c] w fun e w' => ∃ p v, e = .returned (.pointer (some ⟨p, 0, none⟩)) ∧ w.heap.size ≤ p ∧ Rd w.heap.size p w' v L 0 ∧ Keeps (fun _ => False) w w' := by
  go_enter Tryd.func21, Tryd.ntmps21
  go_wp2_with fail
  refine (clone_any A c L _ hI).mono ?_
  rintro e w' ⟨u, rfl, h1, h2⟩
  obtain ⟨A', c', rfl, hI'⟩ := In.of_own h1 hI.le
  go_wp2
  go_ret
  have hk := h2.alloc (.cells #[.slice A' L.length c', .int .i64 0] 76)
  exact ⟨_, _, rfl, h2.size, ⟨Blk.new _ _ _, own_keep h1 ((Keeps.refl (fun _ => False) _).alloc _) (fun _ _ h => h), Nat.zero_le _, hI.le, hL⟩, hk⟩

theorem left_any (B p : Nat) (w : World) (v : Value) (L : List Int) (at_ : Nat) (h : Rd B p w v L at_) :
    Calls Tryd.prog 26 #[.pointer (some ⟨p, 0, none⟩)] w fun e w' => e = .returned (.int .i64 ((8 * L.length - at_ : Nat) : Int)) ∧ Keeps (fun _ => False) w w' := by
  obtain ⟨A, c, rfl, hI⟩ := In.of_own h.own h.len
  have c0 : w.cell? ⟨p, 0, none⟩ = some (.slice A L.length c) := h.blk.cell 0
  have c1 : w.cell? ⟨p, 1, none⟩ = some (.int .i64 at_) := h.blk.cell 1
  have l1 := h.le
  have l2 := h.len
  go_enter Tryd.func26, Tryd.ntmps26
  go_upto_region 1 with fail
  go_quiet (fail)
  go_wp2
  go_ret
  exact ⟨congrArg (fun k => Ending.returned (.int .i64 k)) (by omega), (Keeps.refl _ w).drewN nq⟩

theorem get_wide (p : Addr) (k : Int) (hk : wideB k = false) (w : World) : Calls Tryd.prog 40 #[.pointer (some p), .int .i64 k] w fun e w' => e = .returned (.tuple #[.int .u64 0, .int .i64 6]) ∧ w = w' := by
  have HW := Lib.hid hk
  clear hk
  go_enter Tryd.func40, Tryd.ntmps40
  go_wp2_with fail
  refine (wide_any k _).mono ?_
  rw [HW.out]
  rintro e w' ⟨rfl, rfl⟩
  go_wp2
  go_ret2
  exact ⟨rfl, rfl⟩

theorem get_short (B p : Nat) (W : Nat) (w : World) (v : Value) (L : List Int) (at_ : Nat) (h : Rd B p w v L at_) (hW : W ≤ 64) (hs : 8 * L.length < at_ + W) : Calls Tryd.prog 40 #[.pointer (some ⟨p, 0, none⟩), .int .i64 W] w fun e w' => e = .returned (.tuple #[.int .u64 0, .int .i64 1]) ∧ Keeps (fun _ => False) w w' := by
  have hw : wideB W = true := by unfold wideB; simp; omega
  have HW := Lib.hid hw
  have hlt : ((8 * L.length - at_ : Nat) : Int) < (W : Int) := by have := h.le; omega
  clear hw
  go_enter Tryd.func40, Tryd.ntmps40
  go_wp2_with fail
  refine (wide_any W _).mono ?_
  rw [HW.out]
  rintro e w' ⟨rfl, rfl⟩
  go_wp2_with fail
  refine (left_any B p _ v L at_ h).mono ?_
  rintro e w' ⟨rfl, hk⟩
  go_wp2
  go_ret2
  exact ⟨rfl, hk⟩

/-- The number of W bits from at_ on. -/
def numAt (L : List Int) (at_ W : Nat) : Nat := ofBytes L / 2 ^ at_ % 2 ^ W

theorem u64_wrap_id {x : Nat} (h : Fits x) : IntKind.u64.wrap (x : Int) = (x : Int) := by
  have e0 : IntKind.u64.wrap (x : Int) = (x : Int) % 18446744073709551616 := rfl
  unfold Fits at h
  rw [e0]
  omega

theorem and_u64 {z a t : Nat} (hz : z < 256) (ht : t ≤ 8) : Go.bits .and .u64 (IntKind.u64.wrap ((z : Int) / 2 ^ a)) (IntKind.u64.wrap (IntKind.u64.wrap (2 ^ t) - 1)) = ((z / 2 ^ a % 2 ^ t : Nat) : Int) := by
  have hza : z / 2 ^ a ≤ z := Nat.div_le_self _ _
  have ht2 : 2 ^ t ≤ 2 ^ 8 := Nat.pow_le_pow_right (by decide) ht
  have ht0 : 0 < 2 ^ t := Nat.two_pow_pos t
  have e1 : ((z : Int) / 2 ^ a) = ((z / 2 ^ a : Nat) : Int) := by rw [Int.natCast_ediv, Int.natCast_pow]; rfl
  have e2 : ((2 : Int) ^ t) = ((2 ^ t : Nat) : Int) := by rw [Int.natCast_pow]; rfl
  have e3 : ((2 ^ t : Nat) : Int) - 1 = ((2 ^ t - 1 : Nat) : Int) := by omega
  rw [e1, e2, u64_wrap_id (by unfold Fits; omega), u64_wrap_id (by unfold Fits; omega), e3, u64_wrap_id (by unfold Fits; omega)]
  unfold Go.bits
  have hb : IntKind.u64.bits = 64 := rfl
  have ho : (BitVec.ofInt IntKind.u64.bits ((z / 2 ^ a : Nat) : Int) &&& BitVec.ofInt IntKind.u64.bits ((2 ^ t - 1 : Nat) : Int)).toNat = z / 2 ^ a % 2 ^ t := by
    rw [hb, BitVec.ofInt_natCast, BitVec.ofInt_natCast, BitVec.toNat_and, BitVec.toNat_ofNat, BitVec.toNat_ofNat, Nat.mod_eq_of_lt (by omega), Nat.mod_eq_of_lt (by omega), Nat.and_two_pow_sub_one_eq_mod]
  simp only [ho]
  have := Nat.mod_lt (z / 2 ^ a) ht0
  exact u64_wrap_id (by unfold Fits; omega)

theorem or_u64 {x y : Nat} (hx : Fits x) (hy : Fits y) : Go.bits .or .u64 (x : Int) (IntKind.u64.wrap (y : Int)) = ((x ||| y : Nat) : Int) := by
  rw [u64_wrap_id hy]
  unfold Go.bits
  have hb : IntKind.u64.bits = 64 := rfl
  have hx' := hx
  have hy' := hy
  unfold Fits at hx' hy'
  have ho : (BitVec.ofInt IntKind.u64.bits (x : Int) ||| BitVec.ofInt IntKind.u64.bits (y : Int)).toNat = x ||| y := by
    rw [hb, BitVec.ofInt_natCast, BitVec.ofInt_natCast, BitVec.toNat_or, BitVec.toNat_ofNat, BitVec.toNat_ofNat, Nat.mod_eq_of_lt (by omega), Nat.mod_eq_of_lt (by omega)]
  simp only [ho]
  exact u64_wrap_id (Nat.or_lt_two_pow (n := 64) hx hy)

set_option maxRecDepth 100000 in
set_option maxHeartbeats 3200000 in
theorem get_ok (B p : Nat) (W : Nat) (w : World) (v : Value) (L : List Int) (at_ : Nat) (h : Rd B p w v L at_) (hW : W ≤ 64) (hs : at_ + W ≤ 8 * L.length) : Calls Tryd.prog 40 #[.pointer (some ⟨p, 0, none⟩), .int .i64 W] w fun e w' => e = .returned (.tuple #[.int .u64 (numAt L at_ W : Nat), .int .i64 0]) ∧ Rd B p w' v L (at_ + W) ∧ Keeps (fun i => i = p) w w' := by
  have hw : wideB W = true := by unfold wideB; simp; omega
  have HW := Lib.hid hw
  have hlt : ¬ ((8 * L.length - at_ : Nat) : Int) < (W : Int) := by have := h.le; omega
  clear hw
  go_enter Tryd.func40, Tryd.ntmps40
  go_wp2_with fail
  refine (wide_any W _).mono ?_
  rw [HW.out]
  rintro e w' ⟨rfl, rfl⟩
  go_wp2_with fail
  refine (left_any B p _ v L at_ h).mono ?_
  rintro e w1 ⟨rfl, hk1⟩
  go_wp2_with fail
  have HL := Lib.hid hlt
  clear hlt
  generalize decide (8 * L.length - at_ < W) = bb
  go_loopw [6, 7] (fun x k wr => ∃ d : Nat, d ≤ W ∧ x = .int .u64 ((numAt L at_ d : Nat) : Int) ∧ k = .int .i64 d ∧ Rd B p wr v L (at_ + d) ∧ Keeps (fun i => i = p) w wr) (fun _ k _ => W - (intOf k).toNat)
  case atStart => exact ⟨0, Nat.zero_le _, by simp [numAt, Nat.mod_one], rfl, h.quiet hk1, hk1.mono (fun _ h => h.elim)⟩
  case round =>
    obtain ⟨d, hd, rfl, rfl, hr, hkr⟩ := hrel
    by_cases hlt : d < W
    · obtain ⟨m, hm⟩ : ∃ m, at_ + d = m := ⟨_, rfl⟩
      rw [hm] at hr
      obtain ⟨a, ha⟩ : ∃ a, m % 8 = a := ⟨_, rfl⟩
      obtain ⟨q, hq⟩ : ∃ q, m / 8 = q := ⟨_, rfl⟩
      have hml : m < 8 * L.length := by omega
      have hmq : m = 8 * q + a := by omega
      have ha8 : a < 8 := by omega
      have hai : (m : Int) % 8 = (a : Int) := by omega
      have hqi : (m : Int) / 8 = (q : Int) := by omega
      have hqL : q < L.length := by omega
      have hlen := hr.len
      obtain ⟨g, cap, rfl, _, _⟩ := hr.own.form (by omega)
      have c0 : wr.cell? ⟨p, 0, none⟩ = some (.slice (some ⟨g, 0, none⟩) L.length cap) := hr.blk.cell 0
      have c1 : wr.cell? ⟨p, 1, none⟩ = some (.int .i64 m) := hr.blk.cell 1
      have f1 : wr.frozen? ⟨p, 1, none⟩ = false := hr.blk.frozen 1
      obtain ⟨z, hz⟩ : ∃ z, byteN (ofBytes L) q = z := ⟨_, rfl⟩
      have e1 : wr.cell? ⟨g, q, none⟩ = some (.int .u8 z) := by
        rw [hr.own.cellAt q (by omega), List.getElem?_map, List.getElem?_eq_getElem hqL, ← byte_of L q hr.byt hqL, hz]
        rfl
      have hz8 : z < 256 := hz ▸ byteN_lt _ _
      have HD := Lib.hid hlt
      have HR := Lib.hid hr
      have HK := Lib.hid hkr
      have HM := Lib.hid hm
      have HA := Lib.hid ha
      have HQ := Lib.hid hq
      have HZ := Lib.hid hz
      have HMQ := Lib.hid hmq
      have HAI := Lib.hid hai
      have HQI := Lib.hid hqi
      clear hr hkr hm ha hq hz hmq hai
      have hdw : (d : Int) < (W : Int) := by omega
      obtain ⟨kk, hkk⟩ : ∃ kk, W - d = kk := ⟨_, rfl⟩
      have hki : (W : Int) - (d : Int) = (kk : Int) := by omega
      have HKK := Lib.hid hkk
      have HKI := Lib.hid hki
      clear hkk hki
      go_upto_region 8 with fail
      go_cut [8] from 20 to 67 (fun s wx => s = .int .i64 a ∧ wr = wx)
      case first =>
        go_wp2_with fail
        go_meet
        case rel => exact ⟨congrArg (Value.int .i64) HAI.out, rfl⟩
      case rest =>
        obtain ⟨rfl, rfl⟩ := hcut
        go_upto_region 9 with fail
        go_cut [9] from 20 to 67 (fun s wx => (∃ t : Nat, s = .int .i64 t ∧ 1 ≤ t ∧ a + t ≤ 8 ∧ t ≤ kk) ∧ wr = wx)
        case first =>
          have hk0 : 0 < kk := by have := HKK.out; have := HD.out; omega
          by_cases hmin : (W : Int) - (d : Int) < 8 - (a : Int)
          · go_wp2_with fail
            go_meet
            case rel =>
              have := HKI.out
              exact ⟨⟨kk, congrArg (Value.int .i64) this, by omega, by omega, by omega⟩, rfl⟩
          · go_wp2_with fail
            go_meet
            case rel =>
              have := HKI.out
              exact ⟨⟨8 - a, congrArg (Value.int .i64) (by omega), by omega, by omega, by omega⟩, rfl⟩
        case rest =>
          obtain ⟨⟨t, rfl, ht1, hat, htk⟩, rfl⟩ := hcut
          have ht8 : t ≤ 8 := by omega
          have ha8' : (a : Int) ≤ 8 := by omega
          have hqt : (m : Int).tdiv 8 = (q : Int) := by rw [Int.tdiv_eq_ediv_of_nonneg (by omega)]; exact HQI.out
          have q0 : (0 : Int) ≤ (q : Int) := by omega
          have q1 : (q : Int) < (L.length : Int) := by omega
          go_upto_region 10 with fail
          go_quiet (fail)
          rw [and_u64 hz8 ht8]
          obtain ⟨y, hy⟩ : ∃ y, z / 2 ^ a % 2 ^ t = y := ⟨_, rfl⟩
          obtain ⟨x, hx⟩ : ∃ x, numAt L at_ d = x := ⟨_, rfl⟩
          rw [hy, hx]
          have HY := Lib.hid hy
          have HX := Lib.hid hx
          clear hy hx
          have hd64 : (d : Int) ≤ 64 := by omega
          go_wp2_with fail
          have hdt : d + t ≤ W := by have := HKK.out; have := HD.out; omega
          have hxd : x < 2 ^ d := by rw [← HX.out]; exact Nat.mod_lt _ (Nat.two_pow_pos _)
          have hyt : y < 2 ^ t := by rw [← HY.out]; exact Nat.mod_lt _ (Nat.two_pow_pos _)
          have h64 : 2 ^ (d + t) ≤ 2 ^ 64 := Nat.pow_le_pow_right (by decide) (by omega)
          have hd2 : 2 ^ d ≤ 2 ^ 64 := Nat.pow_le_pow_right (by decide) (by omega)
          have hyd : y * 2 ^ d < 2 ^ (d + t) := by
            rw [Nat.pow_add, Nat.mul_comm (2 ^ d)]
            exact Nat.mul_lt_mul_of_pos_right hyt (Nat.two_pow_pos _)
          have hor := or_u64 (x := x) (y := y * 2 ^ d) (by unfold Fits; omega) (by unfold Fits; omega)
          have hci : ((y * 2 ^ d : Nat) : Int) = (y : Int) * 2 ^ d := by simp
          rw [hci] at hor
          have hpart : y = ofBytes L / 2 ^ at_ / 2 ^ d % 2 ^ t := by
            rw [← HY.out, ← HZ.out, ← HA.out, ← HQ.out, get_part (by have := HMQ.out; omega), ← HM.out, Nat.pow_add, Nat.div_div_eq_div_mul]
          have hsum : x ||| y * 2 ^ d = numAt L at_ (d + t) := by
            rw [hpart, ← HX.out]
            exact get_or
          have hb := ((HR.out.blk.drewN nq).set_ 1 (.int .i64 ((m : Int) + t)))
          have hae : at_ + (d + t) = m + t := by have := HM.out; omega
          refine ⟨⟨d + t, hdt, by rw [hor, hsum], by congr 1, ⟨?_, ?_, ?_, HR.out.len, HR.out.byt⟩, ?_⟩, ?_⟩
          · rw [hae]; simpa using hb
          · have hne : (Value.slice (some ⟨g, 0, none⟩) L.length cap).ownBlock ≠ some p := HR.out.blk.own_ne HR.out.own (by decide)
            exact own_keep HR.out.own (((Keeps.refl (fun i => i = p) wr).drewN nq).setCell (p := ⟨p, 1, none⟩) (.inl rfl) _) (by rintro k hx rfl; exact hne hx)
          · omega
          · exact (HK.out.drewN nq).setCell (p := ⟨p, 1, none⟩) (.inl rfl) _
          · simp only [intOf]
            omega
    · obtain rfl : d = W := by omega
      go_wp2
      go_ret2
      exact ⟨rfl, hr, hkr⟩
end Go.Proofs.YthcoiaigmndohaaDoor
