/-
  The contract of the closure of xor.Decode. Conditions: at most 100000 bytes; 1 to 1024 reals.
-/
import Derived.Test.YthcoiaigmndohaaDoorXorSrc
namespace Go.Proofs.YthcoiaigmndohaaDoor
open Go.RowKit BitM

theorem rfrom_any (b : Nat) (h : Fits b) (w : World) : Calls Tryd.prog 23 #[.int .i64 (ibits b)] w fun e w' => e = .returned (.float .f64 b) ∧ w = w' := by
  have hb := fun (n : Int) (w : World) => call_from n w
  have hi := ibits_back h
  obtain ⟨i, hib⟩ : ∃ i, ibits b = i := ⟨_, rfl⟩
  rw [hib] at hi ⊢
  clear hib h
  go_enter Tryd.func23, Tryd.ntmps23
  go_wp2
  go_ret
  exact ⟨by simp, rfl⟩

/-- A slice's length. -/
def sliceLen : Value → Nat
  | .slice _ n _ => n
  | _ => 0

/-- What the closure answers. -/
def Dec1Post (w : World) (r : Nat × List Nat) (e : Ending) (w' : World) : Prop :=
  Keeps (fun _ => False) w w' ∧ ((r.1 = 0 ∧ ∃ v, e = .returned v ∧ w'.ownsRow w.heap.size 53 1 v r.2.length (fls r.2)) ∨ (r.1 ≠ 0 ∧ e = .panicked [{ v := thrownV r.1, recovered := false }]))

/-- What the closure works on: the reader at block p, the source at block g, the window behind it, the reals so far. -/
structure Dc (w0 : World) (p : Nat) (v : Value) (L : List Int) (g : Nat) (vw : Win) (z : Nat) (o : Value) (acc : List Nat) (w : World) : Prop where
  rd : Rd w0.heap.size p w v L z
  b3 : Blk w g 49 (srcC p)
  b4 : Blk w (g + 1) 51 (winC vw.t vw.e vw.is)
  own : w.ownsRow w0.heap.size 53 1 o acc.length (fls acc)
  keeps : Keeps (fun _ => False) w0 w
  hp : w0.heap.size ≤ p
  hg : w0.heap.size ≤ g

theorem Dc.quiet {w0 w w' : World} {p : Nat} {v : Value} {L : List Int} {g : Nat} {vw : Win} {z : Nat} {o : Value} {acc : List Nat} (h : Dc w0 p v L g vw z o acc w) (hk : Keeps (fun _ => False) w w') : Dc w0 p v L g vw z o acc w' :=
  ⟨h.rd.quiet hk, h.b3.keep hk (fun h => h), h.b4.keep hk (fun h => h), own_keep h.own hk (fun _ _ h => h), h.keeps.trans hk, h.hp, h.hg⟩

/-- The reader was read. -/
theorem Dc.read {w0 w w' : World} {p : Nat} {v : Value} {L : List Int} {g : Nat} {vw : Win} {z z2 : Nat} {o : Value} {acc : List Nat} (h : Dc w0 p v L g vw z o acc w) (hr : Rd w0.heap.size p w' v L z2) (hk : Keeps (fun i => i = p) w w') : Dc w0 p v L g vw z2 o acc w' :=
  ⟨hr, h.b3.keep hk (h.b3.ne_ h.rd.blk (by decide)), h.b4.keep hk (h.b4.ne_ h.rd.blk (by decide)), own_keep h.own hk (fun k hk1 hk2 => by
    subst hk2
    exact (h.rd.blk.own_ne h.own (by decide)) hk1), h.keeps.trans' hk (fun i hi he => by have := h.hp; omega), h.hp, h.hg⟩

/-- The window is written. -/
theorem Dc.win {w0 w : World} {p : Nat} {v : Value} {L : List Int} {g : Nat} {vw : Win} {z : Nat} {o : Value} {acc : List Nat} (h : Dc w0 p v L g vw z o acc w) (u : Win) : Dc w0 p v L g u z o acc (w.setRow (g + 1) (winC u.t u.e u.is)) :=
  ⟨⟨h.rd.blk.setRow_far (Ne.symm (h.b4.ne_ h.rd.blk (by decide))), own_keep h.rd.own ((Keeps.refl (fun k => k = g + 1) w).setRow (.inl rfl) _) (fun k hk hkg => by
    subst hkg
    exact (h.b4.own_ne h.rd.own (by decide)) hk), h.rd.le, h.rd.len, h.rd.byt⟩, h.b3.setRow_far (by omega), h.b4.setRow, own_keep h.own ((Keeps.refl (fun k => k = g + 1) w).setRow (.inl rfl) _) (fun k hk hkg => by
    subst hkg
    exact (h.b4.own_ne h.own (by decide)) hk), h.keeps.setRow (.inr (by have := h.hg; omega)) _, h.hp, h.hg⟩

/-- The reals' row has grown. -/
theorem Dc.grown {w0 w w' : World} {p : Nat} {v : Value} {L : List Int} {g : Nat} {vw : Win} {z : Nat} {o o2 : Value} {acc acc2 : List Nat} (h : Dc w0 p v L g vw z o acc w) (hg : w.grownBy w' o.ownBlock) (ho : w'.ownsRow w0.heap.size 53 1 o2 acc2.length (fls acc2)) : Dc w0 p v L g vw z o2 acc2 w' := by
  have hk : Keeps (fun k => o.ownBlock = some k) w w' := (Keeps.refl _ w).grown hg (fun k hk => .inl hk)
  exact ⟨⟨h.rd.blk.keep hk (h.rd.blk.own_ne h.own (by decide)), own_keep h.rd.own hk (fun k hv hu => own_own_ne h.own h.rd.own (by decide) hu hv), h.rd.le, h.rd.len, h.rd.byt⟩,
    h.b3.keep hk (h.b3.own_ne h.own (by decide)), h.b4.keep hk (h.b4.own_ne h.own (by decide)), ho, h.keeps.trans' hk (fun i hi he => by have := (h.own.lt i he).1; omega), h.hp, h.hg⟩

theorem Dc.load3 {w0 w : World} {p : Nat} {v : Value} {L : List Int} {g : Nat} {vw : Win} {z : Nat} {o : Value} {acc : List Nat} (h : Dc w0 p v L g vw z o acc w) : (loadVar 49 ⟨g, 0, none⟩).run Tryd.prog w = .ok (.agg (srcC p)) w :=
  run_loadVar_row w g _ _ _ (0, 0) _ h.b3 Tryd.underlying49 rfl info49

set_option maxRecDepth 100000 in
set_option maxHeartbeats 3200000 in
theorem dec1_any (bb bn : Nat) (A : Option Addr) (c : Nat) (L : List Int) (m : Nat) (h1 : 1 ≤ m) (h2 : m ≤ 1024) (w : World) (hI : In w A c L) (hL : ∀ z ∈ L, 0 ≤ z ∧ z < 256)
    (hb : Blk w bb 22 #[.slice A L.length c]) (hn : Blk w bn 3 #[.int .i64 m]) :
    Calls Tryd.prog 20 #[.pointer (some ⟨bb, 0, none⟩), .pointer (some ⟨bn, 0, none⟩)] w (Dec1Post w (decM (ofBytes L) (8 * L.length) m)) := by
  obtain ⟨e0, he0, hz0, hz1, hz2⟩ := info_parts infoF
  have cb : w.cell? ⟨bb, 0, none⟩ = some (.slice A L.length c) := hb.cell 0
  obtain ⟨r, hr⟩ : ∃ r, decM (ofBytes L) (8 * L.length) m = r := ⟨_, rfl⟩
  rw [hr]
  unfold decM at hr
  rw [if_neg (by omega), Int.toNat_natCast] at hr
  have HR := Lib.hid hr
  have HI := Lib.hid hI
  have HL := Lib.hid hL
  have HN := Lib.hid hn
  clear hr hI hL hn hb
  go_enter Tryd.func20, Tryd.ntmps20
  go_wp2_with fail
  refine (newReader_any A c L _ HI.out HL.out).mono ?_
  rintro e w1 ⟨p, v, rfl, hp, hrd, hk1⟩
  have HRD := Lib.hid hrd
  have HK1 := Lib.hid hk1
  have HP := Lib.hid hp
  clear hrd hk1 hp
  go_wp2_with fail
  have hDc : Dc w p v L w1.heap.size ⟨0, 0, false⟩ 0 (.slice none 0 0) [] ((w1.alloc (.cells (srcC p) 49)).alloc (.cells (winC 0 0 false) 51)) := by
    have hk := ((Keeps.refl (fun _ => False) w1).alloc (.cells (srcC p) 49)).alloc (.cells (winC 0 0 false) 51)
    exact ⟨HRD.out.quiet hk, (Blk.new _ _ _).alloc _, by simpa using Blk.new (w1.alloc (.cells (srcC p) 49)) 51 (winC 0 0 false), World.ownsRow_nil _ _ _ _, HK1.out.trans hk, HP.out, HK1.out.size⟩
  have HD := Lib.hid hDc
  clear hDc
  by_cases h64 : 8 * L.length < 64
  · have hr := HR.out
    rw [if_pos h64] at hr
    subst hr
    refine (sget_no w.heap.size p 64 _ v L 0 HD.out.rd (Nat.le_refl _) (by omega)).mono ?_
    rintro e w2 ⟨rfl, hk⟩
    go_wp2_with fail
    exact ⟨rfl, HD.out.keeps.trans hk, .inr ⟨by decide, rfl⟩⟩
  · have hr := HR.out
    rw [if_neg h64] at hr
    have hx0 : numAt L 0 64 = ofBytes L / 2 ^ 0 % 2 ^ 64 := rfl
    rw [← hx0] at hr
    obtain ⟨x0, hx⟩ : ∃ x, numAt L 0 64 = x := ⟨_, rfl⟩
    have hf0 : Fits x0 := by rw [← hx]; exact Nat.mod_lt _ (Nat.two_pow_pos 64)
    rw [hx] at hr
    have HR2 := Lib.hid hr
    have HF0 := Lib.hid hf0
    have hg := sget_ok w.heap.size p 64 _ v L 0 HD.out.rd (Nat.le_refl _) (by omega)
    rw [hx] at hg
    refine hg.mono ?_
    rintro e w2 ⟨rfl, hr2, hk2⟩
    have H2 := Lib.hid (HD.out.read hr2 hk2)
    have hwr := wrap64_bits hf0
    clear hr hx0 hx hf0 hg hr2 hk2 HR
    go_wp2_with fail
    refine (rfrom_any x0 HF0.out _).mono ?_
    rintro e w3 ⟨rfl, rfl⟩
    have hD3 : Dc w p v L w1.heap.size ⟨0, 0, false⟩ 64 (.slice (some ⟨w2.heap.size, 0, none⟩) 1 1) [x0] (w2.alloc (.cells #[.float .f64 x0] 53)) := by
      have hq := H2.out.quiet ((Keeps.refl _ w2).alloc (.cells #[.float .f64 x0] 53))
      refine ⟨hq.rd, hq.b3, hq.b4, ?_, hq.keeps, hq.hp, hq.hg⟩
      have := World.ownsRow_lit (e := 53) (size := 1) (base := w.heap.size) w2 #[.float .f64 x0] 1 H2.out.keeps.size (by unfold maxLen; omega) (by simp)
      simpa [fls] using this
    have HD3 := Lib.hid hD3
    clear hD3
    go_wp2_with fail
    go_loopw [5, 6] (fun l o wr => ∃ (acc : List Nat) (z last : Nat) (vw : Win), l = .int .u64 last ∧ 1 ≤ acc.length ∧ acc.length ≤ m ∧ vw.Ok ∧ Fits last ∧ Dc w p v L w1.heap.size vw z o acc wr ∧ decEnd (ofBytes L) (8 * L.length) (decGo (ofBytes L) (8 * L.length) (m - acc.length) z vw last acc) = r) (fun _ o _ => m - sliceLen o)
    case atStart => exact ⟨[x0], 64, x0, ⟨0, 0, false⟩, rfl, Nat.le_refl _, h1, ⟨by decide, by decide⟩, HF0.out, HD3.out, HR2.out⟩
    case round =>
      obtain ⟨acc, z, last, vw, rfl, hl1, hlm, hok, hfl, hD, hrr⟩ := hrel
      obtain ⟨g6, cap6, rfl, _, _⟩ := hD.own.form (by omega)
      have cn : wr.cell? ⟨bn, 0, none⟩ = some (.int .i64 m) := (HN.out.keep hD.keeps (fun h => h)).cell 0
      have HDD := Lib.hid hD
      have HOK := Lib.hid hok
      have HRR := Lib.hid hrr
      have HFL := Lib.hid hfl
      clear hok hrr hfl
      by_cases hlt : acc.length < m
      · have hli : (acc.length : Int) < (m : Int) := by omega
        clear hD
        go_wp2_with (first
          | (refine wpList_load_row rfl 49 (.tmp 3) rfl _ rfl 49 _ (0, 0) _ HDD.out.b3 Tryd.underlying49 rfl info49 ?_)
          | (refine wpList_load_row rfl 51 (.tmp 4) rfl _ rfl 51 _ (0, 0) _ HDD.out.b4 Tryd.underlying51 rfl info51 ?_))
        refine (sread_any w.heap.size p v L z vw HOK.out _ HDD.out.rd).mono ?_
        obtain ⟨k, hk⟩ : ∃ k, m - acc.length = k + 1 := ⟨m - acc.length - 1, by omega⟩
        have hrr := HRR.out
        rw [hk, decGo] at hrr
        cases hq : readN (ofBytes L) (8 * L.length) z vw with
        | error ke =>
          rw [hq] at hrr
          have hke : ke ≠ 0 := by have := readN_err hq; omega
          subst hrr
          rintro e w4 ⟨hk4, rfl⟩
          have HK4 := Lib.hid (HDD.out.keeps.trans' hk4 (fun i hi he => by have := HDD.out.hp; omega))
          clear hk4 hq
          go_wp2_with fail
          exact ⟨rfl, HK4.out, .inr ⟨hke, rfl⟩⟩
        | ok q =>
          obtain ⟨x, z2, v2⟩ := q
          rw [hq] at hrr
          obtain ⟨hok2, hfx, _, _⟩ := readN_ok HOK.out hq
          rintro e w4 ⟨hk4, rfl, hrd4⟩
          have H4 := Lib.hid (HDD.out.read hrd4 hk4)
          have H5 := Lib.hid (H4.out.win v2)
          have hxor := xor_u64 HFL.out hfx
          obtain ⟨y, hy⟩ : ∃ y, last ^^^ x = y := ⟨_, rfl⟩
          simp only [hy] at hrr
          rw [hy] at hxor
          have HRR2 := Lib.hid hrr
          have HOK2 := Lib.hid hok2
          have HFY := Lib.hid hxor.2
          have hxb := hxor.1
          have hwy := wrap64_bits hxor.2
          have HKK := Lib.hid hk
          clear hk hrr hq hok2 hfx hrd4 hk4 hxor hy
          go_wp2_with (refine wpList_store_row rfl 51 (.tmp 4) (.tmp 26) rfl _ _ rfl rfl 51 _ H4.out.b4 info51 rfl (winC_ones _ _ _) ?_)
          refine (rfrom_any y HFY.out _).mono ?_
          rintro e w5 ⟨rfl, rfl⟩
          obtain ⟨w5, hw5⟩ : ∃ w5, w4.setRow (w1.heap.size + 1) (winC v2.t v2.e v2.is) = w5 := ⟨_, rfl⟩
          have H6 := H5
          rw [hw5] at H6 ⊢
          clear hw5 H5 H4
          go_wp2_with (at_builtin; go_loud (refine wpList_append_own_at _ rfl (.tmp 30) (.tmp 34) 23 rfl w.heap.size 53 e0 (.float .f64 0) 1 8 Tryd.underlying23 he0 hz0 hz1 hz2 rfl (by decide) (.slice (some ⟨g6, 0, none⟩) acc.length cap6) acc.length _ rfl (H6.out.quiet ((Keeps.refl _ _).alloc _)).own ⟨w5.heap.size, 0, none⟩ 1 1 [.float .f64 y] rfl rfl (World.news_of_block (cs := #[.float .f64 y]) (t := 53) (fr := (0, 0)) (heap_alloc_new w5 _)) (by simp [Value.oneCell']) (by unfold maxLen; omega) (by omega) (by have := H6.out.keeps.size; simp; omega) ?_; intro v7 w7 hown7 hgrow7 _ _))
          go_roundw
          case rel =>
            refine ⟨acc ++ [y], z2, y, v2, rfl, by simp, by simp; omega, HOK2.out, HFY.out, ?_, ?_⟩
            · exact (H6.out.quiet ((Keeps.refl _ _).alloc _)).grown hgrow7 (by simpa [fls] using hown7)
            · have := HRR2.out
              rw [List.length_append, List.length_singleton, show m - (acc.length + 1) = k by have := HKK.out; omega]
              exact this
          case measure =>
            have hv := hown7
            obtain ⟨g8, cap8, rfl, _, _⟩ := hv.form (by omega)
            simp [sliceLen]; omega
      · obtain rfl : acc.length = m := by omega
        have hrr := HRR.out
        rw [Nat.sub_self, decGo] at hrr
        unfold decEnd at hrr
        simp only [] at hrr
        have cs : wr.cell? ⟨w1.heap.size, 0, none⟩ = some (.pointer (some ⟨p, 0, none⟩)) := hD.b3.cell 0
        have hzT := hD.rd.le
        have hleft := left_any w.heap.size p wr v L z hD.rd
        clear hD
        obtain ⟨n, hn⟩ : ∃ n, 8 * L.length - z = n := ⟨_, rfl⟩
        rw [hn] at hrr hleft
        by_cases h8 : 8 ≤ n
        · rw [if_pos h8] at hrr
          subst hrr
          have h8i : (8 : Int) ≤ (n : Int) := by omega
          have hdec : decide ((n : Int) < 8) = false := decide_eq_false (by omega)
          have HLF := Lib.hid hleft
          clear hleft h8 hn
          go_wp2_with fail
          refine HLF.out.mono ?_
          rintro e w4 ⟨rfl, hk4⟩
          have HK4 := Lib.hid (HDD.out.keeps.trans hk4)
          clear hk4
          go_wp2_with fail
          refine (check_no 2 (by decide) _).mono ?_
          rintro e w' ⟨rfl, rfl⟩
          go_wp2_with fail
          exact ⟨rfl, HK4.out, .inr ⟨by decide, rfl⟩⟩
        · rw [if_neg h8] at hrr
          have h8i : (n : Int) < 8 := by omega
          have HLF := Lib.hid hleft
          have HNN := Lib.hid hn
          have HRR2 := Lib.hid hrr
          clear hleft h8 hn hrr HRR
          go_wp2_with fail
          refine HLF.out.mono ?_
          rintro e w4 ⟨rfl, hk4⟩
          have H4 := Lib.hid (HDD.out.quiet hk4)
          clear hk4
          go_upto_region 11 with (go_at_call 25; refine (check_ok true 2 (.inl rfl) _).mono ?_; rintro e w' ⟨rfl, rfl⟩)
          refine wp_region_held_drew (S := fun x => ∃ z, Dc w p v L w1.heap.size vw z (.slice (some ⟨g6, 0, none⟩) acc.length cap6) acc x) (by kernel_rfl) ⟨_, H4.out.quiet (Keeps.refl _ _).drew⟩ ?_
          intro _
          have hS0 := H4.out.quiet (Keeps.refl _ _).drew
          generalize World.drew _ = w5 at hS0 ⊢
          refine held_take (i := 0) (v := .agg (srcC p)) rfl (by kernel_rfl) (by kernel_rfl) (by kernel_rfl) (some 41) (fun _ _ _ h => h) rfl (yields_load 49 (.tmp 3) rfl _ rfl (by rfl) (fun w' ⟨_, hw'⟩ => hw'.load3)) ⟨_, hS0⟩ ?_
          simp only [Act.put, List.setIfInBounds_toArray, List.set_cons_zero, List.set_cons_succ]
          refine held_take (i := 1) (v := .pointer (some ⟨w1.heap.size, 0, none⟩)) rfl (by kernel_rfl) (by kernel_rfl) (by kernel_rfl) (some 42) (fun _ _ _ h => h) rfl (Or.inl ⟨by rfl, fun _ _ => by rfl⟩) ⟨_, hS0⟩ ?_
          simp only [Act.put, List.setIfInBounds_toArray, List.set_cons_zero, List.set_cons_succ]
          refine held_take (i := 2) (v := .pointer (some ⟨p, 0, none⟩)) rfl (by kernel_rfl) (by kernel_rfl) (by kernel_rfl) (some 43) (fun _ _ _ h => h) rfl (Or.inl ⟨by rfl, by rintro w' ⟨_, hw'⟩; have hc' : w'.cell? ⟨w1.heap.size, 0, none⟩ = some (.pointer (some ⟨p, 0, none⟩)) := hw'.b3.cell 0; go_simp⟩) ⟨_, hS0⟩ ?_
          simp only [Act.put, List.setIfInBounds_toArray, List.set_cons_zero, List.set_cons_succ]
          have hleft := left_any w.heap.size p w5 v L z hS0.rd
          rw [HNN.out] at hleft
          refine held_call (i := 3) (by kernel_rfl) rfl (by rfl) (some 44) rfl 26 #[.pointer (some ⟨p, 0, none⟩)] (by kernel_rfl) (fun r w' => r = .int .i64 (n : Nat) ∧ Dc w p v L w1.heap.size vw z (.slice (some ⟨g6, 0, none⟩) acc.length cap6) acc w') (hleft.mono fun r w' ⟨he, hk⟩ => ⟨_, he, ⟨rfl, hS0.quiet hk⟩, ⟨_, hS0.quiet hk⟩⟩) ?_
          rintro r6 w6 ⟨rfl, hS6⟩ _
          simp only [Act.put, List.setIfInBounds_toArray, List.set_cons_zero, List.set_cons_succ]
          have hget := sget_ok w.heap.size p n w6 v L z hS6.rd (by omega) (by have := HNN.out; omega)
          obtain ⟨q, hq⟩ : ∃ q, numAt L z n = q := ⟨_, rfl⟩
          have hq2 : ofBytes L / 2 ^ z % 2 ^ n = q := hq
          rw [hq] at hget
          have hrr := HRR2.out
          rw [hq2] at hrr
          refine held_call (i := 4) (by kernel_rfl) rfl (by rfl) (some 45) rfl 22 #[.agg (srcC p), .int .i64 (n : Nat)] (by kernel_rfl) (fun r w' => r = .int .u64 (q : Nat) ∧ Dc w p v L w1.heap.size vw (z + n) (.slice (some ⟨g6, 0, none⟩) acc.length cap6) acc w') (hget.mono fun r w' ⟨he, hr, hk⟩ => ⟨_, he, ⟨rfl, hS6.read hr hk⟩, ⟨_, hS6.read hr hk⟩⟩) ?_
          rintro r7 w7 ⟨rfl, hS7⟩ _
          simp only [Act.put, List.setIfInBounds_toArray, List.set_cons_zero, List.set_cons_succ]
          by_cases hq0 : q = 0
          · rw [if_pos hq0] at hrr
            subst hq0
            subst hrr
            have H7 := Lib.hid hS7
            refine held_take (i := 5) (v := .bool true) rfl (by kernel_rfl) (by kernel_rfl) (by kernel_rfl) (some 46) (fun _ _ _ h => h) rfl (Or.inl ⟨by rfl, fun _ _ => by rfl⟩) ⟨_, hS7⟩ ?_
            simp only [Act.put, List.setIfInBounds_toArray, List.set_cons_zero, List.set_cons_succ]
            refine held_call (i := 6) (by kernel_rfl) rfl (by rfl) (some 47) rfl 25 #[.bool true, .int .i64 3] (by kernel_rfl) (fun r w' => w' = w7) ((check_ok true 3 (.inl rfl) w7).mono fun r w' ⟨he, hw⟩ => ⟨_, he, hw.symm, hw ▸ ⟨_, hS7⟩⟩) ?_
            rintro r8 w8 rfl _
            simp only [Act.put, List.setIfInBounds_toArray, List.set_cons_zero, List.set_cons_succ]
            refine wpAnyH_done (by kernel_rfl) ?_ _
            clear hS0 hS6 hS7 hleft hget hq hq2
            go_wp2_with fail
            go_ret
            exact ⟨H7.out.keeps, .inl ⟨rfl, _, rfl, H7.out.own⟩⟩
          · rw [if_neg hq0] at hrr
            subst hrr
            have hqb : ((q : Int) == 0) = false := by rw [beq_eq_false_iff_ne]; omega
            refine held_take (i := 5) (v := .bool false) rfl (by kernel_rfl) (by kernel_rfl) (by kernel_rfl) (some 46) (fun _ _ _ h => h) rfl (Or.inl ⟨by rfl, by intro w' _; go_simp⟩) ⟨_, hS7⟩ ?_
            simp only [Act.put, List.setIfInBounds_toArray, List.set_cons_zero, List.set_cons_succ]
            refine held_panic (i := 6) (by kernel_rfl) rfl (by rfl) 25 #[.bool false, .int .i64 3] (by kernel_rfl) [{ v := thrownV 3, recovered := false }] (fun w' => w7 = w') (check_no 3 (by decide) w7) ?_
            rintro w8 rfl
            exact ⟨rfl, hS7.keeps, .inr ⟨by decide, rfl⟩⟩
end Go.Proofs.YthcoiaigmndohaaDoor
