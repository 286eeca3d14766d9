/-
  The contracts of source.get and window.wide at a window. Conditions: the reader is one; the width is 64 at most.
-/
import Derived.Test.YthcoiaigmndohaaDoorXorTrap
import Derived.Test.YthcoiaigmndohaaDoorXorEncodesW
namespace Go.Proofs.YthcoiaigmndohaaDoor
open Go.RowKit BitM

/-- The source over the reader at block p. -/
def srcC (p : Nat) : Array Value := #[.pointer (some ⟨p, 0, none⟩)]

theorem keeps_none {w w' : World} {S : Nat → Prop} (h : Keeps (fun _ => False) w w') : Keeps S w w' := h.mono (fun _ h => h.elim)

theorem sget_ok (B p : Nat) (W : Nat) (w : World) (v : Value) (L : List Int) (at_ : Nat) (h : Rd B p w v L at_) (hW : W ≤ 64) (hs : at_ + W ≤ 8 * L.length) :
    Calls Tryd.prog 22 #[.agg (srcC p), .int .i64 W] w fun e w' => e = .returned (.int .u64 (numAt L at_ W : Nat)) ∧ Rd B p w' v L (at_ + W) ∧ Keeps (fun i => i = p) w w' := by
  have hk0 : Keeps (fun _ => False) w (w.alloc (.cells (srcC p) 49)) := (Keeps.refl _ _).alloc _
  have hg := get_ok B p W _ v L at_ (h.quiet hk0) hW hs
  have HG := Lib.hid hg
  have HK := Lib.hid hk0
  obtain ⟨x, hx⟩ : ∃ x, numAt L at_ W = x := ⟨_, rfl⟩
  rw [hx] at HG ⊢
  unfold srcC at *
  clear hg hk0 hx h hs
  go_enter Tryd.func22, Tryd.ntmps22
  go_wp2_with fail
  refine HG.out.mono ?_
  rintro e w1 ⟨rfl, hr, hk⟩
  have HR := Lib.hid hr
  clear hr
  go_wp2_with (go_at_call 39; refine (must_ok x _).mono ?_; rintro e w' ⟨rfl, rfl⟩)
  go_ret
  exact ⟨rfl, HR.out, (keeps_none HK.out).trans hk⟩

theorem sget_no (B p : Nat) (W : Nat) (w : World) (v : Value) (L : List Int) (at_ : Nat) (h : Rd B p w v L at_) (hW : W ≤ 64) (hs : 8 * L.length < at_ + W) :
    Calls Tryd.prog 22 #[.agg (srcC p), .int .i64 W] w fun e w' => e = .panicked [{ v := thrownV 1, recovered := false }] ∧ Keeps (fun _ => False) w w' := by
  have hk0 : Keeps (fun _ => False) w (w.alloc (.cells (srcC p) 49)) := (Keeps.refl _ _).alloc _
  have hg := get_short B p W _ v L at_ (h.quiet hk0) hW hs
  have HG := Lib.hid hg
  have HK := Lib.hid hk0
  unfold srcC at *
  clear hg hk0 h hs
  go_enter Tryd.func22, Tryd.ntmps22
  go_wp2_with fail
  refine HG.out.mono ?_
  rintro e w1 ⟨rfl, hk⟩
  go_wp2_with (go_at_call 39; refine (must_no 0 1 (by decide) _).mono ?_; rintro e w' ⟨rfl, rfl⟩)
  exact ⟨rfl, rfl, HK.out.trans hk⟩

theorem info49 : (Tryd.prog.info? 49).map (·.size) = some 1 := by kernel_rfl

/-- What source.read works on: the reader, the source, the window, the window that it answers. -/
structure Src (B p : Nat) (v : Value) (L : List Int) (w0 : World) (g : Nat) (vw v5 : Win) (at_ : Nat) (w : World) : Prop where
  rd : Rd B p w v L at_
  b2 : Blk w g 49 (srcC p)
  b3 : Blk w (g + 1) 51 (winC vw.t vw.e vw.is)
  b5 : Blk w (g + 2) 51 (winC v5.t v5.e v5.is)
  keeps : Keeps (fun i => i = p) w0 w
  size : w0.heap.size ≤ g

theorem Src.get {B p : Nat} {v : Value} {L : List Int} {w0 w : World} {g : Nat} {vw v5 : Win} {at_ : Nat} (h : Src B p v L w0 g vw v5 at_ w) {W : Nat} (hW : W ≤ 64) (hs : at_ + W ≤ 8 * L.length) :
    Calls Tryd.prog 22 #[.agg (srcC p), .int .i64 W] w fun e w' => e = .returned (.int .u64 (numAt L at_ W : Nat)) ∧ Src B p v L w0 g vw v5 (at_ + W) w' :=
  (sget_ok B p W w v L at_ h.rd hW hs).mono fun e w' ⟨he, hr, hk⟩ => by
    have n2 : g ≠ p := h.b2.ne_ h.rd.blk (by decide)
    have n3 : g + 1 ≠ p := h.b3.ne_ h.rd.blk (by decide)
    have n5 : g + 2 ≠ p := h.b5.ne_ h.rd.blk (by decide)
    exact ⟨he, hr, h.b2.keep hk n2, h.b3.keep hk n3, h.b5.keep hk n5, h.keeps.trans hk, h.size⟩

theorem Src.get_no {B p : Nat} {v : Value} {L : List Int} {w0 w : World} {g : Nat} {vw v5 : Win} {at_ : Nat} (h : Src B p v L w0 g vw v5 at_ w) {W : Nat} (hW : W ≤ 64) (hs : 8 * L.length < at_ + W) :
    Calls Tryd.prog 22 #[.agg (srcC p), .int .i64 W] w fun e w' => e = .panicked [{ v := thrownV 1, recovered := false }] ∧ Keeps (fun i => i = p) w0 w' :=
  (sget_no B p W w v L at_ h.rd hW hs).mono fun _ _ ⟨he, hk⟩ => ⟨he, h.keeps.trans (keeps_none hk)⟩

theorem Src.drew {B p : Nat} {v : Value} {L : List Int} {w0 w : World} {g : Nat} {vw v5 : Win} {at_ : Nat} (h : Src B p v L w0 g vw v5 at_ w) : Src B p v L w0 g vw v5 at_ w.drew :=
  ⟨h.rd.quiet (Keeps.refl _ _).drew, h.b2.drew, h.b3.drew, h.b5.drew, h.keeps.drew, h.size⟩

/-- The answer's window is written. -/
theorem Src.set5 {B p : Nat} {v : Value} {L : List Int} {w0 w : World} {g : Nat} {vw v5 : Win} {at_ : Nat} (h : Src B p v L w0 g vw v5 at_ w) (u : Win) : Src B p v L w0 g vw u at_ (w.setRow (g + 2) (winC u.t u.e u.is)) :=
  ⟨⟨h.rd.blk.setRow_far (Ne.symm (h.b5.ne_ h.rd.blk (by decide))), own_keep h.rd.own ((Keeps.refl (fun k => k = g + 2) w).setRow (.inl rfl) _) (fun k hk hkg => by
    subst hkg
    exact (h.b5.own_ne h.rd.own (by decide)) hk), h.rd.le, h.rd.len, h.rd.byt⟩, h.b2.setRow_far (by omega), h.b3.setRow_far (by omega), h.b5.setRow, h.keeps.setRow (.inr (by have := h.size; omega)) _, h.size⟩

/-- The window is written. -/
theorem Src.set3 {B p : Nat} {v : Value} {L : List Int} {w0 w : World} {g : Nat} {vw v5 : Win} {at_ : Nat} (h : Src B p v L w0 g vw v5 at_ w) (u : Win) : Src B p v L w0 g u v5 at_ (w.setRow (g + 1) (winC u.t u.e u.is)) :=
  ⟨⟨h.rd.blk.setRow_far (Ne.symm (h.b3.ne_ h.rd.blk (by decide))), own_keep h.rd.own ((Keeps.refl (fun k => k = g + 1) w).setRow (.inl rfl) _) (fun k hk hkg => by
    subst hkg
    exact (h.b3.own_ne h.rd.own (by decide)) hk), h.rd.le, h.rd.len, h.rd.byt⟩, h.b2.setRow_far (by omega), h.b3.setRow, h.b5.setRow_far (by omega), h.keeps.setRow (.inr (by have := h.size; omega)) _, h.size⟩

theorem Src.load3 {B p : Nat} {v : Value} {L : List Int} {w0 w : World} {g : Nat} {vw v5 : Win} {at_ : Nat} (h : Src B p v L w0 g vw v5 at_ w) : (loadVar 51 ⟨g + 1, 0, none⟩).run Tryd.prog w = .ok (.agg (winC vw.t vw.e vw.is)) w := load_win h.b3
theorem Src.load2 {B p : Nat} {v : Value} {L : List Int} {w0 w : World} {g : Nat} {vw v5 : Win} {at_ : Nat} (h : Src B p v L w0 g vw v5 at_ w) : (loadVar 49 ⟨g, 0, none⟩).run Tryd.prog w = .ok (.agg (srcC p)) w :=
  run_loadVar_row w g _ _ _ (0, 0) _ h.b2 Tryd.underlying49 rfl info49

theorem results_slot_cell {P : Program} {fn : Func} {q p : Tmp} {ty : TypeId} (h : fn.results = #[.tmp q, .cell p ty]) (tmps : Array Value) (w : World) (g : Nat) (t : TypeId) (cs : Array Value) (fr : Nat × Nat) (d : TypeDesc)
    (hp : tmps.getD p undef = .pointer (some ⟨g, 0, none⟩)) (hg : w.heap[g]? = some (.cells cs t fr))
    (hu : P.underlying ty = some d) (hd : (match d with | .struct _ | .array _ _ => true | _ => false) = true) (hi : (P.info? ty).map (·.size) = some cs.size) :
    (results fn tmps).run P w = .ok (.tuple #[tmps.getD q undef, .agg cs]) w := by
  have hp' : tmps[p]?.getD undef = .pointer (some ⟨g, 0, none⟩) := by simpa using hp
  simp [results, h, hp', asAddr, run_loadVar_row w g t ty cs fr d hg hu hd hi]

theorem Src.quiet {B p : Nat} {v : Value} {L : List Int} {w0 w w' : World} {g : Nat} {vw v5 : Win} {at_ : Nat} (h : Src B p v L w0 g vw v5 at_ w) (hk : Keeps (fun _ => False) w w') : Src B p v L w0 g vw v5 at_ w' :=
  ⟨h.rd.quiet hk, h.b2.keep hk (fun h => h), h.b3.keep hk (fun h => h), h.b5.keep hk (fun h => h), h.keeps.trans (keeps_none hk), h.size⟩

/-- A call that comes up alone, and panics. -/
theorem held_panic {P : Program} {ops : Array Oper} {Q : Exit → Act → World → Prop} {md : Region.Mode} {S : World → Prop} {i : Nat} {o : Oper} {fuel : Nat} {listed : Array Bool} {a : Act} {w : World} (hr : Region.ready md ops listed = [i]) (ho : ops[i]? = some o)
    (hw : Region.wanted o (yielded ops a.tmps) = true) (f : Nat) (args : Array Value) (hf : (execOp a.eval o).run P w = .ok (.enter f args) w) (c : List PanicEntry) (R : World → Prop)
    (hc : Calls P f args w fun e w' => e = .panicked c ∧ R w') (h : ∀ w', R w' → Q (.panic c) a w') : wpAnyH P md ops Q S (fuel + 1) listed a w :=
  held_one hr ho hw fun K' _ => by
    unfold Oper.wp
    rw [hf]
    simp only [Oper.upon]
    refine hc.mono ?_
    rintro e w' ⟨rfl, hR⟩
    exact h w' hR

/-- What source.read answers. -/
def ReadPost (B p : Nat) (v : Value) (L : List Int) (w : World) (r : Except Nat (Nat × Nat × Win)) (e : Ending) (w' : World) : Prop :=
  Keeps (fun i => i = p) w w' ∧ match r with
  | .error k => e = .panicked [{ v := thrownV k, recovered := false }]
  | .ok (x, z, v2) => e = .returned (.tuple #[.int .u64 x, .agg (winC v2.t v2.e v2.is)]) ∧ Rd B p w' v L z

set_option maxRecDepth 100000 in
set_option maxHeartbeats 3200000 in
theorem sread_any (B p : Nat) (v : Value) (L : List Int) (at_ : Nat) (vw : Win) (hv : vw.Ok) (w : World) (h : Rd B p w v L at_) :
    Calls Tryd.prog 24 #[.agg (srcC p), .agg (winC vw.t vw.e vw.is)] w (ReadPost B p v L w (readN (ofBytes L) (8 * L.length) at_ vw)) := by
  have hk0 : Keeps (fun _ => False) w (((w.alloc (.cells (srcC p) 49)).alloc (.cells (winC vw.t vw.e vw.is) 51)).alloc (.cells (winC 0 0 false) 51)) := (((Keeps.refl _ _).alloc _).alloc _).alloc _
  have hS : Src B p v L w w.heap.size vw ⟨0, 0, false⟩ at_ (((w.alloc (.cells (srcC p) 49)).alloc (.cells (winC vw.t vw.e vw.is) 51)).alloc (.cells (winC 0 0 false) 51)) :=
    ⟨h.quiet hk0, ((Blk.new w _ _).alloc _).alloc _, by simpa using (Blk.new (w.alloc (.cells (srcC p) 49)) _ _).alloc _, by simpa using Blk.new ((w.alloc (.cells (srcC p) 49)).alloc (.cells (winC vw.t vw.e vw.is) 51)) _ _, keeps_none hk0, Nat.le_refl _⟩
  have H0 := Lib.hid hS
  have HV := Lib.hid hv
  obtain ⟨r, hr⟩ : ∃ r, readN (ofBytes L) (8 * L.length) at_ vw = r := ⟨_, rfl⟩
  rw [hr]
  unfold readN at hr
  clear hS h hk0 hv
  by_cases h1 : 8 * L.length < at_ + 1
  · rw [if_pos h1] at hr
    subst hr
    unfold srcC winC at *
    have HC := Lib.hid (H0.out.get_no (W := 1) (by decide) h1)
    go_enter Tryd.func24, Tryd.ntmps24
    go_wp2_with fail
    refine HC.out.mono ?_
    rintro e w1 ⟨rfl, hk⟩
    go_wp2_with fail
    exact ⟨rfl, hk, rfl⟩
  · rw [if_neg h1] at hr
    have HG := Lib.hid (H0.out.get (W := 1) (by decide) (by omega))
    obtain ⟨y, hy⟩ : ∃ y, numAt L at_ 1 = y := ⟨_, rfl⟩
    rw [hy] at HG
    have hy2 : ofBytes L / 2 ^ at_ % 2 ^ 1 = y := hy
    rw [hy2] at hr
    clear hy hy2
    by_cases hy0 : y = 0
    · rw [if_pos hy0] at hr
      subst hy0
      subst hr
      unfold srcC winC at *
      go_enter Tryd.func24, Tryd.ntmps24
      go_wp2_with fail
      refine HG.out.mono ?_
      rintro e w1 ⟨rfl, hs1⟩
      have H1 := Lib.hid hs1
      clear hs1
      go_upto_region 2 with fail
      refine wp_region_held_drew (S := fun x => ∃ v5, Src B p v L w w.heap.size vw v5 (at_ + 1) x) (by kernel_rfl) ⟨_, H1.out.drew⟩ ?_
      rintro ⟨v5, hS0⟩
      generalize World.drew _ = w2 at hS0 ⊢
      refine held_take (i := 0) (v := .agg (winC vw.t vw.e vw.is)) rfl (by kernel_rfl) (by kernel_rfl) (by kernel_rfl) (some 11) (fun _ _ _ h => h) rfl (yields_load 51 (.tmp 3) rfl _ rfl (by rfl) (fun w' ⟨_, hw'⟩ => hw'.load3)) ⟨_, hS0⟩ ?_
      simp only [Act.put, List.setIfInBounds_toArray, List.set_cons_zero, List.set_cons_succ]
      refine held_take (i := 1) (v := .int .u64 0) rfl (by kernel_rfl) (by kernel_rfl) (by kernel_rfl) (some 4) (fun _ _ _ h => h) rfl (Or.inl ⟨by rfl, fun _ _ => by rfl⟩) ⟨_, hS0⟩ ?_
      simp only [Act.put, List.setIfInBounds_toArray, List.set_cons_zero, List.set_cons_succ]
      refine held_one (i := 2) (by kernel_rfl) rfl (by rfl) fun K' hK => ?_
      have hS5 := hS0.set5 vw
      refine wp_store_row 51 (.tmp 5) (.tmp 11) rfl (w.heap.size + 2) (winC vw.t vw.e vw.is) rfl rfl 51 _ hS0.b5 info51 rfl (winC_ones _ _ _) (hK.out _ _ ⟨_, hS5⟩ fun _ => ?_)
      refine wpAnyH_done (by kernel_rfl) ?_ _
      have H5 := Lib.hid hS5
      generalize World.setRow _ _ _ = w5 at hS5 H5 ⊢
      clear hS0 hS5
      go_wp2_with fail
      exact bodyPost_ret (results_slot_cell Tryd.results24 _ _ _ 51 _ (0, 0) _ rfl H5.out.b5 Tryd.underlying51 rfl info51) rfl ⟨H5.out.keeps, rfl, H5.out.rd⟩
    · rw [if_neg hy0] at hr
      have hy0i : ((y : Int) == 0) = false := by rw [beq_eq_false_iff_ne]; omega
      clear hy0
      by_cases h2 : 8 * L.length < at_ + 2
      · rw [if_pos h2] at hr
        subst hr
        unfold srcC winC at *
        go_enter Tryd.func24, Tryd.ntmps24
        go_wp2_with fail
        refine HG.out.mono ?_
        rintro e w1 ⟨rfl, hs1⟩
        have H1 := Lib.hid hs1
        clear hs1
        go_wp2_with (refine wpList_load_row rfl 49 (.tmp 2) rfl _ rfl 49 _ (0, 0) _ H1.out.b2 Tryd.underlying49 rfl info49 ?_)
        refine (H1.out.get_no (W := 1) (by decide) (by omega)).mono ?_
        rintro e w2 ⟨rfl, hk⟩
        go_wp2_with fail
        exact ⟨rfl, hk, rfl⟩
      · rw [if_neg h2] at hr
        have HT2 := Lib.hid h2
        obtain ⟨y2, hy2⟩ : ∃ y, numAt L (at_ + 1) 1 = y := ⟨_, rfl⟩
        have hy3 : ofBytes L / 2 ^ (at_ + 1) % 2 ^ 1 = y2 := hy2
        rw [hy3] at hr
        have HY2 := Lib.hid hy2
        have HR := Lib.hid hr
        clear hy3 hy2 h1 h2 hr
        unfold srcC winC at *
        go_enter Tryd.func24, Tryd.ntmps24
        go_wp2_with fail
        refine HG.out.mono ?_
        rintro e w1 ⟨rfl, hs1⟩
        have H1 := Lib.hid hs1
        clear hs1
        go_wp2_with (refine wpList_load_row rfl 49 (.tmp 2) rfl _ rfl 49 _ (0, 0) _ H1.out.b2 Tryd.underlying49 rfl info49 ?_)
        refine (H1.out.get (W := 1) (by decide) (by have := HT2.out; omega)).mono ?_
        rw [HY2.out]
        rintro e w2 ⟨rfl, hs2⟩
        have H2 := Lib.hid hs2
        clear hs2
        go_upto_if 14 with fail
        go_cut [6, 7] from 14 (fun _ _ wx => ∃ v2 z, v2.Ok ∧ Src B p v L w w.heap.size v2 ⟨0, 0, false⟩ z wx ∧ payN (ofBytes L) (8 * L.length) z v2 = r)
        case first =>
          by_cases hy0 : y2 = 0
          · have hr := HR.out
            rw [if_pos hy0] at hr
            obtain ⟨t, e, is⟩ := vw
            have c3 : w2.cell? ⟨w.heap.size + 1, 2, none⟩ = some (.bool is) := H2.out.b3.cell 2
            subst hy0
            cases is with
            | true =>
              have HR2 := Lib.hid hr
              clear hr
              go_wp2_with (go_at_call 25; refine (check_ok true 3 (.inl rfl) _).mono ?_; rintro e w' ⟨rfl, rfl⟩)
              go_meet
              case rel => exact ⟨_, _, HV.out, H2.out, HR2.out⟩
            | false =>
              have hr2 : r = .error 3 := by simpa using hr.symm
              subst hr2
              clear hr HR
              go_wp2_with (go_at_call 25; refine (check_no 3 (by decide) _).mono ?_; rintro e w' ⟨rfl, rfl⟩)
              exact ⟨rfl, H2.out.keeps, rfl⟩
          · have hr := HR.out
            rw [if_neg hy0] at hr
            have hy2i : ((y2 : Int) == 0) = false := by rw [beq_eq_false_iff_ne]; omega
            clear hy0 HR
            by_cases h7 : 8 * L.length < at_ + 7
            · rw [if_pos (by omega)] at hr
              subst hr
              have HC := Lib.hid (H2.out.get_no (W := 5) (by decide) (by omega))
              clear h7
              go_wp2_with (refine wpList_load_row rfl 49 (.tmp 2) rfl _ rfl 49 _ (0, 0) _ H2.out.b2 Tryd.underlying49 rfl info49 ?_)
              refine HC.out.mono ?_
              rintro e w3 ⟨rfl, hk⟩
              go_wp2_with fail
              exact ⟨rfl, hk, rfl⟩
            · obtain ⟨a, ha⟩ : ∃ a, numAt L (at_ + 2) 5 = a := ⟨_, rfl⟩
              have ha2 : ofBytes L / 2 ^ (at_ + 2) % 2 ^ 5 = a := ha
              have ha31 : a < 2 ^ 5 := by rw [← ha2]; exact Nat.mod_lt _ (by decide)
              have ai : (a : Int) ≤ 31 := by omega
              have HC := Lib.hid (H2.out.get (W := 5) (by decide) (by omega))
              rw [show at_ + 1 + 1 = at_ + 2 by omega, ha] at HC
              rw [ha2] at hr
              have H7 := Lib.hid h7
              have HR := Lib.hid hr
              clear h7 ha ha2 hr
              go_wp2_with (refine wpList_load_row rfl 49 (.tmp 2) rfl _ rfl 49 _ (0, 0) _ H2.out.b2 Tryd.underlying49 rfl info49 ?_)
              refine HC.out.mono ?_
              rintro e w3 ⟨rfl, hs3⟩
              have H3 := Lib.hid hs3
              clear hs3
              by_cases h13 : 8 * L.length < at_ + 13
              · have hr := HR.out
                rw [if_pos h13] at hr
                subst hr
                have HC2 := Lib.hid (H3.out.get_no (W := 6) (by decide) (by omega))
                clear h13 HR
                go_wp2_with (refine wpList_load_row rfl 49 (.tmp 2) rfl _ rfl 49 _ (0, 0) _ H3.out.b2 Tryd.underlying49 rfl info49 ?_)
                refine HC2.out.mono ?_
                rintro e w4 ⟨rfl, hk⟩
                go_wp2_with fail
                exact ⟨rfl, hk, rfl⟩
              · obtain ⟨m, hm⟩ : ∃ m, numAt L (at_ + 7) 6 = m := ⟨_, rfl⟩
                have hm2 : ofBytes L / 2 ^ (at_ + 7) % 2 ^ 6 = m := hm
                have hm63 : m < 2 ^ 6 := by rw [← hm2]; exact Nat.mod_lt _ (by decide)
                have mi : (m : Int) ≤ 63 := by omega
                have HC2 := Lib.hid (H3.out.get (W := 6) (by decide) (by omega))
                rw [show at_ + 2 + 5 = at_ + 7 by omega, hm] at HC2
                have hr := HR.out
                rw [if_neg h13, hm2] at hr
                have HR2 := Lib.hid hr
                clear h13 hm hm2 hr HR
                go_wp2_with (refine wpList_load_row rfl 49 (.tmp 2) rfl _ rfl 49 _ (0, 0) _ H3.out.b2 Tryd.underlying49 rfl info49 ?_)
                refine HC2.out.mono ?_
                rintro e w4 ⟨rfl, hs4⟩
                have H4 := Lib.hid hs4
                clear hs4
                have hr := HR2.out
                by_cases h64 : 64 < a + (m + 1)
                · rw [if_pos h64] at hr
                  subst hr
                  have h64i : (64 : Int) < (a : Int) + ((m : Int) + 1) := by omega
                  clear h64 HR2
                  have hdec : decide ((a : Int) + ((m : Int) + 1) ≤ 64) = false := decide_eq_false (by omega)
                  go_wp2_with fail
                  refine (check_no 4 (by decide) _).mono ?_
                  rintro e w' ⟨rfl, rfl⟩
                  go_wp2_with fail
                  exact ⟨rfl, H4.out.keeps, rfl⟩
                · rw [if_neg h64] at hr
                  have h64i : (a : Int) + ((m : Int) + 1) ≤ 64 := by omega
                  have HR3 := Lib.hid hr
                  have H5 := Lib.hid (H4.out.set3 ⟨a, 64 - a - (m + 1), true⟩)
                  clear hr HR2
                  have hsub : (64 : Int) - (a : Int) = ((64 - a : Nat) : Int) := by omega
                  have hsub2 : ((64 - a : Nat) : Int) - ((m : Int) + 1) = ((64 - a - (m + 1) : Nat) : Int) := by omega
                  have HOK := Lib.hid (show Win.Ok ⟨a, 64 - a - (m + 1), true⟩ from ⟨by show a ≤ 31; omega, by show a + (64 - a - (m + 1)) ≤ 63; omega⟩)
                  go_wp2_with (first
                    | (go_at_call 25; refine (check_ok true 4 (.inl rfl) _).mono ?_; rintro e w' ⟨rfl, rfl⟩)
                    | (refine wpList_store_row rfl 51 (.tmp 3) (.tmp 35) rfl (w.heap.size + 1) (winC a (64 - a - (m + 1)) true) rfl rfl 51 _ H4.out.b3 info51 rfl (winC_ones _ _ _) ?_)
                    | fail)
                  simp only [Act.put]
                  go_meet
                  case rel => exact ⟨_, _, HOK.out, H5.out, HR3.out⟩
        case rest =>
          obtain ⟨v2, z, hok, hs, hr⟩ := hcut
          have H3 := Lib.hid hs
          obtain ⟨t, e, is⟩ := v2
          clear hs HR H2 HG HY2 H0
          go_upto_region 9 with fail
          have htl : t ≤ 31 := hok.1
          have hte : t + e ≤ 63 := hok.2
          have HTE := Lib.hid (show t + e ≤ 64 by omega)
          refine wp_region_held_drew (S := fun x => ∃ v5 z, Src B p v L w w.heap.size ⟨t, e, is⟩ v5 z x) (by kernel_rfl) ⟨_, _, H3.out.drew⟩ ?_
          intro _
          have hS0 := H3.out.drew
          generalize World.drew _ = w3 at hS0 ⊢
          refine held_take (i := 0) (v := .agg (srcC p)) rfl (by kernel_rfl) (by kernel_rfl) (by kernel_rfl) (some 36) (fun _ _ _ h => h) rfl (yields_load 49 (.tmp 2) rfl _ rfl (by rfl) (fun w' ⟨_, _, hw'⟩ => hw'.load2)) ⟨_, _, hS0⟩ ?_
          simp only [Act.put, List.setIfInBounds_toArray, List.set_cons_zero, List.set_cons_succ]
          refine held_take (i := 1) (v := .agg (winC t e is)) rfl (by kernel_rfl) (by kernel_rfl) (by kernel_rfl) (some 37) (fun _ _ _ h => h) rfl (yields_load 51 (.tmp 3) rfl _ rfl (by rfl) (fun w' ⟨_, _, hw'⟩ => hw'.load3)) ⟨_, _, hS0⟩ ?_
          simp only [Act.put, List.setIfInBounds_toArray, List.set_cons_zero, List.set_cons_succ]
          refine held_take (i := 4) (v := .pointer (some ⟨w.heap.size + 1, 1, none⟩)) rfl (by kernel_rfl) (by kernel_rfl) (by kernel_rfl) (some 40) (fun _ _ _ h => h) rfl (Or.inl ⟨by rfl, fun _ _ => by rfl⟩) ⟨_, _, hS0⟩ ?_
          simp only [Act.put, List.setIfInBounds_toArray, List.set_cons_zero, List.set_cons_succ]
          refine held_take (i := 5) (v := .int .i64 e) rfl (by kernel_rfl) (by kernel_rfl) (by kernel_rfl) (some 41) (fun _ _ _ h => h) rfl (Or.inl ⟨by rfl, by rintro w' ⟨_, _, hw'⟩; have hc' : w'.cell? ⟨w.heap.size + 1, 1, none⟩ = some (.int .i64 e) := hw'.b3.cell 1; go_simp⟩) ⟨_, _, hS0⟩ ?_
          simp only [Act.put, List.setIfInBounds_toArray, List.set_cons_zero, List.set_cons_succ]
          refine held_take (i := 7) (v := .agg (winC t e is)) rfl (by kernel_rfl) (by kernel_rfl) (by kernel_rfl) (some 43) (fun _ _ _ h => h) rfl (yields_load 51 (.tmp 3) rfl _ rfl (by rfl) (fun w' ⟨_, _, hw'⟩ => hw'.load3)) ⟨_, _, hS0⟩ ?_
          simp only [Act.put, List.setIfInBounds_toArray, List.set_cons_zero, List.set_cons_succ]
          refine held_call (i := 2) (by kernel_rfl) rfl (by rfl) (some 38) rfl 41 #[.agg (winC t e is)] (by kernel_rfl) (fun r w' => r = .int .i64 ((64 - t - e : Nat) : Int) ∧ Src B p v L w w.heap.size ⟨t, e, is⟩ ⟨0, 0, false⟩ z w') ((wwide_any t e is HTE.out _).mono fun r w' ⟨he, hk⟩ => ⟨_, he, ⟨rfl, hS0.quiet hk⟩, ⟨_, _, hS0.quiet hk⟩⟩) ?_
          rintro r4 w4 ⟨rfl, hS4⟩ _
          simp only [Act.put, List.setIfInBounds_toArray, List.set_cons_zero, List.set_cons_succ]
          by_cases hT : 8 * L.length < z + (64 - t - e)
          · unfold payN at hr
            rw [if_pos hT] at hr
            subst hr
            refine held_panic (i := 3) (by kernel_rfl) rfl (by rfl) 22 #[.agg (srcC p), .int .i64 ((64 - t - e : Nat) : Int)] (by kernel_rfl) [{ v := thrownV 1, recovered := false }] (fun w' => Keeps (fun i => i = p) w w') (hS4.get_no (by omega) hT) ?_
            intro w5 hk
            exact ⟨rfl, hk, rfl⟩
          · unfold payN at hr
            rw [if_neg hT] at hr
            obtain ⟨n, hn⟩ : ∃ n, numAt L z (64 - t - e) = n := ⟨_, rfl⟩
            have hn2 : ofBytes L / 2 ^ z % 2 ^ (64 - t - e) = n := hn
            have hlt : n < 2 ^ (64 - t - e) := by rw [← hn2]; exact Nat.mod_lt _ (Nat.two_pow_pos _)
            simp only [hn2] at hr
            subst hr
            have hg := hS4.get (W := 64 - t - e) (by omega) (by omega)
            rw [hn] at hg
            refine held_call (i := 3) (by kernel_rfl) rfl (by rfl) (some 39) rfl 22 #[.agg (srcC p), .int .i64 ((64 - t - e : Nat) : Int)] (by kernel_rfl) (fun r w' => r = .int .u64 (n : Nat) ∧ Src B p v L w w.heap.size ⟨t, e, is⟩ ⟨0, 0, false⟩ (z + (64 - t - e)) w') (hg.mono fun r w' ⟨he, hs⟩ => ⟨_, he, ⟨rfl, hs⟩, ⟨_, _, hs⟩⟩) ?_
            rintro r5 w5 ⟨rfl, hS5⟩ _
            simp only [Act.put, List.setIfInBounds_toArray, List.set_cons_zero, List.set_cons_succ]
            have HSH := Lib.hid (show IntKind.u64.wrap ((n : Int) * 2 ^ e) = (n : Int) * 2 ^ e from by
              rw [IntKind.wrap_u64]
              have h1 := Nat.mul_lt_mul_of_pos_right hlt (Nat.two_pow_pos e)
              rw [← Nat.pow_add] at h1
              have h3 : 2 ^ (64 - t - e + e) ≤ 2 ^ 64 := Nat.pow_le_pow_right (by decide) (by omega)
              have h2 : ((n : Int) * 2 ^ e) = ((n * 2 ^ e : Nat) : Int) := by rw [Int.natCast_mul, Int.natCast_pow]; rfl
              rw [h2]; omega)
            clear hn hn2 hlt hg
            refine held_take (i := 6) (v := .int .u64 ((n * 2 ^ e : Nat) : Int)) rfl (by kernel_rfl) (by kernel_rfl) (by kernel_rfl) (some 42) (fun _ _ _ h => h) rfl (Or.inl ⟨by rfl, by intro w' _; go_simp; exact HSH.out⟩) ⟨_, _, hS5⟩ ?_
            simp only [Act.put, List.setIfInBounds_toArray, List.set_cons_zero, List.set_cons_succ]
            refine held_take (i := 8) (v := .int .u64 ((n * 2 ^ e : Nat) : Int)) rfl (by kernel_rfl) (by kernel_rfl) (by kernel_rfl) (some 4) (fun _ _ _ h => h) rfl (Or.inl ⟨by rfl, fun _ _ => by rfl⟩) ⟨_, _, hS5⟩ ?_
            simp only [Act.put, List.setIfInBounds_toArray, List.set_cons_zero, List.set_cons_succ]
            refine held_one (i := 9) (by kernel_rfl) rfl (by rfl) fun K' hK => ?_
            have hS6 := hS5.set5 ⟨t, e, is⟩
            refine wp_store_row 51 (.tmp 5) (.tmp 43) rfl (w.heap.size + 2) (winC t e is) rfl rfl 51 _ hS5.b5 info51 rfl (winC_ones _ _ _) (hK.out _ _ ⟨_, _, hS6⟩ fun _ => ?_)
            refine wpAnyH_done (by kernel_rfl) ?_ _
            have H6 := Lib.hid hS6
            generalize World.setRow _ _ _ = w6 at hS6 H6 ⊢
            clear hS0 hS4 hS5 hS6 H3
            go_wp2_with fail
            exact bodyPost_ret (results_slot_cell Tryd.results24 _ _ _ 51 _ (0, 0) _ rfl H6.out.b5 Tryd.underlying51 rfl info51) rfl ⟨H6.out.keeps, rfl, H6.out.rd⟩
end Go.Proofs.YthcoiaigmndohaaDoor
