/-
  The law BitsWrites: its walk.
-/
import Derived.Test.YthcoiaigmndohaaBitsLawD
import Derived.Deep.RegionWith
import Derived.Deep.QuietTactic
import Derived.Deep.RegionLaw
namespace Go.Proofs.Ythcoiaigmndohaa
open Go.RowKit BitM

theorem Below.of_keeps {w w' : World} (h : Keeps (fun _ => False) w w') : Below w.heap.size w w' := h.below (fun _ _ h => h) (Nat.le_refl _)

/-- What Put answers. -/
def putE (d : Int) (x : Nat) : Nat := if wideB d = false then 6 else if fitsB x d.toNat = false then 4 else 0
/-- The number then. -/
def putNum (d : Int) (x N n : Nat) : Nat := if putE d x = 0 then N + x * 2 ^ n else N
/-- How many bits then. -/
def putLen (d : Int) (x n : Nat) : Nat := if putE d x = 0 then n + d.toNat else n

theorem putE_zero {d : Int} {x : Nat} (h : putE d x = 0) : ∃ W : Nat, d = (W : Int) ∧ W ≤ 64 ∧ wideB d = true ∧ fitsB x W = true := by
  have hw : wideB d = true := by
    cases hw : wideB d with
    | true => rfl
    | false => unfold putE at h; rw [if_pos hw] at h; cases h
  have hk : 0 ≤ d ∧ d ≤ 64 := by simpa [wideB] using hw
  have hf : fitsB x d.toNat = true := by
    cases hf : fitsB x d.toNat with
    | true => rfl
    | false => unfold putE at h; rw [if_neg (by simp [hw]), if_pos hf] at h; cases h
  exact ⟨d.toNat, by omega, by omega, hw, hf⟩

theorem put_any (B p : Nat) (x : Nat) (d : Int) (w : World) (v : Value) (N n : Nat) (hx : Fits x) (hn : n ≤ 100000) (hN : Wr B p w v N n) (hB : B ≤ w.heap.size) :
    Calls Try.prog 15 #[.pointer (some ⟨p, 0, none⟩), .int .u64 x, .int .i64 d] w fun e w' => e = .returned (.int .i64 (putE d x : Nat)) ∧ ∃ v', Wr B p w' v' (putNum d x N n) (putLen d x n) ∧ Moves p v w v' w' := by
  cases hw : wideB d with
  | false =>
    have he : putE d x = 6 := by unfold putE; rw [if_pos hw]
    unfold putNum putLen
    rw [he, if_neg (by decide), if_neg (by decide)]
    refine (put_wide _ x d hw w).mono ?_
    rintro e w' ⟨rfl, rfl⟩
    exact ⟨rfl, v, hN, Moves.refl _ _ _⟩
  | true =>
    have hk : 0 ≤ d ∧ d ≤ 64 := by simpa [wideB] using hw
    obtain ⟨W, rfl⟩ : ∃ W : Nat, d = (W : Int) := ⟨d.toNat, by omega⟩
    have hW : W ≤ 64 := by omega
    cases hf : fitsB x W with
    | false =>
      have he : putE W x = 4 := by unfold putE; rw [if_neg (by simp [hw]), if_pos (by rw [Int.toNat_natCast]; exact hf)]
      unfold putNum putLen
      rw [he, if_neg (by decide), if_neg (by decide)]
      refine (put_range _ x W hx hW hf w).mono ?_
      rintro e w' ⟨rfl, rfl⟩
      exact ⟨rfl, v, hN, Moves.refl _ _ _⟩
    | true =>
      have he : putE W x = 0 := by unfold putE; rw [if_neg (by simp [hw]), if_neg (by rw [Int.toNat_natCast, hf]; decide)]
      unfold putNum putLen
      rw [he, if_pos rfl, if_pos rfl, Int.toNat_natCast]
      exact put_ok B p x W w v N n hx hW hf hn hN hB

theorem In.of_own' {w : World} {B n : Nat} {v : Value} {L : List Int} (h : w.ownsRow B 5 1 v n (L.map (Value.int .u8))) (hn : L.length = n) (hl : L.length ≤ 100000) : ∃ A c, v = .slice A L.length c ∧ In w A c L := by
  subst hn
  exact In.of_own h hl

theorem bytes_in (B p : Nat) (w : World) (v : Value) (N n : Nat) (hn : n ≤ 100000) (hN : Wr B p w v N n) (T : List Int) (hT : bytesL N ((n + 7) / 8) = T) :
    Calls Try.prog 20 #[.pointer (some ⟨p, 0, none⟩)] w fun e w' => ∃ A c, e = .returned (.slice A T.length c) ∧ In w' A c T ∧ Keeps (fun _ => False) w w' := by
  refine (bytes_any B p w v N n (by omega) hN).mono ?_
  rintro e w' ⟨u, rfl, hu, hk⟩
  rw [hT] at hu
  obtain ⟨A, c, rfl, hI⟩ := In.of_own' hu (by rw [← hT, bytesL_len]) (by rw [← hT, bytesL_len]; omega)
  exact ⟨A, c, rfl, hI, hk⟩

theorem refBytes_in (A : Option Addr) (c : Nat) (l : List Bool) (w : World) (hI : InB w A c l) (T : List Int) (hT : bytesL (boolsN l) ((l.length + 7) / 8) = T) :
    Calls Try.prog 21 #[.slice A l.length c] w fun e w' => ∃ A c, e = .returned (.slice A T.length c) ∧ In w' A c T ∧ Keeps (fun _ => False) w w' := by
  have hl := hI.le
  refine (refBytes_any A c l w hI).mono ?_
  rintro e w' ⟨u, rfl, hu, hk⟩
  rw [hT] at hu
  obtain ⟨A, c, rfl, hI⟩ := In.of_own' hu (by rw [← hT, bytesL_len]) (by rw [← hT, bytesL_len]; omega)
  exact ⟨A, c, rfl, hI, hk⟩

theorem Wr.grown {B B' p m : Nat} {w w' : World} {v o : Value} {N n : Nat} {xs : List Value} (h : Wr B p w v N n) (ho : w.ownsRow B' 4 1 o m xs) (hg : w.grownBy w' o.ownBlock) : Wr B p w' v N n := by
  have hk : Keeps (fun i => o.ownBlock = some i) w w' := (Keeps.refl _ w).grown hg (fun k hk => .inl hk)
  exact ⟨h.blk.keep hk (h.blk.own_ne ho (by decide)), own_keep h.own hk (fun k hv hu => own_own_ne ho h.own (by decide) hu hv), h.lt⟩

/-- append of a slice that is owned, nil or not. -/
theorem step_append_two {P : Program} {w : World} {ops : Array Oper} {o : Oper} {a : Act} {K : Act → World → Prop} {Q : Exit → Act → World → Prop} {E : Prop} (hgd : o.guard = none) (s x : Operand) (t : TypeId)
    (ho : o.op = .call { callee := .builtin .append, args := #[s, x], argTypes := #[t, t] })
    (base base' : Nat) (e : TypeId) (i : TypeInfo) (z : Value) (bytes : Nat) (ht : P.underlying t = some (.slice e)) (hi : P.info? e = some i) (hz : i.zero = some z)
    (hsize : i.size = 1) (hby : i.bytes = bytes) (hzs : z.cells.size = 1)
    (v v2 : Value) (n m : Nat) (xs ys : List Value) (hs : a.eval s = v) (hown : w.ownsRow base e 1 v n xs) (hx : a.eval x = v2) (hown2 : w.ownsRow base' e 1 v2 m ys) (h1 : ∀ u ∈ ys, u.oneCell' = true)
    (h63 : n + m ≤ maxLen) (hbytes : (n + m) * bytes ≤ 140737488355328) (hbase : base ≤ w.heap.size)
    (h : ∀ v' w', w'.ownsRow base e 1 v' (n + m) (xs ++ ys) → w.grownBy w' v.ownBlock → K (a.put o.dst v') w') :
    if Region.wanted o (yielded ops a.tmps) = true then Oper.wp P o a w K Q else E := by
  have hw : Region.wanted o (yielded ops a.tmps) = true := by simp [Region.wanted, hgd]
  rw [if_pos hw]
  have hlen := hown2.1
  rcases hown2.2 with ⟨rfl, hm⟩ | ⟨g, cap, cur, rfl, _⟩
  · subst hm
    have hys : ys = [] := by
      apply List.eq_nil_of_length_eq_zero
      simpa using hlen
    subst hys
    have hrun := run_append_owned_none (P := P) (w := w) base t o.type e i 1 ht hi v n xs hown
    unfold Oper.wp
    simp [execOp, ho, resolve, invoke, builtin, hs, hx, hrun, Result.andThen]
    exact h v w (by simpa using hown) (World.grownBy.refl _ _)
  · obtain ⟨v', w', hr, h2, h3, _⟩ := run_append_own_at (P := P) w base t o.type e i z 1 bytes ht hi hz hsize hby hzs (by decide) v n xs hown ⟨g, 0, none⟩ m cap ys (by simpa using hlen) (hown2.cells rfl) h1 h63 hbytes hbase
    unfold Oper.wp execOp
    simp only [ho, resolve, invoke, builtin, Sem.run_bind, Sem.run_pure, Result.andThen_ok, List.map_toArray, List.map_cons, List.map_nil, hs, hx, hr]
    exact h v' w' h2 h3

theorem refFits_q (x k : Nat) (hx : Fits x) (hk : k ≤ 64) (w : World) : Calls Try.prog 17 #[.int .u64 x, .int .i64 k] w fun e w' => e = .returned (.bool (fitsB x k)) ∧ w' = w :=
  (refFits_any x k hx hk w).mono fun _ _ ⟨h1, h2⟩ => ⟨h1, h2.symm⟩

theorem In.keeps {w w' : World} {A : Option Addr} {c : Nat} {L : List Int} (h : In w A c L) (hb : Keeps (fun _ => False) w w') : In w' A c L := h.keep (Below.of_keeps hb)

set_option maxRecDepth 100000 in
set_option maxHeartbeats 6400000 in
theorem bitsWrites_walk (L : List Int) (A : Option Addr) (c : Nat) (V : List Int) (A' : Option Addr) (c' : Nat) (w : World) (hrow : Row w w.heap.size A L.length (L.map (.int .u64))) (hc : L.length ≤ c) (hm : c ≤ maxLen) (hwf : ∀ z ∈ L, (Lit.int .u64 z).wf = true) (hnil : A = none → c = 0)
    (hrow' : Row w w.heap.size A' V.length (V.map (.int .i64))) (hc' : V.length ≤ c') (hm' : c' ≤ maxLen) (hwf' : ∀ z ∈ V, (Lit.int .i64 z).wf = true) (hnil' : A' = none → c' = 0) :
    Calls Try.prog 4 #[.slice A L.length c, .slice A' V.length c'] w fun e w' => e = .returned (.bool true) ∧ Below w.heap.size w w' := by
  have hlm : L.length ≤ maxLen := Nat.le_trans hc hm
  have hlm' : V.length ≤ maxLen := Nat.le_trans hc' hm'
  unfold maxLen at hlm hlm'
  by_cases hl : 60 < L.length
  · clear hrow hwf hnil hm hrow' hwf' hnil' hm'
    go_enter Try.func4, Try.ntmps4
    go_wp2
    go_ret
    exact ⟨rfl, Below.refl _ _⟩
  · by_cases hl' : 60 < V.length
    · have hb : decide ((60 : Int) < (V.length : Int)) = true := decide_eq_true (by omega)
      clear hrow hwf hnil hm hrow' hwf' hnil' hm'
      go_enter Try.func4, Try.ntmps4
      go_wp2
      go_ret
      exact ⟨rfl, Below.refl _ _⟩
    · obtain ⟨M, hml, hLM, hI⟩ := In64.came hrow hwf hnil (by omega)
      have hJ := InI.came hrow' hwf' hnil' (by omega)
      rw [← hml] at hl ⊢
      have hl2 : M.length ≤ 60 := by omega
      have hl3 : V.length ≤ 60 := by omega
      obtain ⟨e0, he0, hz0, hz1, hz2⟩ := info_parts info4
      clear hrow hc hm hwf hnil hrow' hc' hm' hwf' hnil' hlm hlm' hml hLM
      go_enter Try.func4, Try.ntmps4
      go_wp2_with fail
      refine (newWriter_any _).mono ?_
      rintro e w1 ⟨rfl, hw1⟩
      have hk1 : Keeps (fun _ => False) w w1 := by rw [hw1]; exact (Keeps.refl _ w).alloc _
      have hwr1 : Wr w.heap.size w.heap.size w1 (.slice none 0 0) 0 0 := by
        rw [hw1]
        exact ⟨Blk.new _ _ _, World.ownsRow_nil _ _ _ _, by decide⟩
      have HWR1 := Lib.hid hwr1
      clear hw1 hwr1
      go_wp2_with fail
      go_loopw [6, 7] (fun o i wr => ∃ (j : Nat) (al : List Bool) (v : Value), j ≤ M.length ∧ j ≤ V.length ∧ i = .int .i64 j ∧ wr.ownsRow w.heap.size 4 1 o al.length (al.map Value.bool) ∧ al.length ≤ 64 * j ∧ Wr w.heap.size w.heap.size wr v (boolsN al) al.length ∧ Keeps (fun _ => False) w wr) (fun _ i _ => M.length - (intOf i).toNat)
      case atStart => exact ⟨0, [], _, Nat.zero_le _, Nat.zero_le _, rfl, World.ownsRow_nil _ _ _ _, by simp, HWR1.out, hk1⟩
      case round =>
        obtain ⟨j, al, v, hj, hj', rfl, hown, hal, hwr, hkr⟩ := hrel
        have HO := Lib.hid hown
        have HWR := Lib.hid hwr
        clear hown hwr
        by_cases hlt : j < M.length
        · by_cases hlt' : j < V.length
          · obtain ⟨b, off, rfl, hb, hcell, hfit⟩ := hI.at_ hlt
            obtain ⟨b', off', rfl, hb', hcell', hbd⟩ := hJ.at_ hlt'
            obtain ⟨x, hx⟩ : ∃ x, M[j] = x := ⟨_, rfl⟩
            obtain ⟨d, hd⟩ : ∃ d, V[j] = d := ⟨_, rfl⟩
            rw [hx] at hcell hfit
            rw [hd] at hcell' hbd
            have hji : (j : Int) < (M.length : Int) := by omega
            have hji' : (j : Int) < (V.length : Int) := by omega
            have j0 : (0 : Int) ≤ (j : Int) := by omega
            have HF := Lib.hid hfit
            have hn5 : al.length ≤ 100000 := by omega
            clear hx hd hfit
            go_upto_region 10 with fail
            go_cut [8] from 21 to 88 (fun e wx => e = .int .i64 (putE d x : Nat) ∧ ∃ v', Wr w.heap.size w.heap.size wx v' (putNum d x (boolsN al) al.length) (putLen d x al.length) ∧ wx.ownsRow w.heap.size 4 1 u6 al.length (al.map Value.bool) ∧ Keeps (fun _ => False) w wx)
            case first =>
              have r1 : wr.cell? ⟨b, off + j, none⟩ = some (.int .u64 x) := (hkr.cell (p := ⟨b, off + j, none⟩) hb (fun h => h)).trans hcell
              have r2 : wr.cell? ⟨b', off' + j, none⟩ = some (.int .i64 d) := (hkr.cell (p := ⟨b', off' + j, none⟩) hb' (fun h => h)).trans hcell'
              have HWD : Wr w.heap.size w.heap.size wr.drew v (boolsN al) al.length := HWR.out.quiet (Keeps.refl _ wr).drew
              have HWDH := Lib.hid HWD
              clear HWD
              go_still_tail 9, (by kernel_rfl)
              change wpList _ _ _ _ _ wr.drew
              go_wp2_with fail
              refine (put_any w.heap.size w.heap.size x d wr.drew v _ _ HF.out hn5 HWDH.out hkr.size).mono ?_
              rintro e w2 ⟨rfl, v2, hwr2, hmv⟩
              have HW2 := Lib.hid hwr2
              clear hwr2
              go_wp2_with fail
              go_meet
              case rel =>
                have hown2 : w2.ownsRow w.heap.size 4 1 u6 al.length (al.map Value.bool) := hmv.row_stays (own_keep HO.out ((Keeps.refl (fun _ => False) wr).drew) (fun _ _ h => h)) HWDH.out.own HWDH.out.blk (by decide) (by decide)
                refine ⟨rfl, v2, HW2.out, hown2, hkr.drew.trans' hmv.keeps ?_⟩
                rintro i hi (h | h)
                · omega
                · have := (HWDH.out.own.lt i h).1; omega
            case rest =>
              obtain ⟨rfl, v2, hwr2, hown2, hkr2⟩ := hcut
              have HW2 := Lib.hid hwr2
              have HO2 := Lib.hid hown2
              clear hwr2 hown2
              have r1 : wc.cell? ⟨b, off + j, none⟩ = some (.int .u64 x) := (hkr2.cell (p := ⟨b, off + j, none⟩) hb (fun h => h)).trans hcell
              have r2 : wc.cell? ⟨b', off' + j, none⟩ = some (.int .i64 d) := (hkr2.cell (p := ⟨b', off' + j, none⟩) hb' (fun h => h)).trans hcell'
              obtain ⟨er, her⟩ : ∃ er, putE d x = er := ⟨_, rfl⟩
              rw [her]
              have HER := Lib.hid her
              clear her
              go_upto_region 11 with fail
              go_cut [9] from 21 to 88 (fun s wx => s = .int .i64 0 ∧ wc = wx)
              case first =>
                go_wp2_with fail
                go_meet
                case rel => exact ⟨rfl, rfl⟩
              case rest =>
                obtain ⟨rfl, rfl⟩ := hcut
                refine ‹∀ (a : Act) (w : World), Code.wp _ _ _ a w → _› _ _ ?_
                apply wp_seq_k
                intro _ _
                go_cut [6, 9] from 21 to 88 (fun o want wx => want = .int .i64 er ∧ ∃ (al2 : List Bool), wx.ownsRow w.heap.size 4 1 o al2.length (al2.map Value.bool) ∧ al2.length ≤ 64 * (j + 1) ∧ Wr w.heap.size w.heap.size wx v2 (boolsN al2) al2.length ∧ Keeps (fun _ => False) w wx)
                case first =>
                  cases hw : wideB d with
                  | false =>
                    have he : er = 6 := by rw [← HER.out]; unfold putE; rw [if_pos hw]
                    have h2 := HW2.out
                    unfold putNum putLen at h2
                    rw [HER.out, he, if_neg (by decide), if_neg (by decide)] at h2
                    have HW := Lib.hid hw
                    have HW3 := Lib.hid h2
                    subst he
                    clear hw h2
                    go_wp2_with fail
                    refine (refWide_any d _).mono ?_
                    rw [HW.out]
                    rintro e w3 ⟨rfl, rfl⟩
                    go_wp2_with fail
                    go_meet
                    case rel => exact ⟨rfl, al, HO2.out, by omega, HW3.out, hkr2⟩
                  | true =>
                    have hk : 0 ≤ d ∧ d ≤ 64 := by simpa [wideB] using hw
                    obtain ⟨W, rfl⟩ : ∃ W : Nat, d = (W : Int) := ⟨d.toNat, by omega⟩
                    have hW : W ≤ 64 := by omega
                    have HW := Lib.hid hw
                    clear hw hk
                    cases hf : fitsB x W with
                    | false =>
                      have he : er = 4 := by rw [← HER.out]; unfold putE; rw [if_neg (by rw [HW.out]; decide), if_pos (by rw [Int.toNat_natCast]; exact hf)]
                      have h2 := HW2.out
                      unfold putNum putLen at h2
                      rw [HER.out, he, if_neg (by decide), if_neg (by decide)] at h2
                      have HFX := Lib.hid hf
                      have HW3 := Lib.hid h2
                      subst he
                      clear hf h2
                      go_wp2_with fail
                      refine (refWide_any W _).mono ?_
                      rw [HW.out]
                      rintro e w3 ⟨rfl, rfl⟩
                      have hfq := refFits_q x W HF.out hW
                      rw [HFX.out] at hfq
                      go_upto_region 14 with fail
                      go_quiet (first | (go_at_call 17; refine Calls.quiet_of_same (hfq _)))
                      go_wp2_with fail
                      go_meet
                      case rel => exact ⟨rfl, al, HO2.out, by omega, HW3.out.quiet ((Keeps.refl _ _).drewN _), hkr2.drewN _⟩
                    | true =>
                      have he : er = 0 := by rw [← HER.out]; unfold putE; rw [if_neg (by rw [HW.out]; decide), if_neg (by rw [Int.toNat_natCast, hf]; decide)]
                      have h2 := HW2.out
                      unfold putNum putLen at h2
                      rw [HER.out, he, if_pos rfl, if_pos rfl, Int.toNat_natCast] at h2
                      have hfq := refFits_q x W HF.out hW
                      rw [hf] at hfq
                      have HFX := Lib.hid hf
                      have HW3 := Lib.hid h2
                      subst he
                      clear hf h2
                      go_wp2_with fail
                      refine (refWide_any W _).mono ?_
                      rw [HW.out]
                      rintro e w3 ⟨rfl, rfl⟩
                      go_upto_region 14 with fail
                      go_quiet (first | (go_at_call 17; refine Calls.quiet_of_same (hfq _)))
                      have s1 : (wc.drewN nq).cell? ⟨b, off + j, none⟩ = some (.int .u64 x) := r1
                      have s2 : (wc.drewN nq).cell? ⟨b', off' + j, none⟩ = some (.int .i64 W) := r2
                      have hkn : Keeps (fun _ => False) wc (wc.drewN nq) := (Keeps.refl _ _).drewN _
                      have HW4 := Lib.hid (HW3.out.quiet hkn)
                      have HO4 := Lib.hid (own_keep HO2.out hkn (fun _ _ h => h))
                      have hkr4 := hkr2.trans hkn
                      clear hkn
                      generalize wc.drewN nq = wd at s1 s2 HW4 HO4 hkr4 ⊢
                      go_upto_region 16 with fail
                      have HO5 := Lib.hid (own_keep HO4.out ((Keeps.refl (fun _ => False) wd).drew) (fun _ _ h => h))
                      have hkr5 : Keeps (fun _ => False) w wd.drew := hkr4.drew
                      go_region_law (first | (refine step_append_two (by rfl) _ _ _ (by rfl) w.heap.size _ 4 e0 _ 1 Try.underlying33 he0 hz0 hz1 hz2 (by rfl) u6 vb al.length W _ _ (by rfl) hob (by rfl) hvb (bool_one _) (by unfold maxLen; omega) (by omega) hkb.size ?_; intro v3 w4 hown3 hgrow) | (go_simp; go_at_call 18; go_loud (refine (refBits_any x W HF.out hW _).mono ?_; rintro e w3 ⟨vb, rfl, hvb, hk3⟩; have hob := own_keep HO5.out hk3 (fun _ _ h => h); have hkb := hkr5.trans hk3)))
                      all_goals go_wp2_with fail
                      all_goals go_meet
                      all_goals (case rel =>
                        have hbl := bitsL_len x W
                        have hl3 : al.length + W = (al ++ bitsL x W).length := by rw [List.length_append, hbl]
                        have hX : x < 2 ^ W := by simpa [fitsB] using HFX.out
                        have hnum : boolsN al + x * 2 ^ al.length = boolsN (al ++ bitsL x W) := by rw [boolsN_append, boolsN_bits, Nat.mod_eq_of_lt hX]
                        have hw4 := (HW4.out.quiet ((Keeps.refl (fun _ => False) _).drew.trans hk3)).grown hob hgrow
                        rw [hl3] at hown3 hw4
                        rw [hnum] at hw4
                        refine ⟨rfl, al ++ bitsL x W, by rw [List.map_append]; exact hown3, by rw [← hl3]; omega, hw4, hkb.grown hgrow ?_⟩
                        intro k hk
                        right
                        exact (hob.lt k hk).1)
                case rest =>
                  obtain ⟨rfl, al2, hown3, hal2, hwr3, hkr3⟩ := hcut
                  have hn5 : al2.length ≤ 100000 := by omega
                  obtain ⟨A3, c3, rfl, hI3⟩ := InB.of_own hown3 hn5
                  obtain ⟨T, hT⟩ : ∃ T, bytesL (boolsN al2) ((al2.length + 7) / 8) = T := ⟨_, rfl⟩
                  have HT := Lib.hid hT
                  have hee : ((er : Int) != (er : Int)) = false := by simp
                  have hll : ((al2.length : Int) != (al2.length : Int)) = false := by simp
                  have htt : ((strOfNums T).toList != (strOfNums T).toList) = false := by simp
                  have HW6 := Lib.hid (hwr3.quiet (Keeps.refl (fun _ => False) _).drew)
                  have HI6 := Lib.hid (hI3.keep (Keeps.refl (fun _ => False) _).drew)
                  have HO6 := Lib.hid hown3
                  have HWR3 := Lib.hid hwr3
                  clear hT hown3 hwr3 hI3
                  go_upto_region 17 with fail
                  go_cut [88] from 21 to 88 (fun s wx => s = .bool false ∧ Keeps (fun _ => False) wc wx)
                  case first =>
                    go_region_with (first | (go_at_call 19; go_loud (refine (len_any _ _ _ _ HW6.out.blk).mono ?_; rintro e w' ⟨rfl, rfl⟩)) | (go_at_call 20; refine (bytes_in w.heap.size w.heap.size _ v2 _ _ hn5 HW6.out T HT.out).mono ?_; rintro e w' ⟨A4, c4, rfl, hA, hkA⟩; have hsA := hA.str) | (go_at_call 21; refine (refBytes_in A3 c3 al2 _ HI6.out T HT.out).mono ?_; rintro e w' ⟨A5, c5, rfl, hB, hkB⟩; have hsB := hB.str) | (go_at_call 20; refine (bytes_in w.heap.size w.heap.size _ v2 _ _ hn5 (HW6.out.quiet hkB) T HT.out).mono ?_; rintro e w' ⟨A4, c4, rfl, hA, hkA⟩; have hsA := hA.str; have hsB2 := (hB.keeps hkA).str) | (go_at_call 21; refine (refBytes_in A3 c3 al2 _ (HI6.out.keep hkA) T HT.out).mono ?_; rintro e w' ⟨A5, c5, rfl, hB, hkB⟩; have hsB := hB.str; have hsA2 := (hA.keeps hkB).str))
                    all_goals go_wp2_with fail
                    all_goals go_meet
                    all_goals (case rel => first | exact ⟨rfl, ((Keeps.refl _ _).drew.trans hkA).trans hkB⟩ | exact ⟨rfl, ((Keeps.refl _ _).drew.trans hkB).trans hkA⟩)
                  case rest =>
                    obtain ⟨rfl, hk6⟩ := hcut
                    go_wp2_with fail
                    go_roundw
                    case rel => exact ⟨j + 1, al2, v2, by omega, by omega, by go_num, own_keep HO6.out hk6 (fun _ _ h => h), hal2, HWR3.out.quiet hk6, hkr3.trans hk6⟩
                    case measure => simp [intOf]; omega
          · obtain rfl : j = V.length := by omega
            have hd2 : decide ((V.length : Int) < (V.length : Int)) = false := decide_eq_false (by omega)
            go_wp2_with fail
            refine (awake_any _).mono ?_
            rintro e w2 ⟨rfl, hk2⟩
            go_wp2
            go_ret
            exact ⟨rfl, Below.of_keeps (hkr.trans hk2)⟩
        · obtain rfl : j = M.length := by omega
          go_wp2_with fail
          refine (awake_any _).mono ?_
          rintro e w2 ⟨rfl, hk2⟩
          go_wp2
          go_ret
          exact ⟨rfl, Below.of_keeps (hkr.trans hk2)⟩
end Go.Proofs.Ythcoiaigmndohaa
