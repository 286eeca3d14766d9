/-
  The contract of the reference's Of. Conditions: at most 1000 bits, they fit 64.
-/
import Derived.Test.YtfpmbkdijechaaaStatMays
import Derived.Deep.CutRange
namespace Go.Proofs.Ytfpmbkdijechaaa
open Go.RowKit Flt
attribute [local go_sem] run_store_float

theorem statR_k (c : Int) (k : Nat → Int) (wh : Int) (an : Bool) (mn mx : Nat) {i : Nat} (h : i < 9) : (statR c k wh an mn mx)[1 + i]? = some (.int .i64 (k i)) := by
  have hc : i = 0 ∨ i = 1 ∨ i = 2 ∨ i = 3 ∨ i = 4 ∨ i = 5 ∨ i = 6 ∨ i = 7 ∨ i = 8 := by omega
  rcases hc with rfl | rfl | rfl | rfl | rfl | rfl | rfl | rfl | rfl <;> rfl
theorem statR_set (c : Int) (k : Nat → Int) (wh : Int) (an : Bool) (mn mx : Nat) {i : Nat} (h : i < 9) (v : Int) : (statR c k wh an mn mx).setIfInBounds (1 + i) (.int .i64 v) = statR c (fun j => if j = i then v else k j) wh an mn mx := by
  have hc : i = 0 ∨ i = 1 ∨ i = 2 ∨ i = 3 ∨ i = 4 ∨ i = 5 ∨ i = 6 ∨ i = 7 ∨ i = 8 := by omega
  rcases hc with rfl | rfl | rfl | rfl | rfl | rfl | rfl | rfl | rfl <;> rfl
theorem statR_ones (c : Int) (k : Nat → Int) (wh : Int) (an : Bool) (mn mx : Nat) : (statR c k wh an mn mx).all (·.oneCell') = true := by simp [statR, Value.oneCell']
theorem info34 : (Try.prog.info? 34).map (·.size) = some 14 := by kernel_rfl

theorem ofSt_c : ∀ M : List Nat, (ofSt M).c = M.length := by
  have h : ∀ (M : List Nat) (s : St), (M.foldl (fun s b => s.join (oneSt b)) s).c = s.c + M.length := by
    intro M
    induction M with
    | nil => intro s; simp
    | cons b M ih =>
      intro s
      rw [List.foldl_cons, ih]
      show s.c + 1 + (M.length : Int) = s.c + ((b :: M).length : Int)
      simp
      omega
  intro M
  have := h M zeroSt
  unfold ofSt
  rw [this]
  show (0 : Int) + _ = _
  omega

theorem lessMx {a b : Nat} (ha : Fits a) (hb : Fits b) : lessOf a b false = if decide (rank a < rank b) then b else a := by
  unfold lessOf
  by_cases h : rank b < rank a
  · rw [decide_eq_true h, decide_eq_false (by omega)]; rfl
  · rw [decide_eq_false h]
    by_cases h2 : rank a < rank b
    · rw [decide_eq_true h2]; rfl
    · have he : rank a = rank b := by omega
      have : a = b := by
        unfold Fits at ha hb
        unfold rank at he
        split at he <;> split at he <;> omega
      rw [decide_eq_false h2, this]; rfl

theorem refNext {L c0 : Int} {k : Nat → Int} {wh : Int} {an : Bool} {mn mx x kd : Nat} {sw : Bool} (hkd : kind x = kd) (hsw : (wholeOf x).isSome = sw) (f2 : Fits mx) (fx : Fits x) :
    statR L ((St.mk c0 k wh an mn mx).join (oneSt x)).k ((St.mk c0 k wh an mn mx).join (oneSt x)).wh ((St.mk c0 k wh an mn mx).join (oneSt x)).an ((St.mk c0 k wh an mn mx).join (oneSt x)).mn ((St.mk c0 k wh an mn mx).join (oneSt x)).mx =
    statR L (fun i => if i = kd then k kd + 1 else k i) (wh + if sw then 1 else 0) (an || decide (kd ≠ 8)) (if kd = 8 then mn else if !an || decide (rank x < rank mn) then x else mn) (if kd = 8 then mx else if !an || decide (rank mx < rank x) then x else mx) := by
  have e1 : ((kd : Int) = 8) = (kd = 8) := by rw [eq_iff_iff]; omega
  have e2 : ((kd : Int) != 8) = decide (kd ≠ 8) := by
    by_cases h : kd = 8
    · subst h; rfl
    · rw [decide_eq_true h]; simp; omega
  have e3 : (kd : Int).toNat = kd := by omega
  have hk : ((St.mk c0 k wh an mn mx).join (oneSt x)).k = fun i => if i = kd then k kd + 1 else k i := by
    funext i
    show k i + (if i = (kind x).toNat then 1 else 0) = _
    rw [hkd, e3]
    by_cases h : i = kd
    · rw [if_pos h, if_pos h, h]
    · rw [if_neg h, if_neg h]; omega
  have hw : ((St.mk c0 k wh an mn mx).join (oneSt x)).wh = wh + if sw then 1 else 0 := by
    show wh + (if (wholeOf x).isSome then (1 : Int) else 0) = _
    rw [hsw]
  have ha : ((St.mk c0 k wh an mn mx).join (oneSt x)).an = (an || decide (kd ≠ 8)) := by
    show (an || (kind x != 8)) = _
    rw [hkd, e2]
  have hmn : ((St.mk c0 k wh an mn mx).join (oneSt x)).mn = if kd = 8 then mn else if !an || decide (rank x < rank mn) then x else mn := by
    show spanMn an (kind x != 8) mn (if kind x = 8 then 0 else x) = _
    unfold spanMn lessOf
    rw [hkd, e2]
    simp only [e1]
    by_cases h : kd = 8
    · subst h; simp
    · rw [decide_eq_true (show kd ≠ 8 from h), if_neg h, if_neg h]
      cases an <;> simp
  have hmx : ((St.mk c0 k wh an mn mx).join (oneSt x)).mx = if kd = 8 then mx else if !an || decide (rank mx < rank x) then x else mx := by
    show spanMx an (kind x != 8) mx (if kind x = 8 then 0 else x) = _
    unfold spanMx
    rw [hkd, e2]
    simp only [e1]
    by_cases h : kd = 8
    · subst h; simp
    · rw [decide_eq_true (show kd ≠ 8 from h), if_neg h, if_neg h, lessMx f2 fx]
      cases an <;> simp
  rw [hk, hw, ha, hmn, hmx]

set_option maxRecDepth 100000 in
set_option maxHeartbeats 3200000 in
theorem refOf_any (A : Option Addr) (c : Nat) (M : List Nat) (w : World) (hI : In64 w A c M) (hl : M.length ≤ 1000) :
    Calls Try.prog 11 #[.slice A M.length c] w fun e w' => e = .returned (.agg (ofSt M).rcells) ∧ Keeps (fun _ => False) w w' := by
  have hle := hI.le
  go_enter Try.func11, Try.ntmps11
  go_wp2_with fail
  go_loopw [4] (fun x wr => ∃ j : Nat, j ≤ M.length ∧ x = .int .i64 j ∧ Blk wr w.heap.size 34 zeroSt.rcells ∧
      Blk wr (w.heap.size + 1) 34 (statR M.length (ofSt (M.take j)).k (ofSt (M.take j)).wh (ofSt (M.take j)).an (ofSt (M.take j)).mn (ofSt (M.take j)).mx) ∧ Keeps (fun _ => False) w wr) (fun x _ => M.length - (intOf x).toNat)
  case atStart =>
    have hb := Blk.new (w.alloc (Obj.cells zeroSt.rcells 34)) 34 (statR M.length (fun _ => 0) 0 false 0 0)
    rw [World.size_alloc] at hb
    exact ⟨0, Nat.zero_le _, rfl, (Blk.new w _ _).alloc _, hb, ((Keeps.refl _ _).alloc _).alloc _⟩
  case round =>
    obtain ⟨j, hj, rfl, hb0, hb1, hkr⟩ := hrel
    by_cases hlt : j < M.length
    · have hok := ofSt_ok (M := M.take j) (fun x hx => hI.fits x (List.mem_of_mem_take hx))
      have hlen : (M.take j).length = j := by simp; omega
      rw [hlen] at hok
      obtain ⟨b, off, hA, hb, hc, hf⟩ := (hI.keep hkr).at_ hlt
      have hnext := ofSt_take hlt
      generalize hs : ofSt (M.take j) = s at *
      obtain ⟨c0, k, wh, an, mn, mx⟩ := s
      dsimp only at hb1
      obtain ⟨x, hx⟩ : ∃ x, M[j] = x := ⟨_, rfl⟩
      rw [hx] at hc hf hnext
      have HCell := Lib.hid (show ∀ wx : World, Keeps (fun _ => False) w wx → wx.cell? ⟨b, off + j, none⟩ = some (.int .u64 x) from fun wx hk => by
        obtain ⟨b', off', hA', _, hc', _⟩ := (hI.keep hk).at_ hlt
        rw [hA] at hA'
        cases hA'
        rw [hx] at hc'
        exact hc')
      obtain ⟨n, sw, hsw, hW⟩ : ∃ (n : Int) (sw : Bool), (wholeOf x).isSome = sw ∧ ∀ w : World, Calls Try.prog 20 #[.int .u64 x] w fun e w' => e = .returned (.tuple #[.int .i64 n, .bool sw]) ∧ w = w' := ⟨_, _, rfl, fun w => refWhole_any x hf w⟩
      have hr := kind_range x
      obtain ⟨kd, hkd⟩ : ∃ kd : Nat, kind x = kd := ⟨(kind x).toNat, by omega⟩
      have h9 : kd < 9 := by omega
      have hki : (kd : Int) < 9 := by omega
      have hji : (j : Int) < (M.length : Int) := by omega
      have c1 : wr.cell? ⟨w.heap.size + 1, 1 + kd, none⟩ = some (.int .i64 (k kd)) := by rw [hb1.cell, statR_k _ _ _ _ _ _ h9]
      have c2 : wr.frozen? ⟨w.heap.size + 1, 1 + kd, none⟩ = false := hb1.frozen _
      subst hA
      have HOK := Lib.hid hok
      have HN := Lib.hid hnext
      have HK := Lib.hid hkd
      have HF := Lib.hid hf
      have HB0 := Lib.hid hb0
      have HB1 := Lib.hid hb1
      have HW := Lib.hid hW
      have HSW := Lib.hid hsw
      clear hok hnext hkd hf hb0 hb1 hr hs hx hlen hW hsw
      go_wp2_with fail
      refine (refKind_any x HF.out _).mono ?_
      rw [HK.out]
      rintro e w' ⟨rfl, rfl⟩
      go_upto_region 6 with fail
      go_cut [] from 22 to 29 (fun wx => Blk wx w.heap.size 34 zeroSt.rcells ∧ Blk wx (w.heap.size + 1) 34 (statR M.length (fun i => if i = kd then k kd + 1 else k i) wh an mn mx) ∧ Keeps (fun _ => False) w wx)
      case first =>
        go_wp2_with fail
        go_meet
        case rel =>
          have hw1 : wrap64 (k kd + 1) = k kd + 1 := by
            have := HOK.out.k kd
            dsimp only at this
            unfold wrap64; omega
          rw [hw1]
          have hb1 := HB1.out.set_ (1 + kd) (.int .i64 (k kd + 1))
          rw [statR_set _ _ _ _ _ _ h9] at hb1
          exact ⟨HB0.out.far (by simp) _, hb1, hkr.setCell (p := ⟨w.heap.size + 1, 1 + kd, none⟩) (.inr (Nat.le_succ _)) _⟩
      case rest =>
        obtain ⟨hb0, hb1, hkx⟩ := hcut
        have hc1 := HCell.out _ hkx
        have d10 : wc.cell? ⟨w.heap.size + 1, 10, none⟩ = some (.int .i64 wh) := hb1.cell 10
        have f10 : wc.frozen? ⟨w.heap.size + 1, 10, none⟩ = false := hb1.frozen 10
        clear c1 c2 HB0 HB1 hc hkr
        have HB0 := Lib.hid hb0
        have HB1 := Lib.hid hb1
        clear hb0 hb1
        go_wp2_with fail
        refine (HW.out _).mono ?_
        rintro e w' ⟨rfl, rfl⟩
        go_upto_if 38 with fail
        go_cut [] from 39 to 42 (fun wx => Blk wx w.heap.size 34 zeroSt.rcells ∧ Blk wx (w.heap.size + 1) 34 (statR M.length (fun i => if i = kd then k kd + 1 else k i) (wh + if sw then 1 else 0) an mn mx) ∧ Keeps (fun _ => False) w wx)
        case first =>
          cases sw
          · go_wp2_with fail
            go_meet
            case rel =>
              have e0 : (wh + if false = true then 1 else 0) = wh := by simp
              exact ⟨HB0.out, by rw [e0]; exact HB1.out, hkx⟩
          · go_wp2_with fail
            go_meet
            case rel =>
              have hw1 : wrap64 (wh + 1) = wh + 1 := by
                have := HOK.out.wh
                dsimp only at this
                unfold wrap64; omega
              rw [hw1]
              exact ⟨HB0.out.far (by simp) _, HB1.out.set_ 10 _, hkx.setCell (p := ⟨w.heap.size + 1, 10, none⟩) (.inr (Nat.le_succ _)) _⟩
        case rest =>
          obtain ⟨hb0, hb1, hkx⟩ := hcut
          obtain ⟨rx, hrx⟩ : ∃ rx, rank x = rx := ⟨_, rfl⟩
          obtain ⟨rm, hrm⟩ : ∃ rm, rank mn = rm := ⟨_, rfl⟩
          obtain ⟨rq, hrq⟩ : ∃ rq, rank mx = rq := ⟨_, rfl⟩
          have hnx := refNext (L := M.length) (c0 := c0) (k := k) (wh := wh) (an := an) (mn := mn) HK.out HSW.out HOK.out.mx HF.out
          rw [hrx, hrm, hrq] at hnx
          have RX : ∀ w : World, Calls Try.prog 21 #[.int .u64 x] w fun e w' => e = .returned (.int .i64 rx) ∧ w' = w := fun w => (refRank_any x HF.out w).mono fun _ _ ⟨h1, h2⟩ => ⟨by rw [h1, hrx], h2.symm⟩
          have RM : ∀ w : World, Calls Try.prog 21 #[.int .u64 mn] w fun e w' => e = .returned (.int .i64 rm) ∧ w' = w := fun w => (refRank_any mn HOK.out.mn w).mono fun _ _ ⟨h1, h2⟩ => ⟨by rw [h1, hrm], h2.symm⟩
          have RQ : ∀ w : World, Calls Try.prog 21 #[.int .u64 mx] w fun e w' => e = .returned (.int .i64 rq) ∧ w' = w := fun w => (refRank_any mx HOK.out.mx w).mono fun _ _ ⟨h1, h2⟩ => ⟨by rw [h1, hrq], h2.symm⟩
          have HNX := Lib.hid hnx
          have HRX := Lib.hid RX
          have HRM := Lib.hid RM
          have HRQ := Lib.hid RQ
          clear hnx hrx hrm hrq RX RM RQ d10 f10 hc1 HB0 HB1
          by_cases h8 : kd = 8
          · have h8i : (kd : Int) = 8 := by omega
            have H8 := Lib.hid h8
            have HB0 := Lib.hid hb0
            have HB1 := Lib.hid hb1
            clear h8 hb0 hb1
            go_wp2_with fail
            go_roundw
            case rel =>
              refine ⟨j + 1, by omega, by go_num, HB0.out, ?_, hkx⟩
              rw [HN.out, HNX.out, if_pos H8.out, if_pos H8.out, decide_eq_false (fun h => h H8.out), Bool.or_false]
              exact HB1.out
            case measure => simp [intOf]; omega
          · have h8i : ((kd : Int) == 8) = false := by rw [beq_eq_false_iff_ne]; omega
            have hc1 := HCell.out _ hkx
            have d11 : wc.cell? ⟨w.heap.size + 1, 11, none⟩ = some (.bool an) := hb1.cell 11
            have d12 : wc.cell? ⟨w.heap.size + 1, 12, none⟩ = some (.int .u64 mn) := hb1.cell 12
            have H8 := Lib.hid h8
            have HB0 := Lib.hid hb0
            have HB1 := Lib.hid hb1
            clear h8 hb0 hb1
            go_upto_region 11 with fail
            go_cut [58] from 45 to 58 (fun s wx => s = .bool (!an || decide (rx < rm)) ∧ ∃ m, wx = wc.drewN m)
            case first =>
              cases an
              · go_quiet (fail)
                go_wp2_with fail
                go_meet
                case rel => exact ⟨rfl, _, rfl⟩
              · go_quiet (first | (go_at_call_of 21 x; refine Calls.quiet_of_same (HRX.out _)) | (go_at_call_of 21 mn; refine Calls.quiet_of_same (HRM.out _)))
                go_wp2_with fail
                go_meet
                case rel => exact ⟨by simp, _, rfl⟩
            case rest =>
              obtain ⟨rfl, m, hwd⟩ := hcut
              have hb0 : Blk wc w.heap.size 34 zeroSt.rcells := by rw [hwd]; exact HB0.out.drewN m
              have hb1 : Blk wc (w.heap.size + 1) 34 (statR M.length (fun i => if i = kd then k kd + 1 else k i) (wh + if sw then 1 else 0) an mn mx) := by rw [hwd]; exact HB1.out.drewN m
              have hkd' : Keeps (fun _ => False) w wc := by rw [hwd]; exact hkx.drewN m
              have hc2 := HCell.out _ hkd'
              have e12 : wc.cell? ⟨w.heap.size + 1, 12, none⟩ = some (.int .u64 mn) := hb1.cell 12
              have g12 : wc.frozen? ⟨w.heap.size + 1, 12, none⟩ = false := hb1.frozen 12
              clear HB0 HB1 hc1 d11 d12 hwd hkx
              have HB0 := Lib.hid hb0
              have HB1 := Lib.hid hb1
              clear hb0 hb1
              obtain ⟨t1, ht1⟩ : ∃ t1, (!an || decide (rx < rm)) = t1 := ⟨_, rfl⟩
              rw [ht1]
              have HT1 := Lib.hid ht1
              clear ht1
              go_upto_if 58 with fail
              go_cut [] from 59 to 63 (fun wx => Blk wx w.heap.size 34 zeroSt.rcells ∧ Blk wx (w.heap.size + 1) 34 (statR M.length (fun i => if i = kd then k kd + 1 else k i) (wh + if sw then 1 else 0) an (if t1 then x else mn) mx) ∧ Keeps (fun _ => False) w wx)
              case first =>
                cases t1
                · go_wp2_with fail
                  go_meet
                  case rel => exact ⟨HB0.out, HB1.out, hkd'⟩
                · go_wp2_with fail
                  go_meet
                  case rel => exact ⟨HB0.out.far (by simp) _, HB1.out.set_ 12 _, hkd'.setCell (p := ⟨w.heap.size + 1, 12, none⟩) (.inr (Nat.le_succ _)) _⟩
              case rest =>
                obtain ⟨hb0, hb1, hkx⟩ := hcut
                clear hc2 e12 g12 HB0 HB1 hkd'
                obtain ⟨mn', hmn'⟩ : ∃ mn', (if t1 then x else mn) = mn' := ⟨_, rfl⟩
                rw [hmn'] at hb1
                have HMN := Lib.hid hmn'
                clear hmn'
                have hc1 := HCell.out _ hkx
                have d11 : wc.cell? ⟨w.heap.size + 1, 11, none⟩ = some (.bool an) := hb1.cell 11
                have d13 : wc.cell? ⟨w.heap.size + 1, 13, none⟩ = some (.int .u64 mx) := hb1.cell 13
                have HB0 := Lib.hid hb0
                have HB1 := Lib.hid hb1
                clear hb0 hb1
                go_upto_region 13 with fail
                go_cut [77] from 64 to 77 (fun s wx => s = .bool (!an || decide (rq < rx)) ∧ ∃ m, wx = wc.drewN m)
                case first =>
                  cases an
                  · go_quiet (fail)
                    go_wp2_with fail
                    go_meet
                    case rel => exact ⟨rfl, _, rfl⟩
                  · go_quiet (first | (go_at_call_of 21 x; refine Calls.quiet_of_same (HRX.out _)) | (go_at_call_of 21 mx; refine Calls.quiet_of_same (HRQ.out _)))
                    go_wp2_with fail
                    go_meet
                    case rel => exact ⟨by simp, _, rfl⟩
                case rest =>
                  obtain ⟨rfl, m2, hwd⟩ := hcut
                  have hb0 : Blk wc w.heap.size 34 zeroSt.rcells := by rw [hwd]; exact HB0.out.drewN m2
                  have hb1 : Blk wc (w.heap.size + 1) 34 (statR M.length (fun i => if i = kd then k kd + 1 else k i) (wh + if sw then 1 else 0) an mn' mx) := by rw [hwd]; exact HB1.out.drewN m2
                  have hkd' : Keeps (fun _ => False) w wc := by rw [hwd]; exact hkx.drewN m2
                  have hc2 := HCell.out _ hkd'
                  have e13 : wc.cell? ⟨w.heap.size + 1, 13, none⟩ = some (.int .u64 mx) := hb1.cell 13
                  have g13 : wc.frozen? ⟨w.heap.size + 1, 13, none⟩ = false := hb1.frozen 13
                  clear HB0 HB1 hc1 d11 d13 hwd hkx
                  have HB0 := Lib.hid hb0
                  have HB1 := Lib.hid hb1
                  clear hb0 hb1
                  obtain ⟨t2, ht2⟩ : ∃ t2, (!an || decide (rq < rx)) = t2 := ⟨_, rfl⟩
                  rw [ht2]
                  have HT2 := Lib.hid ht2
                  clear ht2
                  go_upto_if 77 with fail
                  go_cut [] from 78 to 82 (fun wx => Blk wx w.heap.size 34 zeroSt.rcells ∧ Blk wx (w.heap.size + 1) 34 (statR M.length (fun i => if i = kd then k kd + 1 else k i) (wh + if sw then 1 else 0) an mn' (if t2 then x else mx)) ∧ Keeps (fun _ => False) w wx)
                  case first =>
                    cases t2
                    · go_wp2_with fail
                      go_meet
                      case rel => exact ⟨HB0.out, HB1.out, hkd'⟩
                    · go_wp2_with fail
                      go_meet
                      case rel => exact ⟨HB0.out.far (by simp) _, HB1.out.set_ 13 _, hkd'.setCell (p := ⟨w.heap.size + 1, 13, none⟩) (.inr (Nat.le_succ _)) _⟩
                  case rest =>
                    obtain ⟨hb0, hb1, hkx⟩ := hcut
                    have d11 : wc.cell? ⟨w.heap.size + 1, 11, none⟩ = some (.bool an) := hb1.cell 11
                    have f11 : wc.frozen? ⟨w.heap.size + 1, 11, none⟩ = false := hb1.frozen 11
                    clear hc2 e13 g13 HB0 HB1 hkd'
                    have HB0 := Lib.hid hb0
                    have HB1 := Lib.hid hb1
                    clear hb0 hb1
                    go_wp2_with fail
                    go_roundw
                    case rel =>
                      refine ⟨j + 1, by omega, by go_num, HB0.out.far (by simp) _, ?_, hkx.setCell (p := ⟨w.heap.size + 1, 11, none⟩) (.inr (Nat.le_succ _)) _⟩
                      rw [HN.out, HNX.out, if_neg H8.out, if_neg H8.out, decide_eq_true (show kd ≠ 8 from H8.out), Bool.or_true, HT1.out, HT2.out, HMN.out]
                      exact HB1.out.set_ 11 _
                    case measure => simp [intOf]; omega
    · obtain rfl : j = M.length := by omega
      rw [List.take_of_length_le (Nat.le_refl _)] at hb1
      have HB0 := Lib.hid hb0
      have hb2 : Blk wr (w.heap.size + 1) 34 (ofSt M).rcells := by
        unfold St.rcells
        rw [ofSt_c]
        exact hb1
      have HB1 := Lib.hid hb2
      clear hb0 hb1 hb2
      go_wp2_with (first
        | (refine wpList_load_row rfl 34 (.tmp 3) rfl _ rfl 34 _ (0, 0) _ HB1.out Try.underlying34 rfl info34 ?_)
        | (refine wpList_store_row rfl 34 (.tmp 2) (.tmp 84) rfl _ _ rfl rfl 34 _ HB0.out info34 rfl (statR_ones _ _ _ _ _ _) ?_))
      exact bodyPost_ret (results_cell_row Try.results11 _ _ _ 34 _ (0, 0) _ rfl HB0.out.setRow Try.underlying34 rfl info34) rfl ⟨rfl, hkr.setRow (.inr (Nat.le_refl _)) _⟩
end Go.Proofs.Ytfpmbkdijechaaa
