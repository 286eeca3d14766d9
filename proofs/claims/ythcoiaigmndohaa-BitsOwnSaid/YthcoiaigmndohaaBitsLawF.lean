/-
  The law BitsRead: its walk.
-/
import Derived.Test.YthcoiaigmndohaaBitsLawE
namespace Go.Proofs.Ythcoiaigmndohaa
open Go.RowKit BitM

/-- What was put: where the number stands, the number, its width. -/
structure Ent where
  i : Nat
  x : Nat
  k : Nat

def entN : List Ent → Nat
  | [] => 0
  | e :: r => e.x + 2 ^ e.k * entN r
def entLen : List Ent → Nat
  | [] => 0
  | e :: r => e.k + entLen r

theorem entLen_snoc : ∀ (l : List Ent) (e : Ent), entLen (l ++ [e]) = entLen l + e.k
  | [], e => by simp [entLen]
  | f :: r, e => by simp only [List.cons_append, entLen, entLen_snoc r e]; omega

theorem entN_snoc : ∀ (l : List Ent) (e : Ent), entN (l ++ [e]) = entN l + e.x * 2 ^ entLen l
  | [], e => by simp [entN, entLen]
  | f :: r, e => by
    simp only [List.cons_append, entN, entN_snoc r e, entLen, Nat.mul_add, Nat.pow_add]
    rw [Nat.add_assoc, Nat.mul_left_comm]

def entOk (l : List Ent) : Prop := ∀ e ∈ l, e.x < 2 ^ e.k ∧ e.k ≤ 64

theorem entN_lt : ∀ {l : List Ent}, entOk l → entN l < 2 ^ entLen l
  | [], _ => by simp [entN, entLen]
  | e :: r, h => by
    have ih := entN_lt (l := r) (fun f hf => h f (List.mem_cons_of_mem _ hf))
    have hx := (h e (List.mem_cons_self ..)).1
    simp only [entN, entLen, Nat.pow_add]
    have h2 : (entN r + 1) * 2 ^ e.k ≤ 2 ^ entLen r * 2 ^ e.k := Nat.mul_le_mul_right _ ih
    rw [Nat.add_mul, Nat.mul_comm (entN r), Nat.mul_comm (2 ^ entLen r)] at h2
    omega

theorem entN_at : ∀ {l : List Ent} {i : Nat}, entOk l → (hi : i < l.length) → entN l / 2 ^ entLen (l.take i) % 2 ^ l[i].k = l[i].x
  | e :: r, 0, h, _ => by
    have hx := (h e (List.mem_cons_self ..)).1
    simp [entN, entLen, Nat.mod_eq_of_lt hx]
  | e :: r, i + 1, h, hi => by
    have hx := (h e (List.mem_cons_self ..)).1
    have ih := entN_at (l := r) (i := i) (fun f hf => h f (List.mem_cons_of_mem _ hf)) (by simpa using hi)
    simp only [List.getElem_cons_succ, List.take_succ_cons]
    rw [← ih]
    simp only [entN, entLen]
    rw [Nat.pow_add, ← Nat.div_div_eq_div_mul, Nat.add_mul_div_left _ _ (Nat.two_pow_pos _), Nat.div_eq_of_lt hx, Nat.zero_add]

theorem entLen_take : ∀ {l : List Ent} {i : Nat}, (hi : i < l.length) → entLen (l.take (i + 1)) = entLen (l.take i) + l[i].k := fun hi => by
  rw [List.take_succ_eq_append_getElem hi, entLen_snoc]

theorem entLen_mono : ∀ (l : List Ent) (i : Nat), entLen (l.take i) ≤ entLen l
  | [], i => by simp [entLen]
  | e :: r, 0 => by simp [entLen]
  | e :: r, i + 1 => by
    simp only [List.take_succ_cons, entLen]
    have := entLen_mono r i
    omega

theorem entLen_le : ∀ {l : List Ent}, entOk l → entLen l ≤ 64 * l.length
  | [], _ => by simp [entLen]
  | e :: r, h => by
    have ih := entLen_le (l := r) (fun f hf => h f (List.mem_cons_of_mem _ hf))
    have hk := (h e (List.mem_cons_self ..)).2
    simp only [entLen, List.length_cons]
    omega

/-- What was put is got. -/
theorem entAt {l : List Ent} {i : Nat} (h : entOk l) (hi : i < l.length) : numAt (bytesL (entN l) ((entLen l + 7) / 8)) (entLen (l.take i)) l[i].k = l[i].x := by
  unfold numAt
  rw [ofBytes_bytesL, Nat.mod_eq_of_lt (a := entN l), entN_at h hi]
  refine Nat.lt_of_lt_of_le (entN_lt h) ?_
  rw [pow256]
  exact Nat.pow_le_pow_right (by decide) (by omega)

theorem infoI : (Try.prog.info? 3).map (fun i => (i.zero, i.size, i.bytes)) = some (some (.int .i64 0), 1, 8) := by kernel_rfl

/-- The indices of what was put. -/
def entI (l : List Ent) : List Value := l.map (fun e => Value.int .i64 e.i)

/-- What was put stands in the arguments. -/
def entIn (M : List Nat) (V : List Int) (l : List Ent) : Prop := ∀ e ∈ l, M[e.i]? = some e.x ∧ V[e.i]? = some (e.k : Int)

theorem own_slice {w : World} {B n : Nat} {e : TypeId} {v : Value} {xs : List Value} (h : w.ownsRow B e 1 v n xs) : ∃ A c, v = .slice A n c := by
  rcases h.2 with ⟨rfl, rfl⟩ | ⟨g, cap, cur, rfl, _⟩
  · exact ⟨none, 0, rfl⟩
  · exact ⟨_, _, rfl⟩

theorem newReader_in (A : Option Addr) (c : Nat) (L : List Int) (w : World) (hI : In w A c L) (hL : ∀ z ∈ L, 0 ≤ z ∧ z < 256) :
    Calls Try.prog 25 #[.slice A L.length c] w fun e w' => ∃ p v, e = .returned (.pointer (some ⟨p, 0, none⟩)) ∧ w.heap.size ≤ p ∧ Rd w.heap.size p w' v L 0 ∧ Keeps (fun _ => False) w w' := newReader_any A c L w hI hL

set_option maxRecDepth 100000 in
set_option maxHeartbeats 6400000 in
theorem bitsRead_walk (L : List Int) (A : Option Addr) (c : Nat) (V : List Int) (A' : Option Addr) (c' : Nat) (w : World) (hrow : Row w w.heap.size A L.length (L.map (.int .u64))) (hc : L.length ≤ c) (hm : c ≤ maxLen) (hwf : ∀ z ∈ L, (Lit.int .u64 z).wf = true) (hnil : A = none → c = 0)
    (hrow' : Row w w.heap.size A' V.length (V.map (.int .i64))) (hc' : V.length ≤ c') (hm' : c' ≤ maxLen) (hwf' : ∀ z ∈ V, (Lit.int .i64 z).wf = true) (hnil' : A' = none → c' = 0) :
    Calls Try.prog 7 #[.slice A L.length c, .slice A' V.length c'] w fun e w' => e = .returned (.bool true) ∧ Below w.heap.size w w' := by
  have hlm : L.length ≤ maxLen := Nat.le_trans hc hm
  have hlm' : V.length ≤ maxLen := Nat.le_trans hc' hm'
  unfold maxLen at hlm hlm'
  by_cases hl : 60 < L.length
  · clear hrow hwf hnil hm hrow' hwf' hnil' hm'
    go_enter Try.func7, Try.ntmps7
    go_wp2
    go_ret
    exact ⟨rfl, Below.refl _ _⟩
  · by_cases hl' : 60 < V.length
    · have hb : decide ((60 : Int) < (V.length : Int)) = true := decide_eq_true (by omega)
      clear hrow hwf hnil hm hrow' hwf' hnil' hm'
      go_enter Try.func7, Try.ntmps7
      go_wp2
      go_ret
      exact ⟨rfl, Below.refl _ _⟩
    · obtain ⟨M, hml, hLM, hI⟩ := In64.came hrow hwf hnil (by omega)
      have hJ := InI.came hrow' hwf' hnil' (by omega)
      rw [← hml] at hl ⊢
      have hl2 : M.length ≤ 60 := by omega
      have hl3 : V.length ≤ 60 := by omega
      obtain ⟨e0, he0, hz0, hz1, hz2⟩ := info_parts infoI
      clear hrow hc hm hwf hnil hrow' hc' hm' hwf' hnil' hlm hlm' hml hLM
      go_enter Try.func7, Try.ntmps7
      go_wp2_with fail
      refine (newWriter_any _).mono ?_
      rintro e w1 ⟨rfl, hw1⟩
      have hk1 : Keeps (fun _ => False) w w1 := by rw [hw1]; exact (Keeps.refl _ w).alloc _
      have hwr1 : Wr w.heap.size w.heap.size w1 (.slice none 0 0) 0 0 := by
        rw [hw1]
        exact ⟨Blk.new _ _ _, World.ownsRow_nil _ _ _ _, by decide⟩
      have HWR1 := Lib.hid hwr1
      clear hw1 hwr1
      go_wp2_with fail
      go_loopw [6, 7] (fun o i wr => ∃ (j : Nat) (E : List Ent) (v : Value), j ≤ M.length ∧ j ≤ V.length ∧ i = .int .i64 j ∧ wr.ownsRow w.heap.size 3 1 o E.length (entI E) ∧ E.length ≤ j ∧ entOk E ∧ entIn M V E ∧ Wr w.heap.size w.heap.size wr v (entN E) (entLen E) ∧ Keeps (fun _ => False) w wr) (fun _ i _ => M.length - (intOf i).toNat)
      case atStart => exact ⟨0, [], _, Nat.zero_le _, Nat.zero_le _, rfl, World.ownsRow_nil _ _ _ _, by simp, by intro e he; simp at he, by intro e he; simp at he, HWR1.out, hk1⟩
      case round =>
        obtain ⟨j, E, v, hj, hj', rfl, hown, hEl, hok, hin, hwr, hkr⟩ := hrel
        have hEn := entLen_le hok
        have HO := Lib.hid hown
        have HWR := Lib.hid hwr
        have HOK := Lib.hid hok
        have HIN := Lib.hid hin
        clear hown hwr hok hin
        by_cases hlt : j < M.length ∧ j < V.length
        · obtain ⟨hlt, hlt'⟩ := hlt
          obtain ⟨b, off, rfl, hb, hcell, hfit⟩ := hI.at_ hlt
          obtain ⟨b', off', rfl, hb', hcell', hbd⟩ := hJ.at_ hlt'
          obtain ⟨x, hx⟩ : ∃ x, M[j] = x := ⟨_, rfl⟩
          obtain ⟨d, hd⟩ : ∃ d, V[j] = d := ⟨_, rfl⟩
          have hMx : M[j]? = some x := by rw [List.getElem?_eq_getElem hlt, hx]
          have hVd : V[j]? = some d := by rw [List.getElem?_eq_getElem hlt', hd]
          rw [hx] at hcell hfit
          rw [hd] at hcell' hbd
          have hji : (j : Int) < (M.length : Int) := by omega
          have hji' : (j : Int) < (V.length : Int) := by omega
          have j0 : (0 : Int) ≤ (j : Int) := by omega
          have HF := Lib.hid hfit
          have HMX := Lib.hid hMx
          have HVD := Lib.hid hVd
          have hn5 : entLen E ≤ 100000 := by omega
          clear hx hd hfit hMx hVd
          go_upto_region 10 with fail
          go_cut [45] from 23 to 49 (fun e wx => e = .bool ((putE d x : Int) == 0) ∧ ∃ v', Wr w.heap.size w.heap.size wx v' (putNum d x (entN E) (entLen E)) (putLen d x (entLen E)) ∧ wx.ownsRow w.heap.size 3 1 u6 E.length (entI E) ∧ Keeps (fun _ => False) w wx)
          case first =>
            have r1 : wr.cell? ⟨b, off + j, none⟩ = some (.int .u64 x) := (hkr.cell (p := ⟨b, off + j, none⟩) hb (fun h => h)).trans hcell
            have r2 : wr.cell? ⟨b', off' + j, none⟩ = some (.int .i64 d) := (hkr.cell (p := ⟨b', off' + j, none⟩) hb' (fun h => h)).trans hcell'
            have HWD : Wr w.heap.size w.heap.size wr.drew v (entN E) (entLen E) := HWR.out.quiet (Keeps.refl _ wr).drew
            have HWDH := Lib.hid HWD
            clear HWD
            go_still_tail 9, (by kernel_rfl)
            change wpList _ _ _ _ _ wr.drew
            go_wp2_with fail
            refine (put_any w.heap.size w.heap.size x d wr.drew v _ _ HF.out hn5 HWDH.out hkr.size).mono ?_
            rintro e w2 ⟨rfl, v2, hwr2, hmv⟩
            have HW2 := Lib.hid hwr2
            clear hwr2
            go_wp2_with fail
            go_meet
            case rel =>
              have hown2 : w2.ownsRow w.heap.size 3 1 u6 E.length (entI E) := hmv.row_stays (own_keep HO.out ((Keeps.refl (fun _ => False) wr).drew) (fun _ _ h => h)) HWDH.out.own HWDH.out.blk (by decide) (by decide)
              refine ⟨rfl, v2, HW2.out, hown2, hkr.drew.trans' hmv.keeps ?_⟩
              rintro i hi (h | h)
              · omega
              · have := (HWDH.out.own.lt i h).1; omega
          case rest =>
            obtain ⟨rfl, v2, hwr2, hown2, hkr2⟩ := hcut
            obtain ⟨er, her⟩ : ∃ er, putE d x = er := ⟨_, rfl⟩
            rw [her]
            by_cases hz : er = 0
            · have h2 := hwr2
              unfold putNum putLen at h2
              rw [her, if_pos hz, if_pos hz] at h2
              obtain ⟨W, rfl, hW, _, hf⟩ := putE_zero (her.trans hz)
              rw [Int.toNat_natCast] at h2
              subst hz
              have hX : x < 2 ^ W := by simpa [fitsB] using hf
              have HW3 := Lib.hid h2
              have HO2 := Lib.hid hown2
              have HX := Lib.hid hX
              clear h2 hwr2 her hf hown2 hX
              go_wp2_with (at_builtin; refine wpList_append_own_at _ rfl _ _ 30 rfl w.heap.size 3 e0 (.int .i64 0) 1 8 Try.underlying30 he0 hz0 hz1 hz2 rfl (by decide) u6 E.length _ rfl (HO2.out.alloc _) ⟨wc.heap.size, 0, none⟩ 1 1 [.int .i64 j] rfl rfl (World.news_of_block (cs := #[.int .i64 j]) (t := 3) (fr := (0, 0)) (heap_alloc_new wc _)) (by simp [Value.oneCell']) (by unfold maxLen; omega) (by omega) (by have := hkr2.size; simp; omega) ?_; intro v3 w3 hown3 hgrow _ _)
              go_roundw
              case rel =>
                have hown4 := HO2.out.alloc (.cells #[.int .i64 j] 3)
                have hk3 : Keeps (fun i => u6.ownBlock = some i) wc w3 := ((Keeps.refl _ wc).alloc _).grown hgrow (fun k hk => .inl hk)
                refine ⟨j + 1, E ++ [⟨j, x, W⟩], v2, by omega, by omega, by go_num, ?_, by simp; omega, ?_, ?_, ?_, ?_⟩
                · simpa [entI] using hown3
                · intro e he
                  rcases List.mem_append.mp he with h | h
                  · exact HOK.out e h
                  · simp at h; subst h; exact ⟨HX.out, hW⟩
                · intro e he
                  rcases List.mem_append.mp he with h | h
                  · exact HIN.out e h
                  · simp at h; subst h; exact ⟨HMX.out, HVD.out⟩
                · rw [entN_snoc, entLen_snoc]
                  exact ⟨HW3.out.blk.keep hk3 (HW3.out.blk.own_ne HO2.out (by decide)), own_keep HW3.out.own hk3 (fun k hk hu => own_own_ne HO2.out HW3.out.own (by decide) hu hk), HW3.out.lt⟩
                · exact hkr2.trans' hk3 (by intro i hi hu; have := (HO2.out.lt i hu).1; omega)
              case measure => simp [intOf]; omega
            · have h2 := hwr2
              unfold putNum putLen at h2
              rw [her, if_neg hz, if_neg hz] at h2
              have hzi : ((er : Int) == 0) = false := by simp; omega
              have HW3 := Lib.hid h2
              have HO2 := Lib.hid hown2
              clear h2 hwr2 her hown2
              go_wp2_with fail
              go_roundw
              case rel => exact ⟨j + 1, E, v2, by omega, by omega, by go_num, HO2.out, by omega, HOK.out, HIN.out, HW3.out, hkr2⟩
              case measure => simp [intOf]; omega
        · have hph : ¬ j < M.length ∨ (j < M.length ∧ ¬ j < V.length) := by omega
          obtain ⟨T, hT⟩ : ∃ T, bytesL (entN E) ((entLen E + 7) / 8) = T := ⟨_, rfl⟩
          have hTl : T.length = (entLen E + 7) / 8 := by rw [← hT, bytesL_len]
          have hTb : ∀ z ∈ T, 0 ≤ z ∧ z < 256 := hT ▸ bytesL_bounds _ _
          have hn5 : entLen E ≤ 100000 := by omega
          have HT := Lib.hid hT
          have HTL := Lib.hid hTl
          have HTB := Lib.hid hTb
          have HLT := Lib.hid hlt
          clear hT hTl hTb hlt
          rcases hph with hM | ⟨hM, hV⟩
          case' inl =>
            have hMi : ¬ (j : Int) < (M.length : Int) := by omega
            go_wp2_with fail
          case' inr =>
            have hMi : (j : Int) < (M.length : Int) := by omega
            have hVi : decide ((j : Int) < (V.length : Int)) = false := decide_eq_false (by omega)
            go_wp2_with fail
          all_goals
            refine (bytes_in w.heap.size w.heap.size _ v _ _ hn5 HWR.out T HT.out).mono ?_
            rintro e w3 ⟨A4, c4, rfl, hA, hkA⟩
            go_wp2_with fail
            refine (newReader_any A4 c4 T _ hA HTB.out).mono ?_
            rintro e w4 ⟨p2, v4, rfl, hp2, hrd, hkB⟩
            have hkr4 := (hkr.trans hkA).trans hkB
            have hw3 : w.heap.size ≤ w3.heap.size := (hkr.trans hkA).size
            have HO4 := Lib.hid (own_keep (own_keep HO.out hkA (fun _ _ h => h)) hkB (fun _ _ h => h))
            have HRD := Lib.hid hrd
            clear hrd
            go_wp2_with fail
            go_loopw [9] (fun t wx => ∃ i : Nat, i ≤ E.length ∧ t = .int .i64 i ∧ Rd w3.heap.size p2 wx v4 T (entLen (E.take i)) ∧ wx.ownsRow w.heap.size 3 1 u6 E.length (entI E) ∧ Keeps (fun _ => False) w wx) (fun t _ => E.length - (intOf t).toNat)
            case atStart => exact ⟨0, Nat.zero_le _, rfl, by simpa [entLen] using HRD.out, HO4.out, hkr4⟩
            case round =>
              obtain ⟨i, hi, rfl, hrd, hown, hkr5⟩ := hrel
              by_cases hit : i < E.length
              · obtain ⟨en, hen⟩ : ∃ en, E[i] = en := ⟨_, rfl⟩
                have hemem : en ∈ E := hen ▸ List.getElem_mem hit
                have hat := entLen_take hit
                have hval := entAt HOK.out hit
                have hmono := entLen_mono E (i + 1)
                rw [HT.out, hen] at hval
                rw [hen] at hat
                obtain ⟨hex, hek⟩ := HOK.out en hemem
                obtain ⟨hm1, hv1⟩ := HIN.out en hemem
                obtain ⟨ei, ex, ek⟩ := en
                dsimp only at hat hval hex hek hm1 hv1
                obtain ⟨g, cap, hu6, _, hg2⟩ := hown.form (by omega)
                subst hu6
                have q1 : wr.cell? ⟨g, i, none⟩ = some (.int .i64 ei) := by
                  rw [hown.cellAt i (by omega)]
                  unfold entI
                  rw [List.getElem?_map, List.getElem?_eq_getElem hit, hen]
                  rfl
                have hvl : ei < V.length := (List.getElem?_eq_some_iff.mp hv1).1
                have hml2 : ei < M.length := (List.getElem?_eq_some_iff.mp hm1).1
                have hVe : V[ei] = (ek : Int) := (List.getElem?_eq_some_iff.mp hv1).2
                have hMe : M[ei] = ex := (List.getElem?_eq_some_iff.mp hm1).2
                obtain ⟨b', off', rfl, hb', hcell', _⟩ := hJ.at_ hvl
                obtain ⟨b, off, rfl, hb, hcell, _⟩ := hI.at_ hml2
                rw [hVe] at hcell'
                rw [hMe] at hcell
                have r2 : wr.cell? ⟨b', off' + ei, none⟩ = some (.int .i64 ek) := (hkr5.cell (p := ⟨b', off' + ei, none⟩) hb' (fun h => h)).trans hcell'
                have hii : (i : Int) < (E.length : Int) := by omega
                have i0 : (0 : Int) ≤ (i : Int) := by omega
                have e1 : (ei : Int) < (V.length : Int) := by omega
                have e2 : (ei : Int) < (M.length : Int) := by omega
                have e3 : (0 : Int) ≤ (ei : Int) := by omega
                have hgp : g ≠ p2 := fun e => hrd.blk.own_ne hown (by decide) (by rw [← e]; rfl)
                obtain ⟨a, ha⟩ : ∃ a, entLen (E.take i) = a := ⟨_, rfl⟩
                rw [ha] at hat hval hrd
                have hle : a + ek ≤ 8 * T.length := by have := HTL.out; omega
                have HAT := Lib.hid hat
                have HVAL := Lib.hid hval
                have HRD2 := Lib.hid hrd
                have HOW := Lib.hid hown
                clear hat hval hrd hown hemem hen hex hm1 hv1 hmono ha hVe hMe
                go_wp2_with fail
                refine (get_ok w3.heap.size p2 ek _ v4 T a HRD2.out hek hle).mono ?_
                rw [HVAL.out]
                rintro e w6 ⟨rfl, hrd6, hk6⟩
                have hkr6 : Keeps (fun _ => False) w w6 := hkr5.trans' hk6 (by rintro i hi rfl; omega)
                have q6 : w6.cell? ⟨g, i, none⟩ = some (.int .i64 ei) := (hk6.cell (p := ⟨g, i, none⟩) hg2 hgp).trans q1
                have r6 : w6.cell? ⟨b, off + ei, none⟩ = some (.int .u64 ex) := (hkr6.cell (p := ⟨b, off + ei, none⟩) hb (fun h => h)).trans hcell
                have hxx : ((ex : Int) != (ex : Int)) = false := by simp
                have HRD6 := Lib.hid hrd6
                clear hrd6
                go_wp2_with fail
                go_roundw
                case rel => exact ⟨i + 1, by omega, by go_num, by rw [HAT.out]; exact HRD6.out, own_keep HOW.out hk6 (by rintro k hk rfl; exact hgp (by simpa [Value.ownBlock] using hk)), hkr6⟩
                case measure => simp [intOf]; omega
              · obtain rfl : i = E.length := by omega
                rw [List.take_of_length_le (Nat.le_refl _)] at hrd
                obtain ⟨A9, c9, hu6⟩ := own_slice hown
                subst hu6
                have HRD2 := Lib.hid hrd
                clear hrd
                go_wp2_with fail
                refine (left_any w3.heap.size p2 _ v4 T _ HRD2.out).mono ?_
                rintro e w6 ⟨rfl, hk6⟩
                have h8 : ((8 * T.length - entLen E : Nat) : Int) < 8 := by have := HTL.out; omega
                obtain ⟨lf, hlf⟩ : ∃ lf, 8 * T.length - entLen E = lf := ⟨_, rfl⟩
                rw [hlf] at h8 ⊢
                clear hlf
                go_wp2_with fail
                refine (awake_any _).mono ?_
                rintro e w7 ⟨rfl, hk7⟩
                go_wp2
                go_ret
                exact ⟨rfl, Below.of_keeps ((hkr5.trans hk6).trans hk7)⟩
end Go.Proofs.Ythcoiaigmndohaa
