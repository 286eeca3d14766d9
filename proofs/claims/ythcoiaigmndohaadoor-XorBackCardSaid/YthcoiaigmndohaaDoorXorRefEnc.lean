/-
  The contract of the reference's Encode. Conditions: 1 to 1100 numbers that fit 64 bits.
-/
import Derived.Test.YthcoiaigmndohaaDoorXorRef
import Derived.Test.YthcoiaigmndohaaDoorXorBackP
import Derived.Deep.CutBlock
import Derived.Deep.CutRange
namespace Go.Proofs.YthcoiaigmndohaaDoor
open Go.RowKit BitM

theorem bitLen_zero : Lib.bitLen 0 = 0 := by decide
theorem lz_zero : lzN 0 = 64 := by unfold lzN; rw [bitLen_zero]

/-- Where the first one stands. -/
theorem lz_at {x j : Nat} (h : x < 2 ^ (64 - j)) (hj : j ≤ 63) (h1 : x / 2 ^ (63 - j) % 2 = 1) (hx : Fits x) : lzN x = j := by
  have h0 : x ≠ 0 := by
    rintro rfl
    simp at h1
  obtain ⟨a, b, c, d⟩ := bitLen_two h0 hx
  unfold lzN
  generalize Lib.bitLen x = n at *
  have h2 : 2 ^ (63 - j) ≤ x := by
    rcases Nat.lt_or_ge x (2 ^ (63 - j)) with hl | hl
    · rw [Nat.div_eq_of_lt hl] at h1; cases h1
    · exact hl
  have l1 : 63 - j < n := by
    rcases Nat.lt_or_ge (63 - j) n with hl | hl
    · exact hl
    · have := Nat.pow_le_pow_right (n := 2) (by decide) hl
      omega
  have l2 : n - 1 < 64 - j := by
    rcases Nat.lt_or_ge (n - 1) (64 - j) with hl | hl
    · exact hl
    · have := Nat.pow_le_pow_right (n := 2) (by decide) hl
      omega
  omega

theorem lz_step {x j : Nat} (h : x < 2 ^ (64 - j)) (hj : j ≤ 63) (h1 : ¬ x / 2 ^ (63 - j) % 2 = 1) : x < 2 ^ (64 - (j + 1)) := by
  rw [show 64 - (j + 1) = 63 - j by omega]
  have h2 : x / 2 ^ (63 - j) < 2 := by
    rw [Nat.div_lt_iff_lt_mul (Nat.two_pow_pos _), ← Nat.pow_succ', show (63 - j).succ = 64 - j by omega]
    exact h
  rcases Nat.lt_or_ge x (2 ^ (63 - j)) with hl | hl
  · exact hl
  · have := (Nat.le_div_iff_mul_le (Nat.two_pow_pos (63 - j))).2 (by rw [Nat.one_mul]; exact hl)
    omega

theorem tz_odd {x : Nat} (h0 : x ≠ 0) (h : Fits x) : ∃ m, x = 2 ^ tzN x * m ∧ m % 2 = 1 := by
  obtain ⟨m, hm, hlt⟩ := Lib.ctzFrom_spec 64 x (by omega) h
  have ht : tzN x = Lib.ctzFrom 64 x := by unfold tzN Lib.ctz; rw [if_neg h0]
  rw [ht]
  exact ⟨_, hm, by omega⟩

/-- Below the last one stand noughts. -/
theorem tz_bit {x j : Nat} (h0 : x ≠ 0) (h : Fits x) (hj : j ≤ tzN x) : decide (x / 2 ^ j % 2 = 1) = decide (j = tzN x) := by
  obtain ⟨m, hm, hodd⟩ := tz_odd h0 h
  generalize tzN x = z at *
  by_cases hz : j = z
  · subst hz
    rw [hm, Nat.mul_div_cancel_left _ (Nat.two_pow_pos _)]
    simp [hodd]
  · have e : 2 ^ z = 2 ^ j * (2 * 2 ^ (z - j - 1)) := by
      rw [← Nat.pow_succ', ← Nat.pow_add]
      congr 1
      omega
    rw [hm, e, Nat.mul_assoc, Nat.mul_div_cancel_left _ (Nat.two_pow_pos _), Nat.mul_assoc, Nat.mul_mod_right]
    simp [hz]

theorem bitsL_get {x W j : Nat} (hj : j < W) : (bitsL x W)[j]? = some (decide (x / 2 ^ j % 2 = 1)) := by
  unfold bitsL
  rw [List.getElem?_map, List.getElem?_range hj]
  rfl

/-- A stretch of a number's bits. -/
theorem bits_cut {x e W j : Nat} (hj : j < W) (hW : e + W ≤ 64) : (bitsL x 64)[e + j]? = (bitsL (x / 2 ^ e) W)[j]? := by
  rw [bitsL_get (by omega), bitsL_get hj, Nat.pow_add, Nat.div_div_eq_div_mul]

theorem bool_one (l : List Bool) : ∀ u ∈ l.map Value.bool, u.oneCell' = true := by
  intro u hu
  rw [List.mem_map] at hu
  obtain ⟨_, _, rfl⟩ := hu
  rfl

/-- The bits that were put so far, and the 64 bits of a number, in rows of their own. -/
structure Two (W0 w : World) (g cap X : Nat) (v : Value) (l : List Bool) : Prop where
  own : w.ownsRow W0.heap.size 4 1 v l.length (l.map Value.bool)
  row : w.ownsRow W0.heap.size 4 1 (.slice (some ⟨g, 0, none⟩) 64 cap) 64 ((bitsL X 64).map Value.bool)
  ne : v.ownBlock ≠ some g
  keeps : Keeps (fun _ => False) W0 w

theorem Two.quiet {W0 w w' : World} {g cap X : Nat} {v : Value} {l : List Bool} (h : Two W0 w g cap X v l) (k : Keeps (fun _ => False) w w') : Two W0 w' g cap X v l :=
  ⟨own_keep h.own k (fun _ _ h => h), own_keep h.row k (fun _ _ h => h), h.ne, h.keeps.trans k⟩

theorem Two.cell {W0 w : World} {g cap X : Nat} {v : Value} {l : List Bool} (h : Two W0 w g cap X v l) {i : Nat} (hi : i < 64) : w.cell? ⟨g, i, none⟩ = some (.bool (decide (X / 2 ^ i % 2 = 1))) := by
  rw [h.row.cellAt i (by omega), List.getElem?_map, bitsL_get hi]; rfl

theorem Two.cut {W0 w : World} {g cap X : Nat} {v : Value} {l : List Bool} (h : Two W0 w g cap X v l) {e W : Nat} (hW : e + W ≤ 64) (j : Nat) (u : Value) (hu : ((bitsL (X / 2 ^ e) W).map Value.bool)[j]? = some u) : w.cell? ((⟨g, e, none⟩ : Addr).add j) = some u := by
  have hj : j < W := by
    have := (List.getElem?_eq_some_iff.1 hu).1
    simpa [bitsL_len] using this
  rw [List.getElem?_map, bitsL_get hj] at hu
  have ha : (⟨g, e, none⟩ : Addr).add j = ⟨g, e + j, none⟩ := by
    unfold Addr.add
    split <;> simp_all
  rw [ha, h.cell (by omega), Nat.pow_add, ← Nat.div_div_eq_div_mul]
  exact hu

/-- Bits are put behind a row of bits. -/
theorem wpList_append_bools {W0 w : World} {g cap X : Nat} {ops : Array Oper} {rest : List Oper} {o : Oper} {a : Act} {Q : Exit → Act → World → Prop} (hgd : o.guard = none) (s x : Operand)
    (ho : o.op = .call { callee := .builtin .append, args := #[s, x], argTypes := #[70, 70] })
    (v : Value) (l : List Bool) (hs : a.eval s = v) (hT : Two W0 w g cap X v l)
    (ad : Addr) (m c : Nat) (ys : List Bool) (hx : a.eval x = .slice (some ad) m c) (hm : ys.length = m) (hc : ∀ j u, (ys.map Value.bool)[j]? = some u → w.cell? (ad.add j) = some u) (hn : l.length + m ≤ 1000000)
    (h : ∀ v' w', Two W0 w' g cap X v' (l ++ ys) → wpList Tryd.prog ops Q rest (a.put o.dst v') w') :
    wpList Tryd.prog ops Q (o :: rest) a w := by
  obtain ⟨e0, he0, hz0, hz1, hz2⟩ := info_parts info4
  refine wpList_append_own_at w hgd s x 70 ho W0.heap.size 4 e0 (.bool false) 1 1 Tryd.underlying70 he0 hz0 hz1 hz2 rfl (by decide) v l.length _ hs hT.own ad m c (ys.map Value.bool) hx (by simpa using hm) hc (bool_one ys) (by unfold maxLen; omega) (by omega) hT.keeps.size ?_
  intro v' w' hown' hgrow _ hb
  have hg : g < w.heap.size := (hT.row.lt g rfl).2
  have hk : Keeps (fun k => v.ownBlock = some k) w w' := (Keeps.refl _ w).grown hgrow (fun k hk => .inl hk)
  refine h v' w' ⟨?_, own_keep hT.row hk (fun k hk hv => ?_), ?_, hT.keeps.trans' hk (fun i hi hv => ?_)⟩
  · rw [List.length_append, List.map_append, hm]
    exact hown'
  · have : g = k := by simpa [Value.ownBlock] using hk
    subst this
    exact hT.ne hv
  · rcases hb with hb | hb
    · rw [hb]; exact hT.ne
    · rw [hb]
      intro he
      injection he with he
      omega
  · have := (hT.own.lt i hv).1
    omega

set_option maxRecDepth 100000 in
set_option maxHeartbeats 3200000 in
theorem refEnc_any (A : Option Addr) (c : Nat) (M : List Nat) (w : World) (hI : In64 w A c M) (h1 : 1 ≤ M.length) (hm : M.length ≤ 1100) :
    Calls Tryd.prog 17 #[.slice A M.length c] w fun e w' => ∃ u, e = .returned u ∧ w'.ownsRow w.heap.size 5 1 u (((blockB M).length + 7) / 8) ((bytesL (boolsN (blockB M)) (((blockB M).length + 7) / 8)).map (Value.int .u8)) ∧ Keeps (fun _ => False) w w' := by
  obtain ⟨e0, he0, hz0, hz1, hz2⟩ := info_parts info4
  obtain ⟨b, off, rfl, hb0, hc0, hf0⟩ := hI.at_ (j := 0) (by omega)
  obtain ⟨x0, hx0⟩ : ∃ x, M[0] = x := ⟨_, rfl⟩
  rw [hx0] at hc0 hf0
  have hg0 : M.getD 0 0 = x0 := by rw [List.getD_eq_getElem?_getD, List.getElem?_eq_getElem (by omega : 0 < M.length), hx0]; rfl
  have hstart : bitsL x0 64 ++ restB (M.getD (1 - 1) 0) ⟨0, 0, false⟩ (M.drop 1) = blockB M := by
    rw [show (1 : Nat) - 1 = 0 from rfl, hg0]
    cases M with
    | nil => simp at h1
    | cons y M' =>
      simp at hx0
      subst hx0
      rfl
  have hl0 : ((M.length : Int) == 0) = false := by rw [beq_eq_false_iff_ne]; omega
  have hl0i : (0 : Int) < (M.length : Int) := by omega
  rw [Nat.add_zero] at hc0
  have HF0 := Lib.hid hf0
  have HST := Lib.hid hstart
  have HI := Lib.hid hI
  clear hf0 hstart hI hx0 hg0
  go_enter Tryd.func17, Tryd.ntmps17
  go_wp2_with fail
  refine (refBits_any x0 64 HF0.out (Nat.le_refl _) _).mono ?_
  rintro e w1 ⟨v0, rfl, hown0, hk0⟩
  have HO0 := Lib.hid hown0
  clear hown0
  go_wp2_with fail
  go_loopw [3, 4, 5, 6, 7] (fun al tp en is i wr => ∃ (k : Nat) (bj : List Bool) (vj : Win), 1 ≤ k ∧ k ≤ M.length ∧ i = .int .i64 k ∧ tp = .int .i64 vj.t ∧ en = .int .i64 vj.e ∧ is = .bool vj.is ∧ wr.ownsRow w.heap.size 4 1 al bj.length (bj.map Value.bool) ∧ bj ++ restB (M.getD (k - 1) 0) vj (M.drop k) = blockB M ∧ vj.Ok ∧ bj.length ≤ 64 + 77 * k ∧ Keeps (fun _ => False) w wr) (fun _ _ _ _ i _ => M.length - (intOf i).toNat)
  case atStart => exact ⟨1, bitsL x0 64, ⟨0, 0, false⟩, Nat.le_refl _, h1, rfl, rfl, rfl, rfl, by rw [bitsL_len]; exact HO0.out, HST.out, ⟨by decide, by decide⟩, by rw [bitsL_len]; omega, hk0⟩
  case round =>
    obtain ⟨k, bj, vj, hk1, hkM, rfl, rfl, rfl, rfl, hown, hrest, hok, hbl, hkr⟩ := hrel
    have HO := Lib.hid hown
    have HR := Lib.hid hrest
    have HOK := Lib.hid hok
    have HBL := Lib.hid hbl
    clear hown hrest hok hbl
    by_cases hlt : k < M.length
    · obtain ⟨km, hkm⟩ : ∃ km, k - 1 = km := ⟨_, rfl⟩
      have hIr := HI.out.keep hkr
      obtain ⟨b1, off1, hA1, hb1, hcx, hfx⟩ := hIr.at_ hlt
      cases hA1
      obtain ⟨b2, off2, hA2, hb2, hcy, hfy⟩ := hIr.at_ (j := km) (by omega)
      cases hA2
      obtain ⟨x, hx⟩ : ∃ x, M[k] = x := ⟨_, rfl⟩
      obtain ⟨y, hy⟩ : ∃ y, M[km] = y := ⟨_, rfl⟩
      have hgy : M.getD (k - 1) 0 = y := by rw [hkm, List.getD_eq_getElem?_getD, List.getElem?_eq_getElem (by omega : km < M.length), hy]; rfl
      have hgx : M.getD (k + 1 - 1) 0 = x := by rw [Nat.add_sub_cancel, List.getD_eq_getElem?_getD, List.getElem?_eq_getElem hlt, hx]; rfl
      have hdrop : M.drop k = x :: M.drop (k + 1) := by rw [← hx]; exact (List.getElem_cons_drop hlt).symm
      rw [hx] at hcx hfx
      rw [hy] at hcy hfy
      have hxor := xor_u64 hfx hfy
      have hrest := HR.out
      rw [hgy, hdrop] at hrest
      have HREST := Lib.hid hrest
      have HGX := Lib.hid hgx
      have HXOR := Lib.hid hxor.1
      have HXF := Lib.hid hxor.2
      have hXfit := hxor.2
      have HWK := Lib.hid (show IntKind.i64.wrap (km : Int) = (km : Int) from IntWalk.i64_in _ ⟨by omega, by omega⟩)
      have HCX := Lib.hid (show ∀ w', Keeps (fun _ => False) wr w' → w'.cell? ⟨b, off + k, none⟩ = some (.int .u64 x) from fun w' h => (h.cell (p := ⟨b, off + k, none⟩) hb1 (fun h => h)).trans hcx)
      have HCY := Lib.hid (show ∀ w', Keeps (fun _ => False) wr w' → w'.cell? ⟨b, off + km, none⟩ = some (.int .u64 y) from fun w' h => (h.cell (p := ⟨b, off + km, none⟩) hb2 (fun h => h)).trans hcy)
      have hki : (k : Int) < (M.length : Int) := by omega
      have k1i : (1 : Int) ≤ (k : Int) := by omega
      have kmi : (k : Int) - 1 = (km : Int) := by omega
      have hkml : (km : Int) < (M.length : Int) := by omega
      clear hIr hcx hcy hfx hfy hxor hrest hgy hgx hdrop hx hy
      go_upto_region 8 with fail
      · skip
        refine wp_region_held_drew (S := Keeps (fun _ => False) wr) (by kernel_rfl) (Keeps.refl _ _).drew ?_
        intro hS0
        generalize World.drew _ = v0 at hS0 ⊢
        refine held_take (i := 0) (v := .slice (some ⟨b, off, none⟩) M.length c) rfl (by kernel_rfl) (by kernel_rfl) (by kernel_rfl) (some 24) (fun _ _ _ h => h) rfl (Or.inl ⟨by rfl, fun _ _ => by rfl⟩) hS0 ?_
        simp only [Act.put, List.setIfInBounds_toArray, List.set_cons_zero, List.set_cons_succ]
        refine held_take (i := 1) (v := .int .i64 k) rfl (by kernel_rfl) (by kernel_rfl) (by kernel_rfl) (some 25) (fun _ _ _ h => h) rfl (Or.inl ⟨by rfl, fun _ _ => by rfl⟩) hS0 ?_
        simp only [Act.put, List.setIfInBounds_toArray, List.set_cons_zero, List.set_cons_succ]
        refine held_take (i := 2) (v := .pointer (some ⟨b, off + k, none⟩)) rfl (by kernel_rfl) (by kernel_rfl) (by kernel_rfl) (some 26) (fun _ _ _ h => h) rfl (Or.inl ⟨by rfl, by intro w' _; go_simp⟩) hS0 ?_
        simp only [Act.put, List.setIfInBounds_toArray, List.set_cons_zero, List.set_cons_succ]
        refine held_take (i := 3) (v := .int .u64 x) rfl (by kernel_rfl) (by kernel_rfl) (by kernel_rfl) (some 27) (fun _ _ _ h => h) rfl (Or.inl ⟨by rfl, by intro w' hw'; have hcw := HCX.out w' hw'; go_simp⟩) hS0 ?_
        simp only [Act.put, List.setIfInBounds_toArray, List.set_cons_zero, List.set_cons_succ]
        refine held_take (i := 4) (v := .slice (some ⟨b, off, none⟩) M.length c) rfl (by kernel_rfl) (by kernel_rfl) (by kernel_rfl) (some 28) (fun _ _ _ h => h) rfl (Or.inl ⟨by rfl, fun _ _ => by rfl⟩) hS0 ?_
        simp only [Act.put, List.setIfInBounds_toArray, List.set_cons_zero, List.set_cons_succ]
        refine held_take (i := 5) (v := .int .i64 k) rfl (by kernel_rfl) (by kernel_rfl) (by kernel_rfl) (some 29) (fun _ _ _ h => h) rfl (Or.inl ⟨by rfl, fun _ _ => by rfl⟩) hS0 ?_
        simp only [Act.put, List.setIfInBounds_toArray, List.set_cons_zero, List.set_cons_succ]
        refine held_take (i := 6) (v := .int .i64 km) rfl (by kernel_rfl) (by kernel_rfl) (by kernel_rfl) (some 30) (fun _ _ _ h => h) rfl (Or.inl ⟨by rfl, by intro w' _; go_simp; exact HWK.out⟩) hS0 ?_
        simp only [Act.put, List.setIfInBounds_toArray, List.set_cons_zero, List.set_cons_succ]
        refine held_take (i := 7) (v := .pointer (some ⟨b, off + km, none⟩)) rfl (by kernel_rfl) (by kernel_rfl) (by kernel_rfl) (some 31) (fun _ _ _ h => h) rfl (Or.inl ⟨by rfl, by intro w' _; go_simp⟩) hS0 ?_
        simp only [Act.put, List.setIfInBounds_toArray, List.set_cons_zero, List.set_cons_succ]
        refine held_take (i := 8) (v := .int .u64 y) rfl (by kernel_rfl) (by kernel_rfl) (by kernel_rfl) (some 32) (fun _ _ _ h => h) rfl (Or.inl ⟨by rfl, by intro w' hw'; have hcw := HCY.out w' hw'; go_simp⟩) hS0 ?_
        simp only [Act.put, List.setIfInBounds_toArray, List.set_cons_zero, List.set_cons_succ]
        refine held_take (i := 9) (v := .int .u64 ((x ^^^ y : Nat) : Int)) rfl (by kernel_rfl) (by kernel_rfl) (by kernel_rfl) (some 33) (fun _ _ _ h => h) rfl (Or.inl ⟨by rfl, by intro w' _; go_simp; exact HXOR.out⟩) hS0 ?_
        simp only [Act.put, List.setIfInBounds_toArray, List.set_cons_zero, List.set_cons_succ]
        refine held_call (i := 10) (by kernel_rfl) rfl (by rfl) (some 34) rfl 34 #[.int .u64 ((x ^^^ y : Nat) : Int), .int .i64 ((64 : Nat) : Int)] (by kernel_rfl) (fun v w' => w'.ownsRow v0.heap.size 4 1 v 64 ((bitsL (x ^^^ y) 64).map Value.bool) ∧ Keeps (fun _ => False) v0 w') ((refBits_any (x ^^^ y) 64 HXF.out (Nat.le_refl _) v0).mono fun e w' ⟨v, he, ho, hk⟩ => ⟨v, he, ⟨ho, hk⟩, hS0.trans hk⟩) ?_
        rintro v8 v1 ⟨hown8, hk8⟩ hS1
        simp only [Act.put, List.setIfInBounds_toArray, List.set_cons_zero, List.set_cons_succ]
        refine held_take (i := 11) (v := v8) rfl (by kernel_rfl) (by kernel_rfl) (by kernel_rfl) (some 8) (fun _ _ _ h => h) rfl (Or.inl ⟨by rfl, fun _ _ => by rfl⟩) hS1 ?_
        simp only [Act.put, List.setIfInBounds_toArray, List.set_cons_zero, List.set_cons_succ]
        refine wpAnyH_done (by kernel_rfl) ?_ _
        obtain ⟨X, hX⟩ : ∃ X, x ^^^ y = X := ⟨_, rfl⟩
        have hkw : Keeps (fun _ => False) wr v1 := hS1
        have hown8' := own_mono' hown8 (show wr.heap.size ≤ v0.heap.size from hS0.size)
        rw [hX] at hown8' hXfit
        clear hown8 hk8 hS0 hS1
        obtain ⟨g8, cap8, rfl, hcap8⟩ : ∃ g cap, v8 = .slice (some ⟨g, 0, none⟩) 64 cap ∧ 64 ≤ cap := by
          rcases hown8'.2 with ⟨_, hx⟩ | ⟨g, cap, cur, he, _, _, hge, _, _⟩
          · cases hx
          · exact ⟨g, cap, he, hge⟩
        have HO8 := Lib.hid hown8'
        have HX := Lib.hid hX
        have HXF := Lib.hid hXfit
        have hcell : ∀ i, i < 64 → v1.cell? ⟨g8, i, none⟩ = some (.bool (decide (X / 2 ^ i % 2 = 1))) := fun i hi => by
          rw [hown8'.cellAt i (by omega), List.getElem?_map, bitsL_get hi]; rfl
        have HC8 := Lib.hid hcell
        have HKW := Lib.hid (hkr.trans hkw)
        have HOB := Lib.hid (show Two w v1 g8 cap8 X u3 bj from ⟨own_keep HO.out hkw (fun _ _ h => h), own_mono' hown8' hkr.size, fun hu => by have := (HO.out.lt g8 hu).2; have := (hown8'.lt g8 rfl).1; omega, hkr.trans hkw⟩)
        clear hown8' hX hXfit hcell hkw hkr HCX HCY HXOR HWK
        go_upto_block 2 with fail
        go_cut [9] from 18 to 102 (fun s wx => s = .int .i64 (lzN X : Nat) ∧ v1 = wx)
        case first =>
          go_wp2_with fail
          go_loopw [9] (fun a wx => v1 = wx ∧ ∃ j : Nat, j ≤ 64 ∧ a = .int .i64 j ∧ X < 2 ^ (64 - j)) (fun a _ => 64 - (intOf a).toNat)
          case atStart => exact ⟨rfl, 0, by omega, rfl, HXF.out⟩
          case round =>
            obtain ⟨rfl, j, hj, rfl, hXj⟩ := hrel
            have HXJ := Lib.hid hXj
            clear hXj
            by_cases hj64 : j < 64
            · have hji : (j : Int) < 64 := by omega
              have hc := HC8.out (63 - j) (by omega)
              have hsub : (63 : Int) - (j : Int) = ((63 - j : Nat) : Int) := by omega
              have h63 : ((63 - j : Nat) : Int) < 64 := by omega
              by_cases hbit : X / 2 ^ (63 - j) % 2 = 1
              · rw [decide_eq_true hbit] at hc
                have HR1 := Lib.hid (lz_at HXJ.out (by omega) hbit HXF.out)
                clear hbit
                go_wp2_with fail
                go_meet
                case rel => exact ⟨by rw [HR1.out], rfl⟩
              · rw [decide_eq_false hbit] at hc
                have HR1 := Lib.hid (lz_step HXJ.out (by omega) hbit)
                clear hbit
                go_wp2_with fail
                go_roundw
                case rel => exact ⟨trivial, j + 1, by omega, by go_num, HR1.out⟩
                case measure => simp [intOf]; omega
            · obtain rfl : j = 64 := by omega
              have hX0 : X = 0 := by have := HXJ.out; simpa using this
              go_wp2_with fail
              go_meet
              case rel => exact ⟨by rw [hX0, lz_zero], rfl⟩
        case rest =>
          obtain ⟨rfl, rfl⟩ := hcut
          by_cases hX0 : X = 0
          · have hz : lzN X = 64 := by rw [hX0, lz_zero]
            have HX0 := Lib.hid hX0
            rw [hz]
            clear hX0 hz
            go_wp2_with (at_builtin; refine wpList_append_bools rfl _ _ rfl u3 bj rfl (HOB.out.quiet ((Keeps.refl _ _).alloc _)) ⟨v1.heap.size, 0, none⟩ 1 1 [false] rfl rfl (World.news_of_block (cs := #[.bool false]) (t := 4) (fr := (0, 0)) (heap_alloc_new v1 _)) (by have := HBL.out; omega) ?_; intro v3 w3 h3; have H3 := Lib.hid h3; clear h3)
            go_roundw
            case rel =>
              have hnb : nextB X vj = [false] := by unfold nextB; rw [if_pos HX0.out]
              have hnw : nextW X vj = vj := by unfold nextW; rw [if_pos HX0.out]
              refine ⟨k + 1, bj ++ [false], vj, by omega, by omega, by go_num, rfl, rfl, rfl, H3.out.own, ?_, HOK.out, ?_, H3.out.keeps⟩
              · have := HREST.out
                simp only [restB, HX.out, hnb, hnw] at this
                rw [HGX.out, List.append_assoc]
                exact this
              · have := HBL.out
                rw [List.length_append, List.length_singleton]; omega
            case measure => simp [intOf]; omega
          · have hwin := win_of hX0 HXF.out
            obtain ⟨lz, hlz⟩ : ∃ z, lzN X = z := ⟨_, rfl⟩
            obtain ⟨tz, htz⟩ : ∃ z, tzN X = z := ⟨_, rfl⟩
            rw [hlz, htz] at hwin
            rw [hlz]
            have hl64 : ((lz : Int) == 64) = false := by rw [beq_eq_false_iff_ne]; omega
            have hl63 : (lz : Int) ≤ 63 := by omega
            have HX0 := Lib.hid hX0
            have HLZ := Lib.hid hlz
            have HTZ := Lib.hid htz
            have HWIN := Lib.hid hwin
            have HTB := Lib.hid (show ∀ j, j ≤ tz → decide (X / 2 ^ j % 2 = 1) = decide (j = tz) from fun j hj => by have := tz_bit (j := j) hX0 HXF.out (by omega); rw [htz] at this; exact this)
            have htz63 : tz ≤ 63 := by omega
            clear hX0 hlz htz hwin
            go_upto_block 4 with fail
            go_cut [10] from 18 to 102 (fun s wx => s = .int .i64 (tz : Nat) ∧ v1 = wx)
            case first =>
              go_wp2_with fail
              go_loopw [10] (fun a wx => v1 = wx ∧ ∃ j : Nat, j ≤ tz ∧ a = .int .i64 j) (fun a _ => tz - (intOf a).toNat)
              case atStart => exact ⟨rfl, 0, by omega, rfl⟩
              case round =>
                obtain ⟨rfl, j, hj, rfl⟩ := hrel
                have hc := HC8.out j (by omega)
                rw [HTB.out j hj] at hc
                have hji : (j : Int) < 64 := by omega
                by_cases hjt : j = tz
                · subst hjt
                  rw [decide_eq_true rfl] at hc
                  go_wp2_with fail
                  go_meet
                  case rel => exact ⟨rfl, rfl⟩
                · rw [decide_eq_false hjt] at hc
                  go_wp2_with fail
                  go_roundw
                  case rel => exact ⟨trivial, j + 1, by omega, by go_num⟩
                  case measure => simp [intOf]; omega
            case rest =>
              obtain ⟨rfl, rfl⟩ := hcut
              go_upto_if 60 with fail
              go_cut [9] from 18 to 102 (fun s wx => s = .int .i64 (min 31 lz : Nat) ∧ v1 = wx)
              case first =>
                by_cases h31 : 31 < lz
                · have h31i : (31 : Int) < (lz : Int) := by omega
                  go_wp2_with fail
                  go_meet
                  case rel => exact ⟨by rw [Nat.min_eq_left (by omega)]; rfl, rfl⟩
                · have h31i : (lz : Int) ≤ 31 := by omega
                  go_wp2_with fail
                  go_meet
                  case rel => exact ⟨by rw [Nat.min_eq_right (by omega)], rfl⟩
              case rest =>
                obtain ⟨rfl, rfl⟩ := hcut
                obtain ⟨t, ht⟩ : ∃ t, min 31 lz = t := ⟨_, rfl⟩
                rw [ht]
                have ht31 : t ≤ 31 := by omega
                have htz2 : t + tz ≤ 63 := by have := HWIN.out.1; omega
                have HT := Lib.hid ht
                clear ht
                go_upto_region 19 with (at_builtin; refine wpList_append_bools rfl _ _ rfl u3 bj rfl (HOB.out.quiet ((Keeps.refl _ _).alloc _)) ⟨v1.heap.size, 0, none⟩ 1 1 [true] rfl rfl (World.news_of_block (cs := #[.bool true]) (t := 4) (fr := (0, 0)) (heap_alloc_new v1 _)) (by have := HBL.out; omega) ?_; intro v3 w3 h3; have H3 := Lib.hid h3; clear h3)
                obtain ⟨vt, ve, vi⟩ := vj
                have HVT := Lib.hid (show vt ≤ 31 ∧ vt + ve ≤ 63 from HOK.out)
                have HLZ2 := Lib.hid HLZ.out
                have HCAP := Lib.hid hcap8
                clear HOB HC8 HTB HLZ hcap8
                go_cut [74] from 18 to 102 (fun s wx => s = .bool (vi && (decide (vt ≤ t) && decide (ve ≤ tz))) ∧ w3 = wx)
                case first =>
                  cases vi with
                  | false =>
                    go_wp2_with fail
                    go_meet
                    case rel => exact ⟨rfl, rfl⟩
                  | true =>
                    by_cases h1 : vt ≤ t
                    · have h1i : (vt : Int) ≤ (t : Int) := by omega
                      by_cases h2 : ve ≤ tz
                      · have h2i : (ve : Int) ≤ (tz : Int) := by omega
                        go_wp2_with fail
                        go_meet
                        case rel => exact ⟨by simp [h1, h2], rfl⟩
                      · have h2i : ¬ (ve : Int) ≤ (tz : Int) := by omega
                        go_wp2_with fail
                        go_meet
                        case rel => exact ⟨by simp [h1, h2], rfl⟩
                    · have h1i : ¬ (vt : Int) ≤ (t : Int) := by omega
                      go_wp2_with fail
                      go_meet
                      case rel => exact ⟨by simp [h1], rfl⟩
                case rest =>
                  obtain ⟨rfl, rfl⟩ := hcut
                  cases hh : (vi && (decide (vt ≤ t) && decide (ve ≤ tz))) with
                  | true =>
                    have hh' := hh
                    simp only [Bool.and_eq_true, decide_eq_true_eq] at hh'
                    obtain ⟨rfl, hvt, hve⟩ := hh'
                    have hwin := HWIN.out
                    have hnb : nextB X ⟨vt, ve, true⟩ = [true, false] ++ bitsL (X / 2 ^ ve) (64 - vt - ve) := by
                      unfold nextB
                      rw [if_neg HX0.out, HLZ2.out, HTZ.out, HT.out, if_pos hh]
                    have hnw : nextW X ⟨vt, ve, true⟩ = ⟨vt, ve, true⟩ := by
                      unfold nextW
                      rw [if_neg HX0.out, HLZ2.out, HTZ.out, HT.out, if_pos hh]
                    have HNB := Lib.hid hnb
                    have HNW := Lib.hid hnw
                    have vt64 : vt + ve ≤ 63 := HVT.out.2
                    have hsub : (64 : Int) - (vt : Int) = ((64 - vt : Nat) : Int) := by omega
                    have hs1 : (ve : Int) ≤ ((64 - vt : Nat) : Int) := by omega
                    have hcap := HCAP.out
                    have hs2 : ((64 - vt : Nat) : Int) ≤ (cap8 : Int) := by omega
                    clear hnb hnw hh hvt hve hwin
                    go_wp2_with (first
                      | (at_builtin; refine wpList_append_bools rfl (.tmp 75) (.tmp 76) rfl v3 (bj ++ [true]) rfl (H3.out.quiet ((Keeps.refl _ _).alloc _)) ⟨w3.heap.size, 0, none⟩ 1 1 [false] rfl rfl (World.news_of_block (cs := #[.bool false]) (t := 4) (fr := (0, 0)) (heap_alloc_new w3 _)) (by have := HBL.out; rw [List.length_append, List.length_singleton]; omega) ?_; intro v4 w4 h4; have H4 := Lib.hid h4; clear h4)
                      | (at_builtin; refine wpList_append_bools rfl (.tmp 96) (.tmp 101) rfl v4 (bj ++ [true] ++ [false]) rfl H4.out ⟨g8, ve, none⟩ (64 - vt - ve) _ (bitsL (X / 2 ^ ve) (64 - vt - ve)) rfl (bitsL_len _ _) (H4.out.cut (by have := HVT.out.2; omega)) (by have := HBL.out; rw [List.length_append, List.length_append, List.length_singleton, List.length_singleton]; omega) ?_; intro v5 w5 h5; have H5 := Lib.hid h5; clear h5)
                      | fail)
                    go_roundw
                    case rel =>
                      refine ⟨k + 1, bj ++ [true] ++ [false] ++ bitsL (X / 2 ^ ve) (64 - vt - ve), ⟨vt, ve, true⟩, by omega, by omega, by go_num, rfl, rfl, rfl, H5.out.own, ?_, HOK.out, ?_, H5.out.keeps⟩
                      · have := HREST.out
                        simp only [restB, HX.out, HNB.out, HNW.out] at this
                        rw [HGX.out, ← this]
                        simp
                      · have := HBL.out
                        simp only [List.length_append, List.length_singleton, bitsL_len]; omega
                    case measure => simp [intOf]; omega
                  | false =>
                    have hwin := HWIN.out
                    have hnb : nextB X ⟨vt, ve, vi⟩ = [true, true] ++ bitsL t 5 ++ bitsL (63 - t - tz) 6 ++ bitsL (X / 2 ^ tz) (64 - t - tz) := by
                      unfold nextB
                      rw [if_neg HX0.out, HLZ2.out, HTZ.out, HT.out, if_neg (by rw [hh]; decide)]
                    have hnw : nextW X ⟨vt, ve, vi⟩ = ⟨t, tz, true⟩ := by
                      unfold nextW
                      rw [if_neg HX0.out, HLZ2.out, HTZ.out, HT.out, if_neg (by rw [hh]; decide)]
                    have HNB := Lib.hid hnb
                    have HNW := Lib.hid hnw
                    have hsub : (64 : Int) - (t : Int) = ((64 - t : Nat) : Int) := by omega
                    have hs1 : (tz : Int) ≤ ((64 - t : Nat) : Int) := by omega
                    have hcap := HCAP.out
                    have hs2 : ((64 - t : Nat) : Int) ≤ (cap8 : Int) := by omega
                    clear hnb hnw hh hwin
                    go_wp2_with (first
                      | (at_builtin; refine wpList_append_bools rfl (.tmp 80) (.tmp 81) rfl v3 (bj ++ [true]) rfl (H3.out.quiet ((Keeps.refl _ _).alloc _)) ⟨w3.heap.size, 0, none⟩ 1 1 [true] rfl rfl (World.news_of_block (cs := #[.bool true]) (t := 4) (fr := (0, 0)) (heap_alloc_new w3 _)) (by have := HBL.out; rw [List.length_append, List.length_singleton]; omega) ?_; intro v4 w4 h4; have H4 := Lib.hid h4; clear h4)
                      | fail)
                    refine (refBits_any t 5 (by unfold Fits; omega) (by omega) _).mono ?_
                    rintro e w5 ⟨v5, rfl, hown5, hk5⟩
                    obtain ⟨g5, cap5, rfl, _, _⟩ := hown5.form (by omega)
                    have H5 := Lib.hid (H4.out.quiet hk5)
                    have HO5 := Lib.hid hown5
                    clear hown5 hk5
                    have h63 : (63 : Int) - (t : Int) = ((63 - t : Nat) : Int) := by omega
                    have h63b : ((63 - t : Nat) : Int) - (tz : Int) = ((63 - t - tz : Nat) : Int) := by omega
                    have h63c : ((63 - t - tz : Nat) : Int) ≤ 63 := by omega
                    go_wp2_with (first
                      | (at_builtin; refine wpList_append_bools rfl (.tmp 83) (.tmp 86) rfl v4 (bj ++ [true] ++ [true]) rfl H5.out ⟨g5, 0, none⟩ 5 _ (bitsL t 5) rfl (bitsL_len _ _) (HO5.out.cells rfl) (by have := HBL.out; simp only [List.length_append, List.length_singleton]; omega) ?_; intro v6 w6 h6; have H6 := Lib.hid h6; clear h6)
                      | fail)
                    refine (refBits_any (63 - t - tz) 6 (by unfold Fits; omega) (by omega) _).mono ?_
                    rintro e w7 ⟨v7, rfl, hown7, hk7⟩
                    obtain ⟨g7, cap7, rfl, _, _⟩ := hown7.form (by omega)
                    have H7 := Lib.hid (H6.out.quiet hk7)
                    have HO7 := Lib.hid hown7
                    clear hown7 hk7
                    go_wp2_with (first
                      | (at_builtin; refine wpList_append_bools rfl (.tmp 88) (.tmp 94) rfl v6 (bj ++ [true] ++ [true] ++ bitsL t 5) rfl H7.out ⟨g7, 0, none⟩ 6 _ (bitsL (63 - t - tz) 6) rfl (bitsL_len _ _) (HO7.out.cells rfl) (by have := HBL.out; simp only [List.length_append, List.length_singleton, bitsL_len]; omega) ?_; intro v8 w8 h8; have H8 := Lib.hid h8; clear h8)
                      | (at_builtin; refine wpList_append_bools rfl (.tmp 96) (.tmp 101) rfl v8 (bj ++ [true] ++ [true] ++ bitsL t 5 ++ bitsL (63 - t - tz) 6) rfl H8.out ⟨g8, tz, none⟩ (64 - t - tz) _ (bitsL (X / 2 ^ tz) (64 - t - tz)) rfl (bitsL_len _ _) (H8.out.cut (by omega)) (by have := HBL.out; simp only [List.length_append, List.length_singleton, bitsL_len]; omega) ?_; intro v9 w9 h9; have H9 := Lib.hid h9; clear h9)
                      | fail)
                    go_roundw
                    case rel =>
                      refine ⟨k + 1, bj ++ [true] ++ [true] ++ bitsL t 5 ++ bitsL (63 - t - tz) 6 ++ bitsL (X / 2 ^ tz) (64 - t - tz), ⟨t, tz, true⟩, by omega, by omega, by go_num, rfl, rfl, rfl, H9.out.own, ?_, ⟨ht31, htz2⟩, ?_, H9.out.keeps⟩
                      · have := HREST.out
                        simp only [restB, HX.out, HNB.out, HNW.out] at this
                        rw [HGX.out, ← this]
                        simp
                      · have := HBL.out
                        simp only [List.length_append, List.length_singleton, bitsL_len]; omega
                    case measure => simp [intOf]; omega
    · obtain rfl : k = M.length := by omega
      have hb : bj = blockB M := by
        have := HR.out
        rw [List.drop_of_length_le (Nat.le_refl _)] at this
        simpa [restB] using this
      have HB := Lib.hid hb
      obtain ⟨A2, c2, rfl, hI2⟩ := InB.of_own HO.out (by have := HBL.out; omega)
      clear hb
      go_wp2_with fail
      refine (refBytes_any _ _ bj _ hI2).mono ?_
      rintro e w2 ⟨u, rfl, hown2, hk2⟩
      rw [HB.out] at hown2
      have HO2 := Lib.hid hown2
      clear hown2
      go_wp2
      go_ret
      exact ⟨u, rfl, own_mono' HO2.out hkr.size, hkr.trans hk2⟩
end Go.Proofs.YthcoiaigmndohaaDoor
