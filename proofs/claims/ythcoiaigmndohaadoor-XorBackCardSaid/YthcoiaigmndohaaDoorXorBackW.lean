/-
  The law XorBack: its walk. Condition: the table of TrailingZeros64 is in its variable (out of the row's 'laid').
-/
import Derived.Test.YthcoiaigmndohaaDoorXorDecodesW
namespace Go.Proofs.YthcoiaigmndohaaDoor
open Go.RowKit BitM

theorem blockB_low {M : List Nat} (h1 : 1 ≤ M.length) : 64 ≤ (blockB M).length := by
  cases M with
  | nil => simp at h1
  | cons x M => simp only [blockB, List.length_append, bitsL_len]; omega

/-- What the three readings of a form come to. -/
theorem form_three {M : List Nat} (h1 : 1 ≤ M.length) (h2 : M.length ≤ 1024) (hf : ∀ x ∈ M, Fits x) {n : Nat} (hn : ((blockB M).length + 7) / 8 = n) :
    decM (ofBytes (formOf M n)) (8 * n) M.length = (0, M) ∧ decM (ofBytes (formOf M (n - 1))) (8 * (n - 1)) M.length = (1, []) ∧ decM (ofBytes (formOf M (n + 1))) (8 * (n + 1)) M.length = (2, []) := by
  have h64 := blockB_low h1
  refine ⟨?_, ?_, ?_⟩
  · rw [form_dec h1 h2 hf, if_neg (by omega), if_neg (by omega)]
  · rw [form_dec h1 h2 hf, if_pos (by omega)]
  · rw [form_dec h1 h2 hf, if_neg (by omega), if_pos (by omega)]

theorem form_len (M : List Nat) (k : Nat) : (formOf M k).length = k := by unfold formOf; rw [bytesL_len]

theorem form_byt (M : List Nat) (k : Nat) : ∀ z ∈ formOf M k, 0 ≤ z ∧ z < 256 := by
  intro z hz
  unfold formOf bytesL at hz
  rw [List.mem_map] at hz
  obtain ⟨j, _, rfl⟩ := hz
  have := byteN_lt (boolsN (blockB M)) j
  omega

theorem form_take (M : List Nat) {n k : Nat} (h : k ≤ n) : formOf M k = (formOf M n).take k := by
  apply List.ext_getElem?
  intro j
  by_cases hj : j < k
  · rw [List.getElem?_take, if_pos hj]
    unfold formOf
    rw [bytesL_get hj, bytesL_get (by omega)]
  · rw [List.getElem?_eq_none (by rw [form_len]; omega), List.getElem?_eq_none (by rw [List.length_take, form_len]; omega)]

theorem form_more (M : List Nat) {n : Nat} (hn : ((blockB M).length + 7) / 8 = n) : formOf M n ++ [0] = formOf M (n + 1) := by
  unfold formOf
  refine bytes_more (Nat.lt_of_lt_of_le (boolsN_lt _) (Nat.pow_le_pow_right (by decide) (by omega)))

/-- The first bytes of a slice of bytes. -/
theorem In.take {w : World} {A : Option Addr} {c : Nat} {L : List Int} (h : In w A c L) (k : Nat) : In w A c (L.take k) := by
  refine ⟨⟨by simp, fun hn => ?_⟩, h.cap, by have := h.le; rw [List.length_take]; omega⟩
  have hl : 0 < L.length := by rw [List.length_take] at hn; omega
  obtain ⟨b, off, hA, hb, hc⟩ := h.row.2 hl
  refine ⟨b, off, hA, hb, fun j u hu => hc j u ?_⟩
  rw [List.map_take, List.getElem?_take] at hu
  split at hu
  · exact hu
  · cases hu

theorem In.news {w : World} {g c : Nat} {L : List Int} (h : In w (some ⟨g, 0, none⟩) c L) (o : Obj) (j : Nat) (u : Value) (hu : (L.map (Value.int .u8))[j]? = some u) : (w.alloc o).cell? ((⟨g, 0, none⟩ : Addr).add j) = some u := by
  have hl : 0 < L.length := by
    have := (List.getElem?_eq_some_iff.1 hu).1
    simp at this
    omega
  obtain ⟨b, off, hA, hb, hc⟩ := h.row.2 hl
  cases hA
  have ha : (⟨g, 0, none⟩ : Addr).add j = ⟨g, 0 + j, none⟩ := by
    unfold Addr.add
    split <;> simp_all
  rw [ha, World.cell?_alloc_lt _ _ _ hb]
  exact hc j u hu

/-- Each is one cell. -/
theorem u8_ones (L : List Int) : ∀ u ∈ L.map (Value.int .u8), u.oneCell' = true := by
  intro u hu
  obtain ⟨x, _, rfl⟩ := List.mem_map.1 hu
  rfl

set_option maxRecDepth 100000 in
set_option maxHeartbeats 3200000 in
theorem xorBack_nat (A : Option Addr) (c : Nat) (M : List Nat) (w : World) (hI : In64 w A c M) (h1 : 1 ≤ M.length) (h2 : M.length ≤ 1024) (hT : Tab w) :
    Calls Tryd.prog 4 #[.slice A M.length c] w fun e w' => e = .returned (.bool true) ∧ Keeps (fun _ => False) w w' := by
  obtain ⟨e0, he0, hz0, hz1, hz2⟩ := info_parts info5
  have hBg : 1 < w.heap.size := World.block_lt_of_cell? w _ (hT 0 (by decide))
  have hb : blockOk M.length = true := by unfold blockOk; simp; omega
  have hlen := blockB_len hI.fits
  have hlow := blockB_low h1
  obtain ⟨n, hn⟩ : ∃ n, ((blockB M).length + 7) / 8 = n := ⟨_, rfl⟩
  have hn8 : 8 ≤ n := by omega
  have hn5 : n ≤ 20000 := by omega
  obtain ⟨t1, t2, t3⟩ := form_three h1 h2 hI.fits hn
  have hmore := form_more M hn
  have htake := form_take M (n := n) (k := n - 1) (by omega)
  have hl0 : ((M.length : Int) == 0) = false := by rw [beq_eq_false_iff_ne]; omega
  have h2i : (M.length : Int) ≤ 1024 := by omega
  have hn8i : (8 : Int) ≤ (n : Int) := by omega
  have HT := Lib.hid hT
  have HI := Lib.hid hI
  have HB := Lib.hid hb
  have HN := Lib.hid hn
  have T1 := Lib.hid t1
  have T2 := Lib.hid t2
  have T3 := Lib.hid t3
  have HMORE := Lib.hid hmore
  have HTAKE := Lib.hid htake
  have HFI := Lib.hid hI.fits
  clear hT hI hb hn t1 t2 t3 hmore htake hlen hlow
  go_enter Tryd.func4, Tryd.ntmps4
  go_wp2_with fail
  refine (reals_any A c M _ HI.out).mono ?_
  rintro e w1 ⟨u, rfl, hown1, hk1⟩
  obtain ⟨A1, c1, rfl, hlc, hcm, hF⟩ := InFB.of_own0 hown1 HI.out.le HI.out.fits
  have henc := encode_any A1 c1 M w1 HB.out hF (by omega) hlc hcm (Nat.lt_of_lt_of_le hBg hk1.size) (HT.out.keep hk1)
  rw [HN.out] at henc
  have HE := Lib.hid henc
  clear hown1 hlc hcm hF henc
  go_wp2_with fail
  refine HE.out.mono ?_
  rintro e w2 ⟨u, rfl, hown2, hk2⟩
  obtain ⟨L, hL⟩ : ∃ L, formOf M n = L := ⟨_, rfl⟩
  have hLn : L.length = n := by rw [← hL, form_len]
  have hbyt : ∀ z ∈ L, 0 ≤ z ∧ z < 256 := by rw [← hL]; exact form_byt M n
  have t1 := T1.out
  have t2 := T2.out
  have t3 := T3.out
  rw [HTAKE.out, hL] at t2
  rw [← HMORE.out, hL] at t3
  rw [hL] at t1
  have hown2' : w2.ownsRow w1.heap.size 5 1 u n (L.map (Value.int .u8)) := by rw [← hL]; exact hown2
  clear hown2
  have hown2 := hown2'
  clear hown2'
  subst hLn
  obtain ⟨A2, c2, rfl, hI2⟩ := In.of_own hown2 (by omega)
  obtain ⟨g2, cap2, hA2, hcap2⟩ : ∃ g cap, Value.slice A2 L.length c2 = .slice (some ⟨g, 0, none⟩) L.length cap ∧ L.length ≤ cap := by
    rcases hown2.2 with ⟨hv, _⟩ | ⟨g, cap, cur, he, _, _, hge, _, _⟩
    · injection hv with _ hv _
      omega
    · exact ⟨g, cap, he, hge⟩
  injection hA2 with hA2 _ hc2
  subst hA2
  subst hc2
  have HI2 := Lib.hid hI2
  have HBY := Lib.hid hbyt
  have HK2 := Lib.hid (hk1.trans hk2)
  have D1 := Lib.hid (fun w' (hk : Keeps (fun _ => False) w2 w') => decode_any (some ⟨g2, 0, none⟩) c2 L M.length w' (HI2.out.keep (keeps_below hk)) hbyt)
  have T1' := Lib.hid t1
  have T2' := Lib.hid t2
  have T3' := Lib.hid t3
  clear hown2 hI2 hbyt hk1 hk2 t1 t2 t3 T1 T2 T3 HTAKE HMORE HE HN hL
  obtain ⟨k1, hk1⟩ : ∃ k1, L.length - 1 = k1 := ⟨_, rfl⟩
  have hk1i : (L.length : Int) - 1 = (k1 : Int) := by omega
  have hk1l : (k1 : Int) ≤ (c2 : Int) := by have := hcap2; omega
  have d1 : Calls Tryd.prog 8 #[.slice (some ⟨g2, 0, none⟩) L.length c2, .int .i64 M.length] w2 fun e w' => Keeps (fun _ => False) w2 w' ∧ ∃ u, e = .returned (.tuple #[u, .int .i64 0]) ∧ w'.ownsRow w2.heap.size 53 1 u M.length (fls M) := by
    have := decode_any (some ⟨g2, 0, none⟩) c2 L M.length w2 HI2.out HBY.out
    rw [T1'.out] at this
    exact this
  have d2 : ∀ w', Keeps (fun _ => False) w2 w' → Calls Tryd.prog 8 #[.slice (some ⟨g2, 0, none⟩) k1 c2, .int .i64 M.length] w' fun e w'' => Keeps (fun _ => False) w' w'' ∧ ∃ u, e = .returned (.tuple #[u, .int .i64 1]) := by
    intro w' hk
    have hlk : (L.take k1).length = k1 := by rw [List.length_take]; omega
    have := decode_any (some ⟨g2, 0, none⟩) c2 (L.take k1) M.length w' ((HI2.out.keep (keeps_below hk)).take k1) (fun z hz => HBY.out z (List.mem_of_mem_take hz))
    have ht := T2'.out
    rw [hk1] at ht
    rw [hlk, ht] at this
    exact this.mono fun e w'' ⟨hk, u, he, _⟩ => ⟨hk, u, he⟩
  have d3 : ∀ (A' : Option Addr) (c' : Nat) (w' : World), In w' A' c' (L ++ [0]) → Calls Tryd.prog 8 #[.slice A' (L.length + 1) c', .int .i64 M.length] w' fun e w'' => Keeps (fun _ => False) w' w'' ∧ ∃ u, e = .returned (.tuple #[u, .int .i64 2]) := by
    intro A' c' w' hI'
    have hlk : (L ++ [0]).length = L.length + 1 := by simp
    have := decode_any A' c' (L ++ [0]) M.length w' hI' (fun z hz => by
      rcases List.mem_append.1 hz with h | h
      · exact HBY.out z h
      · simp at h; omega)
    rw [hlk, T3'.out] at this
    exact this.mono fun e w'' ⟨hk, u, he, _⟩ => ⟨hk, u, he⟩
  have DD1 := Lib.hid d1
  have DD2 := Lib.hid d2
  have DD3 := Lib.hid d3
  clear d1 d2 d3 D1 T1' T2' T3' hk1
  go_wp2_with fail
  refine DD1.out.mono ?_
  rintro e w3 ⟨hk3, u3, rfl, hown3⟩
  obtain ⟨A3, c3, rfl, _, _, hF3⟩ := InFB.of_own0 hown3 (by omega) HFI.out
  have HF3 := Lib.hid hF3
  have HK3 := Lib.hid hk3
  clear hown3 hF3 hk3
  go_wp2_with fail
  refine (bitsF_any A3 c3 M _ HF3.out).mono ?_
  rintro e w4 ⟨u4, rfl, hown4, hk4⟩
  obtain ⟨A4, c4, rfl, hI4⟩ := In64.of_own hown4 (by omega) HFI.out
  have HI4 := Lib.hid hI4
  have HK4 := Lib.hid (HK3.out.trans hk4)
  have HIM := Lib.hid (HI.out.keep (HK2.out.trans HK4.out))
  clear hown4 hI4 hk4
  go_wp2_with fail
  refine (refSame_any A4 A c4 c M M _ HI4.out HIM.out).mono ?_
  rintro e w5 ⟨rfl, hk5⟩
  have hdec : decide (M = M) = true := decide_eq_true rfl
  rw [hdec]
  have HK5 := Lib.hid (HK4.out.trans hk5)
  clear hk5
  go_wp2_with fail
  refine (DD2.out _ HK5.out).mono ?_
  rintro e w6 ⟨hk6, u6, rfl⟩
  have HK6 := Lib.hid (HK5.out.trans hk6)
  clear hk6
  have HI6 := Lib.hid (HI2.out.keep (keeps_below HK6.out))
  go_wp2_with (first
    | (at_builtin; refine wpList_append_own_at _ rfl (.tmp 60) (.tmp 61) 22 rfl w6.heap.size 5 e0 (.int .u8 0) 1 1 Tryd.underlying22 he0 hz0 hz1 hz2 rfl (by decide) (.slice (some ⟨w6.heap.size, 0, none⟩) 0 0) 0 [] rfl (World.ownsRow_lit w6 #[] 0 (Nat.le_refl _) (Nat.zero_le _) rfl) ⟨g2, 0, none⟩ L.length c2 (L.map (Value.int .u8)) rfl (by simp) (HI6.out.news (.cells #[] 5)) (u8_ones L) (by unfold maxLen; omega) (by omega) (by simp) ?_; intro v7 w7 hown7 hgrow7 _ _; have hk7 := ((Keeps.refl (fun _ => False) w6).alloc (.cells #[] 5)).grown hgrow7 (by intro k hk; right; simp [Value.ownBlock] at hk; omega); have HO7 := Lib.hid hown7; clear hown7)
    | (at_builtin; go_loud (refine wpList_append_own_at _ rfl (.tmp 62) (.tmp 63) 22 rfl w6.heap.size 5 e0 (.int .u8 0) 1 1 Tryd.underlying22 he0 hz0 hz1 hz2 rfl (by decide) v7 (0 + L.length) ([] ++ L.map (Value.int .u8)) rfl (own_keep HO7.out ((Keeps.refl (fun _ => False) w7).alloc _) (fun _ _ h => h)) ⟨w7.heap.size, 0, none⟩ 1 1 [.int .u8 0] rfl rfl (World.news_of_block (cs := #[.int .u8 0]) (t := 5) (fr := (0, 0)) (heap_alloc_new w7 _)) (by simp [Value.oneCell']) (by unfold maxLen; omega) (by omega) (by have := hk7.size; simp; omega) ?_; intro v8 w8 hown8 hgrow8 _ _; have hk8 := (hk7.alloc (.cells #[.int .u8 0] 5)).grown hgrow8 (by intro k hk; right; exact (HO7.out.lt k hk).1); have hown8' : w8.ownsRow w6.heap.size 5 1 v8 (L ++ [0]).length ((L ++ [0]).map (Value.int .u8)) := (by simpa using hown8); obtain ⟨A8, c8, rfl, hI8⟩ := In.of_own hown8' (by simp; omega); have HI8 := Lib.hid hI8; clear hown8 hown8' hI8))
    | fail)
  refine (DD3.out A8 c8 _ HI8.out).mono ?_
  rintro e w9 ⟨hk9, u9, rfl⟩
  have HK9 := Lib.hid ((HK2.out.trans (HK6.out.trans hk8)).trans hk9)
  clear hk9 hk8 hk7
  go_wp2_with fail
  refine (awake_any _ (Nat.lt_of_lt_of_le hBg HK9.out.size) (HT.out.keep HK9.out)).mono ?_
  rintro e w10 ⟨rfl, hka⟩
  go_wp2
  go_ret
  exact ⟨rfl, HK9.out.trans hka⟩

theorem xorBack_walk (L : List Int) (A : Option Addr) (c : Nat) (w : World) (hT : Tab w) (hrow : Row w w.heap.size A L.length (L.map (.int .u64))) (hc : L.length ≤ c) (hm : c ≤ maxLen) (hwf : ∀ z ∈ L, (Lit.int .u64 z).wf = true) (hnil : A = none → c = 0) :
    Calls Tryd.prog 4 #[.slice A L.length c] w fun e w' => e = .returned (.bool true) ∧ Below w.heap.size w w' := by
  by_cases h0 : L.length = 0
  · have hLn : L = [] := List.eq_nil_of_length_eq_zero h0
    subst hLn
    clear hrow hwf
    go_enter Tryd.func4, Tryd.ntmps4
    go_wp2
    go_ret
    exact ⟨rfl, Below.refl _ _⟩
  by_cases hlen : L.length ≤ 1024
  · obtain ⟨M, hM, rfl, hI⟩ := In64.came hrow hwf hnil (by omega)
    rw [← hM]
    exact (xorBack_nat A c M w hI (by omega) (by omega) hT).mono fun _ _ ⟨he, hw⟩ => ⟨he, keeps_below hw⟩
  · have hlen' : (1024 : Int) < (L.length : Int) := by omega
    have hmx : (L.length : Int) ≤ 9223372036854775807 := by unfold maxLen at hm; omega
    clear hrow hwf hlen h0
    go_enter Tryd.func4, Tryd.ntmps4
    go_wp2
    go_ret
    exact ⟨rfl, Below.refl _ _⟩
end Go.Proofs.YthcoiaigmndohaaDoor
