/-
  The law XorBound: its walk. Condition: the table of TrailingZeros64 is in its variable (out of the row's 'laid').
-/
import Derived.Test.YthcoiaigmndohaaDoorXorConstantW
namespace Go.Proofs.YthcoiaigmndohaaDoor
open Go.RowKit BitM

theorem rest_low : ∀ (M : List Nat) (last : Nat) (v : Win), Fits last → (∀ x ∈ M, Fits x) → M.length ≤ (restB last v M).length ∧ (restB last v M).length ≤ 77 * M.length
  | [], _, _, _, _ => ⟨Nat.le_refl _, Nat.le_refl _⟩
  | x :: M, last, v, hl, hf => by
    have hx := hf x (by simp)
    have h1 := nextB_len (x := x ^^^ last) (v := v) (xor_u64 hx hl).2
    have h2 := rest_low M x (nextW (x ^^^ last) v) hx (fun y hy => hf y (by simp [hy]))
    simp only [restB, List.length_append, List.length_cons]
    omega

theorem rest_snoc : ∀ (M : List Nat) (last : Nat) (v : Win) (y : Nat), Fits last → (∀ x ∈ M, Fits x) → Fits y → (restB last v M).length ≤ (restB last v (M ++ [y])).length ∧ (restB last v (M ++ [y])).length ≤ (restB last v M).length + 77
  | [], last, v, y, hl, _, hy => by
    have h1 := nextB_len (x := y ^^^ last) (v := v) (xor_u64 hy hl).2
    simp only [List.nil_append, restB, List.length_append, List.length_nil]
    omega
  | x :: M, last, v, y, hl, hf, hy => by
    have hx := hf x (by simp)
    have h2 := rest_snoc M x (nextW (x ^^^ last) v) y hx (fun z hz => hf z (by simp [hz])) hy
    simp only [List.cons_append, restB, List.length_append]
    omega

/-- The sizes of a block and of one with one real more. -/
theorem size_bound {M : List Nat} {y : Nat} (h1 : 1 ≤ M.length) (h2 : M.length ≤ 1023) (hf : ∀ x ∈ M, Fits x) (hy : Fits y) :
    8 + (M.length - 1 + 7) / 8 ≤ sizeOf M ∧ sizeOf M ≤ 8 + (77 * (M.length - 1) + 7) / 8 ∧ sizeOf M ≤ sizeOf (M ++ [y]) ∧ sizeOf (M ++ [y]) ≤ sizeOf M + 10 := by
  cases M with
  | nil => simp at h1
  | cons x M =>
    have hx := hf x (by simp)
    have hfm : ∀ z ∈ M, Fits z := fun z hz => hf z (by simp [hz])
    have a := rest_low M x ⟨0, 0, false⟩ hx hfm
    have b := rest_snoc M x ⟨0, 0, false⟩ y hx hfm hy
    have e1 : sizeOf (x :: M) = (64 + (restB x ⟨0, 0, false⟩ M).length + 7) / 8 := by
      unfold sizeOf
      have : blockOk (x :: M).length = true := by unfold blockOk; simp at h2 ⊢; omega
      rw [this, if_pos rfl]
      simp only [blockB, List.length_append, bitsL_len]
    have e2 : sizeOf (x :: M ++ [y]) = (64 + (restB x ⟨0, 0, false⟩ (M ++ [y])).length + 7) / 8 := by
      unfold sizeOf
      have : blockOk (x :: M ++ [y]).length = true := by unfold blockOk; simp at h2 ⊢; omega
      rw [this, if_pos rfl]
      simp only [List.cons_append, blockB, List.length_append, bitsL_len]
    rw [e1, e2]
    simp only [List.length_cons] at h2 ⊢
    generalize (restB x ⟨0, 0, false⟩ M).length = r at *
    generalize (restB x ⟨0, 0, false⟩ (M ++ [y])).length = s at *
    omega

set_option maxRecDepth 100000 in
set_option maxHeartbeats 1600000 in
theorem xorBound_nat (A : Option Addr) (c : Nat) (M : List Nat) (y : Nat) (hy : Fits y) (w : World) (hI : In64 w A c M) (h1 : 1 ≤ M.length) (h2 : M.length ≤ 1023) (hT : Tab w) :
    Calls Tryd.prog 7 #[.slice A M.length c, .int .u64 y] w fun e w' => e = .returned (.bool true) ∧ Keeps (fun _ => False) w w' := by
  obtain ⟨e0, he0, hz0, hz1, hz2⟩ := info_parts info64
  have hBg : 1 < w.heap.size := World.block_lt_of_cell? w _ (hT 0 (by decide))
  have hfy : ∀ x ∈ M ++ [y], Fits x := fun x hx => by
    rcases List.mem_append.1 hx with h | h
    · exact hI.fits x h
    · simp at h; subst h; exact hy
  obtain ⟨b1, b2, b3, b4⟩ := size_bound h1 h2 hI.fits hy
  have h1i : ((M.length : Int) == 0) = false := by rw [beq_eq_false_iff_ne]; omega
  have h2i : (M.length : Int) ≤ 1023 := by omega
  obtain ⟨n, hn⟩ : ∃ n, sizeOf M = n := ⟨_, rfl⟩
  obtain ⟨m, hm⟩ : ∃ m, sizeOf (M ++ [y]) = m := ⟨_, rfl⟩
  rw [hn] at b1 b2 b3 b4
  rw [hm] at b3 b4
  have HB := Lib.hid (And.intro b1 (And.intro b2 (And.intro b3 b4)))
  have HN := Lib.hid hn
  have HM := Lib.hid hm
  have HFY := Lib.hid hfy
  have HT := Lib.hid hT
  clear b1 b2 b3 b4 hn hm hfy hT hy
  go_enter Tryd.func7, Tryd.ntmps7
  go_wp2_with fail
  refine (reals_any A c M _ hI).mono ?_
  rintro e w1 ⟨u, rfl, hown1, hk1⟩
  obtain ⟨A2, c2, rfl, hlc, hcm, hF⟩ := InFB.of_own hown1 h1 hI.le hI.fits
  have hsz := size_any A2 c2 M w1 hF (by omega) hlc hcm (Nat.lt_of_lt_of_le hBg hk1.size) (HT.out.keep hk1)
  rw [HN.out] at hsz
  have HZ := Lib.hid hsz
  clear hown1 hlc hcm hF hsz
  go_wp2_with fail
  refine HZ.out.mono ?_
  rintro e w2 ⟨rfl, hk2⟩
  have hk02 := hk1.trans hk2
  clear hk1 hk2
  go_upto_region 5 with (first
    | (at_builtin; refine wpList_append_in rfl (.tmp 19) (.tmp 20) rfl w2.heap.size (.slice (some ⟨w2.heap.size, 0, none⟩) 0 0) 0 [] rfl (World.ownsRow_lit w2 #[] 0 (Nat.le_refl _) (Nat.zero_le _) rfl) A c M rfl (hI.keep (hk02.alloc _)) (by omega) (by simp) ?_; intro v3 w3 hown3 hgrow3; have hk23 := ((Keeps.refl (fun _ => False) w2).alloc (.cells #[] 41)).grown hgrow3 (by intro k hk; right; simp [Value.ownBlock] at hk; omega); have HO3 := Lib.hid hown3; clear hown3)
    | (at_builtin; go_loud (refine wpList_append_own_at _ rfl (.tmp 21) (.tmp 23) 27 rfl w2.heap.size 41 e0 (.int .u64 0) 1 8 Tryd.underlying27 he0 hz0 hz1 hz2 rfl (by decide) v3 (0 + M.length) ([] ++ u64s M) rfl (HO3.out.alloc _) ⟨w3.heap.size, 0, none⟩ 1 1 [.int .u64 y] rfl rfl (World.news_of_block (cs := #[.int .u64 y]) (t := 41) (fr := (0, 0)) (heap_alloc_new w3 _)) (by simp [Value.oneCell']) (by unfold maxLen; omega) (by omega) (by have := hk23.size; simp; omega) ?_; intro v4 w4 hown4 hgrow4 _ _; have hk24 := (hk23.alloc (.cells #[.int .u64 y] 41)).grown hgrow4 (by intro k hk; right; exact (HO3.out.lt k hk).1); have hown4' : w4.ownsRow w2.heap.size 41 1 v4 (M ++ [y]).length (u64s (M ++ [y])) := (by simpa [u64s] using hown4); obtain ⟨A10, c10, rfl, hI10⟩ := In64.of_own hown4' (by simp; omega) HFY.out; have HI10 := Lib.hid hI10; clear hown4 hown4' hI10))
    | fail)
  have hre : Calls Tryd.prog 14 #[.slice A10 (M.length + 1) c10] w4 fun e w' => ∃ v, e = .returned v ∧ w'.ownsRow w4.heap.size 53 1 v (M ++ [y]).length (fls (M ++ [y])) ∧ Keeps (fun _ => False) w4 w' := by
    have := reals_any A10 c10 (M ++ [y]) w4 HI10.out
    rw [List.length_append] at this ⊢
    exact this
  refine hre.mono ?_
  rintro e w5 ⟨u, rfl, hown5, hk5⟩
  obtain ⟨A6, c6, rfl, hlc, hcm, hF⟩ := InFB.of_own hown5 (by simp) (by simp; omega) HFY.out
  have hkw := (hk02.trans hk24).trans hk5
  have hsz := size_any A6 c6 (M ++ [y]) w5 hF (by simp; omega) hlc hcm (Nat.lt_of_lt_of_le hBg hkw.size) (HT.out.keep hkw)
  rw [HM.out, List.length_append] at hsz
  have HZ2 := Lib.hid hsz
  have HKW := Lib.hid hkw
  clear hre hown5 hlc hcm hF hsz hkw hk5 hk24 hk23 hk02
  go_wp2_with fail
  refine HZ2.out.mono ?_
  rintro e w6 ⟨rfl, hk6⟩
  have HK6 := Lib.hid (HKW.out.trans hk6)
  clear hk6
  obtain ⟨k, hk⟩ : ∃ k, M.length = k := ⟨_, rfl⟩
  have g1 : (8 : Int) + ((k : Int) - 1 + 7) / 8 ≤ (n : Int) := by have := HB.out; omega
  have g2 : (n : Int) ≤ 8 + (77 * ((k : Int) - 1) + 7) / 8 := by have := HB.out; omega
  have g3 : (n : Int) ≤ (m : Int) := by have := HB.out; omega
  have g4 : (m : Int) ≤ (n : Int) + 10 := by have := HB.out; omega
  have g5 : (n : Int) ≤ 100000 := by have := HB.out; omega
  rw [hk] at h1 h2 h1i h2i ⊢
  have k1 : (1 : Int) ≤ (k : Int) := by omega
  go_wp2_with fail
  refine (awake_any _ (Nat.lt_of_lt_of_le hBg HK6.out.size) (HT.out.keep HK6.out)).mono ?_
  rintro e w7 ⟨rfl, hka⟩
  go_wp2
  go_ret
  exact ⟨rfl, HK6.out.trans hka⟩

theorem nat_of_u64 {z : Int} (h : (Lit.int .u64 z).wf = true) : ∃ b : Nat, z = (b : Int) ∧ Fits b := by
  have m1 : IntKind.u64.min = 0 := by decide
  have m2 : IntKind.u64.max = 18446744073709551615 := by decide
  simp only [Lit.wf, m1, m2, Bool.and_eq_true, decide_eq_true_eq] at h
  exact ⟨z.toNat, by omega, by unfold Fits; omega⟩

theorem In64.came {w : World} {A : Option Addr} {c : Nat} {L : List Int} (hrow : Row w w.heap.size A L.length (L.map (.int .u64))) (hwf : ∀ z ∈ L, (Lit.int .u64 z).wf = true) (hnil : A = none → c = 0) (hl : L.length ≤ 100000) :
    ∃ M : List Nat, M.length = L.length ∧ L = M.map (fun x : Nat => (x : Int)) ∧ In64 w A c M := by
  refine ⟨L.map Int.toNat, by simp, ?_, ?_⟩
  · rw [List.map_map]
    symm
    conv => rhs; rw [← List.map_id L]
    refine List.map_congr_left fun z hz => ?_
    obtain ⟨b, rfl, _⟩ := nat_of_u64 (hwf z hz)
    simp
  · refine ⟨?_, hnil, by simpa using hl, ?_⟩
    · have e : (L.map Int.toNat).map (fun x : Nat => Value.int .u64 x) = L.map (.int .u64) := by
        rw [List.map_map]
        refine List.map_congr_left fun z hz => ?_
        obtain ⟨b, rfl, _⟩ := nat_of_u64 (hwf z hz)
        simp
      rw [e, List.length_map]
      exact hrow
    · intro x hx
      obtain ⟨z, hz, rfl⟩ := List.mem_map.1 hx
      obtain ⟨b, rfl, hb⟩ := nat_of_u64 (hwf z hz)
      simpa using hb

theorem xorBound_walk (L : List Int) (A : Option Addr) (c : Nat) (y : Int) (w : World) (hT : Tab w) (hrow : Row w w.heap.size A L.length (L.map (.int .u64))) (hc : L.length ≤ c) (hm : c ≤ maxLen) (hwf : ∀ z ∈ L, (Lit.int .u64 z).wf = true) (hnil : A = none → c = 0) (hyw : (Lit.int .u64 y).wf = true) :
    Calls Tryd.prog 7 #[.slice A L.length c, .int .u64 y] w fun e w' => e = .returned (.bool true) ∧ Below w.heap.size w w' := by
  obtain ⟨x, rfl, hb⟩ := nat_of_u64 hyw
  by_cases h0 : L.length = 0
  · have hmx : (L.length : Int) = 0 := by omega
    have hLn : L = [] := List.eq_nil_of_length_eq_zero h0
    subst hLn
    clear hrow hwf
    go_enter Tryd.func7, Tryd.ntmps7
    go_wp2
    go_ret
    exact ⟨rfl, Below.refl _ _⟩
  by_cases hlen : L.length ≤ 1023
  · obtain ⟨M, hM, rfl, hI⟩ := In64.came hrow hwf hnil (by omega)
    rw [← hM]
    exact (xorBound_nat A c M x hb w hI (by omega) (by omega) hT).mono fun _ _ ⟨he, hw⟩ => ⟨he, hw.below (fun _ _ h => h) (Nat.le_refl _)⟩
  · have hlen' : (1023 : Int) < (L.length : Int) := by omega
    have hmx : (L.length : Int) ≤ 9223372036854775807 := by unfold maxLen at hm; omega
    clear hrow hwf hlen h0
    go_enter Tryd.func7, Tryd.ntmps7
    go_wp2
    go_ret
    exact ⟨rfl, Below.refl _ _⟩
end Go.Proofs.YthcoiaigmndohaaDoor
