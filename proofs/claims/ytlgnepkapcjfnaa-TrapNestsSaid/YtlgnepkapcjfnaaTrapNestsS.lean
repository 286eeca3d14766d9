/-
  The law TrapNests: one step of 'from', by what it does at the levels within. Conditions: at most 60 steps.
-/
import Derived.Test.YtlgnepkapcjfnaaTrapNestsW
import Derived.Deep.Cut
import Derived.StillTailTactics
namespace Go.Proofs.Ytlgnepkapcjfnaa.Nst
open Go.RowKit Plain

attribute [local go_sem ↓] Go.wp_at_zero Go.wp_at_succ

/-- One note more: what the append and the store of the new slice leave. -/
theorem noted {B g : Nat} {A : Option Addr} {c n : Nat} {W w1 : World} {v : Value} {xs : List Int} {x : Int} {g2 cap : Nat} {o : Obj} (hN : Nest B g (.slice A n c) W v xs)
    (hown1 : w1.ownsRow B 3 1 (.slice (some ⟨g2, 0, none⟩) (xs.length + 1) cap) (xs.length + 1) (xs.map (Value.int .i64) ++ [.int .i64 x]))
    (hgrow : ((W.alloc o).drew).grownBy w1 v.ownBlock) (hat : v.ownBlock = some g2 ∨ g2 = W.heap.size + 1) :
    ∃ v', Nest B g (.slice A n c) (w1.setCell ⟨g, 1, none⟩ (.slice (some ⟨g2, 0, none⟩) (xs.length + 1) cap)) v' (xs ++ [x]) ∧ Moves g v W v' (w1.setCell ⟨g, 1, none⟩ (.slice (some ⟨g2, 0, none⟩) (xs.length + 1) cap)) := by
  have hvg : v.ownBlock ≠ some g := hN.blk.own_ne hN.own (by decide)
  have hgl := hN.blk.lt
  have hK : Keeps (fun i => i = g ∨ v.ownBlock = some i) W w1 := (((Keeps.refl _ _).alloc o).drew).grown hgrow (fun k hk => .inl (.inr hk))
  have hb1 : Blk w1 g 26 #[.slice A n c, v] := (hgrow.block g (by simp; omega) (fun h => hvg h.symm)).trans ((hN.blk.alloc o).drew)
  have hb2 : Blk (w1.setCell ⟨g, 1, none⟩ (.slice (some ⟨g2, 0, none⟩) (xs.length + 1) cap)) g 26 #[.slice A n c, .slice (some ⟨g2, 0, none⟩) (xs.length + 1) cap] := by simpa using hb1.set_ 1 (.slice (some ⟨g2, 0, none⟩) (xs.length + 1) cap)
  have hne : g ≠ g2 := by
    intro e
    have := hb1.own_ne hown1 (by decide)
    exact this (by simp [Value.ownBlock, e])
  refine ⟨_, ⟨hb2, ?_⟩, ⟨hK.setCell (.inl (.inl rfl)) _, ?_⟩⟩
  · have := own_keep hown1 ((Keeps.refl (fun i => i = g) w1).setCell (p := ⟨g, 1, none⟩) (.inl rfl) (.slice (some ⟨g2, 0, none⟩) (xs.length + 1) cap)) (fun i hi e => by
      have : g2 = i := by simpa [Value.ownBlock] using hi
      omega)
    simpa using this
  · intro i hi
    have : g2 = i := by simpa [Value.ownBlock] using hi
    subst this
    rcases hat with h | h
    · exact .inl h
    · exact .inr (by omega)

section
variable (B g k : Nat) (A : Option Addr) (c : Nat) (L : List (Bool × Int))

set_option maxHeartbeats 3200000 in
theorem from_step (hk : k < L.length) (hn : L.length ≤ 60) (hrec : Rec B g k A c L) (hg : B ≤ g) (w : World) (v : Value) (xs : List Int) (hx : xs.length + 2 * (L.length - k) ≤ 1000)
    (hN : Nest B g (.slice A L.length c) w v xs) (hS : Steps w B A L) (hB : B ≤ w.heap.size) :
    Calls Try.prog 9 #[.pointer (some ⟨g, 0, none⟩), .int .i64 k] w (FromPost B g k (.slice A L.length c) L w v xs) := by
  have c0 : w.cell? ⟨g, 0, none⟩ = some (.slice A L.length c) := hN.blk.cell 0
  have c1 : w.cell? ⟨g, 1, none⟩ = some v := hN.blk.cell 1
  have hglt := hN.blk.lt
  have hvl : ∀ i, v.ownBlock = some i → i < w.heap.size := fun i hi => (hN.own.lt i hi).2
  have HN := Lib.hid hN
  have HVL := Lib.hid hvl
  have HS := Lib.hid hS
  have HREC := Lib.hid hrec
  clear hN hvl hS hrec
  go_enter Try.func9, Try.ntmps9
  go_wp2_with fail
  go_quiet (fail)
  go_wp2_with fail
  obtain ⟨W, hW⟩ : ∃ W, ((w.alloc (.cells #[.pointer (some ⟨g, 0, none⟩)] 23)).alloc (.cells #[.int .i64 k] 3)).drewN nq = W := ⟨_, rfl⟩
  rw [hW]
  have k0 : Keeps (fun _ => False) w W := by rw [← hW]; exact (((Keeps.refl _ _).alloc _).alloc _).drewN _
  have bn : Blk W w.heap.size 23 #[.pointer (some ⟨g, 0, none⟩)] := by rw [← hW]; exact (Blk.new _ _ _).alloc _
  have bk : Blk W (w.heap.size + 1) 3 #[.int .i64 k] := by
    have := Blk.new (w.alloc (.cells #[.pointer (some ⟨g, 0, none⟩)] 23)) 3 #[.int .i64 k]
    rw [World.size_alloc] at this
    rw [← hW]; exact this.drewN _
  have nW : Nest B g (.slice A L.length c) W v xs := ⟨HN.out.blk.keep k0 (fun h => h), own_keep HN.out.own k0 (fun _ _ h => h)⟩
  have sW : Steps W B A L := HS.out.keep k0 hB (fun _ _ h => h)
  have hBW : B ≤ W.heap.size := Nat.le_trans hB k0.size
  have HW := Lib.hid hW
  have HK0 := Lib.hid k0
  have BN := Lib.hid bn
  have BK := Lib.hid bk
  have NW := Lib.hid nW
  have SW := Lib.hid sW
  clear hW k0 bn bk nW sW c0 c1
  go_cut [] from 5 (fun wc => ∃ v2, Nest B g (.slice A L.length c) wc v2 (xs ++ [(k : Int)]) ∧ Moves g v W v2 wc)
  case first =>
    have d0 : W.cell? ⟨w.heap.size, 0, none⟩ = some (.pointer (some ⟨g, 0, none⟩)) := BN.out.cell 0
    have d1 : W.cell? ⟨w.heap.size + 1, 0, none⟩ = some (.int .i64 k) := BK.out.cell 0
    have d2 : W.cell? ⟨g, 1, none⟩ = some v := NW.out.blk.cell 1
    have hown := NW.out.own
    have HA := Lib.hid (NW.out.blk.own_ne NW.out.own (by decide))
    have HAN := Lib.hid (BN.out.own_ne NW.out.own (by decide))
    have p0 : (W.alloc (.cells #[.int .i64 (k : Int)] 3)).cell? ⟨w.heap.size, 0, none⟩ = some (.pointer (some ⟨g, 0, none⟩)) := (BN.out.alloc _).cell 0
    have p1 : (W.alloc (.cells #[.int .i64 (k : Int)] 3)).cell? ⟨w.heap.size + 1, 0, none⟩ = some (.int .i64 k) := (BK.out.alloc _).cell 0
    have pf : (W.alloc (.cells #[.int .i64 (k : Int)] 3)).frozen? ⟨g, 1, none⟩ = false := (NW.out.blk.alloc _).frozen 1
    have pc : (W.alloc (.cells #[.int .i64 (k : Int)] 3)).cell? ⟨g, 1, none⟩ = some v := (NW.out.blk.alloc _).cell 1
    have hgW := NW.out.blk.lt
    have hbnd : xs.length ≤ 1000 := (by omega)
    have HAK := Lib.hid (show v.ownBlock ≠ some (w.heap.size + 1) from fun h => by have := HVL.out _ h; omega)
    obtain ⟨e0, he0, hz0, hz1, hz2⟩ := info_parts info3
    go_region_law ((refine step_append_lies _ (by rfl) _ _ _ (by rfl) B 3 e0 _ 1 8 Try.underlying24 he0 hz0 hz1 hz2 rfl (by omega) v xs.length _ (by rfl) ((hown.alloc _).drew) ⟨W.heap.size, 0, none⟩ 1 1 [.int .i64 (k : Int)] (by rfl) (by rfl) (World.news_of_block (cs := #[.int .i64 (k : Int)]) (t := 3) (fr := (0, 0)) (heap_alloc_new W _)) (by simp [Value.oneCell']) (by omega) (by unfold maxLen; omega) (by omega) (by simp; omega) (W.heap.size + 1) (by simp) ?_; intro g2 cap w1 hown1 hgrow hat hlt; have f3 : w1.frozen? ⟨g, 1, none⟩ = false := (hgrow.frozen_far _ ((NW.out.blk.alloc _).drew).lt (Ne.symm HA.out)).trans pf; have f4 : w1.cell? ⟨g, 1, none⟩ = some v := (hgrow.cell_far _ ((NW.out.blk.alloc _).drew).lt (Ne.symm HA.out)).trans pc; have f5 : w1.cell? ⟨w.heap.size, 0, none⟩ = some (.pointer (some ⟨g, 0, none⟩)) := (hgrow.cell_far _ ((BN.out.alloc _).drew).lt (Ne.symm HAN.out)).trans p0))
    all_goals
      go_wp2_with fail
      go_meet
      case rel =>
        obtain ⟨v', hn', hm'⟩ := noted NW.out hown1 hgrow hat
        exact ⟨v', hn', hm'⟩
  case rest =>
    obtain ⟨v2, n2, m2⟩ := hcut
    have bn2 : Blk wc w.heap.size 23 #[.pointer (some ⟨g, 0, none⟩)] := BN.out.keep m2.keeps (by
      rintro (h | h)
      · omega
      · have := HVL.out _ h; omega)
    have bk2 : Blk wc (w.heap.size + 1) 3 #[.int .i64 k] := BK.out.keep m2.keeps (by
      rintro (h | h)
      · omega
      · have := HVL.out _ h; omega)
    have s2 : Steps wc B A L := SW.out.keep m2.keeps hBW (by
      rintro i hi (h | h)
      · omega
      · have := (NW.out.own.lt i h).1; omega)
    have hB2 : B ≤ wc.heap.size := Nat.le_trans hBW m2.keeps.size
    have hx2 : (xs ++ [(k : Int)]).length + 2 * (L.length - (k + 1)) ≤ 1000 := by simp; omega
    obtain ⟨b, off, rfl, hbB, hel⟩ := s2 (by omega)
    obtain ⟨he0, he1⟩ := hel k hk
    obtain ⟨t, ht⟩ : ∃ t, L[k].1 = t := ⟨_, rfl⟩
    obtain ⟨x, hxx⟩ : ∃ x, L[k].2 = x := ⟨_, rfl⟩
    rw [ht] at he0
    rw [hxx] at he1
    have e0 : wc.cell? ⟨w.heap.size, 0, none⟩ = some (.pointer (some ⟨g, 0, none⟩)) := bn2.cell 0
    have e1 : wc.cell? ⟨w.heap.size + 1, 0, none⟩ = some (.int .i64 k) := bk2.cell 0
    have e2 : wc.cell? ⟨g, 0, none⟩ = some (.slice (some ⟨b, off, none⟩) L.length c) := n2.blk.cell 0
    have i0 : (0 : Int) ≤ (k : Int) := by omega
    have i1 : (k : Int) < (L.length : Int) := by omega
    have HM2 := Lib.hid m2
    have HN2 := Lib.hid n2
    have HBN2 := Lib.hid bn2
    have HBK2 := Lib.hid bk2
    have HS2 := Lib.hid s2
    have HT := Lib.hid ht
    have HX := Lib.hid hxx
    have HX2 := Lib.hid hx2
    clear m2 n2 bn2 bk2 s2 ht hxx hx2 hel
    have HRES := Lib.hid (nest_at hk)
    go_wp2_with fail
    go_quiet (fail)
    go_upto_if 29 with fail
    obtain ⟨wq, hwq⟩ : ∃ wq, wc.drewN nq = wq := ⟨_, rfl⟩
    rw [hwq]
    have e0q : wq.cell? ⟨w.heap.size, 0, none⟩ = some (.pointer (some ⟨g, 0, none⟩)) := by rw [← hwq]; exact e0
    have e1q : wq.cell? ⟨w.heap.size + 1, 0, none⟩ = some (.int .i64 k) := by rw [← hwq]; exact e1
    have HNQ := Lib.hid (show Nest B g (.slice (some ⟨b, off, none⟩) L.length c) wq v2 (xs ++ [(k : Int)]) by rw [← hwq]; exact HN2.out.quiet ((Keeps.refl _ _).drewN _))
    have HBNQ := Lib.hid (show Blk wq w.heap.size 23 #[.pointer (some ⟨g, 0, none⟩)] by rw [← hwq]; exact HBN2.out)
    have HBKQ := Lib.hid (show Blk wq (w.heap.size + 1) 3 #[.int .i64 k] by rw [← hwq]; exact HBK2.out)
    have HSQ := Lib.hid (show Steps wq B (some ⟨b, off, none⟩) L by rw [← hwq]; exact HS2.out)
    have HMQ := Lib.hid (show Moves g v W v2 wq by rw [← hwq]; exact HM2.out.quiet ((Keeps.refl _ _).drewN _))
    have hBq : B ≤ wq.heap.size := by rw [← hwq]; exact hB2
    clear hwq e0 e1 e2 he0 he1 HN2 HBN2 HBK2 HS2 HM2
    obtain ⟨f, hf⟩ : ∃ f, (nest (k + 1) (L.drop (k + 1))).2 = f := ⟨_, rfl⟩
    obtain ⟨ys, hys⟩ : ∃ ys, (nest (k + 1) (L.drop (k + 1))).1 = ys := ⟨_, rfl⟩
    have HF := Lib.hid hf
    have HY := Lib.hid hys
    clear hf hys
    go_cut [] from 5 (fun wd => ∃ v4, Nest B g (.slice (some ⟨b, off, none⟩) L.length c) wd v4 (xs ++ (nest k (L.drop k)).1) ∧ Moves g v W v4 wd ∧ (nest k (L.drop k)).2 = x)
    case first =>
      cases t
      · have hfrom := HREC.out wq v2 _ HX2.out HNQ.out HSQ.out hBq
        have HFR := Lib.hid hfrom
        clear hfrom
        go_wp2_with fail
        refine HFR.out.mono ?_
        rintro e w' ⟨he, v3, n3, m3⟩
        rw [HF.out] at he
        rcases he with ⟨h0, rfl⟩ | ⟨h0, rfl⟩
        · have HF0 := Lib.hid h0
          have H3 := Lib.hid n3
          have M3 := Lib.hid m3
          clear h0 n3 m3
          go_wp2_with fail
          go_meet
          case rel =>
            have hres := HRES.out
            rw [HT.out, HF.out, HF0.out, HY.out, HX.out] at hres
            refine ⟨v3, ?_, HMQ.out.trans M3.out, ?_⟩
            · rw [hres]
              have := H3.out
              rw [HY.out] at this
              simpa using this
            · rw [hres]; rfl
        · have hres := HRES.out
          rw [HT.out, HF.out, HY.out] at hres
          simp only [Bool.false_eq_true, if_false, if_neg h0] at hres
          refine ⟨rfl, .inr ⟨by rw [hres]; exact h0, by rw [hres]⟩, v3, ?_, (HMQ.out.trans m3).pre HK0.out⟩
          rw [hres]
          have := n3
          rw [HY.out] at this
          simpa using this
      · have htry := try_from B g k (some ⟨b, off, none⟩) c L hk hn HREC.out hg _ _ wq v2 _ HX2.out HNQ.out HSQ.out hBq HBNQ.out HBKQ.out
        have HTR := Lib.hid htry
        clear htry
        go_wp2_with fail
        refine HTR.out.mono ?_
        rintro e w3 ⟨he, v3, n3, m3⟩
        rw [HF.out] at he
        subst he
        have bn3 : Blk w3 w.heap.size 23 #[.pointer (some ⟨g, 0, none⟩)] := BN.out.keep (HMQ.out.trans m3).keeps (by
          rintro (h | h)
          · omega
          · have := HVL.out _ h; omega)
        have bk3 : Blk w3 (w.heap.size + 1) 3 #[.int .i64 k] := BK.out.keep (HMQ.out.trans m3).keeps (by
          rintro (h | h)
          · omega
          · have := HVL.out _ h; omega)
        have N3 := Lib.hid n3
        have M3 := Lib.hid m3
        have BN3 := Lib.hid bn3
        have BK3 := Lib.hid bk3
        clear n3 m3 bn3 bk3
        go_wp2_with fail
        obtain ⟨zs, hzs⟩ : ∃ zs, xs ++ [(k : Int)] ++ (nest (k + 1) (L.drop (k + 1))).1 = zs := ⟨_, rfl⟩
        have hzb : zs.length ≤ 1000 := by
          have h1 := nest_len (L.drop (k + 1)) (k + 1)
          rw [← hzs]
          simp at h1 ⊢
          omega
        rw [hzs] at N3
        have HZS := Lib.hid hzs
        clear hzs
        have hw100 : IntKind.i64.wrap (100 + f) = hun f := rfl
        have d0 : w3.cell? ⟨w.heap.size, 0, none⟩ = some (.pointer (some ⟨g, 0, none⟩)) := BN3.out.cell 0
        have d1 : w3.cell? ⟨w.heap.size + 1, 0, none⟩ = some (.int .i64 k) := BK3.out.cell 0
        have d2 : w3.cell? ⟨g, 1, none⟩ = some v3 := N3.out.blk.cell 1
        have hown := N3.out.own
        have HA := Lib.hid (N3.out.blk.own_ne N3.out.own (by decide))
        have HAN := Lib.hid (BN3.out.own_ne N3.out.own (by decide))
        have p0 : (w3.alloc (.cells #[.int .i64 (hun f)] 3)).cell? ⟨w.heap.size, 0, none⟩ = some (.pointer (some ⟨g, 0, none⟩)) := (BN3.out.alloc _).cell 0
        have p1 : (w3.alloc (.cells #[.int .i64 (hun f)] 3)).cell? ⟨w.heap.size + 1, 0, none⟩ = some (.int .i64 k) := (BK3.out.alloc _).cell 0
        have pf : (w3.alloc (.cells #[.int .i64 (hun f)] 3)).frozen? ⟨g, 1, none⟩ = false := (N3.out.blk.alloc _).frozen 1
        have pc : (w3.alloc (.cells #[.int .i64 (hun f)] 3)).cell? ⟨g, 1, none⟩ = some v3 := (N3.out.blk.alloc _).cell 1
        have hgW := N3.out.blk.lt
        have hbnd : zs.length ≤ 1000 := hzb
        obtain ⟨e0, he0, hz0, hz1, hz2⟩ := info_parts info3
        go_region_law ((refine step_append_lies _ (by rfl) _ _ _ (by rfl) B 3 e0 _ 1 8 Try.underlying24 he0 hz0 hz1 hz2 rfl (by omega) v3 zs.length _ (by rfl) ((hown.alloc _).drew) ⟨w3.heap.size, 0, none⟩ 1 1 [.int .i64 (hun f)] (by rfl) (by rfl) (World.news_of_block (cs := #[.int .i64 (hun f)]) (t := 3) (fr := (0, 0)) (heap_alloc_new w3 _)) (by simp [Value.oneCell']) (by omega) (by unfold maxLen; omega) (by omega) (by simp; omega) (w3.heap.size + 1) (by simp) ?_; intro g2 cap w1 hown1 hgrow hat hlt; have f3 : w1.frozen? ⟨g, 1, none⟩ = false := (hgrow.frozen_far _ ((N3.out.blk.alloc _).drew).lt (Ne.symm HA.out)).trans pf; have f4 : w1.cell? ⟨g, 1, none⟩ = some v3 := (hgrow.cell_far _ ((N3.out.blk.alloc _).drew).lt (Ne.symm HA.out)).trans pc; have f5 : w1.cell? ⟨w.heap.size, 0, none⟩ = some (.pointer (some ⟨g, 0, none⟩)) := (hgrow.cell_far _ ((BN3.out.alloc _).drew).lt (Ne.symm HAN.out)).trans p0))
        all_goals
          go_wp2_with fail
          go_meet
          case rel =>
            obtain ⟨v', hn', hm'⟩ := noted N3.out hown1 hgrow hat
            have hres := HRES.out
            rw [HT.out, HF.out] at hres
            simp only [if_true] at hres
            refine ⟨v', ?_, (HMQ.out.trans M3.out).trans hm', ?_⟩
            · have hl : xs ++ ((k : Int) :: (nest (k + 1) (L.drop (k + 1))).1 ++ [hun f]) = zs ++ [hun f] := by rw [← HZS.out]; simp
              rw [hres]
              show Nest B g _ _ v' (xs ++ ((k : Int) :: (nest (k + 1) (L.drop (k + 1))).1 ++ [hun f]))
              rw [hl]
              exact hn'
            · rw [hres]; exact HX.out
    case rest =>
      obtain ⟨v4, n4, m4, hfin⟩ := hcut
      have bn4 : Blk wc w.heap.size 23 #[.pointer (some ⟨g, 0, none⟩)] := BN.out.keep m4.keeps (by
        rintro (h | h)
        · omega
        · have := HVL.out _ h; omega)
      have bk4 : Blk wc (w.heap.size + 1) 3 #[.int .i64 k] := BK.out.keep m4.keeps (by
        rintro (h | h)
        · omega
        · have := HVL.out _ h; omega)
      have s4 : Steps wc B (some ⟨b, off, none⟩) L := SW.out.keep m4.keeps hBW (by
        rintro i hi (h | h)
        · omega
        · have := (NW.out.own.lt i h).1; omega)
      obtain ⟨b', off', hbo, _, hel⟩ := s4 (by omega)
      injection hbo with hbo
      injection hbo with hb1 hb2 _
      subst hb1 hb2
      have e5 := (hel k hk).2
      rw [HX.out] at e5
      have e0 : wc.cell? ⟨w.heap.size, 0, none⟩ = some (.pointer (some ⟨g, 0, none⟩)) := bn4.cell 0
      have e1 : wc.cell? ⟨w.heap.size + 1, 0, none⟩ = some (.int .i64 k) := bk4.cell 0
      have e2 : wc.cell? ⟨g, 0, none⟩ = some (.slice (some ⟨b, off, none⟩) L.length c) := n4.blk.cell 0
      have HN4 := Lib.hid n4
      have HM4 := Lib.hid (m4.pre HK0.out)
      have HFIN := Lib.hid hfin
      clear n4 m4 hfin bn4 bk4 s4 hel
      by_cases hx0 : x = 0
      · subst hx0
        go_wp2_with fail
        go_region_held3 (fun w' => w'.cell? ⟨w.heap.size, 0, none⟩ = some (.pointer (some ⟨g, 0, none⟩)) ∧ w'.cell? ⟨w.heap.size + 1, 0, none⟩ = some (.int .i64 k) ∧ w'.cell? ⟨g, 0, none⟩ = some (.slice (some ⟨b, off, none⟩) L.length c) ∧ w'.cell? ⟨b, off + k * 2 + 1, none⟩ = some (.int .i64 0)) (go_keep) (first | (go_at_call 14; refine (throw_none _).mono ?_; rintro e w' ⟨rfl, rfl⟩))
        all_goals
          go_wp2
          go_end0
          exact ⟨.inl ⟨HFIN.out, rfl⟩, v4, HN4.out.quiet ((Keeps.refl _ _).drew), HM4.out.quiet ((Keeps.refl _ _).drew)⟩
      · have hxb : (x != 0) = true := by simpa using hx0
        have HX0 := Lib.hid hx0
        clear hx0
        go_wp2_with fail
        go_still_tail 8, (by kernel_rfl)
        change wpList _ _ _ _ _ wc.drew
        go_wp2_with (go_at_call 14; refine (throw_some x hxb _).mono ?_; rintro e w' ⟨rfl, rfl⟩)
        exact ⟨rfl, .inr ⟨by rw [HFIN.out]; exact HX0.out, by rw [HFIN.out]⟩, v4, HN4.out.quiet ((Keeps.refl _ _).drew), HM4.out.quiet ((Keeps.refl _ _).drew)⟩
end
end Go.Proofs.Ytlgnepkapcjfnaa.Nst
