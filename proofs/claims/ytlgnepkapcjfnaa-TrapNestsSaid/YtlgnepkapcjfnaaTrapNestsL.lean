/-
  The law TrapNests: all steps; its walk; how its argument, a slice of steps, is opened. No conditions.
-/
import Derived.Test.YtlgnepkapcjfnaaTrapNestsS
import Derived.Test.YtlgnepkapcjfnaaTrapNestsR
import Derived.Deep.SlicePairs
import Derived.ProofKit
import Derived.OpenShut
namespace Go.Proofs.Ytlgnepkapcjfnaa.Nst
open Go.RowKit Plain Go.Deep Go.ChangeShapes Go.WideShapes

theorem own_slice {w : World} {B e n : Nat} {v : Value} {xs : List Value} (h : w.ownsRow B e 1 v n xs) : ∃ A c, v = .slice A n c := by
  rcases h.2 with ⟨rfl, rfl⟩ | ⟨g, cap, cur, rfl, _⟩
  · exact ⟨_, _, rfl⟩
  · exact ⟨_, _, rfl⟩

theorem from_all (B g : Nat) (A : Option Addr) (c : Nat) (L : List (Bool × Int)) (hn : L.length ≤ 60) (hg : B ≤ g) : ∀ (m k : Nat), k + m = L.length → ∀ (w : World) (v : Value) (xs : List Int), xs.length + 2 * (L.length - k) ≤ 1000 →
    Nest B g (.slice A L.length c) w v xs → Steps w B A L → B ≤ w.heap.size → Calls Try.prog 9 #[.pointer (some ⟨g, 0, none⟩), .int .i64 k] w (FromPost B g k (.slice A L.length c) L w v xs)
  | 0, k, hk, w, v, xs, _, hN, _, _ => by
    obtain rfl : k = L.length := by omega
    refine (from_end g v A L.length c w hn hN.blk).mono ?_
    rintro e w' ⟨rfl, hk'⟩
    refine ⟨.inl ⟨by simp [nest], rfl⟩, v, ?_, (Moves.refl g v w).quiet hk'⟩
    simpa [nest] using hN.quiet hk'
  | m + 1, k, hk, w, v, xs, hx, hN, hS, hB => by
    refine from_step B g k A c L (by omega) hn ?_ hg w v xs hx hN hS hB
    intro w' v' xs' hx' hN' hS' hB'
    have := from_all B g A c L hn hg m (k + 1) (by omega) w' v' xs' hx' hN' hS' hB'
    have e : ((k + 1 : Nat) : Int) = (k : Int) + 1 := by omega
    rw [e] at this
    exact this

theorem enter8 (cap : Array Value) (w : World) : (callFunc 8 cap).run Try.prog w = .ok (.enter 8 cap) w := by kernel_rfl

theorem nests1_any (B g bn : Nat) (A : Option Addr) (c : Nat) (L : List (Bool × Int)) (hn : L.length ≤ 60) (hg : B ≤ g) (w : World) (v : Value) (hN : Nest B g (.slice A L.length c) w v []) (hS : Steps w B A L) (hB : B ≤ w.heap.size)
    (h1 : Blk w bn 23 #[.pointer (some ⟨g, 0, none⟩)]) :
    Calls Try.prog 8 #[.pointer (some ⟨bn, 0, none⟩)] w (FromPost B g 0 (.slice A L.length c) L w v []) := by
  have H := Lib.hid (from_all B g A c L hn hg L.length 0 (by omega) w v [] (by simp; omega) hN hS hB)
  have c1 : w.cell? ⟨bn, 0, none⟩ = some (.pointer (some ⟨g, 0, none⟩)) := h1.cell 0
  clear hN hS h1
  go_enter Try.func8, Try.ntmps8
  go_wp2_with fail
  refine H.out.mono ?_
  rintro e w' ⟨he, hw⟩
  rcases he with ⟨h0, rfl⟩ | ⟨h0, rfl⟩
  · have HH := Lib.hid h0
    clear h0
    go_wp2
    go_end0
    exact ⟨.inl ⟨HH.out, rfl⟩, hw⟩
  · exact ⟨rfl, .inr ⟨h0, rfl⟩, hw⟩

theorem try_nests (B g bn : Nat) (A : Option Addr) (c : Nat) (L : List (Bool × Int)) (hn : L.length ≤ 60) (hg : B ≤ g) (w : World) (v : Value) (hN : Nest B g (.slice A L.length c) w v []) (hS : Steps w B A L) (hB : B ≤ w.heap.size)
    (h1 : Blk w bn 23 #[.pointer (some ⟨g, 0, none⟩)]) (hv : v.ownBlock = Option.none) :
    Calls Try.prog 7 #[.func (.func 8) #[] #[.pointer (some ⟨bn, 0, none⟩)]] w fun e w' =>
      e = .returned (.int .i64 (nest 0 L).2) ∧ ∃ v', Nest B g (.slice A L.length c) w' v' (nest 0 L).1 ∧ Keeps (· = g) w w' := by
  obtain ⟨W, hW⟩ : ∃ W, w.alloc (.cells #[.int .i64 0] 27) = W := ⟨_, rfl⟩
  have k0 : Keeps (fun _ => False) w W := by rw [← hW]; exact (Keeps.refl _ _).alloc _
  have hbE : Blk W w.heap.size 27 #[.int .i64 0] := by rw [← hW]; exact Blk.new _ _ _
  have hgl := hN.blk.lt
  have hin := nests1_any B g bn A c L hn hg W v (hN.quiet k0) (hS.keep k0 hB (fun _ _ h => h)) (Nat.le_trans hB k0.size) (h1.keep k0 (fun h => h))
  unfold FromPost at hin
  obtain ⟨f, hf⟩ : ∃ f, (nest 0 L).2 = f := ⟨_, rfl⟩
  obtain ⟨ys, hys⟩ : ∃ ys, (nest 0 L).1 = ys := ⟨_, rfl⟩
  simp only [List.drop_zero, List.nil_append, hf, hys] at hin ⊢
  have hmk : ∀ w' v', Moves g v W v' w' → Keeps (· = g) W w' := fun w' v' hm => hm.keeps.mono (fun i h => by
    rcases h with h | h
    · exact h
    · rw [hv] at h; cases h)
  have hz : ∀ w', (∃ v', Nest B g (.slice A L.length c) w' v' ys ∧ Moves g v W v' w') → (∃ y, w'.cell? ⟨w.heap.size, 0, none⟩ = some (.int .i64 y)) ∧ w'.frozen? ⟨w.heap.size, 0, none⟩ = false := by
    rintro w' ⟨v', _, hm⟩
    have := hbE.keep (hmk _ _ hm) (by omega)
    exact ⟨⟨0, this.cell 0⟩, this.frozen 0⟩
  have hfin : ∀ (w2 w3 : World), (∃ v', Nest B g (.slice A L.length c) w2 v' ys ∧ Moves g v W v' w2) → Keeps (· = w.heap.size) w2 w3 → ∃ v', Nest B g (.slice A L.length c) w3 v' ys ∧ Keeps (· = g) w w3 := by
    rintro w2 w3 ⟨v', hN2, hm⟩ hk3
    have hbE2 := hbE.keep (hmk _ _ hm) (by omega)
    have hov : v'.ownBlock ≠ some w.heap.size := hbE2.own_ne hN2.own (by decide)
    refine ⟨v', ⟨hN2.blk.keep hk3 (by omega), own_keep hN2.own hk3 (fun i hi e => hov (by rw [hi, e]))⟩, ?_⟩
    exact ((k0.mono (fun _ h => h.elim)).trans (hmk _ _ hm)).trans' hk3 (fun i hi e => by omega)
  rw [← hW] at hin hz hfin
  by_cases h0 : f = 0
  · subst h0
    refine (try_returns _ _ (enter8 _) w (fun w' => ∃ v', Nest B g (.slice A L.length c) w' v' ys ∧ Moves g v (w.alloc (.cells #[.int .i64 0] 27)) v' w') (hin.mono ?_) hz).mono ?_
    · rintro e w' ⟨(⟨_, rfl⟩ | ⟨h, _⟩), hw⟩
      · exact ⟨rfl, hw⟩
      · exact absurd rfl h
    · rintro e w' ⟨rfl, w2, hw2, rfl⟩
      exact ⟨rfl, hfin _ _ hw2 ((Keeps.refl _ _).setCell (.inl (by rfl)) _)⟩
  · refine (try_throws f [] rfl _ _ (enter8 _) w (fun w' => ∃ v', Nest B g (.slice A L.length c) w' v' ys ∧ Moves g v (w.alloc (.cells #[.int .i64 0] 27)) v' w') (hin.mono ?_) hz).mono ?_
    · rintro e w' ⟨(⟨h, _⟩ | ⟨_, rfl⟩), hw⟩
      · exact absurd h h0
      · exact ⟨rfl, hw⟩
    · rintro e w' ⟨rfl, w2, hw2, rfl⟩
      exact ⟨rfl, hfin _ _ hw2 (((Keeps.refl _ _).alloc _).setCell (.inl (by rfl)) _)⟩

set_option maxHeartbeats 3200000 in
theorem nests_walk60 (A : Option Addr) (c : Nat) (L : List (Bool × Int)) (w : World) (hn : L.length ≤ 60) (hS : Steps w w.heap.size A L) :
    Calls Try.prog 3 #[.slice A L.length c] w fun e w' => e = .returned (.bool true) ∧ Below w.heap.size w w' := by
  obtain ⟨W, hW⟩ : ∃ W, (w.alloc (.cells #[.slice A L.length c, .slice none 0 0] 26)).alloc (.cells #[.pointer (some ⟨w.heap.size, 0, none⟩)] 23) = W := ⟨_, rfl⟩
  have k0 : Keeps (fun _ => False) w W := by rw [← hW]; exact ((Keeps.refl _ _).alloc _).alloc _
  have bg : Blk W w.heap.size 26 #[.slice A L.length c, .slice none 0 0] := by rw [← hW]; exact (Blk.new _ _ _).alloc _
  have bn : Blk W (w.heap.size + 1) 23 #[.pointer (some ⟨w.heap.size, 0, none⟩)] := by
    have := Blk.new (w.alloc (.cells #[.slice A L.length c, .slice none 0 0] 26)) 23 #[.pointer (some ⟨w.heap.size, 0, none⟩)]
    rw [World.size_alloc] at this
    rw [← hW]; exact this
  have hN : Nest w.heap.size w.heap.size (.slice A L.length c) W (.slice none 0 0) [] := ⟨bg, World.ownsRow_nil _ _ _ _⟩
  have hSW : Steps W w.heap.size A L := hS.keep k0 (Nat.le_refl _) (fun _ _ h => h)
  have HT := Lib.hid (try_nests w.heap.size w.heap.size (w.heap.size + 1) A c L hn (Nat.le_refl _) W _ hN hSW k0.size bn rfl)
  have HW := Lib.hid hW
  have HK0 := Lib.hid k0
  have HSW := Lib.hid hSW
  have BN := Lib.hid bn
  clear hS hW k0 bg bn hN hSW
  go_enter Try.func3, Try.ntmps3
  go_wp2_with fail
  rw [HW.out]
  have hnb := nest_back L 0
  obtain ⟨f, hf⟩ : ∃ f, (back L).2 = f := ⟨_, rfl⟩
  obtain ⟨ys, hys⟩ : ∃ ys, ups 0 L.length ++ (back L).1 = ys := ⟨_, rfl⟩
  obtain ⟨m, hm⟩ : ∃ m, ys.length = m := ⟨_, rfl⟩
  have hml : m ≤ 1000 := by
    have h1 := back_len L
    rw [← hm, ← hys]
    simp [ups_len] at h1 ⊢
    omega
  rw [hf, hys] at hnb
  have HNB := Lib.hid hnb
  have HF := Lib.hid hf
  have HY := Lib.hid hys
  have HM := Lib.hid hm
  clear hnb hf hys hm
  refine HT.out.mono ?_
  rw [HNB.out]
  rintro e w3 ⟨rfl, v3, n3, k3⟩
  have hS3 : Steps w3 w.heap.size A L := HSW.out.keep k3 HK0.out.size (by intro k hk e; omega)
  have hrun := run_any A c w.heap.size L w3 hn hS3 (Nat.le_trans HK0.out.size k3.size)
  rw [HF.out, HY.out, HM.out] at hrun
  have HRUN := Lib.hid hrun
  have N3 := Lib.hid n3
  have K3 := Lib.hid k3
  have BN3 := Lib.hid (BN.out.keep k3 (by omega))
  clear n3 k3 hS3 hrun
  go_wp2_with fail
  refine HRUN.out.mono ?_
  rintro e w5 ⟨v5, rfl, hown5, hb5⟩
  have k5 : Keeps (fun _ => False) w3 w5 := Keeps.of_below_size hb5 _
  have n5 := N3.out.quiet k5
  have hown3 : w5.ownsRow w.heap.size 3 1 v3 m (ys.map (Value.int .i64)) := by
    have := n5.own
    rw [HM.out] at this
    exact this
  obtain ⟨A3, c3, rfl⟩ := own_slice hown3
  obtain ⟨A5, c5, rfl⟩ := own_slice hown5
  have r3 := Row.of_own hown3
  have r5 := Row.of_own hown5
  have d0 : w5.cell? ⟨w.heap.size + 1, 0, none⟩ = some (.pointer (some ⟨w.heap.size, 0, none⟩)) := (BN3.out.keep k5 (fun h => h)).cell 0
  have d1 : w5.cell? ⟨w.heap.size, 1, none⟩ = some (.slice A3 m c3) := n5.blk.cell 1
  have N5 := Lib.hid n5
  have K5 := Lib.hid k5
  have R3 := Lib.hid r3
  have R5 := Lib.hid r5
  have BN5 := Lib.hid (BN3.out.keep k5 (fun h => h))
  have HB5 := Lib.hid hb5
  clear n5 k5 r3 r5 hown3 hown5 hb5
  go_wp2_with fail
  go_loopw [7] (fun i wr => ∃ k : Nat, k ≤ m ∧ i = .int .i64 k ∧ Keeps (fun _ => False) w5 wr) (fun i _ => m - (intOf i).toNat)
  case atStart => exact ⟨0, Nat.zero_le _, rfl, Keeps.refl _ _⟩
  case round =>
    obtain ⟨k, hk, rfl, hkr⟩ := hrel
    have d0 : wr.cell? ⟨w.heap.size + 1, 0, none⟩ = some (.pointer (some ⟨w.heap.size, 0, none⟩)) := (BN5.out.keep hkr (fun h => h)).cell 0
    have d1 : wr.cell? ⟨w.heap.size, 1, none⟩ = some (.slice A3 m c3) := (N5.out.quiet hkr).blk.cell 1
    by_cases hlt : k < m
    · obtain ⟨b3, o3, u3, rfl, hb3, hu3, hc3⟩ := (R3.out.keep hkr (Nat.le_refl _) (fun _ _ h => h)).at_ hlt
      obtain ⟨b5, o5, u5, rfl, hb5, hu5, hc5⟩ := (R5.out.keep hkr (Nat.le_refl _) (fun _ _ h => h)).at_ hlt
      obtain rfl : u3 = u5 := Option.some.inj (hu3.symm.trans hu5)
      obtain ⟨y, rfl⟩ : ∃ y, u3 = .int .i64 y := by
        rw [List.getElem?_map] at hu3
        obtain ⟨y, _, hy⟩ := Option.map_eq_some_iff.1 hu3
        exact ⟨y, hy.symm⟩
      have i0 : (0 : Int) ≤ (k : Int) := by omega
      have i1 : (k : Int) < (m : Int) := by omega
      have HKR := Lib.hid hkr
      clear hkr hu3 hu5
      go_wp2_with fail
      go_quiet (fail)
      go_wp2
      go_roundw
      case rel => exact ⟨k + 1, by omega, by go_num, HKR.out.drewN _⟩
      case measure => simp [intOf]; omega
    · have HKR := Lib.hid hkr
      clear hkr
      go_wp2_with (go_at_call 11; refine (awake_any _).mono ?_; rintro e w6 ⟨rfl, b6⟩)
      go_ret
      refine ⟨rfl, ?_⟩
      have kk : Keeps (· = w.heap.size) w w5 := ((HK0.out.mono (fun _ h => h.elim)).trans K3.out).trans' K5.out (fun _ _ h => h.elim)
      have kk2 : Keeps (· = w.heap.size) w wr := kk.trans' HKR.out (fun _ _ h => h.elim)
      exact (kk2.below (by intro i hi e; omega) (Nat.le_refl _)).trans (b6.mono kk2.size)

/-- How a slice of steps that came in is opened. -/
theorem open_steps {H : Type} {enc : TypeId × Value → H} {w : World} {b0 b1 : Nat} {spare : Nat → Bool} {held : Bool} {r : Reach} {v : Value} {d : DataW H} {ps : List MemPlace}
    (hval : Value.okWide Try.prog w r b0 22 v) (hd : DataW.Trod enc Try.prog w b1 spare held 22 v d ps) :
    ∃ (A : Option Addr) (n c : Nat) (L : List (Bool × Int)), v = .slice A n c ∧ L.length = n ∧ Steps w w.heap.size A L ∧ n ≤ c ∧ c ≤ maxLen := by
  obtain ⟨a0, len0, cap0, rfl⟩ := okWide_slice Try.underlying22 hval
  obtain ⟨fuel, hf⟩ := hd
  rcases open_slice_pairs Try.underlying22 Try.underlying50 (by kernel_rfl) rfl rfl (by kernel_rfl) (by kernel_rfl) hf with ⟨hcs, _⟩ | ⟨a, len, cap, m, n, V0, V1, D0, D1, P0, P1, hcs, _, hl, hm, hmm, _, hx⟩
  · simp [Value.cells] at hcs
    obtain ⟨rfl, rfl, rfl⟩ := hcs
    exact ⟨none, 0, 0, [], rfl, rfl, fun h => absurd h (by simp), Nat.le_refl _, by decide⟩
  · simp [Value.cells] at hcs
    obtain ⟨rfl, rfl, rfl⟩ := hcs
    have hlm : len0 ≤ m := by rw [hmm]; split <;> omega
    have hb : ∀ i, i < m → ∃ t : Bool, V0 i = .bool t := by
      intro i hi
      obtain ⟨_, _, h0, _⟩ := hx i hi
      obtain ⟨t, ht, _⟩ := DataW.trod_bool Try.underlying4 h0
      exact ⟨t, by simpa using ht⟩
    have hi : ∀ i, i < m → ∃ z : Int, V1 i = .int .i64 z := by
      intro i hi
      obtain ⟨_, _, _, h1⟩ := hx i hi
      obtain ⟨z, hz, _⟩ := DataW.trod_int Try.underlying3 h1
      exact ⟨z, by simpa using hz⟩
    let T : Nat → Bool := fun i => match V0 i with | .bool t => t | _ => false
    let Z : Nat → Int := fun i => match V1 i with | .int _ z => z | _ => 0
    refine ⟨some a, len0, cap0, (List.range len0).map (fun i => (T i, Z i)), rfl, by simp, fun hn => ?_, hl, hm⟩
    have hn0 : 0 < len0 := by simpa using hn
    have h0 := (hx 0 (by omega)).1
    obtain ⟨b, off, spot⟩ := a
    have hspot : spot = none := by simpa [Addr.add] using World.cell?_spot h0
    subst hspot
    refine ⟨b, off, rfl, by have := World.block_lt_of_cell? w _ h0; simpa [Addr.add] using this, fun j hj => ?_⟩
    have hj' : j < len0 := by simpa using hj
    obtain ⟨g0, g1, _, _⟩ := hx j (by omega)
    obtain ⟨t, ht⟩ := hb j (by omega)
    obtain ⟨z, hz⟩ := hi j (by omega)
    have hT : T j = t := by show (match V0 j with | .bool t => t | _ => false) = t; rw [ht]
    have hZ : Z j = z := by show (match V1 j with | .int _ z => z | _ => 0) = z; rw [hz]
    have add_none : ∀ k : Nat, (⟨b, off, none⟩ : Addr).add k = ⟨b, off + k, none⟩ := by
      intro k
      unfold Addr.add
      by_cases h : k = 0
      · subst h; simp
      · simp [h]
    rw [add_none] at g0 g1
    simp only [List.getElem_map, List.getElem_range, hT, hZ]
    exact ⟨by rw [g0, ht], by rw [← Nat.add_assoc] at g1; rw [g1, hz]⟩

theorem trapNests_walk (L : List (Bool × Int)) (A : Option Addr) (c : Nat) (w : World) (hS : Steps w w.heap.size A L) (hc : L.length ≤ c) (hm : c ≤ maxLen) :
    Calls Try.prog 3 #[.slice A L.length c] w fun e w' => e = .returned (.bool true) ∧ Below w.heap.size w w' := by
  by_cases hn : L.length ≤ 60
  · exact nests_walk60 A c L w hn hS
  · unfold maxLen at hm
    clear hS
    have h60 : 60 < (L.length : Int) := by omega
    go_enter Try.func3, Try.ntmps3
    go_wp2
    go_ret
    exact ⟨rfl, by go_grown⟩
end Go.Proofs.Ytlgnepkapcjfnaa.Nst
