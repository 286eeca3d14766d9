/-
  The law TrapBehind: its closure's contract.
-/
import Derived.Test.YtlgnepkapcjfnaaTrapAwake
import Derived.Test.YtlgnepkapcjfnaaTrapPlain
import Derived.Test.YtlgnepkapcjfnaaKit
namespace Go.Proofs.Ytlgnepkapcjfnaa
open Go.RowKit Plain

/-- What the closure does to memory: the counter holds m; all else is as it was. -/
structure Counted (w : World) (bm : Nat) (m : Nat) (w' : World) : Prop where
  keeps : Keeps (· = bm) w w'
  size : w'.heap.size = w.heap.size
  blk : Blk w' bm 3 #[.int .i64 m]

theorem Counted.start {w : World} {bm : Nat} (h : Blk w bm 3 #[.int .i64 0]) : Counted w bm 0 w := ⟨Keeps.refl _ _, rfl, h⟩
theorem Counted.next {w w' : World} {bm m : Nat} (h : Counted w bm m w') : Counted w bm (m + 1) (w'.setCell ⟨bm, 0, none⟩ (.int .i64 ((m : Int) + 1))) :=
  ⟨h.keeps.setCell (.inl rfl) _, by simpa [World.setCell] using h.size, by simpa using h.blk.set_ 0 (.int .i64 ((m : Int) + 1))⟩

set_option maxHeartbeats 800000 in
theorem behind_in (L : List Int) (B : Nat) (A : Option Addr) (c bl bm : Nat) (w : World) (hn : L.length ≤ 60) (hl : Blk w bl 24 #[.slice A L.length c]) (hm : Blk w bm 3 #[.int .i64 0]) (hbl : B ≤ bm)
    (hrow : Row w B A L.length (L.map (.int .i64))) :
    Calls Try.prog 17 #[.pointer (some ⟨bl, 0, none⟩), .pointer (some ⟨bm, 0, none⟩)] w fun e w' =>
      ((lead L = L.length ∧ e = .returned (.tuple #[])) ∨ (lead L < L.length ∧ e = .panicked [{ v := thrownV (L.getD (lead L) 0), recovered := false }])) ∧ Counted w bm (lead L) w' := by
  have hle := lead_le L
  have HZ := Lib.hid (lead_zero L)
  have HS := Lib.hid (lead_stop L)
  have HC := Lib.hid hrow
  have hlm : bl ≠ bm := hl.ne_ hm (by decide)
  have HL := Lib.hid hl
  have HM := Lib.hid hm
  clear hrow hl hm
  go_enter Try.func17, Try.ntmps17
  go_wp2
  go_loopw [2] (fun i wr => ∃ k : Nat, k ≤ lead L ∧ i = .int .i64 k ∧ Counted w bm k wr) (fun i _ => L.length - (intOf i).toNat)
  case atStart => exact ⟨0, Nat.zero_le _, rfl, .start HM.out⟩
  case round =>
    obtain ⟨k, hk, rfl, hcnt⟩ := hrel
    have cl : wr.cell? ⟨bl, 0, none⟩ = some (.slice A L.length c) := (HL.out.keep hcnt.keeps hlm).cell 0
    have cm : wr.cell? ⟨bm, 0, none⟩ = some (.int .i64 k) := hcnt.blk.cell 0
    have fm : wr.frozen? ⟨bm, 0, none⟩ = false := hcnt.blk.frozen 0
    have HN := Lib.hid hcnt
    clear hcnt
    by_cases hlt : k < L.length
    · obtain ⟨b, off, u, rfl, hbB, hu, hcu⟩ := HC.out.at_ hlt
      have hue : u = .int .i64 (L.getD k 0) := by
        rw [List.getElem?_map, List.getElem?_eq_getElem hlt] at hu
        injection hu with hu
        rw [← hu, List.getD_eq_getElem?_getD, List.getElem?_eq_getElem hlt, Option.getD_some]
      have hne : ¬ b = bm := by omega
      have cx : wr.cell? ⟨b, off + k, none⟩ = some (.int .i64 (L.getD k 0)) := (HN.out.keeps.cell (p := ⟨b, off + k, none⟩) (World.block_lt_of_cell? w _ hcu) hne).trans (hcu.trans (by rw [hue]))
      clear hu hcu hue hne
      obtain ⟨x, hx⟩ : ∃ x, L.getD k 0 = x := ⟨_, rfl⟩
      rw [hx] at cx
      have HX := Lib.hid hx
      clear hx
      by_cases hkl : k < lead L
      · have h0 : x = 0 := by rw [← HX.out]; exact HZ.out k hkl
        subst h0
        go_wp2_with (go_at_call 14; refine (throw_none _).mono ?_; rintro e w' ⟨rfl, rfl⟩)
        go_roundw
        case rel => exact ⟨k + 1, by omega, by go_num, HN.out.next⟩
        case measure => simp [intOf]; omega
      · have hke : k = lead L := by omega
        have hb : (x != 0) = true := by
          have := HS.out (by omega)
          rw [← hke, HX.out] at this
          simpa using this
        have HK := Lib.hid hke
        clear hke
        go_wp2_with (go_at_call 14; refine (throw_some x hb _).mono ?_; rintro e w' ⟨rfl, rfl⟩)
        have := HK.out
        subst this
        exact ⟨rfl, .inr ⟨hlt, by rw [HX.out]⟩, HN.out⟩
    · have hke : k = L.length := by omega
      have hkl : lead L = L.length := by omega
      have HK := Lib.hid hke
      have HKL := Lib.hid hkl
      clear hke hkl
      go_wp2
      go_end0
      exact ⟨.inl ⟨HKL.out, rfl⟩, by rw [HKL.out, ← HK.out]; exact HN.out⟩

theorem enter17 (cap : Array Value) (w : World) : (callFunc 17 cap).run Try.prog w = .ok (.enter 17 cap) w := by kernel_rfl

theorem getD_end (L : List Int) : L.getD L.length 0 = 0 := by simp

theorem behind_try (L : List Int) (B : Nat) (A : Option Addr) (c bl bm : Nat) (w : World) (hn : L.length ≤ 60) (hl : Blk w bl 24 #[.slice A L.length c]) (hm : Blk w bm 3 #[.int .i64 0]) (hbl : B ≤ bm) (hB : B ≤ w.heap.size)
    (hrow : Row w B A L.length (L.map (.int .i64))) :
    Calls Try.prog 7 #[.func (.func 17) #[] #[.pointer (some ⟨bl, 0, none⟩), .pointer (some ⟨bm, 0, none⟩)]] w fun e w' =>
      e = .returned (.int .i64 (L.getD (lead L) 0)) ∧ Keeps (· = bm) w w' ∧ Blk w' bm 3 #[.int .i64 (lead L)] := by
  have k0 : Keeps (· = bm) w (w.alloc (.cells #[.int .i64 0] 27)) := (Keeps.refl _ _).alloc _
  have hin := behind_in L B A c bl bm (w.alloc (.cells #[.int .i64 0] 27)) hn (hl.alloc _) (hm.alloc _) hbl (hrow.keep k0 hB (by intro k hk e; omega))
  have hz : ∀ w', Counted (w.alloc (.cells #[.int .i64 0] 27)) bm (lead L) w' → (∃ y, w'.cell? ⟨w.heap.size, 0, none⟩ = some (.int .i64 y)) ∧ w'.frozen? ⟨w.heap.size, 0, none⟩ = false := by
    intro w' hc
    have := (Blk.new w 27 #[.int .i64 0]).keep hc.keeps (by have := hm.lt; omega)
    exact ⟨⟨0, this.cell 0⟩, this.frozen 0⟩
  have hlm : bm < w.heap.size := hm.lt
  rcases Nat.lt_or_ge (lead L) L.length with hlt | hge
  · refine (try_throws (L.getD (lead L) 0) [] rfl 17 _ (enter17 _) w (Counted (w.alloc (.cells #[.int .i64 0] 27)) bm (lead L)) (hin.mono ?_) hz).mono ?_
    · rintro e w' ⟨h | h, hc⟩
      · omega
      · exact ⟨h.2, hc⟩
    · rintro e w' ⟨rfl, w2, hc, rfl⟩
      exact ⟨rfl, ((k0.trans hc.keeps).alloc _).setCell (.inr (Nat.le_refl _)) _, (hc.blk.alloc _).far (by simpa using (by omega)) _⟩
  · have hle := lead_le L
    have heq : lead L = L.length := by omega
    refine (try_returns 17 _ (enter17 _) w (Counted (w.alloc (.cells #[.int .i64 0] 27)) bm (lead L)) (hin.mono ?_) hz).mono ?_
    · rintro e w' ⟨h | h, hc⟩
      · exact ⟨h.2, hc⟩
      · omega
    · rintro e w' ⟨rfl, w2, hc, rfl⟩
      exact ⟨by rw [heq, getD_end], (k0.trans hc.keeps).setCell (.inr (Nat.le_refl _)) _, hc.blk.far (by simpa using (by omega)) _⟩

theorem elem_at {w : World} {B : Nat} {A : Option Addr} {L : List Int} (hrow : Row w B A L.length (L.map (.int .i64))) {k : Nat} (hk : k < L.length) :
    ∃ b off, A = some ⟨b, off, none⟩ ∧ b < B ∧ w.cell? ⟨b, off + k, none⟩ = some (.int .i64 (L.getD k 0)) := by
  obtain ⟨b, off, u, rfl, hbB, hu, hcu⟩ := hrow.at_ hk
  refine ⟨b, off, rfl, hbB, ?_⟩
  rw [List.getElem?_map, List.getElem?_eq_getElem hk] at hu
  injection hu with hu
  rw [hcu, ← hu, List.getD_eq_getElem?_getD, List.getElem?_eq_getElem hk, Option.getD_some]

set_option maxHeartbeats 1600000 in
theorem behind_walk60 (L : List Int) (A : Option Addr) (c : Nat) (w : World) (hn : L.length ≤ 60) (hrow : Row w w.heap.size A L.length (L.map (.int .i64))) :
    Calls Try.prog 5 #[.slice A L.length c] w fun e w' => e = .returned (.bool true) ∧ Below w.heap.size w w' := by
  have hle := lead_le L
  have HZ := Lib.hid (lead_zero L)
  have HS := Lib.hid (lead_stop L)
  obtain ⟨W, hW⟩ : ∃ W, (w.alloc (.cells #[.slice A L.length c] 24)).alloc (.cells #[.int .i64 0] 3) = W := ⟨_, rfl⟩
  have kW : Keeps (· = w.heap.size + 1) w W := by rw [← hW]; exact ((Keeps.refl _ _).alloc _).alloc _
  have hl : Blk W w.heap.size 24 #[.slice A L.length c] := by rw [← hW]; exact (Blk.new _ _ _).alloc _
  have hm : Blk W (w.heap.size + 1) 3 #[.int .i64 0] := by rw [← hW]; simpa using Blk.new (w.alloc (.cells #[.slice A L.length c] 24)) 3 #[.int .i64 0]
  have hrW : Row W w.heap.size A L.length (L.map (.int .i64)) := hrow.keep kW (Nat.le_refl _) (by intro k hk e; omega)
  have HT := Lib.hid (behind_try L w.heap.size A c w.heap.size (w.heap.size + 1) W hn hl hm (by omega) kW.size hrW)
  have cW : W.cell? ⟨w.heap.size, 0, none⟩ = some (.slice A L.length c) := hl.cell 0
  have HL := Lib.hid hl
  have HR := Lib.hid hrW
  have HK := Lib.hid kW
  have HW := Lib.hid hW
  obtain ⟨x, hx⟩ : ∃ x, L.getD (lead L) 0 = x := ⟨_, rfl⟩
  rw [hx] at HT
  have HX := Lib.hid hx
  clear hrow kW hl hm hrW hx hW
  go_enter Try.func5, Try.ntmps5
  go_wp2
  rw [HW.out]
  have hz0 : lead L = L.length → x = 0 := fun h => by rw [← HX.out, h, getD_end]
  have hzx : lead L < L.length → (x == 0) = false := fun h => by
    have := HS.out h
    rw [HX.out] at this
    simpa using this
  have HZ0 := Lib.hid hz0
  have HZX := Lib.hid hzx
  clear hz0 hzx
  go_loop [4, 5] (fun v i => ∃ k : Nat, i = .int .i64 k ∧ ((k ≤ lead L ∧ v = .int .i64 0) ∨ (k = lead L + 1 ∧ lead L < L.length ∧ v = .int .i64 x))) (fun _ i => L.length + 1 - (intOf i).toNat)
  case atStart => exact ⟨0, rfl, .inl ⟨Nat.zero_le _, rfl⟩⟩
  case round =>
    obtain ⟨k, rfl, hk⟩ := hrel
    by_cases hgo : k < L.length ∧ k ≤ lead L
    · obtain ⟨hkn, hkl⟩ := hgo
      rcases hk with ⟨_, rfl⟩ | ⟨hk, _⟩
      case inr => omega
      obtain ⟨b, off, rfl, hbB, hc⟩ := elem_at HR.out hkn
      obtain ⟨y, hy⟩ : ∃ y, L.getD k 0 = y := ⟨_, rfl⟩
      rw [hy] at hc
      have HY := Lib.hid hy
      clear hy
      go_wp2
      go_round
      case rel =>
        refine ⟨k + 1, by go_num, ?_⟩
        by_cases hkl : k < lead L
        · exact .inl ⟨by omega, by rw [← HY.out, HZ.out k hkl]⟩
        · have : k = lead L := by omega
          exact .inr ⟨by omega, by omega, by rw [← HY.out, this, HX.out]⟩
      case measure => simp [intOf]; omega
    · obtain ⟨hv, hex⟩ : ∃ v, v = .int .i64 x ∧ (k < L.length → (x == 0) = false) ∧ u4 = v := by
        rcases hk with ⟨hk, rfl⟩ | ⟨hk, hlt, rfl⟩
        · exact ⟨_, rfl, fun h => absurd ⟨h, hk⟩ hgo, by rw [HZ0.out (by omega)]⟩
        · exact ⟨_, rfl, fun _ => HZX.out hlt, rfl⟩
      obtain ⟨rfl, htest, rfl⟩ := hex
      have hk1 : k ≤ L.length := by
        rcases hk with ⟨hk, _⟩ | ⟨hk, _, _⟩ <;> omega
      clear hk hgo
      by_cases hkn : k < L.length
      case' pos => have htx := htest hkn
      all_goals
        clear htest
        go_wp2_with (go_at_call 7; refine HT.out.mono ?_; rintro e w3 ⟨rfl, k3, b3⟩; have c3 : w3.cell? ⟨w.heap.size, 0, none⟩ = some (.slice A L.length c) := (HL.out.keep k3 (by omega)).cell 0; have m3 : w3.cell? ⟨w.heap.size + 1, 0, none⟩ = some (.int .i64 (lead L)) := b3.cell 0; have K3 := Lib.hid k3; clear k3 b3)
        go_loop [7] (fun i => ∃ j : Nat, j ≤ lead L ∧ i = .int .i64 j) (fun i => L.length + 1 - (intOf i).toNat)
        case atStart => exact ⟨0, Nat.zero_le _, rfl⟩
        case round =>
          obtain ⟨j, hj, rfl⟩ := hrel
          by_cases hjn : j < L.length
          · obtain ⟨b, off, rfl, hbB, hc⟩ := elem_at (HR.out.keep K3.out (HK.out.size) (by intro k hk e; omega)) hjn
            by_cases hjl : j < lead L
            · rw [HZ.out j hjl] at hc
              go_wp2
              go_round
              case rel => exact ⟨j + 1, by omega, by go_num⟩
              case measure => simp [intOf]; omega
            · obtain rfl : j = lead L := by omega
              rw [HX.out] at hc
              have hx0 := HZX.out hjn
              go_wp2_with (go_at_call 11; refine (awake_any _).mono ?_; rintro e w4 ⟨rfl, b4⟩)
              go_ret
              exact ⟨rfl, ((HK.out.trans K3.out).below (by intro k hk e; omega) (Nat.le_refl _)).trans (b4.mono (Nat.le_trans HK.out.size K3.out.size))⟩
          · obtain rfl : j = lead L := by omega
            go_wp2_with (go_at_call 11; refine (awake_any _).mono ?_; rintro e w4 ⟨rfl, b4⟩)
            go_ret
            exact ⟨rfl, ((HK.out.trans K3.out).below (by intro k hk e; omega) (Nat.le_refl _)).trans (b4.mono (Nat.le_trans HK.out.size K3.out.size))⟩

theorem trapBehind_walk (L : List Int) (A : Option Addr) (c : Nat) (w : World) (hrow : Row w w.heap.size A L.length (L.map (.int .i64))) (hc : L.length ≤ c) (hm : c ≤ maxLen) (_hwf : ∀ z ∈ L, (Lit.int .i64 z).wf = true) (_hnil : A = none → c = 0) :
    Calls Try.prog 5 #[.slice A L.length c] w fun e w' => e = .returned (.bool true) ∧ Below w.heap.size w w' := by
  by_cases hn : L.length ≤ 60
  · exact behind_walk60 L A c w hn hrow
  · unfold maxLen at hm
    clear hrow
    have h60 : 60 < (L.length : Int) := by omega
    go_enter Try.func5, Try.ntmps5
    go_wp2
    go_ret
    exact ⟨rfl, by go_grown⟩
end Go.Proofs.Ytlgnepkapcjfnaa
