/-
  The law RealMaps: its walk. Condition: the names' sixth cell holds the word tiny (out of the row's 'laid').
-/
import Derived.Test.YtfpmbkdijechaaaDoorRealPairsW
import Derived.Test.YtfpmbkdijechaaaDoorKit
import Derived.Deep.AppendLies
import Derived.OwnWalk
import Derived.Deep.QuietTactic
import Derived.BigQuiet
import Derived.Deep.CutRange
namespace Go.Proofs.YtfpmbkdijechaaaDoor
open Go.RowKit Flt

theorem infoF : (Tryd.prog.info? 23).map (fun i => (i.zero, i.size, i.bytes)) = some (some (.float .f64 0), 1, 8) := by kernel_rfl
theorem infoI : (Tryd.prog.info? 2).map (fun i => (i.zero, i.size, i.bytes)) = some (some (.int .i64 0), 1, 8) := by kernel_rfl

/-- A slice of bits of reals: its address, its capacity. -/
structure In64 (w : World) (A : Option Addr) (c : Nat) (M : List Nat) : Prop where
  row : Row w w.heap.size A M.length (M.map (fun x : Nat => Value.int .u64 x))
  cap : A = none → c = 0
  le : M.length ≤ 100000
  fits : ∀ x ∈ M, Fits x

theorem In64.keep {w w' : World} {A : Option Addr} {c : Nat} {M : List Nat} (h : In64 w A c M) (hb : Keeps (fun _ => False) w w') : In64 w' A c M :=
  ⟨(h.row.keep hb (Nat.le_refl _) (fun _ _ h => h)).mono hb.size, h.cap, h.le, h.fits⟩

theorem In64.at_ {w : World} {A : Option Addr} {c : Nat} {M : List Nat} (h : In64 w A c M) {j : Nat} (hj : j < M.length) : ∃ b off, A = some ⟨b, off, none⟩ ∧ b < w.heap.size ∧ w.cell? ⟨b, off + j, none⟩ = some (.int .u64 (M[j] : Nat)) ∧ Fits M[j] := by
  obtain ⟨b, off, u, rfl, hb, hx, hc⟩ := h.row.at_ hj
  have : u = .int .u64 (M[j] : Nat) := by
    rw [List.getElem?_map, List.getElem?_eq_getElem hj] at hx
    injection hx with hx
    exact hx.symm
  exact ⟨b, off, rfl, hb, this ▸ hc, h.fits _ (List.getElem_mem hj)⟩

def fls (M : List Nat) : List Value := M.map (fun x : Nat => Value.float .f64 x)
def rks (M : List Nat) : List Value := M.map (fun x : Nat => Value.int .i64 (rank x))

set_option maxHeartbeats 800000 in
theorem mapFrom_any (A : Option Addr) (c : Nat) (M : List Nat) (w : World) (hI : In64 w A c M) :
    Calls Tryd.prog 16 #[.slice A M.length c, .func (.func 9) #[] #[]] w fun e w' => ∃ v, e = .returned v ∧ w'.ownsRow w.heap.size 23 1 v M.length (fls M) ∧ Keeps (fun _ => False) w w' := by
  obtain ⟨e0, he0, hz0, hz1, hz2⟩ := info_parts infoF
  have hcall := fun n w => call_from n w
  have hle := hI.le
  go_enter Tryd.func16, Tryd.ntmps16
  go_wp2_with fail
  go_loopw [5, 10] (fun o x wr => ∃ j : Nat, j ≤ M.length ∧ x = .int .i64 j ∧ wr.ownsRow w.heap.size 23 1 o j (fls (M.take j)) ∧ Keeps (fun _ => False) w wr) (fun _ x _ => M.length - (intOf x).toNat)
  case atStart => exact ⟨0, Nat.zero_le _, rfl, World.ownsRow_nil _ _ _ _, Keeps.refl _ _⟩
  case round =>
    obtain ⟨j, hj, rfl, hown, hkr⟩ := hrel
    have HO := Lib.hid hown
    clear hown
    by_cases hlt : j < M.length
    · obtain ⟨b, off, rfl, hb, hc, hf⟩ := (hI.keep hkr).at_ hlt
      have hsn : M.take (j + 1) = M.take j ++ [M[j]] := List.take_succ_eq_append_getElem hlt
      obtain ⟨x, hx⟩ : ∃ x, M[j] = x := ⟨_, rfl⟩
      rw [hx] at hc hsn
      have hji : (j : Int) < (M.length : Int) := by omega
      have HS := Lib.hid hsn
      clear hsn hx hf
      go_wp2_with (at_builtin; go_loud (refine wpList_append_own_at _ rfl _ _ 33 rfl w.heap.size 23 e0 (.float .f64 0) 1 8 Tryd.underlying33 he0 hz0 hz1 hz2 rfl (by decide) u5 j _ rfl (HO.out.alloc _) ⟨wr.heap.size, 0, none⟩ 1 1 [.float .f64 x] rfl rfl (World.news_of_block (cs := #[.float .f64 x]) (t := 23) (fr := (0, 0)) (heap_alloc_new wr _)) (by simp [Value.oneCell']) (by unfold maxLen; omega) (by omega) (by have := hkr.size; simp; omega) ?_; intro v3 w3 hown3 hgrow _ _))
      go_roundw
      case rel =>
        refine ⟨j + 1, by omega, by go_num, ?_, ?_⟩
        · rw [HS.out]
          simpa [fls] using hown3
        · exact (hkr.alloc _).grown hgrow (by intro k hk; right; exact (HO.out.lt k hk).1)
      case measure => simp [intOf]; omega
    · obtain rfl : j = M.length := by omega
      rw [List.take_of_length_le (Nat.le_refl _)] at HO
      go_wp2
      go_ret
      exact ⟨_, rfl, HO.out, hkr⟩

/-- A slice of reals, by their bits. -/
structure InF (w : World) (A : Option Addr) (c : Nat) (M : List Nat) : Prop where
  row : Row w w.heap.size A M.length (fls M)
  cap : A = none → c = 0
  le : M.length ≤ 100000
  fits : ∀ x ∈ M, Fits x

theorem InF.keep {w w' : World} {A : Option Addr} {c : Nat} {M : List Nat} (h : InF w A c M) (hb : Keeps (fun _ => False) w w') : InF w' A c M :=
  ⟨(h.row.keep hb (Nat.le_refl _) (fun _ _ h => h)).mono hb.size, h.cap, h.le, h.fits⟩

theorem InF.at_ {w : World} {A : Option Addr} {c : Nat} {M : List Nat} (h : InF w A c M) {j : Nat} (hj : j < M.length) : ∃ b off, A = some ⟨b, off, none⟩ ∧ b < w.heap.size ∧ w.cell? ⟨b, off + j, none⟩ = some (.float .f64 M[j]) ∧ Fits M[j] := by
  obtain ⟨b, off, u, rfl, hb, hx, hc⟩ := h.row.at_ hj
  have : u = .float .f64 M[j] := by
    unfold fls at hx
    rw [List.getElem?_map, List.getElem?_eq_getElem hj] at hx
    injection hx with hx
    exact hx.symm
  exact ⟨b, off, rfl, hb, this ▸ hc, h.fits _ (List.getElem_mem hj)⟩

theorem InF.of_own {w : World} {B : Nat} {v : Value} {M : List Nat} (h : w.ownsRow B 23 1 v M.length (fls M)) (hl : M.length ≤ 100000) (hf : ∀ x ∈ M, Fits x) : ∃ A c, v = .slice A M.length c ∧ InF w A c M := by
  rcases h.2 with ⟨rfl, hx⟩ | ⟨g, cap, cur, rfl, _⟩
  · have hL : M = [] := by simpa using hx
    subst hL
    exact ⟨none, 0, rfl, ⟨⟨rfl, fun hn => by simp at hn⟩, fun _ => rfl, hl, hf⟩⟩
  · exact ⟨_, _, rfl, ⟨Row.of_own h, fun h => (nomatch h), hl, hf⟩⟩

set_option maxHeartbeats 800000 in
theorem mapRank_any (A : Option Addr) (c : Nat) (M : List Nat) (w : World) (hI : InF w A c M) :
    Calls Tryd.prog 17 #[.slice A M.length c, .func (.func 10) #[] #[]] w fun e w' => ∃ v, e = .returned v ∧ w'.ownsRow w.heap.size 2 1 v M.length (rks M) ∧ Keeps (fun _ => False) w w' := by
  obtain ⟨e0, he0, hz0, hz1, hz2⟩ := info_parts infoI
  have hcall : ∀ (n : Nat) (w : World), (callFunc 10 #[.float .f64 n]).run Tryd.prog w = .ok (.enter 10 #[.float .f64 n]) w := fun n w => by kernel_rfl
  have hle := hI.le
  go_enter Tryd.func17, Tryd.ntmps17
  go_wp2_with fail
  go_loopw [5, 10] (fun o x wr => ∃ j : Nat, j ≤ M.length ∧ x = .int .i64 j ∧ wr.ownsRow w.heap.size 2 1 o j (rks (M.take j)) ∧ Keeps (fun _ => False) w wr) (fun _ x _ => M.length - (intOf x).toNat)
  case atStart => exact ⟨0, Nat.zero_le _, rfl, World.ownsRow_nil _ _ _ _, Keeps.refl _ _⟩
  case round =>
    obtain ⟨j, hj, rfl, hown, hkr⟩ := hrel
    have HO := Lib.hid hown
    clear hown
    by_cases hlt : j < M.length
    · obtain ⟨b, off, rfl, hb, hc, hf⟩ := (hI.keep hkr).at_ hlt
      have hsn : M.take (j + 1) = M.take j ++ [M[j]] := List.take_succ_eq_append_getElem hlt
      obtain ⟨x, hx⟩ : ∃ x, M[j] = x := ⟨_, rfl⟩
      rw [hx] at hc hsn hf
      have hji : (j : Int) < (M.length : Int) := by omega
      have HS := Lib.hid hsn
      have HF := Lib.hid hf
      clear hsn hx hf
      go_wp2_with fail
      refine (rank_any x HF.out _).mono ?_
      obtain ⟨r, hr⟩ : ∃ r, rank x = r := ⟨_, rfl⟩
      rw [hr]
      have HR := Lib.hid hr
      clear hr
      rintro e w' ⟨rfl, rfl⟩
      go_wp2_with (at_builtin; go_loud (refine wpList_append_own_at _ rfl _ _ 35 rfl w.heap.size 2 e0 (.int .i64 0) 1 8 Tryd.underlying35 he0 hz0 hz1 hz2 rfl (by decide) u5 j _ rfl (HO.out.alloc _) ⟨wr.heap.size, 0, none⟩ 1 1 [.int .i64 r] rfl rfl (World.news_of_block (cs := #[.int .i64 r]) (t := 2) (fr := (0, 0)) (heap_alloc_new wr _)) (by simp [Value.oneCell']) (by unfold maxLen; omega) (by omega) (by have := hkr.size; simp; omega) ?_; intro v3 w3 hown3 hgrow _ _))
      go_roundw
      case rel =>
        refine ⟨j + 1, by omega, by go_num, ?_, ?_⟩
        · rw [HS.out]
          simpa [rks, HR.out] using hown3
        · exact (hkr.alloc _).grown hgrow (by intro k hk; right; exact (HO.out.lt k hk).1)
      case measure => simp [intOf]; omega
    · obtain rfl : j = M.length := by omega
      rw [List.take_of_length_le (Nat.le_refl _)] at HO
      go_wp2
      go_ret
      exact ⟨_, rfl, HO.out, hkr⟩

set_option maxRecDepth 100000 in
set_option maxHeartbeats 3200000 in
theorem realMaps_walk (L : List Int) (A : Option Addr) (c : Nat) (w : World) (h : Named w) (hrow : Row w w.heap.size A L.length (L.map (.int .u64))) (hc : L.length ≤ c) (hm : c ≤ maxLen) (hwf : ∀ z ∈ L, (Lit.int .u64 z).wf = true) (hnil : A = none → c = 0) :
    Calls Tryd.prog 5 #[.slice A L.length c] w fun e w' => e = .returned (.bool true) ∧ Below w.heap.size w w' := by
  have hlm : L.length ≤ maxLen := Nat.le_trans hc hm
  unfold maxLen at hlm
  by_cases hl : 100 < L.length
  · clear hrow hwf hnil hm
    go_enter Tryd.func5, Tryd.ntmps5
    go_wp2
    go_ret
    exact ⟨rfl, Below.refl _ _⟩
  · obtain ⟨M, hml, hI⟩ : ∃ M : List Nat, M.length = L.length ∧ In64 w A c M := by
      have hL : L = (L.map Int.toNat).map (fun x : Nat => (x : Int)) := by
        rw [List.map_map]
        conv => lhs; rw [← List.map_id L]
        apply List.map_congr_left
        intro z hz
        obtain ⟨b, rfl, _⟩ := nat_of_u64 (hwf z hz)
        simp
      refine ⟨L.map Int.toNat, by simp, ⟨?_, hnil, by simp; omega, ?_⟩⟩
      · have e : (L.map Int.toNat).map (fun x : Nat => Value.int .u64 x) = L.map (.int .u64) := by
          conv => rhs; rw [hL]
          rw [List.map_map, List.map_map, List.map_map]
          rfl
        rw [e]
        simpa using hrow
      · intro x hx
        rw [List.mem_map] at hx
        obtain ⟨z, hz, rfl⟩ := hx
        obtain ⟨b, rfl, hb⟩ := nat_of_u64 (hwf z hz)
        simpa using hb
    rw [← hml] at hl ⊢
    have hl2 : M.length ≤ 100 := by omega
    clear hrow hc hm hwf hnil hml hlm
    go_enter Tryd.func5, Tryd.ntmps5
    go_wp2_with fail
    refine (mapFrom_any A c M _ hI).mono ?_
    rintro e w1 ⟨v1, rfl, ho1, hk1⟩
    obtain ⟨A1, c1, rfl, hF⟩ := InF.of_own ho1 hI.le hI.fits
    go_wp2_with fail
    refine (mapRank_any A1 c1 M _ hF).mono ?_
    rintro e w2 ⟨v2, rfl, ho2, hk2⟩
    have hk12 := hk1.trans hk2
    have HF := Lib.hid (hF.keep hk2)
    have HI := Lib.hid (hI.keep hk12)
    have HO := Lib.hid ho2
    obtain ⟨A2, c2, hv2⟩ : ∃ A c, v2 = .slice A M.length c := by
      rcases ho2.2 with ⟨rfl, h0⟩ | ⟨g, cap, cur, rfl, _⟩
      · exact ⟨none, 0, by rw [h0]⟩
      · exact ⟨_, _, rfl⟩
    subst hv2
    have hne : ((M.length : Int) != (M.length : Int)) = false := by simp
    clear ho1 ho2 hI hF
    go_wp2_with fail
    go_loopw [5] (fun x wr => ∃ j : Nat, j ≤ M.length ∧ x = .int .i64 j ∧ Keeps (fun _ => False) w2 wr) (fun x _ => M.length - (intOf x).toNat)
    case atStart => exact ⟨0, Nat.zero_le _, rfl, Keeps.refl _ _⟩
    case round =>
      obtain ⟨j, hj, rfl, hkr⟩ := hrel
      by_cases hlt : j < M.length
      · obtain ⟨b, off, rfl, hb, hc, hf⟩ := (HI.out.keep hkr).at_ hlt
        obtain ⟨b1, off1, rfl, hb1, hc1, _⟩ := (HF.out.keep hkr).at_ hlt
        have hown := own_keep HO.out hkr (fun _ _ h => h)
        obtain ⟨g, cap, hv3, _, _⟩ := hown.form (by omega)
        injection hv3 with hA2 _ hc2
        subst hA2
        subst hc2
        obtain ⟨x, hx⟩ : ∃ x, M[j] = x := ⟨_, rfl⟩
        rw [hx] at hc hc1 hf
        obtain ⟨r, hr⟩ : ∃ r, rank x = r := ⟨_, rfl⟩
        have hc2 : wr.cell? ⟨g, j, none⟩ = some (.int .i64 r) := by
          rw [hown.cellAt j (by omega)]
          unfold rks
          rw [List.getElem?_map, List.getElem?_eq_getElem hlt, hx]
          simp [hr]
        have hji : (j : Int) < (M.length : Int) := by omega
        have j0 : (0 : Int) ≤ (j : Int) := by omega
        have hxx : ((x : Int) != (x : Int)) = false := by simp
        have hrr : ((r : Int) != (r : Int)) = false := by simp
        have hbits : ∀ n, (callFunc 18 #[.float .f64 x]).run Tryd.prog (wr.drewN n) = .ok (.value (.int .u64 x)) (wr.drewN n) := fun n => call_bits x _
        have hrank : ∀ w, Calls Tryd.prog 15 #[.int .u64 x] w fun e w' => e = .returned (.int .i64 r) ∧ w' = w := fun w => (refRank_any x hf w).mono fun _ _ ⟨h1, h2⟩ => ⟨by rw [h1, hr], h2.symm⟩
        have HH := Lib.hid hrank
        clear hx hr hrank hown
        go_upto_region 10 with fail
        go_quiet (first | (go_at_call 15; refine Calls.quiet_of_same (HH.out _)))
        go_wp2_with fail
        go_roundw
        case rel => exact ⟨j + 1, by omega, by go_num, hkr.drewN _⟩
        case measure => simp [intOf]; omega
      · obtain rfl : j = M.length := by omega
        have hk3 := hk12.trans hkr
        have hnm : Named wr := (hk3.cell (World.block_lt_of_cell? w _ h) (fun h => h)).trans h
        go_wp2_with fail
        refine (awake_any _ hnm).mono ?_
        rintro e w' ⟨rfl, rfl⟩
        go_wp2
        go_ret
        exact ⟨rfl, hk3.below (fun _ _ h => h) (Nat.le_refl _)⟩
end Go.Proofs.YtfpmbkdijechaaaDoor
