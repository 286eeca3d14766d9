/-
  The laws BitsPacks, BitsUnpacks: their walks.
-/
import Derived.Test.YthcoiaigmndohaaBitsAwake
namespace Go.Proofs.Ythcoiaigmndohaa
open Go.RowKit BitM

theorem u64_bounds {z : Int} (h : (Lit.int .u64 z).wf = true) : 0 ≤ z ∧ Fits z.toNat := by
  have : 0 ≤ z ∧ z < 18446744073709551616 := by
    simp [Lit.wf, IntKind.min, IntKind.max, IntKind.signed, IntKind.bits] at h
    omega
  exact ⟨this.1, by unfold Fits; omega⟩
theorem u8_bounds {z : Int} (h : (Lit.int .u8 z).wf = true) : 0 ≤ z ∧ z < 256 := by
  simp [Lit.wf, IntKind.min, IntKind.max, IntKind.signed, IntKind.bits] at h
  omega

/-- A slice of 64-bit numbers that came in. -/
theorem In64.came {w : World} {A : Option Addr} {c : Nat} {L : List Int} (hrow : Row w w.heap.size A L.length (L.map (.int .u64))) (hwf : ∀ z ∈ L, (Lit.int .u64 z).wf = true) (hnil : A = none → c = 0) (hl : L.length ≤ 100000) :
    ∃ M : List Nat, M.length = L.length ∧ L = M.map (fun x : Nat => (x : Int)) ∧ In64 w A c M := by
  have hL : L = (L.map Int.toNat).map (fun x : Nat => (x : Int)) := by
    rw [List.map_map]
    conv => lhs; rw [← List.map_id L]
    apply List.map_congr_left
    intro z hz
    have := (u64_bounds (hwf z hz)).1
    simp
    omega
  refine ⟨L.map Int.toNat, by simp, hL, ⟨?_, hnil, by simpa using hl, ?_⟩⟩
  · have e : (L.map Int.toNat).map (fun x : Nat => Value.int .u64 x) = L.map (.int .u64) := by
      conv => rhs; rw [hL]
      rw [List.map_map, List.map_map, List.map_map]
      rfl
    rw [e]
    simpa using hrow
  · intro x hx
    rw [List.mem_map] at hx
    obtain ⟨z, hz, rfl⟩ := hx
    exact (u64_bounds (hwf z hz)).2

theorem In.came {w : World} {A : Option Addr} {c : Nat} {L : List Int} (hrow : Row w w.heap.size A L.length (L.map (.int .u8))) (hwf : ∀ z ∈ L, (Lit.int .u8 z).wf = true) (hnil : A = none → c = 0) (hl : L.length ≤ 100000) : In w A c L ∧ ∀ z ∈ L, 0 ≤ z ∧ z < 256 :=
  ⟨⟨hrow, hnil, hl⟩, fun z hz => u8_bounds (hwf z hz)⟩

theorem packL_le {k : Int} {M : List Nat} (hM : M.length ≤ 100000) : (packL k M).length ≤ 100000 := by
  unfold packL
  split
  · rename_i h
    rw [bytesL_len]
    have hw : wideB k = true := by
      cases hw : wideB k with
      | true => rfl
      | false => unfold packE at h; rw [if_pos hw] at h; cases h
    have hk : 0 ≤ k ∧ k ≤ 64 := by simpa [wideB] using hw
    have hm : M.length ≤ 1024 := by
      rcases Nat.lt_or_ge 1024 M.length with h1 | h1
      · unfold packE at h
        rw [if_neg (by simp [hw]), if_pos h1] at h
        cases h
      · exact h1
    have : M.length * k.toNat ≤ 1024 * 64 := Nat.mul_le_mul hm (by omega)
    omega
  · simp

set_option maxHeartbeats 800000 in
theorem bitsPacks_walk (L : List Int) (A : Option Addr) (c : Nat) (k n : Int) (w : World) (hrow : Row w w.heap.size A L.length (L.map (.int .u64))) (hc : L.length ≤ c) (hm : c ≤ maxLen) (hwf : ∀ z ∈ L, (Lit.int .u64 z).wf = true) (hnil : A = none → c = 0) (_hk : (Lit.int .i64 k).wf = true) (_hn : (Lit.int .i64 n).wf = true) :
    Calls Try.prog 5 #[.slice A L.length c, .int .i64 k, .int .i64 n] w fun e w' => e = .returned (.bool true) ∧ Below w.heap.size w w' := by
  by_cases hl : 1100 < L.length
  · have hlm : L.length ≤ maxLen := Nat.le_trans hc hm
    unfold maxLen at hlm
    clear hrow hwf hnil hm
    go_enter Try.func5, Try.ntmps5
    go_wp2
    go_ret
    exact ⟨rfl, Below.refl _ _⟩
  · obtain ⟨M, hml, hLM, hI⟩ := In64.came hrow hwf hnil (by omega)
    rw [← hml] at hl ⊢
    have hpl := packL_le (k := k) hI.le
    clear hrow hc hm hwf hnil hml hLM
    go_enter Try.func5, Try.ntmps5
    go_wp2_with fail
    refine (pack_any k A c M _ hI).mono ?_
    rintro e w1 ⟨v1, rfl, ho1, hk1⟩
    obtain ⟨A1, c1, rfl, hI1⟩ := In.of_own ho1 hpl
    go_wp2_with fail
    refine (refPack_any k A c M _ (hI.keep hk1)).mono ?_
    rintro e w2 ⟨v2, rfl, ho2, hk2⟩
    obtain ⟨A2, c2, rfl, hI2⟩ := In.of_own ho2 hpl
    have hs1 := (hI1.keep (hk2.below (fun _ _ h => h) (Nat.le_refl _))).str
    have hs2 := hI2.str
    go_wp2_with fail
    refine (need_any n k _).mono ?_
    rintro e w' ⟨rfl, rfl⟩
    go_wp2_with fail
    refine (refNeed_any n k _).mono ?_
    rintro e w' ⟨rfl, rfl⟩
    go_wp2_with fail
    refine (awake_any _).mono ?_
    rintro e w3 ⟨rfl, hk3⟩
    go_wp2
    go_ret
    exact ⟨rfl, ((hk1.trans hk2).trans hk3).below (fun _ _ h => h) (Nat.le_refl _)⟩

theorem unpackL_ok {L : List Int} {k n : Int} : (unpackL L k n).length ≤ 1024 ∧ ∀ x ∈ unpackL L k n, Fits x := by
  unfold unpackL
  split
  · rename_i h
    have hw : wideB k = true := by
      cases hw : wideB k with
      | true => rfl
      | false => unfold unpackE at h; rw [if_pos hw] at h; cases h
    have hk : 0 ≤ k ∧ k ≤ 64 := by simpa [wideB] using hw
    have hn : ¬ (n < 0 ∨ 1024 < n) := by
      intro hc
      unfold unpackE at h
      rw [if_neg (by simp [hw]), if_pos hc] at h
      cases h
    refine ⟨by rw [numsL_len]; omega, ?_⟩
    intro x hx
    unfold numsL at hx
    rw [List.mem_map] at hx
    obtain ⟨i, _, rfl⟩ := hx
    unfold numAt
    have h1 := Nat.mod_lt (ofBytes L / 2 ^ (i * k.toNat)) (Nat.two_pow_pos k.toNat)
    have h2 : 2 ^ k.toNat ≤ 2 ^ 64 := Nat.pow_le_pow_right (by decide) (by omega)
    unfold Fits
    omega
  · exact ⟨by simp, by simp⟩

set_option maxHeartbeats 800000 in
theorem bitsUnpacks_walk (L : List Int) (A : Option Addr) (c : Nat) (k n : Int) (w : World) (hrow : Row w w.heap.size A L.length (L.map (.int .u8))) (hc : L.length ≤ c) (hm : c ≤ maxLen) (hwf : ∀ z ∈ L, (Lit.int .u8 z).wf = true) (hnil : A = none → c = 0) (_hk : (Lit.int .i64 k).wf = true) (_hn : (Lit.int .i64 n).wf = true) :
    Calls Try.prog 9 #[.slice A L.length c, .int .i64 k, .int .i64 n] w fun e w' => e = .returned (.bool true) ∧ Below w.heap.size w w' := by
  by_cases hl : 3000 < L.length
  · have hlm : L.length ≤ maxLen := Nat.le_trans hc hm
    unfold maxLen at hlm
    clear hrow hwf hnil hm
    go_enter Try.func9, Try.ntmps9
    go_wp2
    go_ret
    exact ⟨rfl, Below.refl _ _⟩
  · obtain ⟨hI, hL⟩ := In.came hrow hwf hnil (by omega)
    obtain ⟨hu1, hu2⟩ := unpackL_ok (L := L) (k := k) (n := n)
    clear hrow hc hm hwf hnil
    go_enter Try.func9, Try.ntmps9
    go_wp2_with fail
    refine (unpack_any k n A c L _ hI hL).mono ?_
    rintro e w1 ⟨v1, rfl, ho1, hk1⟩
    obtain ⟨A1, c1, rfl, hI1⟩ := In64.of_own ho1 (by omega) hu2
    go_wp2_with fail
    refine (refUnpack_any k n A c L _ (hI.keep (hk1.below (fun _ _ h => h) (Nat.le_refl _))) hL).mono ?_
    rintro e w2 ⟨v2, rfl, ho2, hk2⟩
    obtain ⟨A2, c2, rfl, hI2⟩ := In64.of_own ho2 (by omega) hu2
    go_wp2_with fail
    refine (refSame_any A1 A2 c1 c2 _ _ _ (hI1.keep hk2) hI2).mono ?_
    rintro e w3 ⟨rfl, hk3⟩
    have hd : decide (unpackL L k n = unpackL L k n) = true := by simp
    rw [hd]
    go_wp2_with fail
    refine (awake_any _).mono ?_
    rintro e w4 ⟨rfl, hk4⟩
    go_wp2
    go_ret
    exact ⟨rfl, (((hk1.trans hk2).trans hk3).trans hk4).below (fun _ _ h => h) (Nat.le_refl _)⟩
end Go.Proofs.Ythcoiaigmndohaa
