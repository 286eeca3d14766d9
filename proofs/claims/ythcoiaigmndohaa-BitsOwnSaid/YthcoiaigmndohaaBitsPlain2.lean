/-
  Plain: what is packed is unpacked as it was, and the other way round; strings of bytes.
-/
import Derived.Test.YthcoiaigmndohaaBitsLawA
namespace Go.Proofs.Ythcoiaigmndohaa
open Go.RowKit BitM

theorem ofBytes_bytesL (N : Nat) : ∀ (len : Nat), ofBytes (bytesL N len) = N % 256 ^ len := by
  suffices h : ∀ (len N : Nat), ofBytes (bytesL N len) = N % 256 ^ len from fun len => h len N
  intro len
  induction len with
  | zero => intro N; simp [bytesL, ofBytes, Nat.mod_one]
  | succ len ih =>
    intro N
    have e : bytesL N (len + 1) = ((byteN N 0 : Nat) : Int) :: bytesL (N / 256) len := by
      unfold bytesL
      rw [List.range_succ_eq_map, List.map_cons, List.map_map]
      congr 1
      apply List.map_congr_left
      intro j _
      simp only [Function.comp, byteN]
      rw [Nat.div_div_eq_div_mul, Nat.pow_succ, Nat.mul_comm]
    rw [e]
    simp only [ofBytes, ih, Int.toNat_natCast]
    rw [Nat.pow_succ', Nat.mod_mul]
    simp [byteN]

theorem packN_lt {W : Nat} : ∀ {M : List Nat}, M.all (fun x => fitsB x W) = true → packN W M < 2 ^ (M.length * W)
  | [], _ => by simp [packN]
  | x :: r, h => by
    simp only [List.all_cons, Bool.and_eq_true] at h
    have ih := packN_lt h.2
    have hx : x < 2 ^ W := by simpa [fitsB] using h.1
    simp only [packN, List.length_cons, Nat.succ_mul, Nat.pow_add]
    have h2 : (packN W r + 1) * 2 ^ W ≤ 2 ^ (r.length * W) * 2 ^ W := Nat.mul_le_mul_right _ ih
    rw [Nat.add_mul, Nat.mul_comm (packN W r)] at h2
    omega

theorem packN_at {W : Nat} : ∀ {M : List Nat} {i : Nat}, M.all (fun x => fitsB x W) = true → (hi : i < M.length) → packN W M / 2 ^ (i * W) % 2 ^ W = M[i]
  | x :: r, 0, h, _ => by
    simp only [List.all_cons, Bool.and_eq_true] at h
    have hx : x < 2 ^ W := by simpa [fitsB] using h.1
    simp [packN, Nat.mod_eq_of_lt hx]
  | x :: r, i + 1, h, hi => by
    simp only [List.all_cons, Bool.and_eq_true] at h
    have hx : x < 2 ^ W := by simpa [fitsB] using h.1
    have ih := packN_at (i := i) h.2 (by simpa using hi)
    simp only [List.getElem_cons_succ]
    rw [← ih]
    simp only [packN]
    rw [Nat.succ_mul, Nat.add_comm (i * W), Nat.pow_add, ← Nat.div_div_eq_div_mul, Nat.add_mul_div_left _ _ (Nat.two_pow_pos W), Nat.div_eq_of_lt hx, Nat.zero_add]

/-- What no error says. -/
theorem packE_zero {k : Int} {M : List Nat} (h : packE k M = 0) : ∃ W : Nat, k = (W : Int) ∧ W ≤ 64 ∧ wideB k = true ∧ M.length ≤ 1024 ∧ M.all (fun x => fitsB x W) = true ∧ packL k M = bytesL (packN W M) ((M.length * W + 7) / 8) := by
  have hw : wideB k = true := by
    cases hw : wideB k with
    | true => rfl
    | false => unfold packE at h; rw [if_pos hw] at h; cases h
  have hk : 0 ≤ k ∧ k ≤ 64 := by simpa [wideB] using hw
  have hm : ¬ 1024 < M.length := by
    intro h1
    unfold packE at h
    rw [if_neg (by simp [hw]), if_pos h1] at h
    cases h
  have ha : M.all (fun x => fitsB x k.toNat) = true := by
    cases ha : M.all (fun x => fitsB x k.toNat) with
    | true => rfl
    | false =>
      unfold packE at h
      rw [if_neg (by simp [hw]), if_neg hm, if_pos ha] at h
      cases h
  refine ⟨k.toNat, by omega, by omega, hw, by omega, ha, ?_⟩
  unfold packL
  rw [if_pos h]

theorem numAt_packed {W : Nat} {M : List Nat} (ha : M.all (fun x => fitsB x W) = true) {i s : Nat} : numAt (bytesL (packN W M) ((M.length * W + 7) / 8)) i s = packN W M / 2 ^ i % 2 ^ s := by
  unfold numAt
  rw [ofBytes_bytesL, Nat.mod_eq_of_lt (a := packN W M)]
  refine Nat.lt_of_lt_of_le (packN_lt ha) ?_
  rw [pow256]
  exact Nat.pow_le_pow_right (by decide) (by omega)

/-- **What is packed is unpacked as it was.** -/
theorem unpack_packed {k : Int} {M : List Nat} (h : packE k M = 0) : unpackE (packL k M) k M.length = 0 ∧ unpackL (packL k M) k M.length = M ∧ (packL k M).length = needI M.length k := by
  obtain ⟨W, rfl, hW, hw, hm, ha, hp⟩ := packE_zero h
  have hn : needI M.length W = (M.length * W + 7) / 8 := by
    unfold needI
    rw [if_pos ⟨by omega, by omega, hw⟩]
    rfl
  have hlen : (packL W M).length = needI M.length W := by rw [hp, bytesL_len, hn]
  have hr : restN (packL W M) W M.length = 0 := by
    unfold restN
    rw [hp, numAt_packed ha, Nat.div_eq_of_lt (packN_lt ha), Nat.zero_mod]
  have hE : unpackE (packL W M) W M.length = 0 := by
    unfold unpackE
    rw [if_neg (by rw [hw]; decide), if_neg (by omega), if_neg (by omega), if_neg (by omega), if_neg (by rw [Int.toNat_natCast, Int.toNat_natCast]; exact fun h => h hr)]
  refine ⟨hE, ?_, hlen⟩
  unfold unpackL
  rw [if_pos hE, Int.toNat_natCast, Int.toNat_natCast, hp]
  apply List.ext_getElem
  · rw [numsL_len]
  · intro i h1 h2
    simp only [numsL, List.getElem_map, List.getElem_range]
    rw [numAt_packed ha, packN_at ha h2]

theorem unpackE_zero {L : List Int} {k n : Int} (h : unpackE L k n = 0) : ∃ W m : Nat, k = (W : Int) ∧ n = (m : Int) ∧ W ≤ 64 ∧ m ≤ 1024 ∧ wideB k = true ∧ L.length = (m * W + 7) / 8 ∧ restN L W m = 0 ∧ unpackL L k n = numsL L W m := by
  have hw : wideB k = true := by
    cases hw : wideB k with
    | true => rfl
    | false => unfold unpackE at h; rw [if_pos hw] at h; cases h
  have hk : 0 ≤ k ∧ k ≤ 64 := by simpa [wideB] using hw
  have hn : ¬ (n < 0 ∨ 1024 < n) := by
    intro hc
    unfold unpackE at h
    rw [if_neg (by simp [hw]), if_pos hc] at h
    cases h
  have h1 : ¬ L.length < needI n k := by
    intro hc
    unfold unpackE at h
    rw [if_neg (by simp [hw]), if_neg hn, if_pos hc] at h
    cases h
  have h2 : ¬ needI n k < L.length := by
    intro hc
    unfold unpackE at h
    rw [if_neg (by simp [hw]), if_neg hn, if_neg h1, if_pos hc] at h
    cases h
  have h3 : restN L k.toNat n.toNat = 0 := by
    rcases Nat.eq_zero_or_pos (restN L k.toNat n.toNat) with h0 | h0
    · exact h0
    · unfold unpackE at h
      rw [if_neg (by simp [hw]), if_neg hn, if_neg h1, if_neg h2, if_pos (by omega)] at h
      cases h
  have hneed : needI n k = (n.toNat * k.toNat + 7) / 8 := by
    unfold needI
    rw [if_pos ⟨by omega, by omega, hw⟩]
  refine ⟨k.toNat, n.toNat, by omega, by omega, by omega, by omega, hw, by omega, h3, ?_⟩
  unfold unpackL
  rw [if_pos h]

theorem packN_nums (L : List Int) (W : Nat) : ∀ n, packN W (numsL L W n) = ofBytes L % 2 ^ (n * W)
  | 0 => by simp [numsL, packN, Nat.mod_one]
  | n + 1 => by
    rw [numsL_succ, packN_snoc, numsL_len, packN_nums L W n, Nat.succ_mul, ← get_two]
    rfl

/-- **What is unpacked is packed as it was.** -/
theorem pack_unpacked {L : List Int} {k n : Int} (hL : ∀ z ∈ L, 0 ≤ z ∧ z < 256) (h : unpackE L k n = 0) : packE k (unpackL L k n) = 0 ∧ packL k (unpackL L k n) = L := by
  obtain ⟨W, m, rfl, rfl, hW, hm, hw, hlen, hr, hu⟩ := unpackE_zero h
  rw [hu]
  have ha : (numsL L W m).all (fun x => fitsB x W) = true := by
    rw [List.all_eq_true]
    intro x hx
    unfold numsL at hx
    rw [List.mem_map] at hx
    obtain ⟨i, _, rfl⟩ := hx
    unfold numAt fitsB
    exact decide_eq_true (Nat.mod_lt _ (Nat.two_pow_pos W))
  have hE : packE W (numsL L W m) = 0 := by
    unfold packE
    rw [if_neg (by rw [hw]; decide), if_neg (by rw [numsL_len]; omega), if_neg (by rw [Int.toNat_natCast, ha]; decide)]
  refine ⟨hE, ?_⟩
  unfold packL
  rw [if_pos hE, Int.toNat_natCast, packN_nums, numsL_len, ← hlen]
  have hle : m * W ≤ 8 * L.length := by omega
  have hB := ofBytes_lt L hL
  rw [pow256] at hB
  have hlt : ofBytes L / 2 ^ (m * W) < 2 ^ (8 * L.length - m * W) := by
    rw [Nat.div_lt_iff_lt_mul (Nat.two_pow_pos _), ← Nat.pow_add]
    have : 8 * L.length - m * W + m * W = 8 * L.length := by omega
    rw [this]
    exact hB
  unfold restN numAt at hr
  rw [Nat.mod_eq_of_lt hlt] at hr
  have h0 : ofBytes L < 2 ^ (m * W) := by
    rcases Nat.div_eq_zero_iff.mp hr with h1 | h1
    · have := Nat.two_pow_pos (m * W); omega
    · exact h1
  rw [Nat.mod_eq_of_lt h0]
  exact bytesL_of L hL

/-- Strings of bytes are alike if and only if the bytes are. -/
theorem str_inj {L M : List Int} (hL : ∀ z ∈ L, 0 ≤ z ∧ z < 256) (hM : ∀ z ∈ M, 0 ≤ z ∧ z < 256) : strOfNums L = strOfNums M ↔ L = M := by
  refine ⟨fun h => ?_, fun h => h ▸ rfl⟩
  have h1 : (strOfNums L).data.toList = (strOfNums M).data.toList := by rw [h]
  rw [strOfNums_data, strOfNums_data] at h1
  have hlen : L.length = M.length := by simpa using congrArg List.length h1
  apply List.ext_getElem hlen
  intro i hi hi'
  have h2 : (L.map fun n => UInt8.ofNat n.toNat)[i]? = (M.map fun n => UInt8.ofNat n.toNat)[i]? := by rw [h1]
  rw [List.getElem?_map, List.getElem?_map, List.getElem?_eq_getElem hi, List.getElem?_eq_getElem hi'] at h2
  simp only [Option.map_some, Option.some.injEq] at h2
  have h3 := congrArg UInt8.toNat h2
  have hl := hL _ (List.getElem_mem hi)
  have hm := hM _ (List.getElem_mem hi')
  simp only [UInt8.toNat_ofNat'] at h3
  omega

theorem bytesL_bounds (N len : Nat) : ∀ z ∈ bytesL N len, 0 ≤ z ∧ z < 256 := by
  intro z hz
  unfold bytesL at hz
  rw [List.mem_map] at hz
  obtain ⟨j, _, rfl⟩ := hz
  have := byteN_lt N j
  omega
theorem packL_bounds (k : Int) (M : List Nat) : ∀ z ∈ packL k M, 0 ≤ z ∧ z < 256 := by
  unfold packL
  split
  · exact bytesL_bounds _ _
  · intro z hz; simp at hz

/-- **No two rows of numbers are packed alike.** -/
theorem pack_apart {k : Int} {M M' : List Nat} (hl : M.length = M'.length) (h : packE k M = 0) (h' : packE k M' = 0) : strOfNums (packL k M) = strOfNums (packL k M') ↔ M = M' := by
  rw [str_inj (packL_bounds k M) (packL_bounds k M')]
  refine ⟨fun e => ?_, fun e => by rw [e]⟩
  rw [← (unpack_packed h).2.1, ← (unpack_packed h').2.1, e, hl]
end Go.Proofs.Ythcoiaigmndohaa
