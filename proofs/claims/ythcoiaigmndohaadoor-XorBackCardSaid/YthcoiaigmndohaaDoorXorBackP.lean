/-
  Plain: what is encoded is decoded to the same bits; with a byte less, or one more, it is refused. No program in sight.
-/
import Derived.Test.YthcoiaigmndohaaDoorXorDec
import Derived.Test.YthcoiaigmndohaaDoorXorSize
namespace Go.Proofs.YthcoiaigmndohaaDoor
open BitM

theorem ofBytes_bytesL (N : Nat) : ∀ (len : Nat), ofBytes (bytesL N len) = N % 256 ^ len := by
  suffices h : ∀ (len N : Nat), ofBytes (bytesL N len) = N % 256 ^ len from fun len => h len N
  intro len
  induction len with
  | zero => intro N; simp [bytesL, ofBytes, Nat.mod_one]
  | succ len ih =>
    intro N
    have e : bytesL N (len + 1) = ((byteN N 0 : Nat) : Int) :: bytesL (N / 256) len := by
      unfold bytesL
      rw [List.range_succ_eq_map, List.map_cons, List.map_map]
      congr 1
      apply List.map_congr_left
      intro j _
      simp only [Function.comp, byteN]
      rw [Nat.div_div_eq_div_mul, Nat.pow_succ, Nat.mul_comm]
    rw [e]
    simp only [ofBytes, ih, Int.toNat_natCast]
    rw [Nat.pow_succ', Nat.mod_mul]
    simp [byteN]

theorem go_back {N T : Nat} : ∀ {M : List Nat} {a : Nat} {v : Win} {last : Nat} {acc : List Nat}, v.Ok → Fits last → (∀ x ∈ M, Fits x) → Lies N T a (restB last v M) →
    decGo N T M.length a v last acc = if a + (restB last v M).length ≤ T ∨ M = [] then .ok (a + (restB last v M).length, acc ++ M) else .error 1
  | [], a, v, last, acc, _, _, _, _ => by simp [decGo, restB]
  | x :: M, a, v, last, acc, hv, hl, hf, h => by
    have hx := hf x (by simp)
    have hxl := (xor_u64 hx hl).2
    have hr := read_next (x := x ^^^ last) (v := v) hv hxl h
    have h2 := (lies_append h).2
    have hxx : last ^^^ (x ^^^ last) = x := by rw [Nat.xor_comm x last, ← Nat.xor_assoc, Nat.xor_self, Nat.zero_xor]
    have hlen := (nextB_len (x := x ^^^ last) (v := v) hxl).1
    simp only [List.length_cons, decGo, hr]
    by_cases h1 : a + (nextB (x ^^^ last) v).length ≤ T
    · rw [if_pos h1]
      simp only [hxx]
      rw [go_back (nextW_ok hxl hv) hx (fun y hy => hf y (by simp [hy])) h2]
      simp only [restB, List.length_append]
      rw [show a + (nextB (x ^^^ last) v).length + (restB x (nextW (x ^^^ last) v) M).length = a + ((nextB (x ^^^ last) v).length + (restB x (nextW (x ^^^ last) v) M).length) by omega]
      by_cases hm : M = []
      · subst hm
        rw [if_pos (.inr rfl), if_pos (.inl (by simpa [restB] using h1))]
        simp
      · by_cases h3 : a + ((nextB (x ^^^ last) v).length + (restB x (nextW (x ^^^ last) v) M).length) ≤ T
        · rw [if_pos (.inl h3), if_pos (.inl h3)]
          simp
        · rw [if_neg (by simp [hm, h3]), if_neg (by simp [h3])]
    · rw [if_neg h1, if_neg]
      simp only [restB, List.length_append]
      simp
      omega

/-- A form, looked at with so many bytes. -/
def formOf (M : List Nat) (k : Nat) : List Int := bytesL (boolsN (blockB M)) k

theorem form_N (M : List Nat) (k : Nat) : ofBytes (formOf M k) = boolsN (blockB M) % 2 ^ (8 * k) := by
  unfold formOf
  rw [ofBytes_bytesL, pow256]

theorem form_dec {M : List Nat} (h1 : 1 ≤ M.length) (h2 : M.length ≤ 1024) (hf : ∀ x ∈ M, Fits x) (k : Nat) :
    decM (ofBytes (formOf M k)) (8 * k) M.length = if 8 * k < (blockB M).length then (1, []) else if 8 ≤ 8 * k - (blockB M).length then (2, []) else (0, M) := by
  rw [form_N]
  cases M with
  | nil => simp at h1
  | cons x M =>
    have hx := hf x (by simp)
    have hl := lies_cut (blockB (x :: M)) (8 * k)
    have hlt := boolsN_lt (blockB (x :: M))
    have hlen : (blockB (x :: M)).length = 64 + (restB x ⟨0, 0, false⟩ M).length := by simp only [blockB, List.length_append, bitsL_len]
    generalize hB : boolsN (blockB (x :: M)) = B at *
    have hl2 : Lies (B % 2 ^ (8 * k)) (8 * k) 0 (bitsL x 64 ++ restB x ⟨0, 0, false⟩ M) := hl
    have hl3 := lies_append hl2
    rw [bitsL_len] at hl3
    unfold decM
    rw [if_neg (by simp at h2 ⊢; omega)]
    by_cases h64 : 8 * k < 64
    · rw [if_pos h64, if_pos (by omega)]
    · rw [if_neg h64]
      have hx0 := lies_bits hl3.1 (by omega)
      rw [Nat.mod_eq_of_lt (show x < 2 ^ 64 from hx)] at hx0
      rw [hx0, Int.toNat_natCast, List.length_cons, Nat.add_sub_cancel]
      have hg := go_back (N := B % 2 ^ (8 * k)) (T := 8 * k) (M := M) (a := 64) (v := ⟨0, 0, false⟩) (last := x) (acc := [x]) ⟨by decide, by decide⟩ hx (fun y hy => hf y (by simp [hy])) (by have := hl3.2; rw [Nat.zero_add] at this; exact this)
      rw [hg]
      rw [hlen] at hlt ⊢
      by_cases hT : 64 + (restB x ⟨0, 0, false⟩ M).length ≤ 8 * k
      · rw [if_pos (.inl hT), if_neg (by omega)]
        unfold decEnd
        simp only []
        split
        · rfl
        · have hz : B % 2 ^ (8 * k) / 2 ^ (64 + (restB x ⟨0, 0, false⟩ M).length) % 2 ^ (8 * k - (64 + (restB x ⟨0, 0, false⟩ M).length)) = 0 := by
            have : B % 2 ^ (8 * k) < 2 ^ (64 + (restB x ⟨0, 0, false⟩ M).length) := Nat.lt_of_le_of_lt (Nat.mod_le _ _) hlt
            rw [Nat.div_eq_of_lt this, Nat.zero_mod]
          rw [if_pos hz]
          simp
      · have hM : M ≠ [] := by
          rintro rfl
          simp [restB] at hT
          omega
        rw [if_neg (by simp [hT, hM]), if_pos (by omega)]
        rfl
end Go.Proofs.YthcoiaigmndohaaDoor
