/-
  The contract of Bits; what is decoded fits; bytes that came in. Conditions: at most 100000 reals, the bits fit 64.
-/
import Derived.Test.YthcoiaigmndohaaDoorXorDecode
import Derived.Test.YthcoiaigmndohaaDoorXorRef
namespace Go.Proofs.YthcoiaigmndohaaDoor
open Go.RowKit BitM

theorem decGo_ok {N T : Nat} : ∀ {k z : Nat} {v : Win} {last : Nat} {acc : List Nat} {z2 : Nat} {l : List Nat}, v.Ok → Fits last → (∀ x ∈ acc, Fits x) → decGo N T k z v last acc = .ok (z2, l) → l.length = acc.length + k ∧ ∀ x ∈ l, Fits x
  | 0, z, v, last, acc, z2, l, _, _, ha, h => by
    unfold decGo at h
    injection h with h
    injection h with h1 h2
    subst h2
    exact ⟨rfl, ha⟩
  | k + 1, z, v, last, acc, z2, l, hv, hl, ha, h => by
    unfold decGo at h
    split at h
    · cases h
    · rename_i x z3 v3 hr
      obtain ⟨hv3, hx, _, _⟩ := readN_ok hv hr
      have hy := (xor_u64 hl hx).2
      obtain ⟨h1, h2⟩ := decGo_ok hv3 hy (fun y hy' => by
        rcases List.mem_append.1 hy' with h | h
        · exact ha y h
        · simp at h; subst h; exact hy) h
      rw [List.length_append, List.length_singleton] at h1
      exact ⟨by omega, h2⟩

/-- What is decoded fits. -/
theorem decM_ok {N T : Nat} {n : Int} : (decM N T n).2.length ≤ 1024 ∧ ∀ x ∈ (decM N T n).2, Fits x := by
  have hnil : ([] : List Nat).length ≤ 1024 ∧ ∀ x ∈ ([] : List Nat), Fits x := ⟨by decide, by simp⟩
  by_cases h0 : (decM N T n).1 = 0
  · unfold decM at *
    split at h0 <;> rename_i h1
    · rw [if_pos h1]; exact hnil
    · rw [if_neg h1]
      split at h0 <;> rename_i h2
      · rw [if_pos h2]; exact hnil
      · rw [if_neg h2]
        have hx : Fits (N / 2 ^ 0 % 2 ^ 64) := Nat.mod_lt _ (Nat.two_pow_pos 64)
        have hok : Win.Ok ⟨0, 0, false⟩ := ⟨by decide, by decide⟩
        cases hq : decGo N T (n.toNat - 1) 64 ⟨0, 0, false⟩ (N / 2 ^ 0 % 2 ^ 64) [N / 2 ^ 0 % 2 ^ 64] with
        | error e => exact hnil
        | ok q =>
          obtain ⟨z, l⟩ := q
          obtain ⟨hl, hf⟩ := decGo_ok hok hx (fun y hy => by simp at hy; subst hy; simpa using hx) hq
          unfold decEnd
          simp only []
          split
          · exact hnil
          · split
            · refine ⟨?_, hf⟩
              rw [List.length_singleton] at hl
              show l.length ≤ 1024
              omega
            · exact hnil
  · rw [decM_err h0]; exact hnil

set_option maxHeartbeats 800000 in
theorem bitsF_any (A : Option Addr) (c : Nat) (M : List Nat) (w : World) (hI : InFB w.heap.size w A c M) :
    Calls Tryd.prog 11 #[.slice A M.length c] w fun e w' => ∃ v, e = .returned v ∧ w'.ownsRow w.heap.size 41 1 v M.length (u64s M) ∧ Keeps (fun _ => False) w w' := by
  obtain ⟨e0, he0, hz0, hz1, hz2⟩ := info_parts info64
  have hcall := fun b w => call_bits b w
  have hle := hI.le
  go_enter Tryd.func11, Tryd.ntmps11
  go_wp2_with fail
  go_loopw [3, 4] (fun o x wr => ∃ j : Nat, j ≤ M.length ∧ x = .int .i64 j ∧ wr.ownsRow w.heap.size 41 1 o j (u64s (M.take j)) ∧ Keeps (fun _ => False) w wr) (fun _ x _ => M.length - (intOf x).toNat)
  case atStart => exact ⟨0, Nat.zero_le _, rfl, World.ownsRow_nil _ _ _ _, Keeps.refl _ _⟩
  case round =>
    obtain ⟨j, hj, rfl, hown, hkr⟩ := hrel
    have HO := Lib.hid hown
    clear hown
    by_cases hlt : j < M.length
    · obtain ⟨b, off, rfl, hc, hf⟩ := (hI.keep (keeps_none hkr) (Nat.le_refl _)).at_ hlt
      have hsn : M.take (j + 1) = M.take j ++ [M[j]] := List.take_succ_eq_append_getElem hlt
      obtain ⟨x, hx⟩ : ∃ x, M[j] = x := ⟨_, rfl⟩
      rw [hx] at hc hsn
      have hji : (j : Int) < (M.length : Int) := by omega
      have HS := Lib.hid hsn
      clear hsn hx hf
      go_wp2_with (at_builtin; go_loud (refine wpList_append_own_at _ rfl _ _ 27 rfl w.heap.size 41 e0 (.int .u64 0) 1 8 Tryd.underlying27 he0 hz0 hz1 hz2 rfl (by decide) u3 j _ rfl (HO.out.alloc _) ⟨wr.heap.size, 0, none⟩ 1 1 [.int .u64 x] rfl rfl (World.news_of_block (cs := #[.int .u64 x]) (t := 41) (fr := (0, 0)) (heap_alloc_new wr _)) (by simp [Value.oneCell']) (by unfold maxLen; omega) (by omega) (by have := hkr.size; simp; omega) ?_; intro v3 w3 hown3 hgrow _ _))
      go_roundw
      case rel =>
        refine ⟨j + 1, by omega, by go_num, ?_, ?_⟩
        · rw [HS.out]
          simpa [u64s] using hown3
        · exact (hkr.alloc _).grown hgrow (by intro k hk; right; exact (HO.out.lt k hk).1)
      case measure => simp [intOf]; omega
    · obtain rfl : j = M.length := by omega
      rw [List.take_of_length_le (Nat.le_refl _)] at HO
      go_wp2
      go_ret
      exact ⟨_, rfl, HO.out, hkr⟩

theorem u8_bounds {z : Int} (h : (Lit.int .u8 z).wf = true) : 0 ≤ z ∧ z < 256 := by
  have m1 : IntKind.u8.min = 0 := by decide
  have m2 : IntKind.u8.max = 255 := by decide
  simp only [Lit.wf, m1, m2, Bool.and_eq_true, decide_eq_true_eq] at h
  omega

theorem In.came {w : World} {A : Option Addr} {c : Nat} {L : List Int} (hrow : Row w w.heap.size A L.length (L.map (.int .u8))) (hwf : ∀ z ∈ L, (Lit.int .u8 z).wf = true) (hnil : A = none → c = 0) (hl : L.length ≤ 100000) :
    In w A c L ∧ ∀ z ∈ L, 0 ≤ z ∧ z < 256 :=
  ⟨⟨hrow, hnil, hl⟩, fun z hz => u8_bounds (hwf z hz)⟩
end Go.Proofs.YthcoiaigmndohaaDoor
