/-
  What the chapter's examples say: Pack; and bytes as a string.
-/
import Derived.Test.YthcoiaigmndohaaBitsRefUnpack
import Derived.Laws.BytesArg
namespace Go.Proofs.Ythcoiaigmndohaa
open Go.RowKit BitM

theorem In.str {w : World} {A : Option Addr} {c : Nat} {L : List Int} (h : In w A c L) : (convert 23 9 (.slice A L.length c)).run Try.prog w = .ok (.string (strOfNums L)) w := by
  cases A with
  | none =>
    have hn : L = [] := by
      rcases Nat.eq_zero_or_pos L.length with h0 | h0
      · exact List.eq_nil_of_length_eq_zero h0
      · obtain ⟨b, off, h1, _⟩ := h.row.2 h0
        cases h1
    subst hn
    exact run_convert_bytes_nil w _ 5 Try.underlying23 Try.underlying5 _ _ _ Try.underlying9
  | some ad =>
    rcases Nat.eq_zero_or_pos L.length with h0 | h0
    · obtain rfl := List.eq_nil_of_length_eq_zero h0
      obtain ⟨b, off, ino⟩ := ad
      have hl : (loadCells ⟨b, off, ino⟩ 0).run Try.prog w = .ok (([] : List Int).map (Value.int .u8)).toArray w := by
        simpa using run_loadCells_list (P := Try.prog) w ⟨b, off, ino⟩ [] (fun j v hj => by simp at hj)
      show (convert 23 9 (.slice (some ⟨b, off, ino⟩) 0 c)).run Try.prog w = _
      rw [run_convert_bytes_string w _ _ 5 _ 0 c Try.underlying23 Try.underlying5 Try.underlying9, run_bytesToString w _ 0 c [] hl]
      rfl
    · obtain ⟨b, off, h1, _, h2⟩ := h.row.2 h0
      injection h1 with h1
      subst h1
      refine run_convert_bytes_arg w _ 5 Try.underlying23 Try.underlying5 b off _ c L rfl (fun i hi => ?_) _ Try.underlying9
      refine h2 i _ ?_
      rw [List.getElem?_map, List.getElem?_eq_getElem hi]
      simp [List.getD, List.getElem?_eq_getElem hi]

theorem In.drewN {w : World} {A : Option Addr} {c : Nat} {L : List Int} (h : In w A c L) (n : Nat) : In (w.drewN n) A c L := ⟨h.row, h.cap, h.le⟩

theorem In64.of_own {w : World} {B : Nat} {v : Value} {M : List Nat} (h : w.ownsRow B 35 1 v M.length (u64s M)) (hl : M.length ≤ 100000) (hf : ∀ x ∈ M, Fits x) : ∃ A c, v = .slice A M.length c ∧ In64 w A c M := by
  rcases h.2 with ⟨rfl, hx⟩ | ⟨g, cap, cur, rfl, _⟩
  · have hL : M = [] := by simpa using hx
    subst hL
    exact ⟨none, 0, rfl, ⟨⟨rfl, fun hn => by simp at hn⟩, fun _ => rfl, hl, hf⟩⟩
  · exact ⟨_, _, rfl, ⟨Row.of_own h, fun h => (nomatch h), hl, hf⟩⟩

/-- A slice that was just made of numbers. -/
theorem In64.lit (w : World) (M : List Nat) (cs : Array Value) (hcs : cs = (u64s M).toArray) (hl : M.length ≤ 100000) (hf : ∀ x ∈ M, Fits x) : In64 (w.alloc (.cells cs 35)) (some ⟨w.heap.size, 0, none⟩) M.length M := by
  subst hcs
  have h := World.ownsRow_lit (e := 35) (size := 1) (base := w.heap.size) w (u64s M).toArray M.length (Nat.le_refl _) (by unfold maxLen; omega) (by simp [u64s])
  exact ⟨Row.of_own (by simpa [u64s] using h), fun h => (nomatch h), hl, hf⟩

theorem In.lit (w : World) (L : List Int) (cs : Array Value) (hcs : cs = (L.map (Value.int .u8)).toArray) (hl : L.length ≤ 100000) : In (w.alloc (.cells cs 5)) (some ⟨w.heap.size, 0, none⟩) L.length L := by
  subst hcs
  have h := World.ownsRow_lit (e := 5) (size := 1) (base := w.heap.size) w (L.map (Value.int .u8)).toArray L.length (Nat.le_refl _) (by unfold maxLen; omega) (by simp)
  exact ⟨Row.of_own (by simpa using h), fun h => (nomatch h), hl⟩

theorem pack_one : packE 3 [5, 2, 7] = 0 ∧ packL 3 [5, 2, 7] = [213, 1] := by decide
theorem pack_two : packE 0 [0, 0, 0, 0, 0] = 0 ∧ packL 0 [0, 0, 0, 0, 0] = [] := by decide

set_option maxHeartbeats 800000 in
theorem awake_any (w : World) : Calls Try.prog 12 #[] w fun e w' => e = .returned (.bool true) ∧ Keeps (fun _ => False) w w' := by
  have hs1 : ∀ w : World, (convert 23 9 (.slice (some ⟨w.heap.size, 0, none⟩) 2 2)).run Try.prog (w.alloc (.cells #[.int .u8 213, .int .u8 1] 5)) = .ok (.string (strOfNums [213, 1])) (w.alloc (.cells #[.int .u8 213, .int .u8 1] 5)) := fun w => (In.lit w [213, 1] _ rfl (by decide)).str
  go_enter Try.func12, Try.ntmps12
  go_wp2_with fail
  refine (pack_any 3 _ 3 [5, 2, 7] _ (In64.lit w [5, 2, 7] _ rfl (by decide) (by intro x hx; simp at hx; unfold Fits; omega))).mono ?_
  rintro e w1 ⟨v1, rfl, ho1, hk1⟩
  rw [pack_one.1]
  rw [pack_one.2] at ho1
  obtain ⟨A1, c1, rfl, hI1⟩ := In.of_own ho1 (by decide)
  have hb1 : Keeps (fun _ => False) w w1 := ((Keeps.refl _ w).alloc _).trans hk1
  go_wp2_with fail
  refine (pack_any 0 _ 5 [0, 0, 0, 0, 0] _ (In64.lit w1 [0, 0, 0, 0, 0] _ rfl (by decide) (by intro x hx; simp at hx; unfold Fits; omega))).mono ?_
  rintro e w2 ⟨v2, rfl, ho2, hk2⟩
  rw [pack_two.1]
  rw [pack_two.2] at ho2
  obtain ⟨A2, c2, rfl, hI2⟩ := In.of_own ho2 (by decide)
  have hb2 : Keeps (fun _ => False) w1 w2 := ((Keeps.refl _ w1).alloc _).trans hk2
  have hI3 := hI1.keep (hb2.below (fun _ _ h => h) (Nat.le_refl _))
  have hs2 : (convert 23 9 (.slice A1 2 c1)).run Try.prog w2 = .ok (.string (strOfNums [213, 1])) w2 := hI3.str
  go_wp2_with fail
  go_ret
  exact ⟨rfl, (hb1.trans hb2).alloc _⟩
end Go.Proofs.Ythcoiaigmndohaa
