/-
  'awake' of the laws on blocks of reals; bytes as a string. Condition: the table of TrailingZeros64 is in its variable.
-/
import Derived.Test.YthcoiaigmndohaaDoorXorEnc
import Derived.Laws.BytesArg
namespace Go.Proofs.YthcoiaigmndohaaDoor
open Go.RowKit BitM

theorem In.str {w : World} {A : Option Addr} {c : Nat} {L : List Int} (h : In w A c L) : (convert 22 9 (.slice A L.length c)).run Tryd.prog w = .ok (.string (strOfNums L)) w := by
  cases A with
  | none =>
    have hn : L = [] := by
      rcases Nat.eq_zero_or_pos L.length with h0 | h0
      · exact List.eq_nil_of_length_eq_zero h0
      · obtain ⟨b, off, h1, _⟩ := h.row.2 h0
        cases h1
    subst hn
    exact run_convert_bytes_nil w _ 5 Tryd.underlying22 Tryd.underlying5 _ _ _ Tryd.underlying9
  | some ad =>
    rcases Nat.eq_zero_or_pos L.length with h0 | h0
    · obtain rfl := List.eq_nil_of_length_eq_zero h0
      obtain ⟨b, off, ino⟩ := ad
      have hl : (loadCells ⟨b, off, ino⟩ 0).run Tryd.prog w = .ok (([] : List Int).map (Value.int .u8)).toArray w := by
        simpa using run_loadCells_list (P := Tryd.prog) w ⟨b, off, ino⟩ [] (fun j v hj => by simp at hj)
      show (convert 22 9 (.slice (some ⟨b, off, ino⟩) 0 c)).run Tryd.prog w = _
      rw [run_convert_bytes_string w _ _ 5 _ 0 c Tryd.underlying22 Tryd.underlying5 Tryd.underlying9, run_bytesToString w _ 0 c [] hl]
      rfl
    · obtain ⟨b, off, h1, _, h2⟩ := h.row.2 h0
      injection h1 with h1
      subst h1
      refine run_convert_bytes_arg w _ 5 Tryd.underlying22 Tryd.underlying5 b off _ c L rfl (fun i hi => ?_) _ Tryd.underlying9
      refine h2 i _ ?_
      rw [List.getElem?_map, List.getElem?_eq_getElem hi]
      simp [List.getD, List.getElem?_eq_getElem hi]

theorem In.lit (w : World) (L : List Int) (cs : Array Value) (hcs : cs = (L.map (Value.int .u8)).toArray) (hl : L.length ≤ 100000) : In (w.alloc (.cells cs 5)) (some ⟨w.heap.size, 0, none⟩) L.length L := by
  subst hcs
  have h := World.ownsRow_lit (e := 5) (size := 1) (base := w.heap.size) w (L.map (Value.int .u8)).toArray L.length (Nat.le_refl _) (by unfold maxLen; omega) (by simp)
  exact ⟨Row.of_own (by simpa using h), fun h => (nomatch h), hl⟩

/-- Two ones. -/
def ones : List Nat := [4607182418800017408, 4607182418800017408]
def onesL : List Int := [0, 0, 0, 0, 0, 0, 240, 63, 0]

theorem ones_ok : blockOk ones.length = true := by decide
theorem ones_len : (blockB ones).length = 65 := by decide +kernel
theorem ones_bytes : bytesL (boolsN (blockB ones)) 9 = onesL := by decide +kernel

theorem inFB_alloc {w : World} {M : List Nat} (hl : M.length ≤ 1000) (hf : ∀ x ∈ M, Fits x) : InFB (w.alloc (.cells (fls M).toArray 53)).heap.size (w.alloc (.cells (fls M).toArray 53)) (some ⟨w.heap.size, 0, none⟩) M.length M := by
  refine ⟨⟨by simp [fls], fun _ => ⟨w.heap.size, 0, rfl, by simp, fun j u hu => ?_⟩⟩, (by omega), hf⟩
  rw [Nat.zero_add]
  have hb := Blk.new w 53 (fls M).toArray
  rw [hb.cell j]
  simpa using hu

set_option maxRecDepth 100000 in
set_option maxHeartbeats 1600000 in
theorem awake_any (w : World) (hBg : 1 < w.heap.size) (hT : Tab w) : Calls Tryd.prog 12 #[] w fun e w' => e = .returned (.bool true) ∧ Keeps (fun _ => False) w w' := by
  have hs1 : ∀ w : World, (convert 22 9 (.slice (some ⟨w.heap.size, 0, none⟩) 9 9)).run Tryd.prog (w.alloc (.cells #[.int .u8 0, .int .u8 0, .int .u8 0, .int .u8 0, .int .u8 0, .int .u8 0, .int .u8 240, .int .u8 63, .int .u8 0] 5)) = .ok (.string (strOfNums onesL)) (w.alloc (.cells #[.int .u8 0, .int .u8 0, .int .u8 0, .int .u8 0, .int .u8 0, .int .u8 0, .int .u8 240, .int .u8 63, .int .u8 0] 5)) := fun w => (In.lit w onesL _ rfl (by decide)).str
  have hk0 : Keeps (fun _ => False) w (w.alloc (.cells (fls ones).toArray 53)) := (Keeps.refl _ _).alloc _
  have henc := encode_any (some ⟨w.heap.size, 0, none⟩) 2 ones (w.alloc (.cells (fls ones).toArray 53)) ones_ok (inFB_alloc (by decide) (by intro x hx; simp [ones] at hx; subst hx; unfold Fits; omega)) (by decide) (by decide) (by unfold maxLen; omega) (by simp; omega) (hT.keep hk0)
  rw [ones_len] at henc
  have HE := Lib.hid henc
  have HK0 := Lib.hid hk0
  clear henc hk0 hT
  go_enter Tryd.func12, Tryd.ntmps12
  go_wp2_with fail
  refine HE.out.mono ?_
  rintro e w1 ⟨u, rfl, ho1, hk1⟩
  have ho1' : w1.ownsRow (w.alloc (.cells (fls ones).toArray 53)).heap.size 5 1 u onesL.length (onesL.map (Value.int .u8)) := by
    have := ho1
    rw [show (65 + 7) / 8 = 9 from rfl, ones_bytes] at this
    exact this
  obtain ⟨A1, c1, rfl, hI1⟩ := In.of_own ho1' (by decide)
  have hc1 := hI1.str
  have HKW := Lib.hid (HK0.out.trans hk1)
  have heq : ((strOfNums onesL).toList == (strOfNums onesL).toList) = true := by simp
  clear ho1 ho1' hI1 hk1
  go_wp2_with fail
  go_ret
  exact ⟨rfl, HKW.out.alloc _⟩
end Go.Proofs.YthcoiaigmndohaaDoor
