/-
  The contracts of bits.NewWriter and xor.Encode. Conditions: at most 1100 reals, the bits fit 64; the table of TrailingZeros64 is in its variable.
-/
import Derived.Test.YthcoiaigmndohaaDoorXorWriter
namespace Go.Proofs.YthcoiaigmndohaaDoor
open Go.RowKit BitM

theorem own_mono' {w : World} {base base' : Nat} {e : TypeId} {size n : Nat} {v : Value} {xs : List Value} (h : w.ownsRow base e size v n xs) (hb : base' ≤ base) : w.ownsRow base' e size v n xs := by
  refine ⟨h.1, ?_⟩
  rcases h.2 with h2 | ⟨g, cap, cur, hv, hg, r⟩
  · exact .inl h2
  · exact .inr ⟨g, cap, cur, hv, Nat.le_trans hb hg, r⟩

theorem newW_any (w : World) : Calls Tryd.prog 30 #[] w fun e w' => e = .returned (.pointer (some ⟨w.heap.size, 0, none⟩)) ∧ w' = w.alloc (.cells #[.slice none 0 0, .int .i64 0] 82) := by
  go_enter Tryd.func30, Tryd.ntmps30
  go_wp2
  go_ret
  exact ⟨rfl, rfl⟩

theorem wrote_new (w : World) : Wrote w.heap.size w.heap.size (w.alloc (.cells #[.slice none 0 0, .int .i64 0] 82)) [] :=
  ⟨.slice none 0 0, Blk.new w _ _, World.ownsRow_nil _ _ _ _, by decide⟩

theorem encode_none (A : Option Addr) (c : Nat) (M : List Nat) (w : World) (hb : blockOk M.length = false) (hm : M.length ≤ 1100) :
    Calls Tryd.prog 13 #[.slice A M.length c] w fun e w' => e = .returned (.tuple #[.slice none 0 0, .int .i64 7]) ∧ w = w' := by
  have HBK := Lib.hid hb
  clear hb
  go_enter Tryd.func13, Tryd.ntmps13
  go_wp2_with fail
  refine (block_any M.length _).mono ?_
  rw [HBK.out]
  rintro e w' ⟨rfl, rfl⟩
  go_wp2
  go_ret2
  exact ⟨rfl, rfl⟩

set_option maxRecDepth 100000 in
set_option maxHeartbeats 1600000 in
theorem encode_any (A : Option Addr) (c : Nat) (M : List Nat) (w : World) (hb : blockOk M.length = true) (hF : InFB w.heap.size w A c M) (hm : M.length ≤ 1100) (hlc : M.length ≤ c) (hcm : c ≤ maxLen) (hBg : 1 < w.heap.size) (hT : Tab w) :
    Calls Tryd.prog 13 #[.slice A M.length c] w fun e w' => ∃ u, e = .returned (.tuple #[u, .int .i64 0]) ∧ w'.ownsRow w.heap.size 5 1 u (((blockB M).length + 7) / 8) ((bytesL (boolsN (blockB M)) (((blockB M).length + 7) / 8)).map (Value.int .u8)) ∧ Keeps (fun _ => False) w w' := by
  have h1 : 1 ≤ M.length := by
    unfold blockOk at hb
    simp only [Bool.and_eq_true, decide_eq_true_eq] at hb
    exact hb.1
  have hk0 : Keeps (fun _ => False) w (w.alloc (.cells #[.slice none 0 0, .int .i64 0] 82)) := (Keeps.refl _ _).alloc _
  have hwr := write_any (writer_sink w.heap.size w.heap.size (Nat.le_refl _)) A c M h1 hm hlc hcm _ (wrote_new w) (hF.keep (hk0.mono (fun _ h => h.elim)) (Nat.le_refl _)) (by simp) hBg (hT.keep hk0)
  have hlen := blockB_len hF.fits
  have HWR := Lib.hid hwr
  have HBK := Lib.hid hb
  have HK0 := Lib.hid hk0
  have HL := Lib.hid hlen
  clear hwr hb hlen hk0
  go_enter Tryd.func13, Tryd.ntmps13
  go_wp2_with fail
  refine (block_any M.length _).mono ?_
  rw [HBK.out]
  rintro e w' ⟨rfl, rfl⟩
  go_wp2_with fail
  refine (newW_any _).mono ?_
  rintro e w' ⟨rfl, rfl⟩
  go_wp2_with fail
  refine HWR.out.mono ?_
  rintro r w1 ⟨rfl, ⟨v, hw1⟩, hs1⟩
  have HW1 := Lib.hid hw1
  have HKW := Lib.hid (keeps_new ((HK0.out.mono (fun _ h => h.elim)).trans hs1.keeps))
  clear hw1 hs1
  go_wp2_with fail
  refine (bytes_any w.heap.size w.heap.size w1 v _ _ (by have := HL.out; omega) HW1.out).mono ?_
  rintro r w2 ⟨u, rfl, hown, hk2⟩
  have HO := Lib.hid hown
  clear hown
  go_wp2
  go_ret2
  exact ⟨u, rfl, own_mono' HO.out HKW.out.size, HKW.out.trans hk2⟩
end Go.Proofs.YthcoiaigmndohaaDoor
