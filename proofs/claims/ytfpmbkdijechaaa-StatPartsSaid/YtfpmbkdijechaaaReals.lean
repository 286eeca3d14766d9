/-
  The contract of Reals: the reals of bits. Conditions: at most 100000, the bits fit 64.
-/
import Derived.Test.YtfpmbkdijechaaaIn64
import Derived.Deep.AppendLies
import Derived.OwnWalk
import Derived.Deep.QuietTactic
import Derived.BigQuiet
import Derived.Deep.CutRange
namespace Go.Proofs.Ytfpmbkdijechaaa
open Go.RowKit Flt

theorem infoF : (Try.prog.info? 25).map (fun i => (i.zero, i.size, i.bytes)) = some (some (.float .f64 0), 1, 8) := by kernel_rfl

set_option maxHeartbeats 800000 in
theorem reals_any (A : Option Addr) (c : Nat) (M : List Nat) (w : World) (hI : In64 w A c M) :
    Calls Try.prog 8 #[.slice A M.length c] w fun e w' => ∃ v, e = .returned v ∧ w'.ownsRow w.heap.size 25 1 v M.length (fls M) ∧ Keeps (fun _ => False) w w' := by
  obtain ⟨e0, he0, hz0, hz1, hz2⟩ := info_parts infoF
  have hcall := fun n w => call_from n w
  have hle := hI.le
  go_enter Try.func8, Try.ntmps8
  go_wp2_with fail
  go_loopw [3, 4] (fun o x wr => ∃ j : Nat, j ≤ M.length ∧ x = .int .i64 j ∧ wr.ownsRow w.heap.size 25 1 o j (fls (M.take j)) ∧ Keeps (fun _ => False) w wr) (fun _ x _ => M.length - (intOf x).toNat)
  case atStart => exact ⟨0, Nat.zero_le _, rfl, World.ownsRow_nil _ _ _ _, Keeps.refl _ _⟩
  case round =>
    obtain ⟨j, hj, rfl, hown, hkr⟩ := hrel
    have HO := Lib.hid hown
    clear hown
    by_cases hlt : j < M.length
    · obtain ⟨b, off, rfl, hb, hc, hf⟩ := (hI.keep hkr).at_ hlt
      have hsn : M.take (j + 1) = M.take j ++ [M[j]] := List.take_succ_eq_append_getElem hlt
      obtain ⟨x, hx⟩ : ∃ x, M[j] = x := ⟨_, rfl⟩
      rw [hx] at hc hsn
      have hji : (j : Int) < (M.length : Int) := by omega
      have HS := Lib.hid hsn
      clear hsn hx hf
      go_wp2_with (at_builtin; go_loud (refine wpList_append_own_at _ rfl _ _ 29 rfl w.heap.size 25 e0 (.float .f64 0) 1 8 Try.underlying29 he0 hz0 hz1 hz2 rfl (by decide) u3 j _ rfl (HO.out.alloc _) ⟨wr.heap.size, 0, none⟩ 1 1 [.float .f64 x] rfl rfl (World.news_of_block (cs := #[.float .f64 x]) (t := 25) (fr := (0, 0)) (heap_alloc_new wr _)) (by simp [Value.oneCell']) (by unfold maxLen; omega) (by omega) (by have := hkr.size; simp; omega) ?_; intro v3 w3 hown3 hgrow _ _))
      go_roundw
      case rel =>
        refine ⟨j + 1, by omega, by go_num, ?_, ?_⟩
        · rw [HS.out]
          simpa [fls] using hown3
        · exact (hkr.alloc _).grown hgrow (by intro k hk; right; exact (HO.out.lt k hk).1)
      case measure => simp [intOf]; omega
    · obtain rfl : j = M.length := by omega
      rw [List.take_of_length_le (Nat.le_refl _)] at HO
      go_wp2
      go_ret
      exact ⟨_, rfl, HO.out, hkr⟩

end Go.Proofs.Ytfpmbkdijechaaa
