/-
  The contract of stat.Of. Conditions: at most 1000 reals, the bits fit 64.
-/
import Derived.Test.YtfpmbkdijechaaaStatAdd
import Derived.Test.YtfpmbkdijechaaaReals
namespace Go.Proofs.Ytfpmbkdijechaaa
open Go.RowKit Flt
attribute [local go_sem] run_store_float

def zeroSt : St := ⟨0, fun _ => 0, 0, false, 0, 0⟩
/-- What is told of some reals. -/
def ofSt (M : List Nat) : St := M.foldl (fun s b => s.join (oneSt b)) zeroSt

theorem zeroSt_ok : zeroSt.Ok 0 := by
  have f0 : Fits 0 := by unfold Fits; omega
  exact ⟨⟨(by decide : (0 : Int) ≤ 0), (by decide : (0 : Int) ≤ 0)⟩, fun _ => ⟨(by decide : (0 : Int) ≤ 0), (by decide : (0 : Int) ≤ 0)⟩, ⟨(by decide : (0 : Int) ≤ 0), (by decide : (0 : Int) ≤ 0)⟩, f0, f0⟩

theorem foldSt_ok : ∀ (M : List Nat) (s : St) (N : Int), s.Ok N → (∀ x ∈ M, Fits x) → (M.foldl (fun s b => s.join (oneSt b)) s).Ok (N + M.length)
  | [], s, N, h, _ => by simpa using h
  | b :: M, s, N, h, hf => by
    have := foldSt_ok M (s.join (oneSt b)) (N + 1) (h.join (oneSt_ok (hf b (by simp)))) (fun x hx => hf x (by simp [hx]))
    have e : N + ((b :: M).length : Int) = N + 1 + (M.length : Int) := by simp; omega
    rw [e]
    exact this

theorem ofSt_ok {M : List Nat} (hf : ∀ x ∈ M, Fits x) : (ofSt M).Ok M.length := by
  have := foldSt_ok M zeroSt 0 zeroSt_ok hf
  simpa [ofSt] using this

theorem ofSt_take {M : List Nat} {j : Nat} (h : j < M.length) : ofSt (M.take (j + 1)) = (ofSt (M.take j)).join (oneSt M[j]) := by
  unfold ofSt
  rw [List.take_succ_eq_append_getElem h, List.foldl_append]
  rfl

set_option maxHeartbeats 1600000 in
theorem of_any (A : Option Addr) (c : Nat) (M : List Nat) (w : World) (hI : InF w A c M) (hl : M.length ≤ 1000) :
    Calls Try.prog 7 #[.slice A M.length c] w fun e w' => e = .returned (.agg (ofSt M).cells) ∧ Keeps (fun _ => False) w w' := by
  have hle := hI.le
  go_enter Try.func7, Try.ntmps7
  go_wp2_with fail
  go_loopw [8] (fun x wr => ∃ j : Nat, j ≤ M.length ∧ x = .int .i64 j ∧ Blk wr w.heap.size 27 zeroSt.cells ∧ Blk wr (w.heap.size + 1) 27 (ofSt (M.take j)).cells ∧ Keeps (fun _ => False) w wr) (fun x _ => M.length - (intOf x).toNat)
  case atStart =>
    have hb := Blk.new (w.alloc (Obj.cells zeroSt.cells 27)) 27 zeroSt.cells
    rw [World.size_alloc] at hb
    exact ⟨0, Nat.zero_le _, rfl, (Blk.new w _ _).alloc _, hb, ((Keeps.refl _ _).alloc _).alloc _⟩
  case round =>
    obtain ⟨j, hj, rfl, hb0, hb1, hkr⟩ := hrel
    by_cases hlt : j < M.length
    · obtain ⟨b, off, rfl, hb, hc, hf⟩ := (hI.keep hkr).at_ hlt
      have hok := ofSt_ok (M := M.take j) (fun x hx => hI.fits x (List.mem_of_mem_take hx))
      have hlen : (M.take j).length = j := by simp; omega
      rw [hlen] at hok
      have hadd := add_any hok (by omega) hf
      rw [← ofSt_take hlt] at hadd
      obtain ⟨x, hx⟩ : ∃ x, M[j] = x := ⟨_, rfl⟩
      rw [hx] at hc hadd
      have hji : (j : Int) < (M.length : Int) := by omega
      have HADD := Lib.hid hadd
      have HB0 := Lib.hid hb0
      have HB1 := Lib.hid hb1
      clear hx hf hadd hok hlen hb0 hb1
      go_wp2_with (refine wpList_load_row rfl 27 (.tmp 3) rfl _ rfl 27 _ (0, 0) _ HB1.out Try.underlying27 rfl info27 ?_)
      refine (HADD.out _).mono ?_
      rintro e w' ⟨rfl, hkw⟩
      have HB2 := Lib.hid (HB1.out.keep hkw (fun h => h))
      go_wp2_with (refine wpList_store_row rfl 27 (.tmp 3) (.tmp 14) rfl _ _ rfl rfl 27 _ HB2.out info27 rfl (statC_ones _ _ _ _ _ _) ?_)
      go_roundw
      case rel =>
        exact ⟨j + 1, by omega, by go_num, (HB0.out.keep hkw (fun h => h)).setRow_far (by omega), HB2.out.setRow, (hkr.trans hkw).setRow (.inr (by omega)) _⟩
      case measure => simp [intOf]; omega
    · obtain rfl : j = M.length := by omega
      rw [List.take_of_length_le (Nat.le_refl _)] at hb1
      have HB0 := Lib.hid hb0
      have HB1 := Lib.hid hb1
      clear hb0 hb1
      go_wp2_with (first
        | (refine wpList_load_row rfl 27 (.tmp 3) rfl _ rfl 27 _ (0, 0) _ HB1.out Try.underlying27 rfl info27 ?_)
        | (refine wpList_store_row rfl 27 (.tmp 2) (.tmp 16) rfl _ _ rfl rfl 27 _ HB0.out info27 rfl (statC_ones _ _ _ _ _ _) ?_))
      exact bodyPost_ret (results_cell_row Try.results7 _ _ _ 27 _ (0, 0) _ rfl HB0.out.setRow Try.underlying27 rfl info27) rfl ⟨rfl, hkr.setRow (.inr (Nat.le_refl _)) _⟩
end Go.Proofs.Ytfpmbkdijechaaa
