/-
  The counter as a sink; the contracts of plain.Block and xor.Size. Conditions: at most 1100 reals, the bits fit 64; the table of TrailingZeros64 is in its variable.
-/
import Derived.Test.YthcoiaigmndohaaDoorXorWrite
namespace Go.Proofs.YthcoiaigmndohaaDoor
open Go.RowKit BitM

theorem count_put (p B0 : Nat) (hp : B0 ≤ p) (x k n : Nat) (hk : k ≤ 64) (hn : n ≤ 100000) (w : World) (hb : Blk w p 69 #[.int .i64 n]) :
    Calls Tryd.prog 70 #[.pointer (some ⟨p, 0, none⟩), .int .u64 x, .int .i64 k] w fun e w' => e = .returned (.int .i64 0) ∧ Blk w' p 69 #[.int .i64 ((n + k : Nat) : Int)] ∧ Step B0 w w' := by
  have c0 : w.cell? ⟨p, 0, none⟩ = some (.int .i64 n) := hb.cell 0
  have f0 : w.frozen? ⟨p, 0, none⟩ = false := hb.frozen 0
  have HW := Lib.hid (show wrap64 ((n : Int) + (k : Int)) = ((n + k : Nat) : Int) from by unfold wrap64; omega)
  have HB := Lib.hid hb
  clear hb hk hn
  go_enter Tryd.func70, Tryd.ntmps70
  go_wp2
  go_ret
  refine ⟨rfl, ?_, ⟨(Keeps.refl _ _).setCell (p := ⟨p, 0, none⟩) (.inl hp) _, fun g cs hg => hg.far (hg.ne_ HB.out (by decide)) _⟩⟩
  have := HB.out.set_ 0 (.int .i64 (wrap64 ((n : Int) + (k : Int))))
  rw [HW.out] at this ⊢
  exact this

theorem count_sink (p B0 : Nat) (hp : B0 ≤ p) : Sink 67 70 (.pointer (some ⟨p, 0, none⟩)) B0 (fun w b => Blk w p 69 #[.int .i64 (b.length : Nat)]) where
  meth := fun w => by kernel_rfl
  ahead := fun w => by kernel_rfl
  call := fun x k w => by kernel_rfl
  keep := fun w w' b h hk => h.keep hk (fun h => h)
  row := fun w g cs cs' b h hg => h.setRow_far (Ne.symm (hg.ne_ h (by decide)))
  put := fun x k w b h _ hk hl => (count_put p B0 hp x k b.length hk hl w h).mono fun e w' ⟨he, hb, hs⟩ => ⟨he, by rw [List.length_append, bitsL_len]; exact hb, hs⟩

def blockOk (n : Nat) : Bool := decide (1 ≤ n) && decide (n ≤ 1024)

theorem block_any (n : Nat) (w : World) : Calls Tryd.prog 18 #[.int .i64 n] w fun e w' => e = .returned (.bool (blockOk n)) ∧ w = w' := by
  unfold blockOk
  by_cases h : 1 ≤ n
  · have hi : (1 : Int) ≤ (n : Int) := by omega
    go_enter Tryd.func18, Tryd.ntmps18
    go_wp2
    go_ret
    refine ⟨congrArg (fun b => Ending.returned (.bool b)) ?_, rfl⟩
    rw [decide_eq_true h]
    rw [Bool.eq_iff_iff]
    simp
    try omega
  · have hi : ¬ (1 : Int) ≤ (n : Int) := by omega
    go_enter Tryd.func18, Tryd.ntmps18
    go_wp2
    go_ret
    refine ⟨congrArg (fun b => Ending.returned (.bool b)) ?_, rfl⟩
    first | rfl | (rw [decide_eq_false h]; rfl) | simp [h]

/-- A block's size. -/
def sizeOf (M : List Nat) : Nat := if blockOk M.length then ((blockB M).length + 7) / 8 else 0

theorem keeps_new {w w' : World} (h : Keeps (fun k => w.heap.size ≤ k) w w') : Keeps (fun _ => False) w w' :=
  ⟨h.os, h.tape, h.output, h.size, fun k hk _ => h.block k hk (by omega)⟩

theorem blockB_len {M : List Nat} (hf : ∀ x ∈ M, Fits x) : (blockB M).length ≤ 64 + 77 * M.length := by
  have h : ∀ (M : List Nat) (last : Nat) (v : Win), Fits last → (∀ x ∈ M, Fits x) → (restB last v M).length ≤ 77 * M.length := by
    intro M
    induction M with
    | nil => intro last v _ _; simp [restB]
    | cons x M ih =>
      intro last v hl hf
      have hx := hf x (by simp)
      have h1 := (nextB_len (x := x ^^^ last) (v := v) (xor_u64 hx hl).2).2
      have h2 := ih x (nextW (x ^^^ last) v) hx (fun y hy => hf y (by simp [hy]))
      simp only [restB, List.length_append, List.length_cons]
      omega
  cases M with
  | nil => simp [blockB]
  | cons x M =>
    have := h M x ⟨0, 0, false⟩ (hf x (by simp)) (fun y hy => hf y (by simp [hy]))
    simp only [blockB, List.length_append, bitsL_len, List.length_cons]
    omega

set_option maxRecDepth 100000 in
set_option maxHeartbeats 1600000 in
theorem size_any (A : Option Addr) (c : Nat) (M : List Nat) (w : World) (hF : InFB w.heap.size w A c M) (hm : M.length ≤ 1100) (hlc : M.length ≤ c) (hcm : c ≤ maxLen) (hBg : 1 < w.heap.size) (hT : Tab w) :
    Calls Tryd.prog 16 #[.slice A M.length c] w fun e w' => e = .returned (.int .i64 (sizeOf M : Nat)) ∧ Keeps (fun _ => False) w w' := by
  unfold sizeOf
  cases hb : blockOk M.length with
  | false =>
    have HBK := Lib.hid hb
    clear hb
    go_enter Tryd.func16, Tryd.ntmps16
    go_wp2_with fail
    refine (block_any M.length _).mono ?_
    rw [HBK.out]
    rintro e w' ⟨rfl, rfl⟩
    go_wp2
    go_ret
    exact ⟨rfl, Keeps.refl _ _⟩
  | true =>
    have h1 : 1 ≤ M.length := by
      unfold blockOk at hb
      simp only [Bool.and_eq_true, decide_eq_true_eq] at hb
      exact hb.1
    have hk0 : Keeps (fun _ => False) w (w.alloc (.cells #[.int .i64 0] 69)) := (Keeps.refl _ _).alloc _
    have hwr := write_any (count_sink w.heap.size w.heap.size (Nat.le_refl _)) A c M h1 hm hlc hcm (w.alloc (.cells #[.int .i64 0] 69)) (Blk.new w _ _) (hF.keep (hk0.mono (fun _ h => h.elim)) (Nat.le_refl _)) (by simp) hBg (hT.keep hk0)
    have hlen := blockB_len hF.fits
    obtain ⟨L, hL⟩ : ∃ L, (blockB M).length = L := ⟨_, rfl⟩
    rw [hL] at hwr hlen ⊢
    have HQ := Lib.hid (show wrap64 ((wrap64 (wrap64 ((L : Int) + 8) - 1)).tdiv 8) = (((L + 7) / 8 : Nat) : Int) from by
      have e1 : wrap64 (wrap64 ((L : Int) + 8) - 1) = (L : Int) + 7 := by unfold wrap64; omega
      rw [e1, Int.tdiv_eq_ediv_of_nonneg (by omega)]
      unfold wrap64; omega)
    have HWR := Lib.hid hwr
    have HBK := Lib.hid hb
    have HK0 := Lib.hid hk0
    clear hwr hb hlen hL hk0
    go_enter Tryd.func16, Tryd.ntmps16
    go_wp2_with fail
    refine (block_any M.length _).mono ?_
    rw [HBK.out]
    rintro e w' ⟨rfl, rfl⟩
    go_wp2_with fail
    refine HWR.out.mono ?_
    rintro r w1 ⟨rfl, hb1, hs1⟩
    have c0 : w1.cell? ⟨w.heap.size, 0, none⟩ = some (.int .i64 L) := hb1.cell 0
    have hkw := keeps_new ((HK0.out.mono (fun _ h => h.elim)).trans hs1.keeps)
    clear hb1 hs1
    go_wp2
    go_ret
    exact ⟨congrArg (fun z => Ending.returned (.int .i64 z)) HQ.out, hkw⟩
end Go.Proofs.YthcoiaigmndohaaDoor
