/-
  Slices of bits; the contract of Reals; append of a slice of bits to one of the call's own. Conditions: at most 100000, the bits fit 64.
-/
import Derived.Test.YthcoiaigmndohaaDoorXorReal
import Derived.Deep.AppendLies
import Derived.Laws.AppendOwnNone
import Derived.OwnWalk
import Derived.Deep.QuietTactic
import Derived.BigQuiet
import Derived.Deep.CutRange
namespace Go.Proofs.YthcoiaigmndohaaDoor
open Go.RowKit

/-- A slice of bits of reals: its address, its capacity. -/
structure In64 (w : World) (A : Option Addr) (c : Nat) (M : List Nat) : Prop where
  row : Row w w.heap.size A M.length (M.map (fun x : Nat => Value.int .u64 x))
  cap : A = none → c = 0
  le : M.length ≤ 100000
  fits : ∀ x ∈ M, Fits x

theorem In64.keep {w w' : World} {A : Option Addr} {c : Nat} {M : List Nat} (h : In64 w A c M) (hb : Keeps (fun _ => False) w w') : In64 w' A c M :=
  ⟨(h.row.keep hb (Nat.le_refl _) (fun _ _ h => h)).mono hb.size, h.cap, h.le, h.fits⟩

theorem In64.at_ {w : World} {A : Option Addr} {c : Nat} {M : List Nat} (h : In64 w A c M) {j : Nat} (hj : j < M.length) : ∃ b off, A = some ⟨b, off, none⟩ ∧ b < w.heap.size ∧ w.cell? ⟨b, off + j, none⟩ = some (.int .u64 (M[j] : Nat)) ∧ Fits M[j] := by
  obtain ⟨b, off, u, rfl, hb, hx, hc⟩ := h.row.at_ hj
  have : u = .int .u64 (M[j] : Nat) := by
    rw [List.getElem?_map, List.getElem?_eq_getElem hj] at hx
    injection hx with hx
    exact hx.symm
  exact ⟨b, off, rfl, hb, this ▸ hc, h.fits _ (List.getElem_mem hj)⟩

theorem infoF : (Tryd.prog.info? 53).map (fun i => (i.zero, i.size, i.bytes)) = some (some (.float .f64 0), 1, 8) := by kernel_rfl

set_option maxHeartbeats 800000 in
theorem reals_any (A : Option Addr) (c : Nat) (M : List Nat) (w : World) (hI : In64 w A c M) :
    Calls Tryd.prog 14 #[.slice A M.length c] w fun e w' => ∃ v, e = .returned v ∧ w'.ownsRow w.heap.size 53 1 v M.length (fls M) ∧ Keeps (fun _ => False) w w' := by
  obtain ⟨e0, he0, hz0, hz1, hz2⟩ := info_parts infoF
  have hcall := fun n w => call_from n w
  have hle := hI.le
  go_enter Tryd.func14, Tryd.ntmps14
  go_wp2_with fail
  go_loopw [3, 4] (fun o x wr => ∃ j : Nat, j ≤ M.length ∧ x = .int .i64 j ∧ wr.ownsRow w.heap.size 53 1 o j (fls (M.take j)) ∧ Keeps (fun _ => False) w wr) (fun _ x _ => M.length - (intOf x).toNat)
  case atStart => exact ⟨0, Nat.zero_le _, rfl, World.ownsRow_nil _ _ _ _, Keeps.refl _ _⟩
  case round =>
    obtain ⟨j, hj, rfl, hown, hkr⟩ := hrel
    have HO := Lib.hid hown
    clear hown
    by_cases hlt : j < M.length
    · obtain ⟨b, off, rfl, hb, hc, hf⟩ := (hI.keep hkr).at_ hlt
      have hsn : M.take (j + 1) = M.take j ++ [M[j]] := List.take_succ_eq_append_getElem hlt
      obtain ⟨x, hx⟩ : ∃ x, M[j] = x := ⟨_, rfl⟩
      rw [hx] at hc hsn
      have hji : (j : Int) < (M.length : Int) := by omega
      have HS := Lib.hid hsn
      clear hsn hx hf
      go_wp2_with (at_builtin; go_loud (refine wpList_append_own_at _ rfl _ _ 23 rfl w.heap.size 53 e0 (.float .f64 0) 1 8 Tryd.underlying23 he0 hz0 hz1 hz2 rfl (by decide) u3 j _ rfl (HO.out.alloc _) ⟨wr.heap.size, 0, none⟩ 1 1 [.float .f64 x] rfl rfl (World.news_of_block (cs := #[.float .f64 x]) (t := 53) (fr := (0, 0)) (heap_alloc_new wr _)) (by simp [Value.oneCell']) (by unfold maxLen; omega) (by omega) (by have := hkr.size; simp; omega) ?_; intro v3 w3 hown3 hgrow _ _))
      go_roundw
      case rel =>
        refine ⟨j + 1, by omega, by go_num, ?_, ?_⟩
        · rw [HS.out]
          simpa [fls] using hown3
        · exact (hkr.alloc _).grown hgrow (by intro k hk; right; exact (HO.out.lt k hk).1)
      case measure => simp [intOf]; omega
    · obtain rfl : j = M.length := by omega
      rw [List.take_of_length_le (Nat.le_refl _)] at HO
      go_wp2
      go_ret
      exact ⟨_, rfl, HO.out, hkr⟩

def u64s (M : List Nat) : List Value := M.map (fun x : Nat => Value.int .u64 x)

theorem info64 : (Tryd.prog.info? 41).map (fun i => (i.zero, i.size, i.bytes)) = some (some (.int .u64 0), 1, 8) := by kernel_rfl

theorem u64s_ones (M : List Nat) : ∀ u ∈ u64s M, u.oneCell' = true := by
  intro u hu
  obtain ⟨x, _, rfl⟩ := List.mem_map.1 hu
  rfl

theorem In64.of_own {w : World} {B : Nat} {v : Value} {M : List Nat} (h : w.ownsRow B 41 1 v M.length (u64s M)) (hl : M.length ≤ 100000) (hf : ∀ x ∈ M, Fits x) : ∃ A c, v = .slice A M.length c ∧ In64 w A c M := by
  rcases h.2 with ⟨rfl, hx⟩ | ⟨g, cap, cur, rfl, _⟩
  · have hL : M = [] := by simpa using hx
    subst hL
    exact ⟨none, 0, rfl, ⟨⟨rfl, fun hn => by simp at hn⟩, fun _ => rfl, hl, hf⟩⟩
  · exact ⟨_, _, rfl, ⟨Row.of_own h, fun h => (nomatch h), hl, hf⟩⟩

theorem wpList_append_in {w : World} {ops : Array Oper} {rest : List Oper} {o : Oper} {a : Act} {Q : Exit → Act → World → Prop} (hgd : o.guard = none) (s x : Operand)
    (ho : o.op = .call { callee := .builtin .append, args := #[s, x], argTypes := #[27, 27] })
    (base : Nat) (v : Value) (n : Nat) (xs : List Value) (hs : a.eval s = v) (hown : w.ownsRow base 41 1 v n xs)
    (A : Option Addr) (c : Nat) (M : List Nat) (hx : a.eval x = .slice A M.length c) (hI : In64 w A c M) (hn : n + M.length ≤ 1000000) (hbase : base ≤ w.heap.size)
    (h : ∀ v' w', w'.ownsRow base 41 1 v' (n + M.length) (xs ++ u64s M) → w.grownBy w' v.ownBlock → wpList Tryd.prog ops Q rest (a.put o.dst v') w') :
    wpList Tryd.prog ops Q (o :: rest) a w := by
  obtain ⟨e0, he0, hz0, hz1, hz2⟩ := info_parts info64
  cases A with
  | none =>
    have hc0 := hI.cap rfl
    have hM : M = [] := by
      by_cases hM : M.length = 0
      · exact List.eq_nil_of_length_eq_zero hM
      · obtain ⟨b, off, _, hA, _⟩ := hI.row.at_ (j := 0) (by omega)
        cases hA
    subst hM
    subst hc0
    refine wpList_append_own_none hgd s x 27 ho base 41 e0 1 Tryd.underlying27 he0 v n xs hs hown hx ?_
    have := h v w (by simpa [u64s] using hown) (World.grownBy.refl _ _)
    exact this
  | some ad =>
    refine wpList_append_own_at w hgd s x 27 ho base 41 e0 (.int .u64 0) 1 8 Tryd.underlying27 he0 hz0 hz1 hz2 rfl (by decide) v n xs hs hown ad M.length c (u64s M) hx (by simp [u64s]) ?_ (u64s_ones M) (by unfold maxLen; omega) (by omega) hbase ?_
    · intro j u hu
      have hj : j < M.length := by
        have := (List.getElem?_eq_some_iff.1 hu).1
        simpa [u64s] using this
      obtain ⟨b, off, u', hA, _, hxu, hcu⟩ := hI.row.at_ hj
      cases hA
      have : u = u' := by
        have h2 : (u64s M)[j]? = some u' := hxu
        rw [hu] at h2
        injection h2
      rw [this]
      have e : (⟨b, off, none⟩ : Addr).add j = ⟨b, off + j, none⟩ := by
        unfold Addr.add
        split <;> simp_all
      rw [e]
      exact hcu
    · intro v' w' hown' hgrow _ _
      exact h v' w' hown' hgrow

theorem InFB.of_own {w : World} {B : Nat} {v : Value} {M : List Nat} (h : w.ownsRow B 53 1 v M.length (fls M)) (h1 : 1 ≤ M.length) (hl : M.length ≤ 100000) (hf : ∀ x ∈ M, Fits x) : ∃ A c, v = .slice A M.length c ∧ M.length ≤ c ∧ c ≤ maxLen ∧ InFB w.heap.size w A c M := by
  rcases h.2 with ⟨rfl, hx⟩ | ⟨g, cap, cur, rfl, hb, hg, hge, hcm, r⟩
  · have hL : M = [] := by simpa using hx
    subst hL
    simp at h1
  · exact ⟨_, _, rfl, hge, hcm, ⟨Row.of_own h, hl, hf⟩⟩
end Go.Proofs.YthcoiaigmndohaaDoor
