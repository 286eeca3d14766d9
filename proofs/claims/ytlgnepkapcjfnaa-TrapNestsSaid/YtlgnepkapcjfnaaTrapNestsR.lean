/-
  The law TrapNests: the reference's Run, its contract. Conditions: at most 60 steps.
-/
import Derived.Test.YtlgnepkapcjfnaaTrapNestsW
import Derived.Test.YtlgnepkapcjfnaaTrapNestBack
namespace Go.Proofs.Ytlgnepkapcjfnaa.Nst
open Go.RowKit Plain

/-- A row of ints that the call owns, and what it leaves: one element more. -/
theorem own_more {w w1 : World} {B : Nat} {v v' : Value} {xs : List Int} {x : Int} (h : w1.ownsRow B 3 1 v' (xs.length + 1) (xs.map (Value.int .i64) ++ [.int .i64 x])) : w1.ownsRow B 3 1 v' (xs ++ [x]).length ((xs ++ [x]).map (Value.int .i64)) := by
  simpa using h

set_option maxHeartbeats 1600000 in
theorem run_any (A : Option Addr) (c B : Nat) (L : List (Bool × Int)) (w : World) (hn : L.length ≤ 60) (hS : Steps w B A L) (hB : B ≤ w.heap.size) :
    Calls Try.prog 10 #[.slice A L.length c] w fun e w' =>
      ∃ v, e = .returned (.tuple #[v, .int .i64 (back L).2]) ∧ w'.ownsRow w.heap.size 3 1 v (ups 0 L.length ++ (back L).1).length ((ups 0 L.length ++ (back L).1).map (Value.int .i64)) ∧ Below w.heap.size w w' := by
  obtain ⟨e0, he0, hz0, hz1, hz2⟩ := info_parts info3
  have HS := Lib.hid hS
  clear hS
  go_enter Try.func10, Try.ntmps10
  go_wp2
  go_loopw [4, 6] (fun v i wr => ∃ k : Nat, k ≤ L.length ∧ i = .int .i64 k ∧ wr.ownsRow w.heap.size 3 1 v (ups 0 k).length ((ups 0 k).map (Value.int .i64)) ∧ Below w.heap.size w wr) (fun _ i _ => L.length - (intOf i).toNat)
  case atStart => exact ⟨0, Nat.zero_le _, rfl, World.ownsRow_nil _ _ _ _, Below.refl _ _⟩
  case round =>
    obtain ⟨k, hk, rfl, hown, hbel⟩ := hrel
    by_cases hlt : k < L.length
    · have hul := ups_len 0 k
      have hbs := hbel.size
      have hown' : wr.ownsRow w.heap.size 3 1 u4 k ((ups 0 k).map (Value.int .i64)) := by rw [hul] at hown; exact hown
      have HB := Lib.hid hbel
      have HU := Lib.hid hul
      clear hbel hown hul
      go_wp2_with (at_builtin; refine wpList_append_own _ rfl _ _ 24 rfl w.heap.size 3 e0 (.int .i64 0) 1 8 Try.underlying24 he0 hz0 hz1 hz2 rfl (by decide) u4 k _ rfl (hown'.alloc _) ⟨wr.heap.size, 0, none⟩ 1 1 [.int .i64 k] rfl rfl (World.news_of_block (cs := #[.int .i64 k]) (t := 3) (fr := (0, 0)) (heap_alloc_new wr _)) (by simp [Value.oneCell']) (by unfold maxLen; omega) (by omega) (by simp; omega) ?_; intro v1 w1 hown1 hgrow _)
      go_roundw
      case rel =>
        refine ⟨k + 1, by omega, by go_num, ?_, ?_⟩
        · rw [ups_len, ups_snoc]
          simpa using hown1
        · refine (HB.out.alloc hbs _).grown hgrow (by simp; omega) (fun i hi => ?_)
          exact (hown'.lt i hi).1
      case measure => simp [intOf]; omega
    · have hke : k = L.length := by omega
      subst hke
      have HB := Lib.hid hbel
      have HO := Lib.hid hown
      clear hbel hown
      go_wp2
      go_loopw [4, 5, 7] (fun v e i wr => ∃ k : Nat, k ≤ L.length ∧ i = .int .i64 ((k : Int) - 1) ∧ e = .int .i64 (back (L.drop k)).2 ∧ wr.ownsRow w.heap.size 3 1 v (ups 0 L.length ++ (back (L.drop k)).1).length ((ups 0 L.length ++ (back (L.drop k)).1).map (Value.int .i64)) ∧ Below w.heap.size w wr) (fun _ _ i _ => (intOf i + 1).toNat)
      case atStart =>
        refine ⟨L.length, Nat.le_refl _, rfl, ?_, ?_, HB.out⟩
        · simp [back]
        · simpa [back] using HO.out
      case round =>
        obtain ⟨k, hk, hi, he, hown, hbel⟩ := hrel
        cases k with
        | zero =>
          have hi' : u7 = .int .i64 (-1) := hi
          subst hi'
          subst he
          have HB2 := Lib.hid hbel
          have HO2 := Lib.hid hown
          clear hbel hown hi
          go_wp2
          go_ret2
          exact ⟨u4, by simp, by simpa using HO2.out, HB2.out⟩
        | succ j =>
          have hi' : u7 = .int .i64 (j : Int) := by rw [hi]; congr 1; omega
          subst hi'
          obtain ⟨f, hf⟩ : ∃ f, (back (L.drop (j + 1))).2 = f := ⟨_, rfl⟩
          obtain ⟨ys, hys⟩ : ∃ ys, ups 0 L.length ++ (back (L.drop (j + 1))).1 = ys := ⟨_, rfl⟩
          obtain ⟨m, hm⟩ : ∃ m, ys.length = m := ⟨_, rfl⟩
          have hml : m ≤ 1000 := by
            have h1 := back_len (L.drop (j + 1))
            rw [← hm, ← hys]
            simp [ups_len] at h1 ⊢
            omega
          rw [hf] at he
          rw [hys, hm] at hown
          subst he
          have hjl : j < L.length := by omega
          obtain ⟨b, off, rfl, hbB, hel⟩ := HS.out (by omega)
          obtain ⟨hc0, hc1⟩ := hel j hjl
          obtain ⟨t, ht⟩ : ∃ t, L[j].1 = t := ⟨_, rfl⟩
          obtain ⟨x, hxx⟩ : ∃ x, L[j].2 = x := ⟨_, rfl⟩
          rw [ht] at hc0
          rw [hxx] at hc1
          have d0 : wr.cell? ⟨b, off + j * 2, none⟩ = some (.bool t) := (hbel.cell (p := ⟨b, off + j * 2, none⟩) (Nat.lt_of_lt_of_le hbB hB)).trans hc0
          have d1 : wr.cell? ⟨b, off + j * 2 + 1, none⟩ = some (.int .i64 x) := (hbel.cell (p := ⟨b, off + j * 2 + 1, none⟩) (Nat.lt_of_lt_of_le hbB hB)).trans hc1
          have hres : back (L.drop j) = (if t then (back (L.drop (j + 1))).1 ++ [hun (back (L.drop (j + 1))).2] else (back (L.drop (j + 1))).1, if t then x else if (back (L.drop (j + 1))).2 = 0 then x else (back (L.drop (j + 1))).2) := by
            rw [List.drop_eq_getElem_cons hjl, ← ht, ← hxx]
            generalize L[j] = q
            obtain ⟨q1, q2⟩ := q
            rfl
          rw [hf] at hres
          have HR := Lib.hid hres
          have HYS := Lib.hid hys
          have HM := Lib.hid hm
          have HB2 := Lib.hid hbel
          have hbs := hbel.size
          clear hres hys hm hbel hc0 hc1 hel ht hxx hf hi
          cases t
          · have HO2 := Lib.hid hown
            clear hown
            by_cases hf0 : f = 0
            · subst hf0
              go_wp2
              go_roundw
              case rel =>
                refine ⟨j, by omega, by go_num, by simp [HR.out], ?_, HB2.out⟩
                rw [HR.out]
                simp only [Bool.false_eq_true, if_false]
                rw [HYS.out, HM.out]
                exact HO2.out
              case measure => simp [intOf] <;> omega
            · have hfb : (f == 0) = false := by simpa using hf0
              have HF0 := Lib.hid hf0
              clear hf0
              go_wp2
              go_roundw
              case rel =>
                refine ⟨j, by omega, by go_num, by rw [HR.out]; simp [HF0.out], ?_, HB2.out⟩
                rw [HR.out]
                simp only [Bool.false_eq_true, if_false]
                rw [HYS.out, HM.out]
                exact HO2.out
              case measure => simp [intOf] <;> omega
          · have hw100 : wrap64 (100 + f) = hun f := (IntWalk.i64_left _).symm
            go_wp2_with (at_builtin; refine wpList_append_own _ rfl _ _ 24 rfl w.heap.size 3 e0 (.int .i64 0) 1 8 Try.underlying24 he0 hz0 hz1 hz2 rfl (by decide) u4 m _ rfl (hown.alloc _) ⟨wr.heap.size, 0, none⟩ 1 1 [.int .i64 (hun f)] rfl rfl (World.news_of_block (cs := #[.int .i64 (hun f)]) (t := 3) (fr := (0, 0)) (heap_alloc_new wr _)) (by simp [Value.oneCell']) (by unfold maxLen; omega) (by omega) (by simp; omega) ?_; intro v1 w1 hown1 hgrow _; have d2 : w1.cell? ⟨b, off + j * 2 + 1, none⟩ = some (.int .i64 x) := hgrow.cell (a := ⟨b, off + j * 2 + 1, none⟩) ((World.cell?_alloc_lt _ _ _ (World.block_lt_of_cell? wr _ d1)).trans d1) (fun e => by have := (hown.lt b e.symm).1; omega))
            go_roundw
            case rel =>
              refine ⟨j, by omega, by go_num, by simp [HR.out], ?_, ?_⟩
              · rw [HR.out]
                simp only [if_true]
                rw [← List.append_assoc, HYS.out]
                simp [HM.out]
                simpa using hown1
              · exact (HB2.out.alloc hbs _).grown hgrow (by simp; omega) (fun i hi => (hown.lt i hi).1)
            case measure => simp [intOf] <;> omega
end Go.Proofs.Ytlgnepkapcjfnaa.Nst
