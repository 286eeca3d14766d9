/-
  The names of kinds: of the program (its table, out of the row's 'laid') and of the reference. Condition: the table's nine cells hold the names.
-/
import Derived.Test.YtfpmbkdijechaaaDoorRealLaid
import Derived.Test.YtfpmbkdijechaaaDoorKit
import Derived.StillTailTactics
import Derived.Laws.AppendOwnNone
namespace Go.Proofs.YtfpmbkdijechaaaDoor
open Go.ChangeShapes Go.WideShapes Go.RowKit

/-- A kind's name. -/
def nameOf (i : Nat) : ByteArray := match i with
  | 0 => ⟨#[109, 105, 110, 117, 115, 32, 105, 110, 102]⟩
  | 1 => ⟨#[109, 105, 110, 117, 115]⟩
  | 2 => ⟨#[109, 105, 110, 117, 115, 32, 116, 105, 110, 121]⟩
  | 3 => ⟨#[109, 105, 110, 117, 115, 32, 122, 101, 114, 111]⟩
  | 4 => ⟨#[122, 101, 114, 111]⟩
  | 5 => ⟨#[116, 105, 110, 121]⟩
  | 6 => ⟨#[112, 108, 117, 115]⟩
  | 7 => ⟨#[105, 110, 102]⟩
  | 8 => ⟨#[110, 97, 110]⟩
  | _ => ⟨#[]⟩

/-- The table's nine cells. -/
def NamedAll (w : World) : Prop := ∀ i : Nat, i < 9 → w.cell? ⟨1, i, none⟩ = some (.string (nameOf i))

theorem NamedAll.tiny {w : World} (h : NamedAll w) : Named w := h 5 (by omega)
theorem NamedAll.lt {w : World} (h : NamedAll w) : 1 < w.heap.size := World.block_lt_of_cell? w _ (h 0 (by omega))
theorem NamedAll.keep {w w' : World} (h : NamedAll w) (hk : Keeps (fun _ => False) w w') : NamedAll w' := fun i hi => by
  rw [hk.cell (p := ⟨1, i, none⟩) h.lt (fun h => h)]
  exact h i hi

theorem bytes_of_lits {s : ByteArray} {l : List UInt8} (h : s.data.toList = l) : s = ⟨l.toArray⟩ := by
  obtain ⟨⟨ls⟩⟩ := s
  simp at h
  subst h
  rfl

theorem all_of_laid {W : World} (h : laidMet Tryd.prog [("corduroy/real.names", Rows.laid_corduroy_real_names)] W) : NamedAll W := by
  obtain ⟨ps, ⟨g, t, cs, fuel, p, q, hg, ht, hvar, hd, _, _⟩, _⟩ := h
  obtain rfl := Option.some.inj (namesG.symm.trans hg)
  obtain rfl := Option.some.inj (namesT.symm.trans ht)
  have hc : ∀ i : Nat, W.cell? ⟨1, i, none⟩ = cs[i]? := fun i => World.var?_cell hg hvar i
  obtain ⟨l⟩ := cs
  cases fuel with
  | zero => simp [DataW.trod] at hd
  | succ fuel =>
    simp only [DataW.trod, Tryd.underlying55, cellsArr, cellsStr] at hd
    split at hd
    · rename_i hl
      obtain ⟨c0, c1, c2, c3, c4, c5, c6, c7, c8, rfl⟩ : ∃ c0 c1 c2 c3 c4 c5 c6 c7 c8, l = [c0, c1, c2, c3, c4, c5, c6, c7, c8] := by
        match l, hl with
        | [a, b, c, d, e, f, g, h, i], _ => exact ⟨a, b, c, d, e, f, g, h, i, rfl⟩
      have e : List.range 9 = [0, 1, 2, 3, 4, 5, 6, 7, 8] := rfl
      rw [e] at hd
      simp only [Option.map_eq_some_iff, List.mapM_cons, List.mapM_nil, Option.bind_eq_bind, Option.bind_eq_some_iff, Option.pure_def, Option.some.injEq] at hd
      obtain ⟨xs, ⟨y0, h0, _, ⟨y1, h1, _, ⟨y2, h2, _, ⟨y3, h3, _, ⟨y4, h4, _, ⟨y5, h5, _, ⟨y6, h6, _, ⟨y7, h7, _, ⟨y8, h8, _, rfl, rfl⟩, rfl⟩, rfl⟩, rfl⟩, rfl⟩, rfl⟩, rfl⟩, rfl⟩, rfl⟩, hx⟩ := hd
      obtain ⟨s0, rfl, hy0⟩ := string_of_trod Tryd.underlying9 h0
      obtain ⟨s1, rfl, hy1⟩ := string_of_trod Tryd.underlying9 h1
      obtain ⟨s2, rfl, hy2⟩ := string_of_trod Tryd.underlying9 h2
      obtain ⟨s3, rfl, hy3⟩ := string_of_trod Tryd.underlying9 h3
      obtain ⟨s4, rfl, hy4⟩ := string_of_trod Tryd.underlying9 h4
      obtain ⟨s5, rfl, hy5⟩ := string_of_trod Tryd.underlying9 h5
      obtain ⟨s6, rfl, hy6⟩ := string_of_trod Tryd.underlying9 h6
      obtain ⟨s7, rfl, hy7⟩ := string_of_trod Tryd.underlying9 h7
      obtain ⟨s8, rfl, hy8⟩ := string_of_trod Tryd.underlying9 h8
      simp [Rows.laid_corduroy_real_names] at hx
      obtain ⟨⟨z0, z1, z2, z3, z4, z5, z6, z7, z8⟩, _⟩ := hx
      rw [hy0] at z0
      rw [hy1] at z1
      rw [hy2] at z2
      rw [hy3] at z3
      rw [hy4] at z4
      rw [hy5] at z5
      rw [hy6] at z6
      rw [hy7] at z7
      rw [hy8] at z8
      intro i hi
      rw [hc i]
      match i, hi with
      | 0, _ => exact congrArg (fun s => some (Value.string s)) (bytes_of_lits (by simpa using z0))
      | 1, _ => exact congrArg (fun s => some (Value.string s)) (bytes_of_lits (by simpa using z1))
      | 2, _ => exact congrArg (fun s => some (Value.string s)) (bytes_of_lits (by simpa using z2))
      | 3, _ => exact congrArg (fun s => some (Value.string s)) (bytes_of_lits (by simpa using z3))
      | 4, _ => exact congrArg (fun s => some (Value.string s)) (bytes_of_lits (by simpa using z4))
      | 5, _ => exact congrArg (fun s => some (Value.string s)) (bytes_of_lits (by simpa using z5))
      | 6, _ => exact congrArg (fun s => some (Value.string s)) (bytes_of_lits (by simpa using z6))
      | 7, _ => exact congrArg (fun s => some (Value.string s)) (bytes_of_lits (by simpa using z7))
      | 8, _ => exact congrArg (fun s => some (Value.string s)) (bytes_of_lits (by simpa using z8))
      | n + 9, h => exact absurd h (by omega)
    · cases hd

theorem name_in (i : Nat) (hi : i < 9) (w : World) (h : NamedAll w) : Calls Tryd.prog 26 #[.int .i64 i] w fun e w' => e = .returned (.string (nameOf i)) ∧ w = w' := by
  have h' := h i hi
  have hle : (i : Int) ≤ 8 := by omega
  clear h
  go_enter Tryd.func26, Tryd.ntmps26
  go_wp2
  go_ret
  exact ⟨rfl, rfl⟩

theorem name_out (v : Int) (hv : v < 0 ∨ 8 < v) (w : World) : Calls Tryd.prog 26 #[.int .i64 v] w fun e w' => e = .returned (.string ByteArray.empty) ∧ w = w' := by
  rcases hv with hv | hv
  · go_enter Tryd.func26, Tryd.ntmps26
    go_wp2
    go_ret
    exact ⟨rfl, rfl⟩
  · go_enter Tryd.func26, Tryd.ntmps26
    go_wp2
    go_ret
    exact ⟨rfl, rfl⟩


theorem refNames_any (w : World) : Calls Tryd.prog 21 #[] w fun e w' => e = .returned (.slice (some ⟨w.heap.size, 0, none⟩) 9 9) ∧ (∀ i : Nat, i < 9 → w'.cell? ⟨w.heap.size, i, none⟩ = some (.string (nameOf i))) ∧ Keeps (fun _ => False) w w' := by
  go_enter Tryd.func21, Tryd.ntmps21
  go_wp2
  go_ret
  refine ⟨rfl, ?_, ?_⟩
  · intro i hi
    unfold World.cell?
    rw [heap_alloc_new]
    match i, hi with
    | 0, _ => rfl
    | 1, _ => rfl
    | 2, _ => rfl
    | 3, _ => rfl
    | 4, _ => rfl
    | 5, _ => rfl
    | 6, _ => rfl
    | 7, _ => rfl
    | 8, _ => rfl
    | n + 9, h => exact absurd h (by omega)
  · exact (Keeps.refl _ _).alloc _
end Go.Proofs.YtfpmbkdijechaaaDoor
