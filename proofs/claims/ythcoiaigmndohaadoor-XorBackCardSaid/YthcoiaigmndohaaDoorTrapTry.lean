/-
  The contracts of trap.Try, by what the function that it is handed does: it returns; it throws an error; it panics with a string. Conditions: what it does is known as a contract.
-/
import Derived.Test.YthcoiaigmndohaaDoorTrapBase
namespace Go.Proofs.YthcoiaigmndohaaDoor
open Go.RowKit

/-- The variable that holds Try's result. -/
def tryCell : Obj := .cells #[.int .i64 0] 24

theorem settle_recovered (v : Value) (older : List PanicEntry) (ho : older.all (fun p => !p.goexit) = true) : settle (.panicking ({ v := v, recovered := true } :: older)) = .returning := by
  have h : older.dropWhile (!·.goexit) = [] := by
    clear v
    induction older with
    | nil => rfl
    | cons p r ih =>
      simp only [List.all_cons, Bool.and_eq_true] at ho
      rw [List.dropWhile_cons, if_pos (by simpa using ho.1)]
      exact ih ho.2
  simp [settle, h]

theorem try_returns (K : FuncId) (cap : Array Value) (hK : ∀ w, (callFunc K cap).run Tryd.prog w = .ok (.enter K cap) w) (w : World) (Q : World → Prop)
    (h : Calls Tryd.prog K cap (w.alloc (.cells #[.int .i64 0] 24)) fun e w' => e = .returned (.tuple #[]) ∧ Q w')
    (hQ : ∀ w', Q w' → (∃ y, w'.cell? ⟨w.heap.size, 0, none⟩ = some (.int .i64 y)) ∧ w'.frozen? ⟨w.heap.size, 0, none⟩ = false) :
    Calls Tryd.prog 36 #[.func (.func K) #[] cap] w fun e w' => e = .returned (.int .i64 0) ∧ ∃ w2, Q w2 ∧ w' = w2.setCell ⟨w.heap.size, 0, none⟩ (.int .i64 0) := by
  have hmf : ∀ (fn : Fn) (first cap : Array Value) (w : World), (Instr.makeFunc fn first cap).run Tryd.prog w = .ok (.func fn first cap) w := fun _ _ _ _ => rfl
  have HQ := Lib.hid hQ
  clear hQ
  go_enter_defers Tryd.func36, Tryd.ntmps36
  go_wp2_with fail
  refine h.mono ?_
  rintro e w2 ⟨rfl, hq⟩
  obtain ⟨⟨y, hy⟩, hz⟩ := HQ.out w2 hq
  go_wp2
  refine leaves_cons (f := 45) (args := #[.pointer (some ⟨w.heap.size, 0, none⟩)]) (by simp) (by simp [go_sem]) ?_
  refine (catch_idle ⟨w.heap.size, 0, none⟩ _).mono ?_
  rintro e u' w'' ⟨rfl, rfl, rfl⟩
  have hc : (w2.setCell ⟨w.heap.size, 0, none⟩ (.int .i64 0)).cell? ⟨w.heap.size, 0, none⟩ = some (.int .i64 0) := World.cell?_setCell_same _ _ _ hy
  simp [Leaves, settle, results, Tryd.results36, go_sem, hc]
  exact ⟨w2, hq, rfl⟩

theorem try_throws (x : Int) (older : List PanicEntry) (ho : older.all (fun p => !p.goexit) = true) (K : FuncId) (cap : Array Value) (hK : ∀ w, (callFunc K cap).run Tryd.prog w = .ok (.enter K cap) w) (w : World) (Q : World → Prop)
    (h : Calls Tryd.prog K cap (w.alloc (.cells #[.int .i64 0] 24)) fun e w' => e = .panicked ({ v := thrownV x, recovered := false } :: older) ∧ Q w')
    (hQ : ∀ w', Q w' → (∃ y, w'.cell? ⟨w.heap.size, 0, none⟩ = some (.int .i64 y)) ∧ w'.frozen? ⟨w.heap.size, 0, none⟩ = false) :
    Calls Tryd.prog 36 #[.func (.func K) #[] cap] w fun e w' => e = .returned (.int .i64 x) ∧ ∃ w2, Q w2 ∧ w' = (w2.alloc (.cells #[.int .i64 x] 89)).setCell ⟨w.heap.size, 0, none⟩ (.int .i64 x) := by
  have hmf : ∀ (fn : Fn) (first cap : Array Value) (w : World), (Instr.makeFunc fn first cap).run Tryd.prog w = .ok (.func fn first cap) w := fun _ _ _ _ => rfl
  have HQ := Lib.hid hQ
  have HO := Lib.hid ho
  clear hQ ho
  go_enter_defers Tryd.func36, Tryd.ntmps36
  go_wp2_with fail
  refine h.mono ?_
  rintro e w2 ⟨rfl, hq⟩
  obtain ⟨⟨y, hy⟩, hz⟩ := HQ.out w2 hq
  go_wp2
  refine leaves_cons (f := 45) (args := #[.pointer (some ⟨w.heap.size, 0, none⟩)]) (by simp) (by simp [go_sem]) ?_
  refine (catch_thrown ⟨w.heap.size, 0, none⟩ x y older _ hy hz).mono ?_
  rintro e u' w'' ⟨rfl, rfl, rfl⟩
  have hlt : w.heap.size < w2.heap.size := by
    rcases Nat.lt_or_ge w.heap.size w2.heap.size with h | h
    · exact h
    · simp [World.cell?, Array.getElem?_eq_none h] at hy
  have hy' : (w2.alloc (.cells #[.int .i64 x] 89)).cell? ⟨w.heap.size, 0, none⟩ = some (.int .i64 y) := by rw [World.cell?_alloc_lt _ _ _ hlt]; exact hy
  have hc : ((w2.alloc (.cells #[.int .i64 x] 89)).setCell ⟨w.heap.size, 0, none⟩ (.int .i64 x)).cell? ⟨w.heap.size, 0, none⟩ = some (.int .i64 x) := World.cell?_setCell_same _ _ _ hy'
  have hs := settle_recovered (thrownV x) older HO.out
  simp only [hs]
  simp [Leaves, results, Tryd.results36, go_sem, hc]
  exact ⟨w2, hq, rfl⟩

theorem try_panics (s : ByteArray) (older : List PanicEntry) (K : FuncId) (cap : Array Value) (hK : ∀ w, (callFunc K cap).run Tryd.prog w = .ok (.enter K cap) w) (w : World) (Q : World → Prop)
    (h : Calls Tryd.prog K cap (w.alloc (.cells #[.int .i64 0] 24)) fun e w' => e = .panicked ({ v := .iface 9 (.string s), recovered := false } :: older) ∧ Q w') :
    Calls Tryd.prog 36 #[.func (.func K) #[] cap] w fun e w' => e = .panicked ({ v := .iface 9 (.string s), recovered := false } :: { v := .iface 9 (.string s), recovered := true } :: older) ∧ ∃ w2, Q w2 ∧ w' = w2.alloc (.cells #[.int .i64 0] 89) := by
  have hmf : ∀ (fn : Fn) (first cap : Array Value) (w : World), (Instr.makeFunc fn first cap).run Tryd.prog w = .ok (.func fn first cap) w := fun _ _ _ _ => rfl
  go_enter_defers Tryd.func36, Tryd.ntmps36
  go_wp2_with fail
  refine h.mono ?_
  rintro e w2 ⟨rfl, hq⟩
  go_wp2
  refine leaves_cons (f := 45) (args := #[.pointer (some ⟨w.heap.size, 0, none⟩)]) (by simp) (by simp [go_sem]) ?_
  refine (catch_string ⟨w.heap.size, 0, none⟩ s older _).mono ?_
  rintro e u' w'' ⟨rfl, rfl, rfl⟩
  exact ⟨rfl, w2, hq, rfl⟩
end Go.Proofs.YthcoiaigmndohaaDoor
