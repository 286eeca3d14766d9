/-
  Two arrays of nine numbers are the same. No conditions.
-/
import Derived.Test.YtfpmbkdijechaaaStatMem
import Derived.DeepKeys
namespace Go.Proofs.Ytfpmbkdijechaaa
open Go.RowKit Flt

theorem kinds_formed (k : Nat → Int) : (Value.agg #[.int .i64 (k 0), .int .i64 (k 1), .int .i64 (k 2), .int .i64 (k 3), .int .i64 (k 4), .int .i64 (k 5), .int .i64 (k 6), .int .i64 (k 7), .int .i64 (k 8)]).formed Try.prog 24 = true := by kernel_rfl
theorem cells24 : Try.prog.cellsOf 24 = 9 := by kernel_rfl
theorem cells3 : Try.prog.cellsOf 3 = 1 := by kernel_rfl
theorem kinds_lits (k : Nat → Int) (hk : ∀ i, (Lit.int .i64 (k i)).wf = true) : Try.prog.keyLits 2 24 [.int .i64 (k 0), .int .i64 (k 1), .int .i64 (k 2), .int .i64 (k 3), .int .i64 (k 4), .int .i64 (k 5), .int .i64 (k 6), .int .i64 (k 7), .int .i64 (k 8)] = some [.int .i64 (k 0), .int .i64 (k 1), .int .i64 (k 2), .int .i64 (k 3), .int .i64 (k 4), .int .i64 (k 5), .int .i64 (k 6), .int .i64 (k 7), .int .i64 (k 8)] := by
  have e : List.range 9 = [0, 1, 2, 3, 4, 5, 6, 7, 8] := rfl
  simp [Program.keyLits, Try.underlying24, Try.underlying3, cells24, cells3, e, hk]
theorem kinds_eq (k : Nat → Int) (hk : ∀ i, (Lit.int .i64 (k i)).wf = true) (w : World) : (binOp .eql 24 (.agg #[.int .i64 (k 0), .int .i64 (k 1), .int .i64 (k 2), .int .i64 (k 3), .int .i64 (k 4), .int .i64 (k 5), .int .i64 (k 6), .int .i64 (k 7), .int .i64 (k 8)]) (.agg #[.int .i64 (k 0), .int .i64 (k 1), .int .i64 (k 2), .int .i64 (k 3), .int .i64 (k 4), .int .i64 (k 5), .int .i64 (k 6), .int .i64 (k 7), .int .i64 (k 8)])).run Try.prog w = .ok (.bool true) w := by
  obtain ⟨r, hr, hi⟩ := run_equalIn_deep (P := Try.prog) 9998 2 24 (by kernel_rfl) w 2 2 _ _ _ _ (kinds_formed k) (kinds_formed k) (kinds_lits k hk) (kinds_lits k hk)
  have hrt : r = true := hi.2 rfl
  subst hrt
  rw [run_eql_struct, hr]
  rfl
end Go.Proofs.Ytfpmbkdijechaaa
