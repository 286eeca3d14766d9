/-
  The contracts of package real (bits and ranks) and of what it calls in package math, by the bits of a real. Conditions: the bits fit 64.
-/
import Derived.Test.YtfpmbkdijechaaaDoorRows
import Derived.Test.YtfpmbkdijechaaaDoorFlt
import Derived.Test.YtfpmbkdijechaaaDoorBitsPlain
import Derived.WalkKit
import Derived.WalkLawsBesides
import Derived.Lib.Hide
import Derived.Handy
namespace Go.Proofs.YtfpmbkdijechaaaDoor
open Go.RowKit

theorem call_bits (b : Nat) (w : World) : (callFunc 18 #[.float .f64 b]).run Tryd.prog w = .ok (.value (.int .u64 b)) w := by kernel_rfl
theorem call_from (n : Int) (w : World) : (callFunc 9 #[.int .u64 n]).run Tryd.prog w = .ok (.value (.float .f64 n.toNat)) w := by kernel_rfl

/-- Is the sign turned? -/
def sgnB (b : Nat) : Bool := decide (9223372036854775808 ≤ b)
/-- All bits but the sign. -/
def absB (b : Nat) : Nat := b % 9223372036854775808

theorem ret_int {k : IntKind} {a b : Int} (h : a = b) : Ending.returned (.int k a) = .returned (.int k b) := by rw [h]
theorem ret_bool {a b : Bool} (h : a = b) : Ending.returned (.bool a) = .returned (.bool b) := by rw [h]
theorem ret_float {a b : Nat} (h : a = b) : Ending.returned (.float .f64 a) = .returned (.float .f64 b) := by rw [h]

/-- It fits 64 bits. -/
def Fits (b : Nat) : Prop := b < 18446744073709551616

theorem bits_any (b : Nat) (h : Fits b) (w : World) : Calls Tryd.prog 24 #[.float .f64 b] w fun e w' => e = .returned (.int .i64 (ibits b)) ∧ w = w' := by
  have hb := fun w : World => call_bits b w
  go_enter Tryd.func24, Tryd.ntmps24
  go_wp2
  go_ret
  exact ⟨ret_int (wrap64_bits h), rfl⟩

/-- It fits 64 bits with a sign. -/
def FitsI (v : Int) : Prop := -9223372036854775808 ≤ v ∧ v ≤ 9223372036854775807

theorem turned_any (v : Int) (h : FitsI v) (w : World) : Calls Tryd.prog 28 #[.int .i64 v] w fun e w' => e = .returned (.int .i64 (turn v)) ∧ w = w' := by
  go_enter Tryd.func28, Tryd.ntmps28
  go_wp2
  go_ret
  exact ⟨ret_int (bits_turn h.1 h.2), rfl⟩

theorem signbit_any (b : Nat) (h : Fits b) (w : World) : Calls Tryd.prog 29 #[.float .f64 b] w fun e w' => e = .returned (.bool (sgnB b)) ∧ w = w' := by
  have hb := fun w : World => call_bits b w
  go_enter Tryd.func29, Tryd.ntmps29
  go_wp2
  go_ret
  exact ⟨ret_bool (neg_dec h), rfl⟩

theorem abs_any (b : Nat) (h : Fits b) (w : World) : Calls Tryd.prog 30 #[.float .f64 b] w fun e w' => e = .returned (.float .f64 (absB b)) ∧ w = w' := by
  have hb := fun w : World => call_bits b w
  have hf := fun n w => call_from n w
  go_enter Tryd.func30, Tryd.ntmps30
  go_wp2
  go_ret
  exact ⟨ret_float (bits_abs h), rfl⟩

theorem rank_any (b : Nat) (h : Fits b) (w : World) : Calls Tryd.prog 10 #[.float .f64 b] w fun e w' => e = .returned (.int .i64 (rank b)) ∧ w = w' := by
  have ht := turn_ibits h
  have hr := ibits_range h
  have HT := Lib.hid ht
  clear ht
  go_enter Tryd.func10, Tryd.ntmps10
  go_wp2_with fail
  refine (bits_any b h _).mono ?_
  rintro e w' ⟨rfl, rfl⟩
  go_wp2_with fail
  refine (turned_any _ hr _).mono ?_
  rintro e w' ⟨rfl, rfl⟩
  go_wp2
  go_ret
  exact ⟨ret_int HT.out, rfl⟩

theorem less_any (a b : Nat) (ha : Fits a) (hb : Fits b) (w : World) : Calls Tryd.prog 13 #[.float .f64 a, .float .f64 b] w fun e w' => e = .returned (.bool (decide (rank a < rank b))) ∧ w = w' := by
  go_enter Tryd.func13, Tryd.ntmps13
  go_wp2_with fail
  refine (rank_any a ha _).mono ?_
  rintro e w' ⟨rfl, rfl⟩
  go_wp2_with fail
  refine (rank_any b hb _).mono ?_
  rintro e w' ⟨rfl, rfl⟩
  go_wp2
  go_ret
  exact ⟨rfl, rfl⟩
end Go.Proofs.YtfpmbkdijechaaaDoor
