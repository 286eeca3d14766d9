/-
  The contracts of package real (bits and ranks) and of what it calls in package math, by the bits of a real. Conditions: the bits fit 64.
-/
import Derived.Test.YtfpmbkdijechaaaRows
import Derived.Test.YtfpmbkdijechaaaFlt
import Derived.Test.YtfpmbkdijechaaaBitsPlain
import Derived.WalkKit
import Derived.WalkLawsBesides
import Derived.Lib.Hide
import Derived.Handy
namespace Go.Proofs.Ytfpmbkdijechaaa
open Go.RowKit

theorem call_bits (b : Nat) (w : World) : (callFunc 17 #[.float .f64 b]).run Try.prog w = .ok (.value (.int .u64 b)) w := by kernel_rfl
theorem call_from (n : Int) (w : World) : (callFunc 13 #[.int .u64 n]).run Try.prog w = .ok (.value (.float .f64 n.toNat)) w := by kernel_rfl

/-- Is the sign turned? -/
def sgnB (b : Nat) : Bool := decide (9223372036854775808 ≤ b)
/-- All bits but the sign. -/
def absB (b : Nat) : Nat := b % 9223372036854775808

theorem ret_int {k : IntKind} {a b : Int} (h : a = b) : Ending.returned (.int k a) = .returned (.int k b) := by rw [h]
theorem ret_bool {a b : Bool} (h : a = b) : Ending.returned (.bool a) = .returned (.bool b) := by rw [h]
theorem ret_float {a b : Nat} (h : a = b) : Ending.returned (.float .f64 a) = .returned (.float .f64 b) := by rw [h]

/-- It fits 64 bits. -/
def Fits (b : Nat) : Prop := b < 18446744073709551616

theorem bits_any (b : Nat) (h : Fits b) (w : World) : Calls Try.prog 35 #[.float .f64 b] w fun e w' => e = .returned (.int .i64 (ibits b)) ∧ w = w' := by
  have hb := fun w : World => call_bits b w
  go_enter Try.func35, Try.ntmps35
  go_wp2
  go_ret
  exact ⟨ret_int (wrap64_bits h), rfl⟩

/-- It fits 64 bits with a sign. -/
def FitsI (v : Int) : Prop := -9223372036854775808 ≤ v ∧ v ≤ 9223372036854775807

theorem turned_any (v : Int) (h : FitsI v) (w : World) : Calls Try.prog 34 #[.int .i64 v] w fun e w' => e = .returned (.int .i64 (turn v)) ∧ w = w' := by
  go_enter Try.func34, Try.ntmps34
  go_wp2
  go_ret
  exact ⟨ret_int (bits_turn h.1 h.2), rfl⟩

theorem signbit_any (b : Nat) (h : Fits b) (w : World) : Calls Try.prog 25 #[.float .f64 b] w fun e w' => e = .returned (.bool (sgnB b)) ∧ w = w' := by
  have hb := fun w : World => call_bits b w
  go_enter Try.func25, Try.ntmps25
  go_wp2
  go_ret
  exact ⟨ret_bool (neg_dec h), rfl⟩

theorem abs_any (b : Nat) (h : Fits b) (w : World) : Calls Try.prog 31 #[.float .f64 b] w fun e w' => e = .returned (.float .f64 (absB b)) ∧ w = w' := by
  have hb := fun w : World => call_bits b w
  have hf := fun n w => call_from n w
  go_enter Try.func31, Try.ntmps31
  go_wp2
  go_ret
  exact ⟨ret_float (bits_abs h), rfl⟩

theorem rank_any (b : Nat) (h : Fits b) (w : World) : Calls Try.prog 32 #[.float .f64 b] w fun e w' => e = .returned (.int .i64 (rank b)) ∧ w = w' := by
  have ht := turn_ibits h
  have hr := ibits_range h
  have HT := Lib.hid ht
  clear ht
  go_enter Try.func32, Try.ntmps32
  go_wp2_with fail
  refine (bits_any b h _).mono ?_
  rintro e w' ⟨rfl, rfl⟩
  go_wp2_with fail
  refine (turned_any _ hr _).mono ?_
  rintro e w' ⟨rfl, rfl⟩
  go_wp2
  go_ret
  exact ⟨ret_int HT.out, rfl⟩

theorem less_any (a b : Nat) (ha : Fits a) (hb : Fits b) (w : World) : Calls Try.prog 27 #[.float .f64 a, .float .f64 b] w fun e w' => e = .returned (.bool (decide (rank a < rank b))) ∧ w = w' := by
  go_enter Try.func27, Try.ntmps27
  go_wp2_with fail
  refine (rank_any a ha _).mono ?_
  rintro e w' ⟨rfl, rfl⟩
  go_wp2_with fail
  refine (rank_any b hb _).mono ?_
  rintro e w' ⟨rfl, rfl⟩
  go_wp2
  go_ret
  exact ⟨rfl, rfl⟩
end Go.Proofs.Ytfpmbkdijechaaa
