/-
  The contracts of math/bits' LeadingZeros64 and TrailingZeros64. Conditions: the number fits 64 bits; the table of TrailingZeros64 is in its variable.
-/
import Derived.Test.YthcoiaigmndohaaDoorBitsBase
import Derived.Shelf.Spec.TrailingZeros
import Derived.Lib.Strings
import Derived.Lib.Slices
import Derived.Lib.Small
import Derived.Lib.Walk
import Derived.Lib.BitFns
import Derived.Handy
import Derived.Test.YthcoiaigmndohaaDoorXorLen
namespace Go.Proofs.YthcoiaigmndohaaDoor
open Go.RowKit

/-- How many noughts there are at the top. -/
def lzN (x : Nat) : Nat := 64 - Lib.bitLen x
/-- How many at the end. -/
def tzN (x : Nat) : Nat := Lib.ctz 64 x

theorem leading_any (x : Nat) (h : Fits x) (w : World) :
    Calls Tryd.prog 49 #[.int .u64 x] w fun e w' => e = .returned (.int .i64 (lzN x : Nat)) ∧ w' = w := by
  have hx : x < 18446744073709551616 := h
  have l := Lib.bitLen_le x 64 (by omega) hx
  obtain ⟨n, hn⟩ : ∃ n, Lib.bitLen x = n := ⟨_, rfl⟩
  have hc := fun w : World => len64_any (x : Int) w (by omega) (by omega)
  rw [Int.toNat_natCast, hn] at hc
  have hr : ((lzN x : Nat) : Int) = 64 - (n : Int) := by unfold lzN; omega
  rw [hr]
  rw [hn] at l
  have HC := Lib.hid hc
  have HL := Lib.hid l
  clear hc hr hn l hx h
  go_enter Tryd.func49, Tryd.ntmps49
  go_wp2_with fail
  refine (HC.out _).mono ?_
  rintro e w' ⟨rfl, rfl⟩
  go_wp2
  go_ret
  refine ⟨congrArg (fun z => Ending.returned (.int .i64 z)) ?_, rfl⟩
  have := HL.out
  first | rfl | (unfold wrap64; omega) | omega

/-- The table is in its variable. -/
def Tab (w : World) : Prop := TabAt 1 Lib.deBruijn64tab w

set_option maxHeartbeats 1000000 in
theorem trailing_core (x k idx : Nat) (w : World) (hx0 : ((x : Int) == 0) = false)
    (key : IntKind.u64.wrap (bits BinOp.and IntKind.u64 (x : Int) (IntKind.u64.wrap (-(x : Int))) * 285870213051353865) / 288230376151711744 = (idx : Int))
    (hi : idx < 64) (hk : k < 64) (hcell : w.cell? ⟨1, idx, none⟩ = some (.int .u8 k)) :
    Calls Tryd.prog 50 #[.int .u64 x] w fun e w' => e = .returned (.int .i64 k) ∧ w' = w := by
  go_enter Tryd.func50, Tryd.ntmps50
  go_wp2_with (simp only [key])
  go_ret
  exact ⟨rfl, rfl⟩

theorem trailing_any (x : Nat) (h : Fits x) (hx0 : x ≠ 0) (w : World) (hT : Tab w) :
    Calls Tryd.prog 50 #[.int .u64 x] w fun e w' => e = .returned (.int .i64 (tzN x : Nat)) ∧ w' = w := by
  obtain ⟨hlow, hk⟩ := Lib.lowest_bit 64 x hx0 h
  obtain ⟨hi, htab⟩ := Lib.deBruijn64_at _ hk
  have hcell := hT _ hi
  rw [htab] at hcell
  exact trailing_core x _ _ w (by simp; omega) (tz64_key x _ h hx0 hlow) hi hk hcell
end Go.Proofs.YthcoiaigmndohaaDoor
