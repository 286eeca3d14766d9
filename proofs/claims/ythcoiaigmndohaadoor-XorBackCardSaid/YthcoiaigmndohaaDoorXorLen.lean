/-
  The contract of math/bits' Len64. Condition: the number fits 64 bits.
-/
import Derived.Test.YthcoiaigmndohaaDoorBitsBase
import Derived.Shelf.Spec.TrailingZeros
import Derived.Lib.Strings
import Derived.Lib.Slices
import Derived.Lib.Small
import Derived.Lib.Walk
import Derived.Lib.BitFns
import Derived.Handy
namespace Go.Proofs.YthcoiaigmndohaaDoor
open Go.RowKit

theorem len_fin (k : Int) (n m : Nat) (hk : 0 ≤ k ∧ k ≤ 56) (l : n ≤ 8) (s : (m : Int) = k + n) : wrap64 (k + wrap64 (n : Int)) = (m : Int) := by
  unfold wrap64; omega
theorem len_fin0 (n : Nat) (l : n ≤ 8) : wrap64 (wrap64 (n : Int)) = (n : Int) := by
  unfold wrap64; omega

theorem len8_at {n : Nat} (h : n < Lib.len8tab.size) : (Lib.len8tab[n]'h).toNat = Lib.bitLen n := by
  have hs := h
  rw [Lib.len8tab_size] at hs
  have e := Lib.len8_of (n : Int) (by omega) (by omega)
  rw [Int.toNat_natCast] at e
  have e2 : Lib.len8 (n : Int) = ((Lib.len8tab[n]'h).toNat : Int) := by
    simp only [Lib.len8, Int.toNat_natCast, ByteArray.getElem?_lt' _ _ h, Option.getD_some]
  rw [e2] at e
  omega

set_option maxHeartbeats 4000000 in
theorem len_c56 (x : Int) (h0 : 0 ≤ x) (h1 : x ≤ 18446744073709551615) (a : 4294967296 ≤ x) (b : 65536 ≤ x / 4294967296) (c : 256 ≤ x / 4294967296 / 65536) : wrap64 (56 + wrap64 ((Lib.bitLen (x / 4294967296 / 65536 / 256).toNat : Nat) : Int)) = ((Lib.bitLen x.toNat : Nat) : Int) ∧ 0 ≤ x / 4294967296 / 65536 / 256 ∧ x / 4294967296 / 65536 / 256 < 256 := by
  have q1 : x / 4294967296 ≤ 4294967295 := by omega
  have q2 : x / 4294967296 / 65536 ≤ 65535 := by omega
  have hb : 0 ≤ x / 4294967296 / 65536 / 256 ∧ x / 4294967296 / 65536 / 256 < 256 := ⟨by omega, by omega⟩
  refine ⟨?_, hb⟩
  have e : (x / 4294967296 / 65536 / 256).toNat = x.toNat / 72057594037927936 := by omega
  have l := Lib.bitLen_le8' (x / 4294967296 / 65536 / 256) hb.1 (by omega)
  have s := Lib.bitLen_shift56 x.toNat (by omega) (by omega)
  rw [e] at l ⊢
  exact len_fin 56 _ _ (by omega) l (by rw [s]; simp)

set_option maxHeartbeats 4000000 in
set_option maxRecDepth 100000 in
theorem len_w56 (x : Int) (w : World) (h0 : 0 ≤ x) (h1 : x ≤ 18446744073709551615) (a : 4294967296 ≤ x) (b : 65536 ≤ x / 4294967296) (c : 256 ≤ x / 4294967296 / 65536) :
    Calls Tryd.prog 51 #[.int .u64 x] w fun e w' => e = .returned (.int .i64 (Lib.bitLen x.toNat)) ∧ w' = w := by
  obtain ⟨hr, hb0, hb1⟩ := len_c56 x h0 h1 a b c
  have hb2 : x / 4294967296 / 65536 / 256 < ((Lib.len8tab.size : Nat) : Int) := by rw [Lib.len8tab_size]; omega
  have HR := Lib.hid hr
  clear hr h1
  go_enter Tryd.func51, Tryd.ntmps51
  go_wp2
  go_ret
  refine ⟨congrArg Ending.returned (congrArg (Value.int IntKind.i64) ?_), rfl⟩
  rw [len8_at]
  exact HR.out

theorem len_c48 (x : Int) (h0 : 0 ≤ x) (h1 : x ≤ 18446744073709551615) (a : 4294967296 ≤ x) (b : 65536 ≤ x / 4294967296) (c : x / 4294967296 / 65536 < 256) : wrap64 (48 + wrap64 ((Lib.bitLen (x / 4294967296 / 65536).toNat : Nat) : Int)) = ((Lib.bitLen x.toNat : Nat) : Int) ∧ 0 ≤ x / 4294967296 / 65536 ∧ x / 4294967296 / 65536 < 256 := by
  have hb : 0 ≤ x / 4294967296 / 65536 ∧ x / 4294967296 / 65536 < 256 := by omega
  refine ⟨?_, hb⟩
  have e : (x / 4294967296 / 65536).toNat = x.toNat / 281474976710656 := by omega
  have l := Lib.bitLen_le8' (x / 4294967296 / 65536) hb.1 (by omega)
  have s := Lib.bitLen_shift48 x.toNat (by omega) (by omega)
  rw [e] at l ⊢
  exact len_fin 48 _ _ (by omega) l (by rw [s]; simp)

set_option maxHeartbeats 4000000 in
set_option maxRecDepth 100000 in
theorem len_w48 (x : Int) (w : World) (h0 : 0 ≤ x) (h1 : x ≤ 18446744073709551615) (a : 4294967296 ≤ x) (b : 65536 ≤ x / 4294967296) (c : x / 4294967296 / 65536 < 256) :
    Calls Tryd.prog 51 #[.int .u64 x] w fun e w' => e = .returned (.int .i64 (Lib.bitLen x.toNat)) ∧ w' = w := by
  obtain ⟨hr, hb0, hb1⟩ := len_c48 x h0 h1 a b c
  have hb2 : x / 4294967296 / 65536 < ((Lib.len8tab.size : Nat) : Int) := by rw [Lib.len8tab_size]; omega
  have HR := Lib.hid hr
  clear hr h1
  go_enter Tryd.func51, Tryd.ntmps51
  go_wp2
  go_ret
  refine ⟨congrArg Ending.returned (congrArg (Value.int IntKind.i64) ?_), rfl⟩
  rw [len8_at]
  exact HR.out

theorem len_c40 (x : Int) (h0 : 0 ≤ x) (h1 : x ≤ 18446744073709551615) (a : 4294967296 ≤ x) (b : x / 4294967296 < 65536) (c : 256 ≤ x / 4294967296) : wrap64 (40 + wrap64 ((Lib.bitLen (x / 4294967296 / 256).toNat : Nat) : Int)) = ((Lib.bitLen x.toNat : Nat) : Int) ∧ 0 ≤ x / 4294967296 / 256 ∧ x / 4294967296 / 256 < 256 := by
  have hb : 0 ≤ x / 4294967296 / 256 ∧ x / 4294967296 / 256 < 256 := by omega
  refine ⟨?_, hb⟩
  have e : (x / 4294967296 / 256).toNat = x.toNat / 1099511627776 := by omega
  have l := Lib.bitLen_le8' (x / 4294967296 / 256) hb.1 (by omega)
  have s := Lib.bitLen_shift40 x.toNat (by omega) (by omega)
  rw [e] at l ⊢
  exact len_fin 40 _ _ (by omega) l (by rw [s]; simp)

set_option maxHeartbeats 4000000 in
set_option maxRecDepth 100000 in
theorem len_w40 (x : Int) (w : World) (h0 : 0 ≤ x) (h1 : x ≤ 18446744073709551615) (a : 4294967296 ≤ x) (b : x / 4294967296 < 65536) (c : 256 ≤ x / 4294967296) :
    Calls Tryd.prog 51 #[.int .u64 x] w fun e w' => e = .returned (.int .i64 (Lib.bitLen x.toNat)) ∧ w' = w := by
  obtain ⟨hr, hb0, hb1⟩ := len_c40 x h0 h1 a b c
  have hb2 : x / 4294967296 / 256 < ((Lib.len8tab.size : Nat) : Int) := by rw [Lib.len8tab_size]; omega
  have HR := Lib.hid hr
  clear hr h1
  go_enter Tryd.func51, Tryd.ntmps51
  go_wp2
  go_ret
  refine ⟨congrArg Ending.returned (congrArg (Value.int IntKind.i64) ?_), rfl⟩
  rw [len8_at]
  exact HR.out

theorem len_c32 (x : Int) (h0 : 0 ≤ x) (h1 : x ≤ 18446744073709551615) (a : 4294967296 ≤ x) (b : x / 4294967296 < 65536) (c : x / 4294967296 < 256) : wrap64 (32 + wrap64 ((Lib.bitLen (x / 4294967296).toNat : Nat) : Int)) = ((Lib.bitLen x.toNat : Nat) : Int) ∧ 0 ≤ x / 4294967296 ∧ x / 4294967296 < 256 := by
  have hb : 0 ≤ x / 4294967296 ∧ x / 4294967296 < 256 := by omega
  refine ⟨?_, hb⟩
  have e : (x / 4294967296).toNat = x.toNat / 4294967296 := by omega
  have l := Lib.bitLen_le8' (x / 4294967296) hb.1 (by omega)
  have s := Lib.bitLen_shift32 x.toNat (by omega) (by omega)
  rw [e] at l ⊢
  exact len_fin 32 _ _ (by omega) l (by rw [s]; simp)

set_option maxHeartbeats 4000000 in
set_option maxRecDepth 100000 in
theorem len_w32 (x : Int) (w : World) (h0 : 0 ≤ x) (h1 : x ≤ 18446744073709551615) (a : 4294967296 ≤ x) (b : x / 4294967296 < 65536) (c : x / 4294967296 < 256) :
    Calls Tryd.prog 51 #[.int .u64 x] w fun e w' => e = .returned (.int .i64 (Lib.bitLen x.toNat)) ∧ w' = w := by
  obtain ⟨hr, hb0, hb1⟩ := len_c32 x h0 h1 a b c
  have hb2 : x / 4294967296 < ((Lib.len8tab.size : Nat) : Int) := by rw [Lib.len8tab_size]; omega
  have HR := Lib.hid hr
  clear hr h1
  go_enter Tryd.func51, Tryd.ntmps51
  go_wp2
  go_ret
  refine ⟨congrArg Ending.returned (congrArg (Value.int IntKind.i64) ?_), rfl⟩
  rw [len8_at]
  exact HR.out

theorem len_c24 (x : Int) (h0 : 0 ≤ x) (h1 : x ≤ 18446744073709551615) (a : x < 4294967296) (b : 65536 ≤ x) (c : 256 ≤ x / 65536) : wrap64 (24 + wrap64 ((Lib.bitLen (x / 65536 / 256).toNat : Nat) : Int)) = ((Lib.bitLen x.toNat : Nat) : Int) ∧ 0 ≤ x / 65536 / 256 ∧ x / 65536 / 256 < 256 := by
  have hb : 0 ≤ x / 65536 / 256 ∧ x / 65536 / 256 < 256 := by omega
  refine ⟨?_, hb⟩
  have e : (x / 65536 / 256).toNat = x.toNat / 16777216 := by omega
  have l := Lib.bitLen_le8' (x / 65536 / 256) hb.1 (by omega)
  have s := Lib.bitLen_shift24 x.toNat (by omega) (by omega)
  rw [e] at l ⊢
  exact len_fin 24 _ _ (by omega) l (by rw [s]; simp)

set_option maxHeartbeats 4000000 in
set_option maxRecDepth 100000 in
theorem len_w24 (x : Int) (w : World) (h0 : 0 ≤ x) (h1 : x ≤ 18446744073709551615) (a : x < 4294967296) (b : 65536 ≤ x) (c : 256 ≤ x / 65536) :
    Calls Tryd.prog 51 #[.int .u64 x] w fun e w' => e = .returned (.int .i64 (Lib.bitLen x.toNat)) ∧ w' = w := by
  obtain ⟨hr, hb0, hb1⟩ := len_c24 x h0 h1 a b c
  have hb2 : x / 65536 / 256 < ((Lib.len8tab.size : Nat) : Int) := by rw [Lib.len8tab_size]; omega
  have HR := Lib.hid hr
  clear hr h1
  go_enter Tryd.func51, Tryd.ntmps51
  go_wp2
  go_ret
  refine ⟨congrArg Ending.returned (congrArg (Value.int IntKind.i64) ?_), rfl⟩
  rw [len8_at]
  exact HR.out

theorem len_c16 (x : Int) (h0 : 0 ≤ x) (h1 : x ≤ 18446744073709551615) (a : x < 4294967296) (b : 65536 ≤ x) (c : x / 65536 < 256) : wrap64 (16 + wrap64 ((Lib.bitLen (x / 65536).toNat : Nat) : Int)) = ((Lib.bitLen x.toNat : Nat) : Int) ∧ 0 ≤ x / 65536 ∧ x / 65536 < 256 := by
  have hb : 0 ≤ x / 65536 ∧ x / 65536 < 256 := by omega
  refine ⟨?_, hb⟩
  have e : (x / 65536).toNat = x.toNat / 65536 := by omega
  have l := Lib.bitLen_le8' (x / 65536) hb.1 (by omega)
  have s := Lib.bitLen_shift16 x.toNat (by omega) (by omega)
  rw [e] at l ⊢
  exact len_fin 16 _ _ (by omega) l (by rw [s]; simp)

set_option maxHeartbeats 4000000 in
set_option maxRecDepth 100000 in
theorem len_w16 (x : Int) (w : World) (h0 : 0 ≤ x) (h1 : x ≤ 18446744073709551615) (a : x < 4294967296) (b : 65536 ≤ x) (c : x / 65536 < 256) :
    Calls Tryd.prog 51 #[.int .u64 x] w fun e w' => e = .returned (.int .i64 (Lib.bitLen x.toNat)) ∧ w' = w := by
  obtain ⟨hr, hb0, hb1⟩ := len_c16 x h0 h1 a b c
  have hb2 : x / 65536 < ((Lib.len8tab.size : Nat) : Int) := by rw [Lib.len8tab_size]; omega
  have HR := Lib.hid hr
  clear hr h1
  go_enter Tryd.func51, Tryd.ntmps51
  go_wp2
  go_ret
  refine ⟨congrArg Ending.returned (congrArg (Value.int IntKind.i64) ?_), rfl⟩
  rw [len8_at]
  exact HR.out

theorem len_c8 (x : Int) (h0 : 0 ≤ x) (h1 : x ≤ 18446744073709551615) (a : x < 4294967296) (b : x < 65536) (c : 256 ≤ x) : wrap64 (8 + wrap64 ((Lib.bitLen (x / 256).toNat : Nat) : Int)) = ((Lib.bitLen x.toNat : Nat) : Int) ∧ 0 ≤ x / 256 ∧ x / 256 < 256 := by
  have hb : 0 ≤ x / 256 ∧ x / 256 < 256 := by omega
  refine ⟨?_, hb⟩
  have e : (x / 256).toNat = x.toNat / 256 := by omega
  have l := Lib.bitLen_le8' (x / 256) hb.1 (by omega)
  have s := Lib.bitLen_shift8 x.toNat (by omega) (by omega)
  rw [e] at l ⊢
  exact len_fin 8 _ _ (by omega) l (by rw [s]; simp)

set_option maxHeartbeats 4000000 in
set_option maxRecDepth 100000 in
theorem len_w8 (x : Int) (w : World) (h0 : 0 ≤ x) (h1 : x ≤ 18446744073709551615) (a : x < 4294967296) (b : x < 65536) (c : 256 ≤ x) :
    Calls Tryd.prog 51 #[.int .u64 x] w fun e w' => e = .returned (.int .i64 (Lib.bitLen x.toNat)) ∧ w' = w := by
  obtain ⟨hr, hb0, hb1⟩ := len_c8 x h0 h1 a b c
  have hb2 : x / 256 < ((Lib.len8tab.size : Nat) : Int) := by rw [Lib.len8tab_size]; omega
  have HR := Lib.hid hr
  clear hr h1
  go_enter Tryd.func51, Tryd.ntmps51
  go_wp2
  go_ret
  refine ⟨congrArg Ending.returned (congrArg (Value.int IntKind.i64) ?_), rfl⟩
  rw [len8_at]
  exact HR.out

theorem len_c0 (x : Int) (h0 : 0 ≤ x) (h1 : x ≤ 18446744073709551615) (a : x < 4294967296) (b : x < 65536) (c : x < 256) : wrap64 (wrap64 ((Lib.bitLen x.toNat : Nat) : Int)) = ((Lib.bitLen x.toNat : Nat) : Int) ∧ 0 ≤ x ∧ x < 256 := by
  have hb : 0 ≤ x ∧ x < 256 := by omega
  refine ⟨?_, hb⟩
  have l := Lib.bitLen_le8' x (by omega) (by omega)
  exact len_fin0 _ l

set_option maxHeartbeats 4000000 in
set_option maxRecDepth 100000 in
theorem len_w0 (x : Int) (w : World) (h0 : 0 ≤ x) (h1 : x ≤ 18446744073709551615) (a : x < 4294967296) (b : x < 65536) (c : x < 256) :
    Calls Tryd.prog 51 #[.int .u64 x] w fun e w' => e = .returned (.int .i64 (Lib.bitLen x.toNat)) ∧ w' = w := by
  obtain ⟨hr, hb0, hb1⟩ := len_c0 x h0 h1 a b c
  have hb2 : x < ((Lib.len8tab.size : Nat) : Int) := by rw [Lib.len8tab_size]; omega
  have HR := Lib.hid hr
  clear hr h1
  go_enter Tryd.func51, Tryd.ntmps51
  go_wp2
  go_ret
  refine ⟨congrArg Ending.returned (congrArg (Value.int IntKind.i64) ?_), rfl⟩
  rw [len8_at]
  exact HR.out

theorem len64_any (x : Int) (w : World) (h0 : 0 ≤ x) (h1 : x ≤ 18446744073709551615) :
    Calls Tryd.prog 51 #[.int .u64 x] w fun e w' => e = .returned (.int .i64 (Lib.bitLen x.toNat)) ∧ w' = w := by
  by_cases a : 4294967296 ≤ x
  · by_cases b : 65536 ≤ x / 4294967296
    · by_cases c : 256 ≤ x / 4294967296 / 65536
      · exact len_w56 x w h0 h1 a b c
      · exact len_w48 x w h0 h1 a b (by omega)
    · by_cases c : 256 ≤ x / 4294967296
      · exact len_w40 x w h0 h1 a (by omega) c
      · exact len_w32 x w h0 h1 a (by omega) (by omega)
  · by_cases b : 65536 ≤ x
    · by_cases c : 256 ≤ x / 65536
      · exact len_w24 x w h0 h1 (by omega) b c
      · exact len_w16 x w h0 h1 (by omega) b (by omega)
    · by_cases c : 256 ≤ x
      · exact len_w8 x w h0 h1 (by omega) (by omega) c
      · exact len_w0 x w h0 h1 (by omega) (by omega) (by omega)

end Go.Proofs.YthcoiaigmndohaaDoor
