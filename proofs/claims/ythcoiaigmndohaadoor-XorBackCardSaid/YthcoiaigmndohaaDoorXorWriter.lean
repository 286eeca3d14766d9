/-
  The writer as a sink; the contract of xor.Encode. Conditions: at most 1100 reals, the bits fit 64; the table of TrailingZeros64 is in its variable.
-/
import Derived.Test.YthcoiaigmndohaaDoorXorSize
import Derived.Test.YthcoiaigmndohaaDoorBitsPut
import Derived.Test.YthcoiaigmndohaaDoorBitsRdr
namespace Go.Proofs.YthcoiaigmndohaaDoor
open Go.RowKit BitM

/-- The writer at block p holds these bits. -/
def Wrote (B p : Nat) (w : World) (b : List Bool) : Prop := ∃ v, Wr B p w v (boolsN b) b.length

theorem writer_sink (p B0 : Nat) (hp : B0 ≤ p) : Sink 62 68 (.pointer (some ⟨p, 0, none⟩)) B0 (Wrote B0 p) where
  meth := fun w => by kernel_rfl
  ahead := fun w => by kernel_rfl
  call := fun x k w => by kernel_rfl
  keep := fun w w' b ⟨v, h⟩ hk => ⟨v, h.quiet hk⟩
  row := fun w g cs cs' b ⟨v, h⟩ hg => ⟨v, h.blk.setRow_far (Ne.symm (hg.ne_ h.blk (by decide))), own_keep h.own ((Keeps.refl (fun k => k = g) w).setRow (.inl rfl) cs') (fun k hk hkg => by
    subst hkg
    exact (hg.own_ne h.own (by decide)) hk), h.lt⟩
  put := fun x k w b ⟨v, h⟩ hx hk hl => by
    have hfx : Fits x := by
      have := Nat.pow_le_pow_right (n := 2) (by decide) hk
      unfold Fits; omega
    have hlt := h.blk.lt
    refine (put_ok B0 p x k w v (boolsN b) b.length hfx hk (by unfold fitsB; exact decide_eq_true hx) hl h (by omega)).mono ?_
    rintro e w' ⟨he, v', hw, hmv⟩
    refine ⟨he, ⟨v', ?_⟩, ⟨hmv.keeps.mono (fun i hi => ?_), fun g cs hg => hmv.stays hg (hg.ne_ h.blk (by decide)) (hg.own_ne h.own (by decide))⟩⟩
    · rw [List.length_append, bitsL_len, boolsN_append, boolsN_bits, Nat.mod_eq_of_lt hx]
      exact hw
    · rcases hi with rfl | hi
      · exact hp
      · exact (h.own.lt i hi).1
end Go.Proofs.YthcoiaigmndohaaDoor
