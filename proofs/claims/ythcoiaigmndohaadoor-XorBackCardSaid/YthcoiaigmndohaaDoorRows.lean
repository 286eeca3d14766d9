/-
  NARROWER THAN 'FOR EVERY INPUT', by the rows' own cells (each row's printed sentence says how): XorDecodes: laid · XorBack: laid · XorEncodes: laid · XorConstant: laid · XorBound: laid.
  DERIVED. THE GIVEN ROWS OF THIS SEAT. 5 by the template 'for every input the law returns true; each argument reads behind the call as it read before'; 0 by the template 'total and deterministic' (their statements: YthcoiaigmndohaaDoorTotals.lean).
  GIVEN WITH THE SEED: the statements are not yours to turn. If you find one false, say at which input.
  Laid BY PROGRAM, IN A SANDBOX (cutbox-rows.mjs): the forced cells as the released guide's own fill.sh prints them over the translation baea27a35a71237f… (all of the seat's roots in one cut). By AI agents, Wed Nov 11 2026. No macro, syntax, notation, axiom, sorry.
-/
import Derived.Test.YthcoiaigmndohaaDoorChecked
import GoSem.Claim
import GoSem.ClaimJoined
import GoSem.ClaimMapViews
import Derived.JoinedTies
import Derived.KernelRfl
namespace Go.Proofs.YthcoiaigmndohaaDoor
/- THE CELL 'sum', in the pinned program and in every row, IS THE sha256 OF THE DUMP (.gsa) THAT YthcoiaigmndohaaDoorProg.lean LOADS. Nothing in Lean hashes anything: it is a label: what it is worth is what the hold of that sum in a sandbox is worth. -/
noncomputable def Tryd.pinned : Pinned := { name := "ythcoiaigmndohaadoor", sum := "baea27a35a71237fc5104ca5ee2997d40ed5b5b09e329c6c6dc7daf7af8a99df", checked := Tryd.checked }
namespace Rows
def none {H : Type} : Left H := { results := [], args := [] }

/- WHAT THE LISTED PACKAGE-LEVEL VARIABLES READ AS WHEN THE CALL BEGINS. Each datum BY PROGRAM (the guide's laid-datum.mjs) off the statement by which the dump's own 'gosem.cut.vars' lays the variable. In a bare row this is a premise. The card (YthcoiaigmndohaaDoorCards.lean) ties it to the program's text. -/
def laid_math_bits_deBruijn64tab {H : Type} : DataW H := .agg [.lit (.int .u8 0), .lit (.int .u8 1), .lit (.int .u8 56), .lit (.int .u8 2), .lit (.int .u8 57), .lit (.int .u8 49), .lit (.int .u8 28), .lit (.int .u8 3), .lit (.int .u8 61), .lit (.int .u8 58), .lit (.int .u8 42), .lit (.int .u8 50), .lit (.int .u8 38), .lit (.int .u8 29), .lit (.int .u8 17), .lit (.int .u8 4), .lit (.int .u8 62), .lit (.int .u8 47), .lit (.int .u8 59), .lit (.int .u8 36), .lit (.int .u8 45), .lit (.int .u8 43), .lit (.int .u8 51), .lit (.int .u8 22), .lit (.int .u8 53), .lit (.int .u8 39), .lit (.int .u8 33), .lit (.int .u8 30), .lit (.int .u8 24), .lit (.int .u8 18), .lit (.int .u8 12), .lit (.int .u8 5), .lit (.int .u8 63), .lit (.int .u8 55), .lit (.int .u8 48), .lit (.int .u8 27), .lit (.int .u8 60), .lit (.int .u8 41), .lit (.int .u8 37), .lit (.int .u8 16), .lit (.int .u8 46), .lit (.int .u8 35), .lit (.int .u8 44), .lit (.int .u8 21), .lit (.int .u8 52), .lit (.int .u8 32), .lit (.int .u8 23), .lit (.int .u8 11), .lit (.int .u8 54), .lit (.int .u8 26), .lit (.int .u8 40), .lit (.int .u8 15), .lit (.int .u8 34), .lit (.int .u8 20), .lit (.int .u8 31), .lit (.int .u8 10), .lit (.int .u8 25), .lit (.int .u8 14), .lit (.int .u8 19), .lit (.int .u8 9), .lit (.int .u8 13), .lit (.int .u8 8), .lit (.int .u8 7), .lit (.int .u8 6)]

/-- 'corduroylaw22.XorDecodes': WHATEVER THE INPUT: true; the input reads as it did. -/
def xorDecodesSpec : ChangeSpec := { name := "xorDecodes", fn := fun _ => fun
  | [d1, d2] => { results := [.lit (.bool true)], args := [d1, d2] }
  | _ => none }
def xorDecodesRow : OpenClaim := { program := "ythcoiaigmndohaadoor", sum := "baea27a35a71237fc5104ca5ee2997d40ed5b5b09e329c6c6dc7daf7af8a99df", func := "corduroy/corduroylaw22.XorDecodes", spec := "xorDecodes", inPlace := ["math.Float64frombits", "math.Float64bits"], unfollowed := true, recurses := true, named := ["math/bits.deBruijn64tab"], apart := false, laid := [("math/bits.deBruijn64tab", laid_math_bits_deBruijn64tab)] }
def XorDecodesSaid : Prop := xorDecodesRow.holds Tryd.pinned (OpenSpec.ofChange xorDecodesSpec)

/-- ITS FALSE NEIGHBOUR: 'it returns false'. Refute it at one input. -/
def xorDecodesWrong : ChangeSpec := { name := "xorDecodes", fn := fun _ => fun
  | [d1, d2] => { results := [.lit (.bool false)], args := [d1, d2] }
  | _ => none }
def XorDecodesWrongFalsely : Prop := xorDecodesRow.holds Tryd.pinned (OpenSpec.ofChange xorDecodesWrong)

/-- 'corduroylaw22.XorBack': WHATEVER THE INPUT: true; the input reads as it did. -/
def xorBackSpec : ChangeSpec := { name := "xorBack", fn := fun _ => fun
  | [d] => { results := [.lit (.bool true)], args := [d] }
  | _ => none }
def xorBackRow : OpenClaim := { program := "ythcoiaigmndohaadoor", sum := "baea27a35a71237fc5104ca5ee2997d40ed5b5b09e329c6c6dc7daf7af8a99df", func := "corduroy/corduroylaw22.XorBack", spec := "xorBack", inPlace := ["math.Float64frombits", "math.Float64bits"], unfollowed := true, recurses := true, named := ["math/bits.deBruijn64tab"], apart := false, laid := [("math/bits.deBruijn64tab", laid_math_bits_deBruijn64tab)] }
def XorBackSaid : Prop := xorBackRow.holds Tryd.pinned (OpenSpec.ofChange xorBackSpec)

/-- ITS FALSE NEIGHBOUR: 'it returns false'. Refute it at one input. -/
def xorBackWrong : ChangeSpec := { name := "xorBack", fn := fun _ => fun
  | [d] => { results := [.lit (.bool false)], args := [d] }
  | _ => none }
def XorBackWrongFalsely : Prop := xorBackRow.holds Tryd.pinned (OpenSpec.ofChange xorBackWrong)

/-- 'corduroylaw22.XorEncodes': WHATEVER THE INPUT: true; the input reads as it did. -/
def xorEncodesSpec : ChangeSpec := { name := "xorEncodes", fn := fun _ => fun
  | [d] => { results := [.lit (.bool true)], args := [d] }
  | _ => none }
def xorEncodesRow : OpenClaim := { program := "ythcoiaigmndohaadoor", sum := "baea27a35a71237fc5104ca5ee2997d40ed5b5b09e329c6c6dc7daf7af8a99df", func := "corduroy/corduroylaw22.XorEncodes", spec := "xorEncodes", inPlace := ["math.Float64frombits", "math.Float64bits"], unfollowed := true, recurses := true, named := ["math/bits.deBruijn64tab"], apart := false, laid := [("math/bits.deBruijn64tab", laid_math_bits_deBruijn64tab)] }
def XorEncodesSaid : Prop := xorEncodesRow.holds Tryd.pinned (OpenSpec.ofChange xorEncodesSpec)

/-- ITS FALSE NEIGHBOUR: 'it returns false'. Refute it at one input. -/
def xorEncodesWrong : ChangeSpec := { name := "xorEncodes", fn := fun _ => fun
  | [d] => { results := [.lit (.bool false)], args := [d] }
  | _ => none }
def XorEncodesWrongFalsely : Prop := xorEncodesRow.holds Tryd.pinned (OpenSpec.ofChange xorEncodesWrong)

/-- 'corduroylaw22.XorConstant': WHATEVER THE INPUT: true; the input reads as it did. -/
def xorConstantSpec : ChangeSpec := { name := "xorConstant", fn := fun _ => fun
  | [d1, d2] => { results := [.lit (.bool true)], args := [d1, d2] }
  | _ => none }
def xorConstantRow : OpenClaim := { program := "ythcoiaigmndohaadoor", sum := "baea27a35a71237fc5104ca5ee2997d40ed5b5b09e329c6c6dc7daf7af8a99df", func := "corduroy/corduroylaw22.XorConstant", spec := "xorConstant", inPlace := ["math.Float64frombits", "math.Float64bits"], unfollowed := true, recurses := true, named := ["math/bits.deBruijn64tab"], apart := false, laid := [("math/bits.deBruijn64tab", laid_math_bits_deBruijn64tab)] }
def XorConstantSaid : Prop := xorConstantRow.holds Tryd.pinned (OpenSpec.ofChange xorConstantSpec)

/-- ITS FALSE NEIGHBOUR: 'it returns false'. Refute it at one input. -/
def xorConstantWrong : ChangeSpec := { name := "xorConstant", fn := fun _ => fun
  | [d1, d2] => { results := [.lit (.bool false)], args := [d1, d2] }
  | _ => none }
def XorConstantWrongFalsely : Prop := xorConstantRow.holds Tryd.pinned (OpenSpec.ofChange xorConstantWrong)

/-- 'corduroylaw22.XorBound': WHATEVER THE INPUT: true; the input reads as it did. -/
def xorBoundSpec : ChangeSpec := { name := "xorBound", fn := fun _ => fun
  | [d1, d2] => { results := [.lit (.bool true)], args := [d1, d2] }
  | _ => none }
def xorBoundRow : OpenClaim := { program := "ythcoiaigmndohaadoor", sum := "baea27a35a71237fc5104ca5ee2997d40ed5b5b09e329c6c6dc7daf7af8a99df", func := "corduroy/corduroylaw22.XorBound", spec := "xorBound", inPlace := ["math.Float64frombits", "math.Float64bits"], unfollowed := true, recurses := true, named := ["math/bits.deBruijn64tab"], apart := false, laid := [("math/bits.deBruijn64tab", laid_math_bits_deBruijn64tab)] }
def XorBoundSaid : Prop := xorBoundRow.holds Tryd.pinned (OpenSpec.ofChange xorBoundSpec)

/-- ITS FALSE NEIGHBOUR: 'it returns false'. Refute it at one input. -/
def xorBoundWrong : ChangeSpec := { name := "xorBound", fn := fun _ => fun
  | [d1, d2] => { results := [.lit (.bool false)], args := [d1, d2] }
  | _ => none }
def XorBoundWrongFalsely : Prop := xorBoundRow.holds Tryd.pinned (OpenSpec.ofChange xorBoundWrong)

/- THE SECOND FORM. 'bulk': how many values and letters a reading holds, each counted each time it is reached (what is shared counts as often as it is met; a slice's spare places count too). A statement '..UptoSaid' is the law's where the arguments, and the package variables that the reading takes, are together of bulk at most 1048576: NARROWER than '..Said'. Prove '..Said' where nothing that the law and all that it calls make is longer than what came in: it says more and counts as full. Else prove '..UptoSaid'. A law counts once. -/
mutual
def uptoBulk {H : Type} : DataW H → Nat
  | .lit (.string bytes) => bytes.length + 1
  | .lit _ => 1
  | .nil => 1
  | .ptr d => uptoBulk d + 1
  | .slice elems spare => uptoBulkAll elems + uptoBulkAll spare + 1
  | .agg parts => uptoBulkAll parts + 1
  | .iface _ d => uptoBulk d + 1
  | .map entries => uptoBulkEntries entries + 1
  | .held _ => 1
def uptoBulkAll {H : Type} : List (DataW H) → Nat
  | [] => 0
  | d :: r => uptoBulk d + uptoBulkAll r
def uptoBulkEntries {H : Type} : List (Lit × DataW H) → Nat
  | [] => 0
  | x :: r => uptoBulkEntry x + uptoBulkEntries r
def uptoBulkEntry {H : Type} : Lit × DataW H → Nat
  | (.string bytes, d) => bytes.length + uptoBulk d + 1
  | (_, d) => uptoBulk d + 1
 end
def uptoSmall : (H : Type) → List (DataW H) → Bool := fun _ ds => decide (uptoBulkAll ds ≤ 1048576)
def OpenSpec.upto (s : _root_.Go.ChangeSpec) : _root_.Go.OpenSpec := { _root_.Go.OpenSpec.ofChange s with cond := some uptoSmall }

/-- 'corduroylaw22.XorDecodes', WHERE WHAT IT READS IS OF BULK AT MOST 1048576: true; the input reads as it did. -/
def xorDecodesUptoRow : OpenClaim := { program := "ythcoiaigmndohaadoor", sum := "baea27a35a71237fc5104ca5ee2997d40ed5b5b09e329c6c6dc7daf7af8a99df", func := "corduroy/corduroylaw22.XorDecodes", spec := "xorDecodes", inPlace := ["math.Float64frombits", "math.Float64bits"], unfollowed := true, recurses := true, named := ["math/bits.deBruijn64tab"], apart := false, laid := [("math/bits.deBruijn64tab", laid_math_bits_deBruijn64tab)], narrowed := true }
def XorDecodesUptoSaid : Prop := xorDecodesUptoRow.holds Tryd.pinned (OpenSpec.upto xorDecodesSpec)

/-- 'corduroylaw22.XorBack', WHERE WHAT IT READS IS OF BULK AT MOST 1048576: true; the input reads as it did. -/
def xorBackUptoRow : OpenClaim := { program := "ythcoiaigmndohaadoor", sum := "baea27a35a71237fc5104ca5ee2997d40ed5b5b09e329c6c6dc7daf7af8a99df", func := "corduroy/corduroylaw22.XorBack", spec := "xorBack", inPlace := ["math.Float64frombits", "math.Float64bits"], unfollowed := true, recurses := true, named := ["math/bits.deBruijn64tab"], apart := false, laid := [("math/bits.deBruijn64tab", laid_math_bits_deBruijn64tab)], narrowed := true }
def XorBackUptoSaid : Prop := xorBackUptoRow.holds Tryd.pinned (OpenSpec.upto xorBackSpec)

/-- 'corduroylaw22.XorEncodes', WHERE WHAT IT READS IS OF BULK AT MOST 1048576: true; the input reads as it did. -/
def xorEncodesUptoRow : OpenClaim := { program := "ythcoiaigmndohaadoor", sum := "baea27a35a71237fc5104ca5ee2997d40ed5b5b09e329c6c6dc7daf7af8a99df", func := "corduroy/corduroylaw22.XorEncodes", spec := "xorEncodes", inPlace := ["math.Float64frombits", "math.Float64bits"], unfollowed := true, recurses := true, named := ["math/bits.deBruijn64tab"], apart := false, laid := [("math/bits.deBruijn64tab", laid_math_bits_deBruijn64tab)], narrowed := true }
def XorEncodesUptoSaid : Prop := xorEncodesUptoRow.holds Tryd.pinned (OpenSpec.upto xorEncodesSpec)

/-- 'corduroylaw22.XorConstant', WHERE WHAT IT READS IS OF BULK AT MOST 1048576: true; the input reads as it did. -/
def xorConstantUptoRow : OpenClaim := { program := "ythcoiaigmndohaadoor", sum := "baea27a35a71237fc5104ca5ee2997d40ed5b5b09e329c6c6dc7daf7af8a99df", func := "corduroy/corduroylaw22.XorConstant", spec := "xorConstant", inPlace := ["math.Float64frombits", "math.Float64bits"], unfollowed := true, recurses := true, named := ["math/bits.deBruijn64tab"], apart := false, laid := [("math/bits.deBruijn64tab", laid_math_bits_deBruijn64tab)], narrowed := true }
def XorConstantUptoSaid : Prop := xorConstantUptoRow.holds Tryd.pinned (OpenSpec.upto xorConstantSpec)

/-- 'corduroylaw22.XorBound', WHERE WHAT IT READS IS OF BULK AT MOST 1048576: true; the input reads as it did. -/
def xorBoundUptoRow : OpenClaim := { program := "ythcoiaigmndohaadoor", sum := "baea27a35a71237fc5104ca5ee2997d40ed5b5b09e329c6c6dc7daf7af8a99df", func := "corduroy/corduroylaw22.XorBound", spec := "xorBound", inPlace := ["math.Float64frombits", "math.Float64bits"], unfollowed := true, recurses := true, named := ["math/bits.deBruijn64tab"], apart := false, laid := [("math/bits.deBruijn64tab", laid_math_bits_deBruijn64tab)], narrowed := true }
def XorBoundUptoSaid : Prop := xorBoundUptoRow.holds Tryd.pinned (OpenSpec.upto xorBoundSpec)

end Rows
end Go.Proofs.YthcoiaigmndohaaDoor
