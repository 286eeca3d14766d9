/-
  NARROWER THAN 'FOR EVERY INPUT', by the rows' own cells (each row's printed sentence says how): RealTurned: laid · RealPairs: laid · RealMaps: laid · RealOrder: laid · RealTells: laid · RealKinds: laid.
  DERIVED. THE GIVEN ROWS OF THIS SEAT. 6 by the template 'for every input the law returns true; each argument reads behind the call as it read before'; 0 by the template 'total and deterministic' (their statements: YtfpmbkdijechaaaDoorTotals.lean).
  GIVEN WITH THE SEED: the statements are not yours to turn. If you find one false, say at which input.
  Laid BY PROGRAM, IN A SANDBOX (cutbox-rows.mjs): the forced cells as the released guide's own fill.sh prints them over the translation ab6d2f8637dd111c… (all of the seat's roots in one cut). By AI agents, Wed Nov 11 2026. No macro, syntax, notation, axiom, sorry.
-/
import Derived.Test.YtfpmbkdijechaaaDoorChecked
import GoSem.Claim
import GoSem.ClaimJoined
import GoSem.ClaimMapViews
import Derived.JoinedTies
import Derived.KernelRfl
namespace Go.Proofs.YtfpmbkdijechaaaDoor
/- THE CELL 'sum', in the pinned program and in every row, IS THE sha256 OF THE DUMP (.gsa) THAT YtfpmbkdijechaaaDoorProg.lean LOADS. Nothing in Lean hashes anything: it is a label: what it is worth is what the hold of that sum in a sandbox is worth. -/
noncomputable def Tryd.pinned : Pinned := { name := "ytfpmbkdijechaaadoor", sum := "ab6d2f8637dd111c74fa38c66026ef9b1e62e0eb0bf3c8ca50c841e571971fd3", checked := Tryd.checked }
namespace Rows
def none {H : Type} : Left H := { results := [], args := [] }

/- WHAT THE LISTED PACKAGE-LEVEL VARIABLES READ AS WHEN THE CALL BEGINS. Each datum BY PROGRAM (the guide's laid-datum.mjs) off the statement by which the dump's own 'gosem.cut.vars' lays the variable. In a bare row this is a premise. The card (YtfpmbkdijechaaaDoorCards.lean) ties it to the program's text. -/
def laid_corduroy_real_names {H : Type} : DataW H := .agg [.lit (.string [109, 105, 110, 117, 115, 32, 105, 110, 102]), .lit (.string [109, 105, 110, 117, 115]), .lit (.string [109, 105, 110, 117, 115, 32, 116, 105, 110, 121]), .lit (.string [109, 105, 110, 117, 115, 32, 122, 101, 114, 111]), .lit (.string [122, 101, 114, 111]), .lit (.string [116, 105, 110, 121]), .lit (.string [112, 108, 117, 115]), .lit (.string [105, 110, 102]), .lit (.string [110, 97, 110])]

/-- 'corduroylaw20.RealTurned': WHATEVER THE INPUT: true; the input reads as it did. -/
def realTurnedSpec : ChangeSpec := { name := "realTurned", fn := fun _ => fun
  | [d] => { results := [.lit (.bool true)], args := [d] }
  | _ => none }
def realTurnedRow : OpenClaim := { program := "ytfpmbkdijechaaadoor", sum := "ab6d2f8637dd111c74fa38c66026ef9b1e62e0eb0bf3c8ca50c841e571971fd3", func := "corduroy/corduroylaw20.RealTurned", spec := "realTurned", inPlace := ["math.Float64frombits", "math.Float64bits"], named := ["corduroy/real.names"], apart := false, laid := [("corduroy/real.names", laid_corduroy_real_names)] }
def RealTurnedSaid : Prop := realTurnedRow.holds Tryd.pinned (OpenSpec.ofChange realTurnedSpec)

/-- ITS FALSE NEIGHBOUR: 'it returns false'. Refute it at one input. -/
def realTurnedWrong : ChangeSpec := { name := "realTurned", fn := fun _ => fun
  | [d] => { results := [.lit (.bool false)], args := [d] }
  | _ => none }
def RealTurnedWrongFalsely : Prop := realTurnedRow.holds Tryd.pinned (OpenSpec.ofChange realTurnedWrong)

/-- 'corduroylaw20.RealPairs': WHATEVER THE INPUT: true; the input reads as it did. -/
def realPairsSpec : ChangeSpec := { name := "realPairs", fn := fun _ => fun
  | [d1, d2] => { results := [.lit (.bool true)], args := [d1, d2] }
  | _ => none }
def realPairsRow : OpenClaim := { program := "ytfpmbkdijechaaadoor", sum := "ab6d2f8637dd111c74fa38c66026ef9b1e62e0eb0bf3c8ca50c841e571971fd3", func := "corduroy/corduroylaw20.RealPairs", spec := "realPairs", inPlace := ["math.Float64frombits", "math.Float64bits"], named := ["corduroy/real.names"], apart := false, laid := [("corduroy/real.names", laid_corduroy_real_names)] }
def RealPairsSaid : Prop := realPairsRow.holds Tryd.pinned (OpenSpec.ofChange realPairsSpec)

/-- ITS FALSE NEIGHBOUR: 'it returns false'. Refute it at one input. -/
def realPairsWrong : ChangeSpec := { name := "realPairs", fn := fun _ => fun
  | [d1, d2] => { results := [.lit (.bool false)], args := [d1, d2] }
  | _ => none }
def RealPairsWrongFalsely : Prop := realPairsRow.holds Tryd.pinned (OpenSpec.ofChange realPairsWrong)

/-- 'corduroylaw20.RealMaps': WHATEVER THE INPUT: true; the input reads as it did. -/
def realMapsSpec : ChangeSpec := { name := "realMaps", fn := fun _ => fun
  | [d] => { results := [.lit (.bool true)], args := [d] }
  | _ => none }
def realMapsRow : OpenClaim := { program := "ytfpmbkdijechaaadoor", sum := "ab6d2f8637dd111c74fa38c66026ef9b1e62e0eb0bf3c8ca50c841e571971fd3", func := "corduroy/corduroylaw20.RealMaps", spec := "realMaps", inPlace := ["math.Float64frombits", "math.Float64bits"], unfollowed := true, recurses := true, named := ["corduroy/real.names"], apart := false, laid := [("corduroy/real.names", laid_corduroy_real_names)] }
def RealMapsSaid : Prop := realMapsRow.holds Tryd.pinned (OpenSpec.ofChange realMapsSpec)

/-- ITS FALSE NEIGHBOUR: 'it returns false'. Refute it at one input. -/
def realMapsWrong : ChangeSpec := { name := "realMaps", fn := fun _ => fun
  | [d] => { results := [.lit (.bool false)], args := [d] }
  | _ => none }
def RealMapsWrongFalsely : Prop := realMapsRow.holds Tryd.pinned (OpenSpec.ofChange realMapsWrong)

/-- 'corduroylaw20.RealOrder': WHATEVER THE INPUT: true; the input reads as it did. -/
def realOrderSpec : ChangeSpec := { name := "realOrder", fn := fun _ => fun
  | [d1, d2] => { results := [.lit (.bool true)], args := [d1, d2] }
  | _ => none }
def realOrderRow : OpenClaim := { program := "ytfpmbkdijechaaadoor", sum := "ab6d2f8637dd111c74fa38c66026ef9b1e62e0eb0bf3c8ca50c841e571971fd3", func := "corduroy/corduroylaw20.RealOrder", spec := "realOrder", inPlace := ["math.Float64frombits", "math.Float64bits"], named := ["corduroy/real.names"], apart := false, laid := [("corduroy/real.names", laid_corduroy_real_names)] }
def RealOrderSaid : Prop := realOrderRow.holds Tryd.pinned (OpenSpec.ofChange realOrderSpec)

/-- ITS FALSE NEIGHBOUR: 'it returns false'. Refute it at one input. -/
def realOrderWrong : ChangeSpec := { name := "realOrder", fn := fun _ => fun
  | [d1, d2] => { results := [.lit (.bool false)], args := [d1, d2] }
  | _ => none }
def RealOrderWrongFalsely : Prop := realOrderRow.holds Tryd.pinned (OpenSpec.ofChange realOrderWrong)

/-- 'corduroylaw20.RealTells': WHATEVER THE INPUT: true; the input reads as it did. -/
def realTellsSpec : ChangeSpec := { name := "realTells", fn := fun _ => fun
  | [d1, d2, d3] => { results := [.lit (.bool true)], args := [d1, d2, d3] }
  | _ => none }
def realTellsRow : OpenClaim := { program := "ytfpmbkdijechaaadoor", sum := "ab6d2f8637dd111c74fa38c66026ef9b1e62e0eb0bf3c8ca50c841e571971fd3", func := "corduroy/corduroylaw20.RealTells", spec := "realTells", inPlace := ["math.Float64frombits", "math.archTrunc", "math.Float64bits"], named := ["corduroy/real.names"], apart := false, laid := [("corduroy/real.names", laid_corduroy_real_names)] }
def RealTellsSaid : Prop := realTellsRow.holds Tryd.pinned (OpenSpec.ofChange realTellsSpec)

/-- ITS FALSE NEIGHBOUR: 'it returns false'. Refute it at one input. -/
def realTellsWrong : ChangeSpec := { name := "realTells", fn := fun _ => fun
  | [d1, d2, d3] => { results := [.lit (.bool false)], args := [d1, d2, d3] }
  | _ => none }
def RealTellsWrongFalsely : Prop := realTellsRow.holds Tryd.pinned (OpenSpec.ofChange realTellsWrong)

/-- 'corduroylaw20.RealKinds': WHATEVER THE INPUT: true; the input reads as it did. -/
def realKindsSpec : ChangeSpec := { name := "realKinds", fn := fun _ => fun
  | [d1, d2] => { results := [.lit (.bool true)], args := [d1, d2] }
  | _ => none }
def realKindsRow : OpenClaim := { program := "ytfpmbkdijechaaadoor", sum := "ab6d2f8637dd111c74fa38c66026ef9b1e62e0eb0bf3c8ca50c841e571971fd3", func := "corduroy/corduroylaw20.RealKinds", spec := "realKinds", inPlace := ["math.Float64frombits", "math.Float64bits", "math.archTrunc"], named := ["corduroy/real.names"], apart := false, laid := [("corduroy/real.names", laid_corduroy_real_names)] }
def RealKindsSaid : Prop := realKindsRow.holds Tryd.pinned (OpenSpec.ofChange realKindsSpec)

/-- ITS FALSE NEIGHBOUR: 'it returns false'. Refute it at one input. -/
def realKindsWrong : ChangeSpec := { name := "realKinds", fn := fun _ => fun
  | [d1, d2] => { results := [.lit (.bool false)], args := [d1, d2] }
  | _ => none }
def RealKindsWrongFalsely : Prop := realKindsRow.holds Tryd.pinned (OpenSpec.ofChange realKindsWrong)

/- THE SECOND FORM. 'bulk': how many values and letters a reading holds, each counted each time it is reached (what is shared counts as often as it is met; a slice's spare places count too). A statement '..UptoSaid' is the law's where the arguments, and the package variables that the reading takes, are together of bulk at most 1048576: NARROWER than '..Said'. Prove '..Said' where nothing that the law and all that it calls make is longer than what came in: it says more and counts as full. Else prove '..UptoSaid'. A law counts once. -/
mutual
def uptoBulk {H : Type} : DataW H → Nat
  | .lit (.string bytes) => bytes.length + 1
  | .lit _ => 1
  | .nil => 1
  | .ptr d => uptoBulk d + 1
  | .slice elems spare => uptoBulkAll elems + uptoBulkAll spare + 1
  | .agg parts => uptoBulkAll parts + 1
  | .iface _ d => uptoBulk d + 1
  | .map entries => uptoBulkEntries entries + 1
  | .held _ => 1
def uptoBulkAll {H : Type} : List (DataW H) → Nat
  | [] => 0
  | d :: r => uptoBulk d + uptoBulkAll r
def uptoBulkEntries {H : Type} : List (Lit × DataW H) → Nat
  | [] => 0
  | x :: r => uptoBulkEntry x + uptoBulkEntries r
def uptoBulkEntry {H : Type} : Lit × DataW H → Nat
  | (.string bytes, d) => bytes.length + uptoBulk d + 1
  | (_, d) => uptoBulk d + 1
 end
def uptoSmall : (H : Type) → List (DataW H) → Bool := fun _ ds => decide (uptoBulkAll ds ≤ 1048576)
def OpenSpec.upto (s : _root_.Go.ChangeSpec) : _root_.Go.OpenSpec := { _root_.Go.OpenSpec.ofChange s with cond := some uptoSmall }

/-- 'corduroylaw20.RealTurned', WHERE WHAT IT READS IS OF BULK AT MOST 1048576: true; the input reads as it did. -/
def realTurnedUptoRow : OpenClaim := { program := "ytfpmbkdijechaaadoor", sum := "ab6d2f8637dd111c74fa38c66026ef9b1e62e0eb0bf3c8ca50c841e571971fd3", func := "corduroy/corduroylaw20.RealTurned", spec := "realTurned", inPlace := ["math.Float64frombits", "math.Float64bits"], named := ["corduroy/real.names"], apart := false, laid := [("corduroy/real.names", laid_corduroy_real_names)], narrowed := true }
def RealTurnedUptoSaid : Prop := realTurnedUptoRow.holds Tryd.pinned (OpenSpec.upto realTurnedSpec)

/-- 'corduroylaw20.RealPairs', WHERE WHAT IT READS IS OF BULK AT MOST 1048576: true; the input reads as it did. -/
def realPairsUptoRow : OpenClaim := { program := "ytfpmbkdijechaaadoor", sum := "ab6d2f8637dd111c74fa38c66026ef9b1e62e0eb0bf3c8ca50c841e571971fd3", func := "corduroy/corduroylaw20.RealPairs", spec := "realPairs", inPlace := ["math.Float64frombits", "math.Float64bits"], named := ["corduroy/real.names"], apart := false, laid := [("corduroy/real.names", laid_corduroy_real_names)], narrowed := true }
def RealPairsUptoSaid : Prop := realPairsUptoRow.holds Tryd.pinned (OpenSpec.upto realPairsSpec)

/-- 'corduroylaw20.RealMaps', WHERE WHAT IT READS IS OF BULK AT MOST 1048576: true; the input reads as it did. -/
def realMapsUptoRow : OpenClaim := { program := "ytfpmbkdijechaaadoor", sum := "ab6d2f8637dd111c74fa38c66026ef9b1e62e0eb0bf3c8ca50c841e571971fd3", func := "corduroy/corduroylaw20.RealMaps", spec := "realMaps", inPlace := ["math.Float64frombits", "math.Float64bits"], unfollowed := true, recurses := true, named := ["corduroy/real.names"], apart := false, laid := [("corduroy/real.names", laid_corduroy_real_names)], narrowed := true }
def RealMapsUptoSaid : Prop := realMapsUptoRow.holds Tryd.pinned (OpenSpec.upto realMapsSpec)

/-- 'corduroylaw20.RealOrder', WHERE WHAT IT READS IS OF BULK AT MOST 1048576: true; the input reads as it did. -/
def realOrderUptoRow : OpenClaim := { program := "ytfpmbkdijechaaadoor", sum := "ab6d2f8637dd111c74fa38c66026ef9b1e62e0eb0bf3c8ca50c841e571971fd3", func := "corduroy/corduroylaw20.RealOrder", spec := "realOrder", inPlace := ["math.Float64frombits", "math.Float64bits"], named := ["corduroy/real.names"], apart := false, laid := [("corduroy/real.names", laid_corduroy_real_names)], narrowed := true }
def RealOrderUptoSaid : Prop := realOrderUptoRow.holds Tryd.pinned (OpenSpec.upto realOrderSpec)

/-- 'corduroylaw20.RealTells', WHERE WHAT IT READS IS OF BULK AT MOST 1048576: true; the input reads as it did. -/
def realTellsUptoRow : OpenClaim := { program := "ytfpmbkdijechaaadoor", sum := "ab6d2f8637dd111c74fa38c66026ef9b1e62e0eb0bf3c8ca50c841e571971fd3", func := "corduroy/corduroylaw20.RealTells", spec := "realTells", inPlace := ["math.Float64frombits", "math.archTrunc", "math.Float64bits"], named := ["corduroy/real.names"], apart := false, laid := [("corduroy/real.names", laid_corduroy_real_names)], narrowed := true }
def RealTellsUptoSaid : Prop := realTellsUptoRow.holds Tryd.pinned (OpenSpec.upto realTellsSpec)

/-- 'corduroylaw20.RealKinds', WHERE WHAT IT READS IS OF BULK AT MOST 1048576: true; the input reads as it did. -/
def realKindsUptoRow : OpenClaim := { program := "ytfpmbkdijechaaadoor", sum := "ab6d2f8637dd111c74fa38c66026ef9b1e62e0eb0bf3c8ca50c841e571971fd3", func := "corduroy/corduroylaw20.RealKinds", spec := "realKinds", inPlace := ["math.Float64frombits", "math.Float64bits", "math.archTrunc"], named := ["corduroy/real.names"], apart := false, laid := [("corduroy/real.names", laid_corduroy_real_names)], narrowed := true }
def RealKindsUptoSaid : Prop := realKindsUptoRow.holds Tryd.pinned (OpenSpec.upto realKindsSpec)

end Rows
end Go.Proofs.YtfpmbkdijechaaaDoor
