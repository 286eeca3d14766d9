/-
  No cell of these rows narrows 'for every input' (looked for: loops, veiled, ifaces, maps, wideKeys, modest, calm, conditions, laid).
  DERIVED. THE GIVEN ROWS OF THIS SEAT. 4 by the template 'for every input the law returns true; each argument reads behind the call as it read before'; 0 by the template 'total and deterministic' (their statements: YtfpmbkdijechaaaTotals.lean).
  GIVEN WITH THE SEED: the statements are not yours to turn. If you find one false, say at which input.
  Laid BY PROGRAM, IN A SANDBOX (cutbox-rows.mjs): the forced cells as the released guide's own fill.sh prints them over the translation b8e0ae8a4d542858… (all of the seat's roots in one cut). By AI agents, Wed Nov 11 2026. No macro, syntax, notation, axiom, sorry.
-/
import Derived.Test.YtfpmbkdijechaaaChecked
import GoSem.Claim
import GoSem.ClaimJoined
import GoSem.ClaimMapViews
import Derived.JoinedTies
import Derived.KernelRfl
namespace Go.Proofs.Ytfpmbkdijechaaa
/- THE CELL 'sum', in the pinned program and in every row, IS THE sha256 OF THE DUMP (.gsa) THAT YtfpmbkdijechaaaProg.lean LOADS. Nothing in Lean hashes anything: it is a label: what it is worth is what the hold of that sum in a sandbox is worth. -/
noncomputable def Try.pinned : Pinned := { name := "ytfpmbkdijechaaa", sum := "b8e0ae8a4d54285862d62d2e64b236fea32c41e554a1756b088e01f2bf67f7b4", checked := Try.checked }
namespace Rows
def none {H : Type} : Left H := { results := [], args := [] }

/-- 'corduroylaw21.StatJoins': WHATEVER THE INPUT: true; the input reads as it did. -/
def statJoinsSpec : ChangeSpec := { name := "statJoins", fn := fun _ => fun
  | [d1, d2, d3] => { results := [.lit (.bool true)], args := [d1, d2, d3] }
  | _ => none }
def statJoinsRow : OpenClaim := { program := "ytfpmbkdijechaaa", sum := "b8e0ae8a4d54285862d62d2e64b236fea32c41e554a1756b088e01f2bf67f7b4", func := "corduroy/corduroylaw21.StatJoins", spec := "statJoins", inPlace := ["math.Float64frombits", "math.Float64bits", "math.archTrunc"], apart := false }
def StatJoinsSaid : Prop := statJoinsRow.holds Try.pinned (OpenSpec.ofChange statJoinsSpec)

/-- ITS FALSE NEIGHBOUR: 'it returns false'. Refute it at one input. -/
def statJoinsWrong : ChangeSpec := { name := "statJoins", fn := fun _ => fun
  | [d1, d2, d3] => { results := [.lit (.bool false)], args := [d1, d2, d3] }
  | _ => none }
def StatJoinsWrongFalsely : Prop := statJoinsRow.holds Try.pinned (OpenSpec.ofChange statJoinsWrong)

/-- 'corduroylaw21.StatParts': WHATEVER THE INPUT: true; the input reads as it did. -/
def statPartsSpec : ChangeSpec := { name := "statParts", fn := fun _ => fun
  | [d1, d2, d3] => { results := [.lit (.bool true)], args := [d1, d2, d3] }
  | _ => none }
def statPartsRow : OpenClaim := { program := "ytfpmbkdijechaaa", sum := "b8e0ae8a4d54285862d62d2e64b236fea32c41e554a1756b088e01f2bf67f7b4", func := "corduroy/corduroylaw21.StatParts", spec := "statParts", inPlace := ["math.Float64frombits", "math.Float64bits", "math.archTrunc"], apart := false }
def StatPartsSaid : Prop := statPartsRow.holds Try.pinned (OpenSpec.ofChange statPartsSpec)

/-- ITS FALSE NEIGHBOUR: 'it returns false'. Refute it at one input. -/
def statPartsWrong : ChangeSpec := { name := "statParts", fn := fun _ => fun
  | [d1, d2, d3] => { results := [.lit (.bool false)], args := [d1, d2, d3] }
  | _ => none }
def StatPartsWrongFalsely : Prop := statPartsRow.holds Try.pinned (OpenSpec.ofChange statPartsWrong)

/-- 'corduroylaw21.StatTells': WHATEVER THE INPUT: true; the input reads as it did. -/
def statTellsSpec : ChangeSpec := { name := "statTells", fn := fun _ => fun
  | [d1, d2] => { results := [.lit (.bool true)], args := [d1, d2] }
  | _ => none }
def statTellsRow : OpenClaim := { program := "ytfpmbkdijechaaa", sum := "b8e0ae8a4d54285862d62d2e64b236fea32c41e554a1756b088e01f2bf67f7b4", func := "corduroy/corduroylaw21.StatTells", spec := "statTells", inPlace := ["math.Float64frombits", "math.Float64bits", "math.archTrunc"], apart := false }
def StatTellsSaid : Prop := statTellsRow.holds Try.pinned (OpenSpec.ofChange statTellsSpec)

/-- ITS FALSE NEIGHBOUR: 'it returns false'. Refute it at one input. -/
def statTellsWrong : ChangeSpec := { name := "statTells", fn := fun _ => fun
  | [d1, d2] => { results := [.lit (.bool false)], args := [d1, d2] }
  | _ => none }
def StatTellsWrongFalsely : Prop := statTellsRow.holds Try.pinned (OpenSpec.ofChange statTellsWrong)

/-- 'corduroylaw21.StatMay': WHATEVER THE INPUT: true; the input reads as it did. -/
def statMaySpec : ChangeSpec := { name := "statMay", fn := fun _ => fun
  | [d] => { results := [.lit (.bool true)], args := [d] }
  | _ => none }
def statMayRow : OpenClaim := { program := "ytfpmbkdijechaaa", sum := "b8e0ae8a4d54285862d62d2e64b236fea32c41e554a1756b088e01f2bf67f7b4", func := "corduroy/corduroylaw21.StatMay", spec := "statMay", inPlace := ["math.Float64frombits", "math.Float64bits", "math.archTrunc"], apart := false }
def StatMaySaid : Prop := statMayRow.holds Try.pinned (OpenSpec.ofChange statMaySpec)

/-- ITS FALSE NEIGHBOUR: 'it returns false'. Refute it at one input. -/
def statMayWrong : ChangeSpec := { name := "statMay", fn := fun _ => fun
  | [d] => { results := [.lit (.bool false)], args := [d] }
  | _ => none }
def StatMayWrongFalsely : Prop := statMayRow.holds Try.pinned (OpenSpec.ofChange statMayWrong)

/- THE SECOND FORM. 'bulk': how many values and letters a reading holds, each counted each time it is reached (what is shared counts as often as it is met; a slice's spare places count too). A statement '..UptoSaid' is the law's where the arguments, and the package variables that the reading takes, are together of bulk at most 1048576: NARROWER than '..Said'. Prove '..Said' where nothing that the law and all that it calls make is longer than what came in: it says more and counts as full. Else prove '..UptoSaid'. A law counts once. -/
mutual
def uptoBulk {H : Type} : DataW H → Nat
  | .lit (.string bytes) => bytes.length + 1
  | .lit _ => 1
  | .nil => 1
  | .ptr d => uptoBulk d + 1
  | .slice elems spare => uptoBulkAll elems + uptoBulkAll spare + 1
  | .agg parts => uptoBulkAll parts + 1
  | .iface _ d => uptoBulk d + 1
  | .map entries => uptoBulkEntries entries + 1
  | .held _ => 1
def uptoBulkAll {H : Type} : List (DataW H) → Nat
  | [] => 0
  | d :: r => uptoBulk d + uptoBulkAll r
def uptoBulkEntries {H : Type} : List (Lit × DataW H) → Nat
  | [] => 0
  | x :: r => uptoBulkEntry x + uptoBulkEntries r
def uptoBulkEntry {H : Type} : Lit × DataW H → Nat
  | (.string bytes, d) => bytes.length + uptoBulk d + 1
  | (_, d) => uptoBulk d + 1
 end
def uptoSmall : (H : Type) → List (DataW H) → Bool := fun _ ds => decide (uptoBulkAll ds ≤ 1048576)
def OpenSpec.upto (s : _root_.Go.ChangeSpec) : _root_.Go.OpenSpec := { _root_.Go.OpenSpec.ofChange s with cond := some uptoSmall }

/-- 'corduroylaw21.StatJoins', WHERE WHAT IT READS IS OF BULK AT MOST 1048576: true; the input reads as it did. -/
def statJoinsUptoRow : OpenClaim := { program := "ytfpmbkdijechaaa", sum := "b8e0ae8a4d54285862d62d2e64b236fea32c41e554a1756b088e01f2bf67f7b4", func := "corduroy/corduroylaw21.StatJoins", spec := "statJoins", inPlace := ["math.Float64frombits", "math.Float64bits", "math.archTrunc"], apart := false, narrowed := true }
def StatJoinsUptoSaid : Prop := statJoinsUptoRow.holds Try.pinned (OpenSpec.upto statJoinsSpec)

/-- 'corduroylaw21.StatParts', WHERE WHAT IT READS IS OF BULK AT MOST 1048576: true; the input reads as it did. -/
def statPartsUptoRow : OpenClaim := { program := "ytfpmbkdijechaaa", sum := "b8e0ae8a4d54285862d62d2e64b236fea32c41e554a1756b088e01f2bf67f7b4", func := "corduroy/corduroylaw21.StatParts", spec := "statParts", inPlace := ["math.Float64frombits", "math.Float64bits", "math.archTrunc"], apart := false, narrowed := true }
def StatPartsUptoSaid : Prop := statPartsUptoRow.holds Try.pinned (OpenSpec.upto statPartsSpec)

/-- 'corduroylaw21.StatTells', WHERE WHAT IT READS IS OF BULK AT MOST 1048576: true; the input reads as it did. -/
def statTellsUptoRow : OpenClaim := { program := "ytfpmbkdijechaaa", sum := "b8e0ae8a4d54285862d62d2e64b236fea32c41e554a1756b088e01f2bf67f7b4", func := "corduroy/corduroylaw21.StatTells", spec := "statTells", inPlace := ["math.Float64frombits", "math.Float64bits", "math.archTrunc"], apart := false, narrowed := true }
def StatTellsUptoSaid : Prop := statTellsUptoRow.holds Try.pinned (OpenSpec.upto statTellsSpec)

/-- 'corduroylaw21.StatMay', WHERE WHAT IT READS IS OF BULK AT MOST 1048576: true; the input reads as it did. -/
def statMayUptoRow : OpenClaim := { program := "ytfpmbkdijechaaa", sum := "b8e0ae8a4d54285862d62d2e64b236fea32c41e554a1756b088e01f2bf67f7b4", func := "corduroy/corduroylaw21.StatMay", spec := "statMay", inPlace := ["math.Float64frombits", "math.Float64bits", "math.archTrunc"], apart := false, narrowed := true }
def StatMayUptoSaid : Prop := statMayUptoRow.holds Try.pinned (OpenSpec.upto statMaySpec)

end Rows
end Go.Proofs.Ytfpmbkdijechaaa
