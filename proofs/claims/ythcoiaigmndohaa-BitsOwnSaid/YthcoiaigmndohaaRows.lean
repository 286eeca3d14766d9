/-
  No cell of these rows narrows 'for every input' (looked for: loops, veiled, ifaces, maps, wideKeys, modest, calm, conditions, laid).
  DERIVED. THE GIVEN ROWS OF THIS SEAT. 8 by the template 'for every input the law returns true; each argument reads behind the call as it read before'; 0 by the template 'total and deterministic' (their statements: YthcoiaigmndohaaTotals.lean).
  GIVEN WITH THE SEED: the statements are not yours to turn. If you find one false, say at which input.
  Laid BY PROGRAM, IN A SANDBOX (cutbox-rows.mjs): the forced cells as the released guide's own fill.sh prints them over the translation 1a5ab0df25d59a2e… (all of the seat's roots in one cut). By AI agents, Wed Nov 11 2026. No macro, syntax, notation, axiom, sorry.
-/
import Derived.Test.YthcoiaigmndohaaChecked
import GoSem.Claim
import GoSem.ClaimJoined
import GoSem.ClaimMapViews
import Derived.JoinedTies
import Derived.KernelRfl
namespace Go.Proofs.Ythcoiaigmndohaa
/- THE CELL 'sum', in the pinned program and in every row, IS THE sha256 OF THE DUMP (.gsa) THAT YthcoiaigmndohaaProg.lean LOADS. Nothing in Lean hashes anything: it is a label: what it is worth is what the hold of that sum in a sandbox is worth. -/
noncomputable def Try.pinned : Pinned := { name := "ythcoiaigmndohaa", sum := "1a5ab0df25d59a2e2dbd1bcfdf9f1ff3d466d8e4de0c89113f2f2798c3edbd44", checked := Try.checked }
namespace Rows
def none {H : Type} : Left H := { results := [], args := [] }

/-- 'corduroylaw01.BitsApart': WHATEVER THE INPUT: true; the input reads as it did. -/
def bitsApartSpec : ChangeSpec := { name := "bitsApart", fn := fun _ => fun
  | [d1, d2, d3] => { results := [.lit (.bool true)], args := [d1, d2, d3] }
  | _ => none }
def bitsApartRow : OpenClaim := { program := "ythcoiaigmndohaa", sum := "1a5ab0df25d59a2e2dbd1bcfdf9f1ff3d466d8e4de0c89113f2f2798c3edbd44", func := "corduroy/corduroylaw01.BitsApart", spec := "bitsApart", apart := false }
def BitsApartSaid : Prop := bitsApartRow.holds Try.pinned (OpenSpec.ofChange bitsApartSpec)

/-- ITS FALSE NEIGHBOUR: 'it returns false'. Refute it at one input. -/
def bitsApartWrong : ChangeSpec := { name := "bitsApart", fn := fun _ => fun
  | [d1, d2, d3] => { results := [.lit (.bool false)], args := [d1, d2, d3] }
  | _ => none }
def BitsApartWrongFalsely : Prop := bitsApartRow.holds Try.pinned (OpenSpec.ofChange bitsApartWrong)

/-- 'corduroylaw01.BitsWrites': WHATEVER THE INPUT: true; the input reads as it did. -/
def bitsWritesSpec : ChangeSpec := { name := "bitsWrites", fn := fun _ => fun
  | [d1, d2] => { results := [.lit (.bool true)], args := [d1, d2] }
  | _ => none }
def bitsWritesRow : OpenClaim := { program := "ythcoiaigmndohaa", sum := "1a5ab0df25d59a2e2dbd1bcfdf9f1ff3d466d8e4de0c89113f2f2798c3edbd44", func := "corduroy/corduroylaw01.BitsWrites", spec := "bitsWrites", apart := false }
def BitsWritesSaid : Prop := bitsWritesRow.holds Try.pinned (OpenSpec.ofChange bitsWritesSpec)

/-- ITS FALSE NEIGHBOUR: 'it returns false'. Refute it at one input. -/
def bitsWritesWrong : ChangeSpec := { name := "bitsWrites", fn := fun _ => fun
  | [d1, d2] => { results := [.lit (.bool false)], args := [d1, d2] }
  | _ => none }
def BitsWritesWrongFalsely : Prop := bitsWritesRow.holds Try.pinned (OpenSpec.ofChange bitsWritesWrong)

/-- 'corduroylaw01.BitsPacks': WHATEVER THE INPUT: true; the input reads as it did. -/
def bitsPacksSpec : ChangeSpec := { name := "bitsPacks", fn := fun _ => fun
  | [d1, d2, d3] => { results := [.lit (.bool true)], args := [d1, d2, d3] }
  | _ => none }
def bitsPacksRow : OpenClaim := { program := "ythcoiaigmndohaa", sum := "1a5ab0df25d59a2e2dbd1bcfdf9f1ff3d466d8e4de0c89113f2f2798c3edbd44", func := "corduroy/corduroylaw01.BitsPacks", spec := "bitsPacks", apart := false }
def BitsPacksSaid : Prop := bitsPacksRow.holds Try.pinned (OpenSpec.ofChange bitsPacksSpec)

/-- ITS FALSE NEIGHBOUR: 'it returns false'. Refute it at one input. -/
def bitsPacksWrong : ChangeSpec := { name := "bitsPacks", fn := fun _ => fun
  | [d1, d2, d3] => { results := [.lit (.bool false)], args := [d1, d2, d3] }
  | _ => none }
def BitsPacksWrongFalsely : Prop := bitsPacksRow.holds Try.pinned (OpenSpec.ofChange bitsPacksWrong)

/-- 'corduroylaw01.BitsReads': WHATEVER THE INPUT: true; the input reads as it did. -/
def bitsReadsSpec : ChangeSpec := { name := "bitsReads", fn := fun _ => fun
  | [d1, d2] => { results := [.lit (.bool true)], args := [d1, d2] }
  | _ => none }
def bitsReadsRow : OpenClaim := { program := "ythcoiaigmndohaa", sum := "1a5ab0df25d59a2e2dbd1bcfdf9f1ff3d466d8e4de0c89113f2f2798c3edbd44", func := "corduroy/corduroylaw01.BitsReads", spec := "bitsReads", apart := false }
def BitsReadsSaid : Prop := bitsReadsRow.holds Try.pinned (OpenSpec.ofChange bitsReadsSpec)

/-- ITS FALSE NEIGHBOUR: 'it returns false'. Refute it at one input. -/
def bitsReadsWrong : ChangeSpec := { name := "bitsReads", fn := fun _ => fun
  | [d1, d2] => { results := [.lit (.bool false)], args := [d1, d2] }
  | _ => none }
def BitsReadsWrongFalsely : Prop := bitsReadsRow.holds Try.pinned (OpenSpec.ofChange bitsReadsWrong)

/-- 'corduroylaw01.BitsRead': WHATEVER THE INPUT: true; the input reads as it did. -/
def bitsReadSpec : ChangeSpec := { name := "bitsRead", fn := fun _ => fun
  | [d1, d2] => { results := [.lit (.bool true)], args := [d1, d2] }
  | _ => none }
def bitsReadRow : OpenClaim := { program := "ythcoiaigmndohaa", sum := "1a5ab0df25d59a2e2dbd1bcfdf9f1ff3d466d8e4de0c89113f2f2798c3edbd44", func := "corduroy/corduroylaw01.BitsRead", spec := "bitsRead", apart := false }
def BitsReadSaid : Prop := bitsReadRow.holds Try.pinned (OpenSpec.ofChange bitsReadSpec)

/-- ITS FALSE NEIGHBOUR: 'it returns false'. Refute it at one input. -/
def bitsReadWrong : ChangeSpec := { name := "bitsRead", fn := fun _ => fun
  | [d1, d2] => { results := [.lit (.bool false)], args := [d1, d2] }
  | _ => none }
def BitsReadWrongFalsely : Prop := bitsReadRow.holds Try.pinned (OpenSpec.ofChange bitsReadWrong)

/-- 'corduroylaw01.BitsOwn': WHATEVER THE INPUT: true; the input reads as it did. -/
def bitsOwnSpec : ChangeSpec := { name := "bitsOwn", fn := fun _ => fun
  | [d] => { results := [.lit (.bool true)], args := [d] }
  | _ => none }
def bitsOwnRow : OpenClaim := { program := "ythcoiaigmndohaa", sum := "1a5ab0df25d59a2e2dbd1bcfdf9f1ff3d466d8e4de0c89113f2f2798c3edbd44", func := "corduroy/corduroylaw01.BitsOwn", spec := "bitsOwn", apart := false }
def BitsOwnSaid : Prop := bitsOwnRow.holds Try.pinned (OpenSpec.ofChange bitsOwnSpec)

/-- ITS FALSE NEIGHBOUR: 'it returns false'. Refute it at one input. -/
def bitsOwnWrong : ChangeSpec := { name := "bitsOwn", fn := fun _ => fun
  | [d] => { results := [.lit (.bool false)], args := [d] }
  | _ => none }
def BitsOwnWrongFalsely : Prop := bitsOwnRow.holds Try.pinned (OpenSpec.ofChange bitsOwnWrong)

/-- 'corduroylaw01.BitsUnpacks': WHATEVER THE INPUT: true; the input reads as it did. -/
def bitsUnpacksSpec : ChangeSpec := { name := "bitsUnpacks", fn := fun _ => fun
  | [d1, d2, d3] => { results := [.lit (.bool true)], args := [d1, d2, d3] }
  | _ => none }
def bitsUnpacksRow : OpenClaim := { program := "ythcoiaigmndohaa", sum := "1a5ab0df25d59a2e2dbd1bcfdf9f1ff3d466d8e4de0c89113f2f2798c3edbd44", func := "corduroy/corduroylaw01.BitsUnpacks", spec := "bitsUnpacks", apart := false }
def BitsUnpacksSaid : Prop := bitsUnpacksRow.holds Try.pinned (OpenSpec.ofChange bitsUnpacksSpec)

/-- ITS FALSE NEIGHBOUR: 'it returns false'. Refute it at one input. -/
def bitsUnpacksWrong : ChangeSpec := { name := "bitsUnpacks", fn := fun _ => fun
  | [d1, d2, d3] => { results := [.lit (.bool false)], args := [d1, d2, d3] }
  | _ => none }
def BitsUnpacksWrongFalsely : Prop := bitsUnpacksRow.holds Try.pinned (OpenSpec.ofChange bitsUnpacksWrong)

/-- 'corduroylaw01.BitsBack': WHATEVER THE INPUT: true; the input reads as it did. -/
def bitsBackSpec : ChangeSpec := { name := "bitsBack", fn := fun _ => fun
  | [d1, d2, d3] => { results := [.lit (.bool true)], args := [d1, d2, d3] }
  | _ => none }
def bitsBackRow : OpenClaim := { program := "ythcoiaigmndohaa", sum := "1a5ab0df25d59a2e2dbd1bcfdf9f1ff3d466d8e4de0c89113f2f2798c3edbd44", func := "corduroy/corduroylaw01.BitsBack", spec := "bitsBack", apart := false }
def BitsBackSaid : Prop := bitsBackRow.holds Try.pinned (OpenSpec.ofChange bitsBackSpec)

/-- ITS FALSE NEIGHBOUR: 'it returns false'. Refute it at one input. -/
def bitsBackWrong : ChangeSpec := { name := "bitsBack", fn := fun _ => fun
  | [d1, d2, d3] => { results := [.lit (.bool false)], args := [d1, d2, d3] }
  | _ => none }
def BitsBackWrongFalsely : Prop := bitsBackRow.holds Try.pinned (OpenSpec.ofChange bitsBackWrong)

/- THE SECOND FORM. 'bulk': how many values and letters a reading holds, each counted each time it is reached (what is shared counts as often as it is met; a slice's spare places count too). A statement '..UptoSaid' is the law's where the arguments, and the package variables that the reading takes, are together of bulk at most 1048576: NARROWER than '..Said'. Prove '..Said' where nothing that the law and all that it calls make is longer than what came in: it says more and counts as full. Else prove '..UptoSaid'. A law counts once. -/
mutual
def uptoBulk {H : Type} : DataW H → Nat
  | .lit (.string bytes) => bytes.length + 1
  | .lit _ => 1
  | .nil => 1
  | .ptr d => uptoBulk d + 1
  | .slice elems spare => uptoBulkAll elems + uptoBulkAll spare + 1
  | .agg parts => uptoBulkAll parts + 1
  | .iface _ d => uptoBulk d + 1
  | .map entries => uptoBulkEntries entries + 1
  | .held _ => 1
def uptoBulkAll {H : Type} : List (DataW H) → Nat
  | [] => 0
  | d :: r => uptoBulk d + uptoBulkAll r
def uptoBulkEntries {H : Type} : List (Lit × DataW H) → Nat
  | [] => 0
  | x :: r => uptoBulkEntry x + uptoBulkEntries r
def uptoBulkEntry {H : Type} : Lit × DataW H → Nat
  | (.string bytes, d) => bytes.length + uptoBulk d + 1
  | (_, d) => uptoBulk d + 1
 end
def uptoSmall : (H : Type) → List (DataW H) → Bool := fun _ ds => decide (uptoBulkAll ds ≤ 1048576)
def OpenSpec.upto (s : _root_.Go.ChangeSpec) : _root_.Go.OpenSpec := { _root_.Go.OpenSpec.ofChange s with cond := some uptoSmall }

/-- 'corduroylaw01.BitsApart', WHERE WHAT IT READS IS OF BULK AT MOST 1048576: true; the input reads as it did. -/
def bitsApartUptoRow : OpenClaim := { program := "ythcoiaigmndohaa", sum := "1a5ab0df25d59a2e2dbd1bcfdf9f1ff3d466d8e4de0c89113f2f2798c3edbd44", func := "corduroy/corduroylaw01.BitsApart", spec := "bitsApart", apart := false, narrowed := true }
def BitsApartUptoSaid : Prop := bitsApartUptoRow.holds Try.pinned (OpenSpec.upto bitsApartSpec)

/-- 'corduroylaw01.BitsWrites', WHERE WHAT IT READS IS OF BULK AT MOST 1048576: true; the input reads as it did. -/
def bitsWritesUptoRow : OpenClaim := { program := "ythcoiaigmndohaa", sum := "1a5ab0df25d59a2e2dbd1bcfdf9f1ff3d466d8e4de0c89113f2f2798c3edbd44", func := "corduroy/corduroylaw01.BitsWrites", spec := "bitsWrites", apart := false, narrowed := true }
def BitsWritesUptoSaid : Prop := bitsWritesUptoRow.holds Try.pinned (OpenSpec.upto bitsWritesSpec)

/-- 'corduroylaw01.BitsPacks', WHERE WHAT IT READS IS OF BULK AT MOST 1048576: true; the input reads as it did. -/
def bitsPacksUptoRow : OpenClaim := { program := "ythcoiaigmndohaa", sum := "1a5ab0df25d59a2e2dbd1bcfdf9f1ff3d466d8e4de0c89113f2f2798c3edbd44", func := "corduroy/corduroylaw01.BitsPacks", spec := "bitsPacks", apart := false, narrowed := true }
def BitsPacksUptoSaid : Prop := bitsPacksUptoRow.holds Try.pinned (OpenSpec.upto bitsPacksSpec)

/-- 'corduroylaw01.BitsReads', WHERE WHAT IT READS IS OF BULK AT MOST 1048576: true; the input reads as it did. -/
def bitsReadsUptoRow : OpenClaim := { program := "ythcoiaigmndohaa", sum := "1a5ab0df25d59a2e2dbd1bcfdf9f1ff3d466d8e4de0c89113f2f2798c3edbd44", func := "corduroy/corduroylaw01.BitsReads", spec := "bitsReads", apart := false, narrowed := true }
def BitsReadsUptoSaid : Prop := bitsReadsUptoRow.holds Try.pinned (OpenSpec.upto bitsReadsSpec)

/-- 'corduroylaw01.BitsRead', WHERE WHAT IT READS IS OF BULK AT MOST 1048576: true; the input reads as it did. -/
def bitsReadUptoRow : OpenClaim := { program := "ythcoiaigmndohaa", sum := "1a5ab0df25d59a2e2dbd1bcfdf9f1ff3d466d8e4de0c89113f2f2798c3edbd44", func := "corduroy/corduroylaw01.BitsRead", spec := "bitsRead", apart := false, narrowed := true }
def BitsReadUptoSaid : Prop := bitsReadUptoRow.holds Try.pinned (OpenSpec.upto bitsReadSpec)

/-- 'corduroylaw01.BitsOwn', WHERE WHAT IT READS IS OF BULK AT MOST 1048576: true; the input reads as it did. -/
def bitsOwnUptoRow : OpenClaim := { program := "ythcoiaigmndohaa", sum := "1a5ab0df25d59a2e2dbd1bcfdf9f1ff3d466d8e4de0c89113f2f2798c3edbd44", func := "corduroy/corduroylaw01.BitsOwn", spec := "bitsOwn", apart := false, narrowed := true }
def BitsOwnUptoSaid : Prop := bitsOwnUptoRow.holds Try.pinned (OpenSpec.upto bitsOwnSpec)

/-- 'corduroylaw01.BitsUnpacks', WHERE WHAT IT READS IS OF BULK AT MOST 1048576: true; the input reads as it did. -/
def bitsUnpacksUptoRow : OpenClaim := { program := "ythcoiaigmndohaa", sum := "1a5ab0df25d59a2e2dbd1bcfdf9f1ff3d466d8e4de0c89113f2f2798c3edbd44", func := "corduroy/corduroylaw01.BitsUnpacks", spec := "bitsUnpacks", apart := false, narrowed := true }
def BitsUnpacksUptoSaid : Prop := bitsUnpacksUptoRow.holds Try.pinned (OpenSpec.upto bitsUnpacksSpec)

/-- 'corduroylaw01.BitsBack', WHERE WHAT IT READS IS OF BULK AT MOST 1048576: true; the input reads as it did. -/
def bitsBackUptoRow : OpenClaim := { program := "ythcoiaigmndohaa", sum := "1a5ab0df25d59a2e2dbd1bcfdf9f1ff3d466d8e4de0c89113f2f2798c3edbd44", func := "corduroy/corduroylaw01.BitsBack", spec := "bitsBack", apart := false, narrowed := true }
def BitsBackUptoSaid : Prop := bitsBackUptoRow.holds Try.pinned (OpenSpec.upto bitsBackSpec)

end Rows
end Go.Proofs.Ythcoiaigmndohaa
