/-
  No cell of these rows narrows 'for every input' (looked for: loops, veiled, ifaces, maps, wideKeys, modest, calm, conditions, laid).
  DERIVED. THE GIVEN ROWS OF THIS SEAT. 4 by the template 'for every input the law returns true; each argument reads behind the call as it read before'; 0 by the template 'total and deterministic' (their statements: YtlgnepkapcjfnaaTotals.lean).
  GIVEN WITH THE SEED: the statements are not yours to turn. If you find one false, say at which input.
  Laid BY PROGRAM, IN A SANDBOX (cutbox-rows.mjs): the forced cells as the released guide's own fill.sh prints them over the translation 2f8af6911794bd3a… (all of the seat's roots in one cut). By AI agents, Wed Nov 11 2026. No macro, syntax, notation, axiom, sorry.
-/
import Derived.Test.YtlgnepkapcjfnaaChecked
import GoSem.Claim
import GoSem.ClaimJoined
import GoSem.ClaimMapViews
import Derived.JoinedTies
import Derived.KernelRfl
namespace Go.Proofs.Ytlgnepkapcjfnaa
/- THE CELL 'sum', in the pinned program and in every row, IS THE sha256 OF THE DUMP (.gsa) THAT YtlgnepkapcjfnaaProg.lean LOADS. Nothing in Lean hashes anything: it is a label: what it is worth is what the hold of that sum in a sandbox is worth. -/
noncomputable def Try.pinned : Pinned := { name := "ytlgnepkapcjfnaa", sum := "2f8af6911794bd3ac8d7710ccd68960bc0f7ced05d66b53cd11ddb89dfb294d4", checked := Try.checked }
namespace Rows
def none {H : Type} : Left H := { results := [], args := [] }

/-- 'corduroylaw02.TrapNests': WHATEVER THE INPUT: true; the input reads as it did. -/
def trapNestsSpec : ChangeSpec := { name := "trapNests", fn := fun _ => fun
  | [d] => { results := [.lit (.bool true)], args := [d] }
  | _ => none }
def trapNestsRow : OpenClaim := { program := "ytlgnepkapcjfnaa", sum := "2f8af6911794bd3ac8d7710ccd68960bc0f7ced05d66b53cd11ddb89dfb294d4", func := "corduroy/corduroylaw02.TrapNests", spec := "trapNests", unfollowed := true, recurses := true, apart := false }
def TrapNestsSaid : Prop := trapNestsRow.holds Try.pinned (OpenSpec.ofChange trapNestsSpec)

/-- ITS FALSE NEIGHBOUR: 'it returns false'. Refute it at one input. -/
def trapNestsWrong : ChangeSpec := { name := "trapNests", fn := fun _ => fun
  | [d] => { results := [.lit (.bool false)], args := [d] }
  | _ => none }
def TrapNestsWrongFalsely : Prop := trapNestsRow.holds Try.pinned (OpenSpec.ofChange trapNestsWrong)

/-- 'corduroylaw02.TrapOthers': WHATEVER THE INPUT: true; the input reads as it did. -/
def trapOthersSpec : ChangeSpec := { name := "trapOthers", fn := fun _ => fun
  | [d1, d2, d3] => { results := [.lit (.bool true)], args := [d1, d2, d3] }
  | _ => none }
def trapOthersRow : OpenClaim := { program := "ytlgnepkapcjfnaa", sum := "2f8af6911794bd3ac8d7710ccd68960bc0f7ced05d66b53cd11ddb89dfb294d4", func := "corduroy/corduroylaw02.TrapOthers", spec := "trapOthers", unfollowed := true, recurses := true, apart := false }
def TrapOthersSaid : Prop := trapOthersRow.holds Try.pinned (OpenSpec.ofChange trapOthersSpec)

/-- ITS FALSE NEIGHBOUR: 'it returns false'. Refute it at one input. -/
def trapOthersWrong : ChangeSpec := { name := "trapOthers", fn := fun _ => fun
  | [d1, d2, d3] => { results := [.lit (.bool false)], args := [d1, d2, d3] }
  | _ => none }
def TrapOthersWrongFalsely : Prop := trapOthersRow.holds Try.pinned (OpenSpec.ofChange trapOthersWrong)

/-- 'corduroylaw02.TrapBehind': WHATEVER THE INPUT: true; the input reads as it did. -/
def trapBehindSpec : ChangeSpec := { name := "trapBehind", fn := fun _ => fun
  | [d] => { results := [.lit (.bool true)], args := [d] }
  | _ => none }
def trapBehindRow : OpenClaim := { program := "ytlgnepkapcjfnaa", sum := "2f8af6911794bd3ac8d7710ccd68960bc0f7ced05d66b53cd11ddb89dfb294d4", func := "corduroy/corduroylaw02.TrapBehind", spec := "trapBehind", unfollowed := true, recurses := true, apart := false }
def TrapBehindSaid : Prop := trapBehindRow.holds Try.pinned (OpenSpec.ofChange trapBehindSpec)

/-- ITS FALSE NEIGHBOUR: 'it returns false'. Refute it at one input. -/
def trapBehindWrong : ChangeSpec := { name := "trapBehind", fn := fun _ => fun
  | [d] => { results := [.lit (.bool false)], args := [d] }
  | _ => none }
def TrapBehindWrongFalsely : Prop := trapBehindRow.holds Try.pinned (OpenSpec.ofChange trapBehindWrong)

/-- 'corduroylaw02.TrapGets': WHATEVER THE INPUT: true; the input reads as it did. -/
def trapGetsSpec : ChangeSpec := { name := "trapGets", fn := fun _ => fun
  | [d1, d2, d3] => { results := [.lit (.bool true)], args := [d1, d2, d3] }
  | _ => none }
def trapGetsRow : OpenClaim := { program := "ytlgnepkapcjfnaa", sum := "2f8af6911794bd3ac8d7710ccd68960bc0f7ced05d66b53cd11ddb89dfb294d4", func := "corduroy/corduroylaw02.TrapGets", spec := "trapGets", unfollowed := true, recurses := true, apart := false }
def TrapGetsSaid : Prop := trapGetsRow.holds Try.pinned (OpenSpec.ofChange trapGetsSpec)

/-- ITS FALSE NEIGHBOUR: 'it returns false'. Refute it at one input. -/
def trapGetsWrong : ChangeSpec := { name := "trapGets", fn := fun _ => fun
  | [d1, d2, d3] => { results := [.lit (.bool false)], args := [d1, d2, d3] }
  | _ => none }
def TrapGetsWrongFalsely : Prop := trapGetsRow.holds Try.pinned (OpenSpec.ofChange trapGetsWrong)

/- THE SECOND FORM. 'bulk': how many values and letters a reading holds, each counted each time it is reached (what is shared counts as often as it is met; a slice's spare places count too). A statement '..UptoSaid' is the law's where the arguments, and the package variables that the reading takes, are together of bulk at most 1048576: NARROWER than '..Said'. Prove '..Said' where nothing that the law and all that it calls make is longer than what came in: it says more and counts as full. Else prove '..UptoSaid'. A law counts once. -/
mutual
def uptoBulk {H : Type} : DataW H → Nat
  | .lit (.string bytes) => bytes.length + 1
  | .lit _ => 1
  | .nil => 1
  | .ptr d => uptoBulk d + 1
  | .slice elems spare => uptoBulkAll elems + uptoBulkAll spare + 1
  | .agg parts => uptoBulkAll parts + 1
  | .iface _ d => uptoBulk d + 1
  | .map entries => uptoBulkEntries entries + 1
  | .held _ => 1
def uptoBulkAll {H : Type} : List (DataW H) → Nat
  | [] => 0
  | d :: r => uptoBulk d + uptoBulkAll r
def uptoBulkEntries {H : Type} : List (Lit × DataW H) → Nat
  | [] => 0
  | x :: r => uptoBulkEntry x + uptoBulkEntries r
def uptoBulkEntry {H : Type} : Lit × DataW H → Nat
  | (.string bytes, d) => bytes.length + uptoBulk d + 1
  | (_, d) => uptoBulk d + 1
 end
def uptoSmall : (H : Type) → List (DataW H) → Bool := fun _ ds => decide (uptoBulkAll ds ≤ 1048576)
def OpenSpec.upto (s : _root_.Go.ChangeSpec) : _root_.Go.OpenSpec := { _root_.Go.OpenSpec.ofChange s with cond := some uptoSmall }

/-- 'corduroylaw02.TrapNests', WHERE WHAT IT READS IS OF BULK AT MOST 1048576: true; the input reads as it did. -/
def trapNestsUptoRow : OpenClaim := { program := "ytlgnepkapcjfnaa", sum := "2f8af6911794bd3ac8d7710ccd68960bc0f7ced05d66b53cd11ddb89dfb294d4", func := "corduroy/corduroylaw02.TrapNests", spec := "trapNests", unfollowed := true, recurses := true, apart := false, narrowed := true }
def TrapNestsUptoSaid : Prop := trapNestsUptoRow.holds Try.pinned (OpenSpec.upto trapNestsSpec)

/-- 'corduroylaw02.TrapOthers', WHERE WHAT IT READS IS OF BULK AT MOST 1048576: true; the input reads as it did. -/
def trapOthersUptoRow : OpenClaim := { program := "ytlgnepkapcjfnaa", sum := "2f8af6911794bd3ac8d7710ccd68960bc0f7ced05d66b53cd11ddb89dfb294d4", func := "corduroy/corduroylaw02.TrapOthers", spec := "trapOthers", unfollowed := true, recurses := true, apart := false, narrowed := true }
def TrapOthersUptoSaid : Prop := trapOthersUptoRow.holds Try.pinned (OpenSpec.upto trapOthersSpec)

/-- 'corduroylaw02.TrapBehind', WHERE WHAT IT READS IS OF BULK AT MOST 1048576: true; the input reads as it did. -/
def trapBehindUptoRow : OpenClaim := { program := "ytlgnepkapcjfnaa", sum := "2f8af6911794bd3ac8d7710ccd68960bc0f7ced05d66b53cd11ddb89dfb294d4", func := "corduroy/corduroylaw02.TrapBehind", spec := "trapBehind", unfollowed := true, recurses := true, apart := false, narrowed := true }
def TrapBehindUptoSaid : Prop := trapBehindUptoRow.holds Try.pinned (OpenSpec.upto trapBehindSpec)

/-- 'corduroylaw02.TrapGets', WHERE WHAT IT READS IS OF BULK AT MOST 1048576: true; the input reads as it did. -/
def trapGetsUptoRow : OpenClaim := { program := "ytlgnepkapcjfnaa", sum := "2f8af6911794bd3ac8d7710ccd68960bc0f7ced05d66b53cd11ddb89dfb294d4", func := "corduroy/corduroylaw02.TrapGets", spec := "trapGets", unfollowed := true, recurses := true, apart := false, narrowed := true }
def TrapGetsUptoSaid : Prop := trapGetsUptoRow.holds Try.pinned (OpenSpec.upto trapGetsSpec)

end Rows
end Go.Proofs.Ytlgnepkapcjfnaa
