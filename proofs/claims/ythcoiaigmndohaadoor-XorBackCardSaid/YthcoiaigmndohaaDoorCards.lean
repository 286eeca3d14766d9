/-
  DERIVED. GIVEN WITH THE SEED: THE CARDS: each row of YthcoiaigmndohaaDoorRows.lean that lists a variable, with what it lists TIED to the program's text (the seventh form; the later family's looks); each row that meets fmt, with fmt's text TOLD by the authors' own Lean function (tested against real Go, not proved from fmt's source: count such statements apart). THE CARD IS WHAT COUNTS. Prove the row's statement (the work); the ties are given (YthcoiaigmndohaaDoorTie.lean); close each card by the builder's one call (the guide's Derived/Test/ToyasCard.lean, 'card_holds'). Laid BY PROGRAM, IN A SANDBOX (cutbox-door.mjs). By AI agents, Wed Nov 11 2026. No macro, syntax, notation, axiom, sorry.
-/
import Derived.Test.YthcoiaigmndohaaDoorRows
import GoSem.ClaimSeven
namespace Go.Proofs.YthcoiaigmndohaaDoor
namespace Rows

/-- THE TIED CARD OF 'corduroylaw22.XorDecodes'. -/
def xorDecodesCard : Claim7 := { stood := { row := xorDecodesRow, standIns := [], harness := (true, "63d9907e07b8d5a97e6dfbd65968be1230d94c3b96b4ab7f8ce19de0773dbdcc"), looks := true }, kinds := [], alts := [], laidByText := true, laidKinds := [.data], laidTests := true, laidLooks := .later }
def XorDecodesCardSaid : Prop := Claim7.holds Tryd.pinned (.plain (OpenSpec.ofChange xorDecodesSpec)) xorDecodesCard

/-- THE TIED CARD OF 'corduroylaw22.XorBack'. -/
def xorBackCard : Claim7 := { stood := { row := xorBackRow, standIns := [], harness := (true, "63d9907e07b8d5a97e6dfbd65968be1230d94c3b96b4ab7f8ce19de0773dbdcc"), looks := true }, kinds := [], alts := [], laidByText := true, laidKinds := [.data], laidTests := true, laidLooks := .later }
def XorBackCardSaid : Prop := Claim7.holds Tryd.pinned (.plain (OpenSpec.ofChange xorBackSpec)) xorBackCard

/-- THE TIED CARD OF 'corduroylaw22.XorEncodes'. -/
def xorEncodesCard : Claim7 := { stood := { row := xorEncodesRow, standIns := [], harness := (true, "63d9907e07b8d5a97e6dfbd65968be1230d94c3b96b4ab7f8ce19de0773dbdcc"), looks := true }, kinds := [], alts := [], laidByText := true, laidKinds := [.data], laidTests := true, laidLooks := .later }
def XorEncodesCardSaid : Prop := Claim7.holds Tryd.pinned (.plain (OpenSpec.ofChange xorEncodesSpec)) xorEncodesCard

/-- THE TIED CARD OF 'corduroylaw22.XorConstant'. -/
def xorConstantCard : Claim7 := { stood := { row := xorConstantRow, standIns := [], harness := (true, "63d9907e07b8d5a97e6dfbd65968be1230d94c3b96b4ab7f8ce19de0773dbdcc"), looks := true }, kinds := [], alts := [], laidByText := true, laidKinds := [.data], laidTests := true, laidLooks := .later }
def XorConstantCardSaid : Prop := Claim7.holds Tryd.pinned (.plain (OpenSpec.ofChange xorConstantSpec)) xorConstantCard

/-- THE TIED CARD OF 'corduroylaw22.XorBound'. -/
def xorBoundCard : Claim7 := { stood := { row := xorBoundRow, standIns := [], harness := (true, "63d9907e07b8d5a97e6dfbd65968be1230d94c3b96b4ab7f8ce19de0773dbdcc"), looks := true }, kinds := [], alts := [], laidByText := true, laidKinds := [.data], laidTests := true, laidLooks := .later }
def XorBoundCardSaid : Prop := Claim7.holds Tryd.pinned (.plain (OpenSpec.ofChange xorBoundSpec)) xorBoundCard

/-- THE SECOND FORM's CARD OF 'corduroylaw22.XorDecodes'. -/
def xorDecodesUptoCard : Claim7 := { stood := { row := xorDecodesUptoRow, standIns := [], harness := (true, "63d9907e07b8d5a97e6dfbd65968be1230d94c3b96b4ab7f8ce19de0773dbdcc"), looks := true }, kinds := [], alts := [], laidByText := true, laidKinds := [.data], laidTests := true, laidLooks := .later }
def XorDecodesUptoCardSaid : Prop := Claim7.holds Tryd.pinned (.plain (OpenSpec.upto xorDecodesSpec)) xorDecodesUptoCard

/-- THE SECOND FORM's CARD OF 'corduroylaw22.XorBack'. -/
def xorBackUptoCard : Claim7 := { stood := { row := xorBackUptoRow, standIns := [], harness := (true, "63d9907e07b8d5a97e6dfbd65968be1230d94c3b96b4ab7f8ce19de0773dbdcc"), looks := true }, kinds := [], alts := [], laidByText := true, laidKinds := [.data], laidTests := true, laidLooks := .later }
def XorBackUptoCardSaid : Prop := Claim7.holds Tryd.pinned (.plain (OpenSpec.upto xorBackSpec)) xorBackUptoCard

/-- THE SECOND FORM's CARD OF 'corduroylaw22.XorEncodes'. -/
def xorEncodesUptoCard : Claim7 := { stood := { row := xorEncodesUptoRow, standIns := [], harness := (true, "63d9907e07b8d5a97e6dfbd65968be1230d94c3b96b4ab7f8ce19de0773dbdcc"), looks := true }, kinds := [], alts := [], laidByText := true, laidKinds := [.data], laidTests := true, laidLooks := .later }
def XorEncodesUptoCardSaid : Prop := Claim7.holds Tryd.pinned (.plain (OpenSpec.upto xorEncodesSpec)) xorEncodesUptoCard

/-- THE SECOND FORM's CARD OF 'corduroylaw22.XorConstant'. -/
def xorConstantUptoCard : Claim7 := { stood := { row := xorConstantUptoRow, standIns := [], harness := (true, "63d9907e07b8d5a97e6dfbd65968be1230d94c3b96b4ab7f8ce19de0773dbdcc"), looks := true }, kinds := [], alts := [], laidByText := true, laidKinds := [.data], laidTests := true, laidLooks := .later }
def XorConstantUptoCardSaid : Prop := Claim7.holds Tryd.pinned (.plain (OpenSpec.upto xorConstantSpec)) xorConstantUptoCard

/-- THE SECOND FORM's CARD OF 'corduroylaw22.XorBound'. -/
def xorBoundUptoCard : Claim7 := { stood := { row := xorBoundUptoRow, standIns := [], harness := (true, "63d9907e07b8d5a97e6dfbd65968be1230d94c3b96b4ab7f8ce19de0773dbdcc"), looks := true }, kinds := [], alts := [], laidByText := true, laidKinds := [.data], laidTests := true, laidLooks := .later }
def XorBoundUptoCardSaid : Prop := Claim7.holds Tryd.pinned (.plain (OpenSpec.upto xorBoundSpec)) xorBoundUptoCard
end Rows
end Go.Proofs.YthcoiaigmndohaaDoor
