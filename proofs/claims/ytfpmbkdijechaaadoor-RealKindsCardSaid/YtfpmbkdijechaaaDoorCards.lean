/-
  DERIVED. GIVEN WITH THE SEED: THE CARDS: each row of YtfpmbkdijechaaaDoorRows.lean that lists a variable, with what it lists TIED to the program's text (the seventh form; the later family's looks); each row that meets fmt, with fmt's text TOLD by the authors' own Lean function (tested against real Go, not proved from fmt's source: count such statements apart). THE CARD IS WHAT COUNTS. Prove the row's statement (the work); the ties are given (YtfpmbkdijechaaaDoorTie.lean); close each card by the builder's one call (the guide's Derived/Test/ToyasCard.lean, 'card_holds'). Laid BY PROGRAM, IN A SANDBOX (cutbox-door.mjs). By AI agents, Wed Nov 11 2026. No macro, syntax, notation, axiom, sorry.
-/
import Derived.Test.YtfpmbkdijechaaaDoorRows
import GoSem.ClaimSeven
namespace Go.Proofs.YtfpmbkdijechaaaDoor
namespace Rows

/-- THE TIED CARD OF 'corduroylaw20.RealTurned'. -/
def realTurnedCard : Claim7 := { stood := { row := realTurnedRow, standIns := [], harness := (true, "a04d9130cf123a250f1167de959eed26c1aa5897307f77bf74a07114c289bad0"), looks := false }, kinds := [], alts := [], laidByText := true, laidKinds := [.data], laidTests := true, laidLooks := .later }
def RealTurnedCardSaid : Prop := Claim7.holds Tryd.pinned (.plain (OpenSpec.ofChange realTurnedSpec)) realTurnedCard

/-- THE TIED CARD OF 'corduroylaw20.RealPairs'. -/
def realPairsCard : Claim7 := { stood := { row := realPairsRow, standIns := [], harness := (true, "a04d9130cf123a250f1167de959eed26c1aa5897307f77bf74a07114c289bad0"), looks := false }, kinds := [], alts := [], laidByText := true, laidKinds := [.data], laidTests := true, laidLooks := .later }
def RealPairsCardSaid : Prop := Claim7.holds Tryd.pinned (.plain (OpenSpec.ofChange realPairsSpec)) realPairsCard

/-- THE TIED CARD OF 'corduroylaw20.RealMaps'. -/
def realMapsCard : Claim7 := { stood := { row := realMapsRow, standIns := [], harness := (true, "a04d9130cf123a250f1167de959eed26c1aa5897307f77bf74a07114c289bad0"), looks := false }, kinds := [], alts := [], laidByText := true, laidKinds := [.data], laidTests := true, laidLooks := .later }
def RealMapsCardSaid : Prop := Claim7.holds Tryd.pinned (.plain (OpenSpec.ofChange realMapsSpec)) realMapsCard

/-- THE TIED CARD OF 'corduroylaw20.RealOrder'. -/
def realOrderCard : Claim7 := { stood := { row := realOrderRow, standIns := [], harness := (true, "a04d9130cf123a250f1167de959eed26c1aa5897307f77bf74a07114c289bad0"), looks := false }, kinds := [], alts := [], laidByText := true, laidKinds := [.data], laidTests := true, laidLooks := .later }
def RealOrderCardSaid : Prop := Claim7.holds Tryd.pinned (.plain (OpenSpec.ofChange realOrderSpec)) realOrderCard

/-- THE TIED CARD OF 'corduroylaw20.RealTells'. -/
def realTellsCard : Claim7 := { stood := { row := realTellsRow, standIns := [], harness := (true, "a04d9130cf123a250f1167de959eed26c1aa5897307f77bf74a07114c289bad0"), looks := false }, kinds := [], alts := [], laidByText := true, laidKinds := [.data], laidTests := true, laidLooks := .later }
def RealTellsCardSaid : Prop := Claim7.holds Tryd.pinned (.plain (OpenSpec.ofChange realTellsSpec)) realTellsCard

/-- THE TIED CARD OF 'corduroylaw20.RealKinds'. -/
def realKindsCard : Claim7 := { stood := { row := realKindsRow, standIns := [], harness := (true, "a04d9130cf123a250f1167de959eed26c1aa5897307f77bf74a07114c289bad0"), looks := false }, kinds := [], alts := [], laidByText := true, laidKinds := [.data], laidTests := true, laidLooks := .later }
def RealKindsCardSaid : Prop := Claim7.holds Tryd.pinned (.plain (OpenSpec.ofChange realKindsSpec)) realKindsCard

/-- THE SECOND FORM's CARD OF 'corduroylaw20.RealTurned'. -/
def realTurnedUptoCard : Claim7 := { stood := { row := realTurnedUptoRow, standIns := [], harness := (true, "a04d9130cf123a250f1167de959eed26c1aa5897307f77bf74a07114c289bad0"), looks := false }, kinds := [], alts := [], laidByText := true, laidKinds := [.data], laidTests := true, laidLooks := .later }
def RealTurnedUptoCardSaid : Prop := Claim7.holds Tryd.pinned (.plain (OpenSpec.upto realTurnedSpec)) realTurnedUptoCard

/-- THE SECOND FORM's CARD OF 'corduroylaw20.RealPairs'. -/
def realPairsUptoCard : Claim7 := { stood := { row := realPairsUptoRow, standIns := [], harness := (true, "a04d9130cf123a250f1167de959eed26c1aa5897307f77bf74a07114c289bad0"), looks := false }, kinds := [], alts := [], laidByText := true, laidKinds := [.data], laidTests := true, laidLooks := .later }
def RealPairsUptoCardSaid : Prop := Claim7.holds Tryd.pinned (.plain (OpenSpec.upto realPairsSpec)) realPairsUptoCard

/-- THE SECOND FORM's CARD OF 'corduroylaw20.RealMaps'. -/
def realMapsUptoCard : Claim7 := { stood := { row := realMapsUptoRow, standIns := [], harness := (true, "a04d9130cf123a250f1167de959eed26c1aa5897307f77bf74a07114c289bad0"), looks := false }, kinds := [], alts := [], laidByText := true, laidKinds := [.data], laidTests := true, laidLooks := .later }
def RealMapsUptoCardSaid : Prop := Claim7.holds Tryd.pinned (.plain (OpenSpec.upto realMapsSpec)) realMapsUptoCard

/-- THE SECOND FORM's CARD OF 'corduroylaw20.RealOrder'. -/
def realOrderUptoCard : Claim7 := { stood := { row := realOrderUptoRow, standIns := [], harness := (true, "a04d9130cf123a250f1167de959eed26c1aa5897307f77bf74a07114c289bad0"), looks := false }, kinds := [], alts := [], laidByText := true, laidKinds := [.data], laidTests := true, laidLooks := .later }
def RealOrderUptoCardSaid : Prop := Claim7.holds Tryd.pinned (.plain (OpenSpec.upto realOrderSpec)) realOrderUptoCard

/-- THE SECOND FORM's CARD OF 'corduroylaw20.RealTells'. -/
def realTellsUptoCard : Claim7 := { stood := { row := realTellsUptoRow, standIns := [], harness := (true, "a04d9130cf123a250f1167de959eed26c1aa5897307f77bf74a07114c289bad0"), looks := false }, kinds := [], alts := [], laidByText := true, laidKinds := [.data], laidTests := true, laidLooks := .later }
def RealTellsUptoCardSaid : Prop := Claim7.holds Tryd.pinned (.plain (OpenSpec.upto realTellsSpec)) realTellsUptoCard

/-- THE SECOND FORM's CARD OF 'corduroylaw20.RealKinds'. -/
def realKindsUptoCard : Claim7 := { stood := { row := realKindsUptoRow, standIns := [], harness := (true, "a04d9130cf123a250f1167de959eed26c1aa5897307f77bf74a07114c289bad0"), looks := false }, kinds := [], alts := [], laidByText := true, laidKinds := [.data], laidTests := true, laidLooks := .later }
def RealKindsUptoCardSaid : Prop := Claim7.holds Tryd.pinned (.plain (OpenSpec.upto realKindsSpec)) realKindsUptoCard
end Rows
end Go.Proofs.YtfpmbkdijechaaaDoor
