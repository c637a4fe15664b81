/-
  DERIVED. GIVEN WITH THE SEED: THE CARDS: each row of YtdclbhmmpdngpaaDoorRows.lean that lists a variable, with what it lists TIED to the program's text (the seventh form; the later family's looks); each row that meets fmt, with fmt's text TOLD by the authors' own Lean function (tested against real Go, not proved from fmt's source: count such statements apart). THE CARD IS WHAT COUNTS. Prove the row's statement (the work); the ties are given (YtdclbhmmpdngpaaDoorTie.lean); close each card by the builder's one call (the guide's Derived/Test/ToyasCard.lean, 'card_holds'). Laid BY PROGRAM, IN A SANDBOX (cutbox-door.mjs). By AI agents, Wed Nov 11 2026. No macro, syntax, notation, axiom, sorry.
-/
import Derived.Test.YtdclbhmmpdngpaaDoorRows
import GoSem.ClaimSeven
namespace Go.Proofs.YtdclbhmmpdngpaaDoor
namespace Rows

/-- THE TIED CARD OF 'hypostylelaw13.FrontEncodes'. -/
def frontEncodesCard : Claim7 := { stood := { row := frontEncodesRow, standIns := [], harness := (true, "b3be4ddce21abcbb6a09d1be4ef9dab3154fd08d7fddf055681aaec3bad64cbd"), looks := false }, kinds := [], alts := [], laidByText := true, laidKinds := [.sentinel], laidTests := true, laidLooks := .later }
def FrontEncodesCardSaid : Prop := Claim7.holds Tryd.pinned (.plain (OpenSpec.ofChange frontEncodesSpec)) frontEncodesCard

/-- THE TIED CARD OF 'hypostylelaw13.FrontDecodes'. -/
def frontDecodesCard : Claim7 := { stood := { row := frontDecodesRow, standIns := [], harness := (true, "b3be4ddce21abcbb6a09d1be4ef9dab3154fd08d7fddf055681aaec3bad64cbd"), looks := false }, kinds := [], alts := [], laidByText := true, laidKinds := [.sentinel], laidTests := true, laidLooks := .later }
def FrontDecodesCardSaid : Prop := Claim7.holds Tryd.pinned (.plain (OpenSpec.ofChange frontDecodesSpec)) frontDecodesCard

/-- THE TIED CARD OF 'hypostylelaw13.FrontBack'. -/
def frontBackCard : Claim7 := { stood := { row := frontBackRow, standIns := [], harness := (true, "b3be4ddce21abcbb6a09d1be4ef9dab3154fd08d7fddf055681aaec3bad64cbd"), looks := false }, kinds := [], alts := [], laidByText := true, laidKinds := [.sentinel], laidTests := true, laidLooks := .later }
def FrontBackCardSaid : Prop := Claim7.holds Tryd.pinned (.plain (OpenSpec.ofChange frontBackSpec)) frontBackCard

/-- THE TIED CARD OF 'hypostylelaw13.FrontOnce'. -/
def frontOnceCard : Claim7 := { stood := { row := frontOnceRow, standIns := [], harness := (true, "b3be4ddce21abcbb6a09d1be4ef9dab3154fd08d7fddf055681aaec3bad64cbd"), looks := false }, kinds := [], alts := [], laidByText := true, laidKinds := [.sentinel], laidTests := true, laidLooks := .later }
def FrontOnceCardSaid : Prop := Claim7.holds Tryd.pinned (.plain (OpenSpec.ofChange frontOnceSpec)) frontOnceCard

/-- THE TIED CARD OF 'hypostylelaw13.FrontShares'. -/
def frontSharesCard : Claim7 := { stood := { row := frontSharesRow, standIns := [], harness := (true, "b3be4ddce21abcbb6a09d1be4ef9dab3154fd08d7fddf055681aaec3bad64cbd"), looks := false }, kinds := [], alts := [], laidByText := true, laidKinds := [.sentinel], laidTests := true, laidLooks := .later }
def FrontSharesCardSaid : Prop := Claim7.holds Tryd.pinned (.plain (OpenSpec.ofChange frontSharesSpec)) frontSharesCard

/-- THE SECOND FORM's CARD OF 'hypostylelaw13.FrontEncodes'. -/
def frontEncodesUptoCard : Claim7 := { stood := { row := frontEncodesUptoRow, standIns := [], harness := (true, "b3be4ddce21abcbb6a09d1be4ef9dab3154fd08d7fddf055681aaec3bad64cbd"), looks := false }, kinds := [], alts := [], laidByText := true, laidKinds := [.sentinel], laidTests := true, laidLooks := .later }
def FrontEncodesUptoCardSaid : Prop := Claim7.holds Tryd.pinned (.plain (OpenSpec.upto frontEncodesSpec)) frontEncodesUptoCard

/-- THE SECOND FORM's CARD OF 'hypostylelaw13.FrontDecodes'. -/
def frontDecodesUptoCard : Claim7 := { stood := { row := frontDecodesUptoRow, standIns := [], harness := (true, "b3be4ddce21abcbb6a09d1be4ef9dab3154fd08d7fddf055681aaec3bad64cbd"), looks := false }, kinds := [], alts := [], laidByText := true, laidKinds := [.sentinel], laidTests := true, laidLooks := .later }
def FrontDecodesUptoCardSaid : Prop := Claim7.holds Tryd.pinned (.plain (OpenSpec.upto frontDecodesSpec)) frontDecodesUptoCard

/-- THE SECOND FORM's CARD OF 'hypostylelaw13.FrontBack'. -/
def frontBackUptoCard : Claim7 := { stood := { row := frontBackUptoRow, standIns := [], harness := (true, "b3be4ddce21abcbb6a09d1be4ef9dab3154fd08d7fddf055681aaec3bad64cbd"), looks := false }, kinds := [], alts := [], laidByText := true, laidKinds := [.sentinel], laidTests := true, laidLooks := .later }
def FrontBackUptoCardSaid : Prop := Claim7.holds Tryd.pinned (.plain (OpenSpec.upto frontBackSpec)) frontBackUptoCard

/-- THE SECOND FORM's CARD OF 'hypostylelaw13.FrontOnce'. -/
def frontOnceUptoCard : Claim7 := { stood := { row := frontOnceUptoRow, standIns := [], harness := (true, "b3be4ddce21abcbb6a09d1be4ef9dab3154fd08d7fddf055681aaec3bad64cbd"), looks := false }, kinds := [], alts := [], laidByText := true, laidKinds := [.sentinel], laidTests := true, laidLooks := .later }
def FrontOnceUptoCardSaid : Prop := Claim7.holds Tryd.pinned (.plain (OpenSpec.upto frontOnceSpec)) frontOnceUptoCard

/-- THE SECOND FORM's CARD OF 'hypostylelaw13.FrontShares'. -/
def frontSharesUptoCard : Claim7 := { stood := { row := frontSharesUptoRow, standIns := [], harness := (true, "b3be4ddce21abcbb6a09d1be4ef9dab3154fd08d7fddf055681aaec3bad64cbd"), looks := false }, kinds := [], alts := [], laidByText := true, laidKinds := [.sentinel], laidTests := true, laidLooks := .later }
def FrontSharesUptoCardSaid : Prop := Claim7.holds Tryd.pinned (.plain (OpenSpec.upto frontSharesSpec)) frontSharesUptoCard
end Rows
end Go.Proofs.YtdclbhmmpdngpaaDoor
