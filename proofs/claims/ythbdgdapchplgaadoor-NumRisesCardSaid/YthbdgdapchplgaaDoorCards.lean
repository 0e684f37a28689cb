/-
  DERIVED. GIVEN WITH THE SEED: THE CARDS: each row of YthbdgdapchplgaaDoorRows.lean that lists a variable, with what it lists TIED to the program's text (the seventh form; the later family's looks); each row that meets fmt, with fmt's text TOLD by the authors' own Lean function (tested against real Go, not proved from fmt's source: count such statements apart). THE CARD IS WHAT COUNTS. Prove the row's statement (the work); the ties are given (YthbdgdapchplgaaDoorTie.lean); close each card by the builder's one call (the guide's Derived/Test/ToyasCard.lean, 'card_holds'). Laid BY PROGRAM, IN A SANDBOX (cutbox-door.mjs). By AI agents, Wed Nov 11 2026. No macro, syntax, notation, axiom, sorry.
-/
import Derived.Test.YthbdgdapchplgaaDoorRows
import GoSem.ClaimSeven
namespace Go.Proofs.YthbdgdapchplgaaDoor
namespace Rows

/-- THE TIED CARD OF 'gafferlaw01.NumStands'. -/
def numStandsCard : Claim7 := { stood := { row := numStandsRow, standIns := [], harness := (true, "32eca40a68d6b6af1628837bb811c0ad343148124ad6586bbb19be71891f645f"), looks := true }, kinds := [], alts := [], laidByText := true, laidKinds := [.data, .data, .data, .sentinel, .sentinel], laidTests := true, laidLooks := .later }
def NumStandsCardSaid : Prop := Claim7.holds Tryd.pinned (.plain (OpenSpec.ofChange numStandsSpec)) numStandsCard

/-- THE TIED CARD OF 'gafferlaw01.NumTurns'. -/
def numTurnsCard : Claim7 := { stood := { row := numTurnsRow, standIns := [], harness := (true, "32eca40a68d6b6af1628837bb811c0ad343148124ad6586bbb19be71891f645f"), looks := true }, kinds := [], alts := [], laidByText := true, laidKinds := [.data, .data, .data, .sentinel, .sentinel], laidTests := true, laidLooks := .later }
def NumTurnsCardSaid : Prop := Claim7.holds Tryd.pinned (.plain (OpenSpec.ofChange numTurnsSpec)) numTurnsCard

/-- THE TIED CARD OF 'gafferlaw01.NumSterbenz'. -/
def numSterbenzCard : Claim7 := { stood := { row := numSterbenzRow, standIns := [], harness := (true, "32eca40a68d6b6af1628837bb811c0ad343148124ad6586bbb19be71891f645f"), looks := true }, kinds := [], alts := [], laidByText := true, laidKinds := [.data, .data, .data, .sentinel, .sentinel], laidTests := true, laidLooks := .later }
def NumSterbenzCardSaid : Prop := Claim7.holds Tryd.pinned (.plain (OpenSpec.ofChange numSterbenzSpec)) numSterbenzCard

/-- THE TIED CARD OF 'gafferlaw01.NumRises'. -/
def numRisesCard : Claim7 := { stood := { row := numRisesRow, standIns := [], harness := (true, "32eca40a68d6b6af1628837bb811c0ad343148124ad6586bbb19be71891f645f"), looks := true }, kinds := [], alts := [], laidByText := true, laidKinds := [.data, .data, .data, .sentinel, .sentinel], laidTests := true, laidLooks := .later }
def NumRisesCardSaid : Prop := Claim7.holds Tryd.pinned (.plain (OpenSpec.ofChange numRisesSpec)) numRisesCard

/-- THE TIED CARD OF 'gafferlaw01.NumLines'. -/
def numLinesCard : Claim7 := { stood := { row := numLinesRow, standIns := [], harness := (true, "32eca40a68d6b6af1628837bb811c0ad343148124ad6586bbb19be71891f645f"), looks := true }, kinds := [], alts := [], laidByText := true, laidKinds := [.data, .data, .data, .sentinel, .sentinel], laidTests := true, laidLooks := .later }
def NumLinesCardSaid : Prop := Claim7.holds Tryd.pinned (.plain (OpenSpec.ofChange numLinesSpec)) numLinesCard

/-- THE TIED CARD OF 'gafferlaw01.NumFloors'. -/
def numFloorsCard : Claim7 := { stood := { row := numFloorsRow, standIns := [], harness := (true, "32eca40a68d6b6af1628837bb811c0ad343148124ad6586bbb19be71891f645f"), looks := true }, kinds := [], alts := [], laidByText := true, laidKinds := [.data, .data, .data, .sentinel, .sentinel], laidTests := true, laidLooks := .later }
def NumFloorsCardSaid : Prop := Claim7.holds Tryd.pinned (.plain (OpenSpec.ofChange numFloorsSpec)) numFloorsCard

/-- THE TIED CARD OF 'gafferlaw01.NumSigns'. -/
def numSignsCard : Claim7 := { stood := { row := numSignsRow, standIns := [], harness := (true, "32eca40a68d6b6af1628837bb811c0ad343148124ad6586bbb19be71891f645f"), looks := true }, kinds := [], alts := [], laidByText := true, laidKinds := [.data, .data, .data, .sentinel, .sentinel], laidTests := true, laidLooks := .later }
def NumSignsCardSaid : Prop := Claim7.holds Tryd.pinned (.plain (OpenSpec.ofChange numSignsSpec)) numSignsCard

/-- THE TIED CARD OF 'gafferlaw01.NumScales'. -/
def numScalesCard : Claim7 := { stood := { row := numScalesRow, standIns := [], harness := (true, "32eca40a68d6b6af1628837bb811c0ad343148124ad6586bbb19be71891f645f"), looks := true }, kinds := [], alts := [], laidByText := true, laidKinds := [.data, .data, .data, .sentinel, .sentinel], laidTests := true, laidLooks := .later }
def NumScalesCardSaid : Prop := Claim7.holds Tryd.pinned (.plain (OpenSpec.ofChange numScalesSpec)) numScalesCard

/-- THE TIED CARD OF 'gafferlaw01.NumCounts'. -/
def numCountsCard : Claim7 := { stood := { row := numCountsRow, standIns := [], harness := (true, "32eca40a68d6b6af1628837bb811c0ad343148124ad6586bbb19be71891f645f"), looks := true }, kinds := [], alts := [], laidByText := true, laidKinds := [.data, .data, .data, .sentinel, .sentinel], laidTests := true, laidLooks := .later }
def NumCountsCardSaid : Prop := Claim7.holds Tryd.pinned (.plain (OpenSpec.ofChange numCountsSpec)) numCountsCard

/-- THE TIED CARD OF 'gafferlaw01.NumPairs'. -/
def numPairsCard : Claim7 := { stood := { row := numPairsRow, standIns := [], harness := (true, "32eca40a68d6b6af1628837bb811c0ad343148124ad6586bbb19be71891f645f"), looks := true }, kinds := [], alts := [], laidByText := true, laidKinds := [.data, .data, .data, .sentinel, .sentinel], laidTests := true, laidLooks := .later }
def NumPairsCardSaid : Prop := Claim7.holds Tryd.pinned (.plain (OpenSpec.ofChange numPairsSpec)) numPairsCard

/-- THE TIED CARD OF 'gafferlaw01.NumNearest'. -/
def numNearestCard : Claim7 := { stood := { row := numNearestRow, standIns := [], harness := (true, "32eca40a68d6b6af1628837bb811c0ad343148124ad6586bbb19be71891f645f"), looks := true }, kinds := [], alts := [], laidByText := true, laidKinds := [.data, .data, .data, .sentinel, .sentinel], laidTests := true, laidLooks := .later }
def NumNearestCardSaid : Prop := Claim7.holds Tryd.pinned (.plain (OpenSpec.ofChange numNearestSpec)) numNearestCard

/-- THE SECOND FORM's CARD OF 'gafferlaw01.NumStands'. -/
def numStandsUptoCard : Claim7 := { stood := { row := numStandsUptoRow, standIns := [], harness := (true, "32eca40a68d6b6af1628837bb811c0ad343148124ad6586bbb19be71891f645f"), looks := true }, kinds := [], alts := [], laidByText := true, laidKinds := [.data, .data, .data, .sentinel, .sentinel], laidTests := true, laidLooks := .later }
def NumStandsUptoCardSaid : Prop := Claim7.holds Tryd.pinned (.plain (OpenSpec.upto numStandsSpec)) numStandsUptoCard

/-- THE SECOND FORM's CARD OF 'gafferlaw01.NumTurns'. -/
def numTurnsUptoCard : Claim7 := { stood := { row := numTurnsUptoRow, standIns := [], harness := (true, "32eca40a68d6b6af1628837bb811c0ad343148124ad6586bbb19be71891f645f"), looks := true }, kinds := [], alts := [], laidByText := true, laidKinds := [.data, .data, .data, .sentinel, .sentinel], laidTests := true, laidLooks := .later }
def NumTurnsUptoCardSaid : Prop := Claim7.holds Tryd.pinned (.plain (OpenSpec.upto numTurnsSpec)) numTurnsUptoCard

/-- THE SECOND FORM's CARD OF 'gafferlaw01.NumSterbenz'. -/
def numSterbenzUptoCard : Claim7 := { stood := { row := numSterbenzUptoRow, standIns := [], harness := (true, "32eca40a68d6b6af1628837bb811c0ad343148124ad6586bbb19be71891f645f"), looks := true }, kinds := [], alts := [], laidByText := true, laidKinds := [.data, .data, .data, .sentinel, .sentinel], laidTests := true, laidLooks := .later }
def NumSterbenzUptoCardSaid : Prop := Claim7.holds Tryd.pinned (.plain (OpenSpec.upto numSterbenzSpec)) numSterbenzUptoCard

/-- THE SECOND FORM's CARD OF 'gafferlaw01.NumRises'. -/
def numRisesUptoCard : Claim7 := { stood := { row := numRisesUptoRow, standIns := [], harness := (true, "32eca40a68d6b6af1628837bb811c0ad343148124ad6586bbb19be71891f645f"), looks := true }, kinds := [], alts := [], laidByText := true, laidKinds := [.data, .data, .data, .sentinel, .sentinel], laidTests := true, laidLooks := .later }
def NumRisesUptoCardSaid : Prop := Claim7.holds Tryd.pinned (.plain (OpenSpec.upto numRisesSpec)) numRisesUptoCard

/-- THE SECOND FORM's CARD OF 'gafferlaw01.NumLines'. -/
def numLinesUptoCard : Claim7 := { stood := { row := numLinesUptoRow, standIns := [], harness := (true, "32eca40a68d6b6af1628837bb811c0ad343148124ad6586bbb19be71891f645f"), looks := true }, kinds := [], alts := [], laidByText := true, laidKinds := [.data, .data, .data, .sentinel, .sentinel], laidTests := true, laidLooks := .later }
def NumLinesUptoCardSaid : Prop := Claim7.holds Tryd.pinned (.plain (OpenSpec.upto numLinesSpec)) numLinesUptoCard

/-- THE SECOND FORM's CARD OF 'gafferlaw01.NumFloors'. -/
def numFloorsUptoCard : Claim7 := { stood := { row := numFloorsUptoRow, standIns := [], harness := (true, "32eca40a68d6b6af1628837bb811c0ad343148124ad6586bbb19be71891f645f"), looks := true }, kinds := [], alts := [], laidByText := true, laidKinds := [.data, .data, .data, .sentinel, .sentinel], laidTests := true, laidLooks := .later }
def NumFloorsUptoCardSaid : Prop := Claim7.holds Tryd.pinned (.plain (OpenSpec.upto numFloorsSpec)) numFloorsUptoCard

/-- THE SECOND FORM's CARD OF 'gafferlaw01.NumSigns'. -/
def numSignsUptoCard : Claim7 := { stood := { row := numSignsUptoRow, standIns := [], harness := (true, "32eca40a68d6b6af1628837bb811c0ad343148124ad6586bbb19be71891f645f"), looks := true }, kinds := [], alts := [], laidByText := true, laidKinds := [.data, .data, .data, .sentinel, .sentinel], laidTests := true, laidLooks := .later }
def NumSignsUptoCardSaid : Prop := Claim7.holds Tryd.pinned (.plain (OpenSpec.upto numSignsSpec)) numSignsUptoCard

/-- THE SECOND FORM's CARD OF 'gafferlaw01.NumScales'. -/
def numScalesUptoCard : Claim7 := { stood := { row := numScalesUptoRow, standIns := [], harness := (true, "32eca40a68d6b6af1628837bb811c0ad343148124ad6586bbb19be71891f645f"), looks := true }, kinds := [], alts := [], laidByText := true, laidKinds := [.data, .data, .data, .sentinel, .sentinel], laidTests := true, laidLooks := .later }
def NumScalesUptoCardSaid : Prop := Claim7.holds Tryd.pinned (.plain (OpenSpec.upto numScalesSpec)) numScalesUptoCard

/-- THE SECOND FORM's CARD OF 'gafferlaw01.NumCounts'. -/
def numCountsUptoCard : Claim7 := { stood := { row := numCountsUptoRow, standIns := [], harness := (true, "32eca40a68d6b6af1628837bb811c0ad343148124ad6586bbb19be71891f645f"), looks := true }, kinds := [], alts := [], laidByText := true, laidKinds := [.data, .data, .data, .sentinel, .sentinel], laidTests := true, laidLooks := .later }
def NumCountsUptoCardSaid : Prop := Claim7.holds Tryd.pinned (.plain (OpenSpec.upto numCountsSpec)) numCountsUptoCard

/-- THE SECOND FORM's CARD OF 'gafferlaw01.NumPairs'. -/
def numPairsUptoCard : Claim7 := { stood := { row := numPairsUptoRow, standIns := [], harness := (true, "32eca40a68d6b6af1628837bb811c0ad343148124ad6586bbb19be71891f645f"), looks := true }, kinds := [], alts := [], laidByText := true, laidKinds := [.data, .data, .data, .sentinel, .sentinel], laidTests := true, laidLooks := .later }
def NumPairsUptoCardSaid : Prop := Claim7.holds Tryd.pinned (.plain (OpenSpec.upto numPairsSpec)) numPairsUptoCard

/-- THE SECOND FORM's CARD OF 'gafferlaw01.NumNearest'. -/
def numNearestUptoCard : Claim7 := { stood := { row := numNearestUptoRow, standIns := [], harness := (true, "32eca40a68d6b6af1628837bb811c0ad343148124ad6586bbb19be71891f645f"), looks := true }, kinds := [], alts := [], laidByText := true, laidKinds := [.data, .data, .data, .sentinel, .sentinel], laidTests := true, laidLooks := .later }
def NumNearestUptoCardSaid : Prop := Claim7.holds Tryd.pinned (.plain (OpenSpec.upto numNearestSpec)) numNearestUptoCard
end Rows
end Go.Proofs.YthbdgdapchplgaaDoor
