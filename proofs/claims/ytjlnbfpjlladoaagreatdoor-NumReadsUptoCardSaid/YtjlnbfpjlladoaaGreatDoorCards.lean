/-
  DERIVED. GIVEN WITH THE SEED: THE CARDS: each row of YtjlnbfpjlladoaaGreatDoorRows.lean that lists a variable, with what it lists TIED to the program's text (the seventh form; the later family's looks); each row that meets fmt, with fmt's text TOLD by the authors' own Lean function (tested against real Go, not proved from fmt's source: count such statements apart). THE CARD IS WHAT COUNTS. Prove the row's statement (the work); the ties are given (YtjlnbfpjlladoaaGreatDoorTie.lean); close each card by the builder's one call (the guide's Derived/Test/ToyasCard.lean, 'card_holds'). Laid BY PROGRAM, IN A SANDBOX (cutbox-door.mjs). By AI agents, Wed Nov 11 2026. No macro, syntax, notation, axiom, sorry.
-/
import Derived.Test.YtjlnbfpjlladoaaGreatDoorRows
import GoSem.ClaimSeven
namespace Go.Proofs.YtjlnbfpjlladoaaGreatDoor
namespace Rows

/-- THE TIED CARD OF 'gafferlaw01.NumAdds'. -/
def numAddsCard : Claim7 := { stood := { row := numAddsRow, standIns := [], harness := (true, "7d8ce8465cb82b6a1daf0f0ead70e278d811a89bf2dfc3dea826685eeab09542"), looks := true }, kinds := [], alts := [], laidByText := true, laidKinds := [.data, .data, .data, .sentinel, .sentinel], laidTests := true, laidLooks := .later }
def NumAddsCardSaid : Prop := Claim7.holds Tryz.pinned (.plain (OpenSpec.ofChange numAddsSpec)) numAddsCard

/-- THE TIED CARD OF 'gafferlaw01.NumTimes'. -/
def numTimesCard : Claim7 := { stood := { row := numTimesRow, standIns := [], harness := (true, "7d8ce8465cb82b6a1daf0f0ead70e278d811a89bf2dfc3dea826685eeab09542"), looks := true }, kinds := [], alts := [], laidByText := true, laidKinds := [.data, .data, .data, .sentinel, .sentinel], laidTests := true, laidLooks := .later }
def NumTimesCardSaid : Prop := Claim7.holds Tryz.pinned (.plain (OpenSpec.ofChange numTimesSpec)) numTimesCard

/-- THE TIED CARD OF 'gafferlaw01.NumDivides'. -/
def numDividesCard : Claim7 := { stood := { row := numDividesRow, standIns := [], harness := (true, "7d8ce8465cb82b6a1daf0f0ead70e278d811a89bf2dfc3dea826685eeab09542"), looks := true }, kinds := [], alts := [], laidByText := true, laidKinds := [.data, .data, .data, .sentinel, .sentinel], laidTests := true, laidLooks := .later }
def NumDividesCardSaid : Prop := Claim7.holds Tryz.pinned (.plain (OpenSpec.ofChange numDividesSpec)) numDividesCard

/-- THE TIED CARD OF 'gafferlaw01.NumPicks'. -/
def numPicksCard : Claim7 := { stood := { row := numPicksRow, standIns := [], harness := (true, "7d8ce8465cb82b6a1daf0f0ead70e278d811a89bf2dfc3dea826685eeab09542"), looks := true }, kinds := [], alts := [], laidByText := true, laidKinds := [.data, .data, .data, .sentinel, .sentinel], laidTests := true, laidLooks := .later }
def NumPicksCardSaid : Prop := Claim7.holds Tryz.pinned (.plain (OpenSpec.ofChange numPicksSpec)) numPicksCard

/-- THE TIED CARD OF 'gafferlaw01.NumWhole'. -/
def numWholeCard : Claim7 := { stood := { row := numWholeRow, standIns := [], harness := (true, "7d8ce8465cb82b6a1daf0f0ead70e278d811a89bf2dfc3dea826685eeab09542"), looks := true }, kinds := [], alts := [], laidByText := true, laidKinds := [.data, .data, .data, .sentinel, .sentinel], laidTests := true, laidLooks := .later }
def NumWholeCardSaid : Prop := Claim7.holds Tryz.pinned (.plain (OpenSpec.ofChange numWholeSpec)) numWholeCard

/-- THE TIED CARD OF 'gafferlaw01.NumReads'. -/
def numReadsCard : Claim7 := { stood := { row := numReadsRow, standIns := [], harness := (true, "7d8ce8465cb82b6a1daf0f0ead70e278d811a89bf2dfc3dea826685eeab09542"), looks := true }, kinds := [], alts := [], laidByText := true, laidKinds := [.data, .data, .data, .sentinel, .sentinel], laidTests := true, laidLooks := .later }
def NumReadsCardSaid : Prop := Claim7.holds Tryz.pinned (.plain (OpenSpec.ofChange numReadsSpec)) numReadsCard

/-- THE SECOND FORM's CARD OF 'gafferlaw01.NumAdds'. -/
def numAddsUptoCard : Claim7 := { stood := { row := numAddsUptoRow, standIns := [], harness := (true, "7d8ce8465cb82b6a1daf0f0ead70e278d811a89bf2dfc3dea826685eeab09542"), looks := true }, kinds := [], alts := [], laidByText := true, laidKinds := [.data, .data, .data, .sentinel, .sentinel], laidTests := true, laidLooks := .later }
def NumAddsUptoCardSaid : Prop := Claim7.holds Tryz.pinned (.plain (OpenSpec.upto numAddsSpec)) numAddsUptoCard

/-- THE SECOND FORM's CARD OF 'gafferlaw01.NumTimes'. -/
def numTimesUptoCard : Claim7 := { stood := { row := numTimesUptoRow, standIns := [], harness := (true, "7d8ce8465cb82b6a1daf0f0ead70e278d811a89bf2dfc3dea826685eeab09542"), looks := true }, kinds := [], alts := [], laidByText := true, laidKinds := [.data, .data, .data, .sentinel, .sentinel], laidTests := true, laidLooks := .later }
def NumTimesUptoCardSaid : Prop := Claim7.holds Tryz.pinned (.plain (OpenSpec.upto numTimesSpec)) numTimesUptoCard

/-- THE SECOND FORM's CARD OF 'gafferlaw01.NumDivides'. -/
def numDividesUptoCard : Claim7 := { stood := { row := numDividesUptoRow, standIns := [], harness := (true, "7d8ce8465cb82b6a1daf0f0ead70e278d811a89bf2dfc3dea826685eeab09542"), looks := true }, kinds := [], alts := [], laidByText := true, laidKinds := [.data, .data, .data, .sentinel, .sentinel], laidTests := true, laidLooks := .later }
def NumDividesUptoCardSaid : Prop := Claim7.holds Tryz.pinned (.plain (OpenSpec.upto numDividesSpec)) numDividesUptoCard

/-- THE SECOND FORM's CARD OF 'gafferlaw01.NumPicks'. -/
def numPicksUptoCard : Claim7 := { stood := { row := numPicksUptoRow, standIns := [], harness := (true, "7d8ce8465cb82b6a1daf0f0ead70e278d811a89bf2dfc3dea826685eeab09542"), looks := true }, kinds := [], alts := [], laidByText := true, laidKinds := [.data, .data, .data, .sentinel, .sentinel], laidTests := true, laidLooks := .later }
def NumPicksUptoCardSaid : Prop := Claim7.holds Tryz.pinned (.plain (OpenSpec.upto numPicksSpec)) numPicksUptoCard

/-- THE SECOND FORM's CARD OF 'gafferlaw01.NumWhole'. -/
def numWholeUptoCard : Claim7 := { stood := { row := numWholeUptoRow, standIns := [], harness := (true, "7d8ce8465cb82b6a1daf0f0ead70e278d811a89bf2dfc3dea826685eeab09542"), looks := true }, kinds := [], alts := [], laidByText := true, laidKinds := [.data, .data, .data, .sentinel, .sentinel], laidTests := true, laidLooks := .later }
def NumWholeUptoCardSaid : Prop := Claim7.holds Tryz.pinned (.plain (OpenSpec.upto numWholeSpec)) numWholeUptoCard

/-- THE SECOND FORM's CARD OF 'gafferlaw01.NumReads'. -/
def numReadsUptoCard : Claim7 := { stood := { row := numReadsUptoRow, standIns := [], harness := (true, "7d8ce8465cb82b6a1daf0f0ead70e278d811a89bf2dfc3dea826685eeab09542"), looks := true }, kinds := [], alts := [], laidByText := true, laidKinds := [.data, .data, .data, .sentinel, .sentinel], laidTests := true, laidLooks := .later }
def NumReadsUptoCardSaid : Prop := Claim7.holds Tryz.pinned (.plain (OpenSpec.upto numReadsSpec)) numReadsUptoCard
end Rows
end Go.Proofs.YtjlnbfpjlladoaaGreatDoor
