/-
  DERIVED. GIVEN WITH THE SEED: THE CARDS: each row of YtjloiclbknfomaaGreatDoorRows.lean that lists a variable, with what it lists TIED to the program's text (the seventh form; the later family's looks); each row that meets fmt, with fmt's text TOLD by the authors' own Lean function (tested against real Go, not proved from fmt's source: count such statements apart). THE CARD IS WHAT COUNTS. Prove the row's statement (the work); the ties are given (YtjloiclbknfomaaGreatDoorTie.lean); close each card by the builder's one call (the guide's Derived/Test/ToyasCard.lean, 'card_holds'). Laid BY PROGRAM, IN A SANDBOX (cutbox-door.mjs). By AI agents, Wed Nov 11 2026. No macro, syntax, notation, axiom, sorry.
-/
import Derived.Test.YtjloiclbknfomaaGreatDoorRows
import GoSem.ClaimSeven
namespace Go.Proofs.YtjloiclbknfomaaGreatDoor
namespace Rows

/-- THE TIED CARD OF 'gafferlaw06.InterpWhole'. -/
def interpWholeCard : Claim7 := { stood := { row := interpWholeRow, standIns := [], harness := (true, "72cddb71e993b82ccf4b252dc0784758bff5de743f2e3c2703bc9e5ce4a92f5f"), looks := true }, kinds := [], alts := [], laidByText := true, laidKinds := [.data, .data, .data], laidTests := true, laidLooks := .later }
def InterpWholeCardSaid : Prop := Claim7.holds Tryz.pinned (.plain (OpenSpec.ofChange interpWholeSpec)) interpWholeCard

/-- THE TIED CARD OF 'gafferlaw06.InterpSteps'. -/
def interpStepsCard : Claim7 := { stood := { row := interpStepsRow, standIns := [], harness := (true, "72cddb71e993b82ccf4b252dc0784758bff5de743f2e3c2703bc9e5ce4a92f5f"), looks := true }, kinds := [], alts := [], laidByText := true, laidKinds := [.data, .data, .data], laidTests := true, laidLooks := .later }
def InterpStepsCardSaid : Prop := Claim7.holds Tryz.pinned (.plain (OpenSpec.ofChange interpStepsSpec)) interpStepsCard

/-- THE SECOND FORM's CARD OF 'gafferlaw06.InterpWhole'. -/
def interpWholeUptoCard : Claim7 := { stood := { row := interpWholeUptoRow, standIns := [], harness := (true, "72cddb71e993b82ccf4b252dc0784758bff5de743f2e3c2703bc9e5ce4a92f5f"), looks := true }, kinds := [], alts := [], laidByText := true, laidKinds := [.data, .data, .data], laidTests := true, laidLooks := .later }
def InterpWholeUptoCardSaid : Prop := Claim7.holds Tryz.pinned (.plain (OpenSpec.upto interpWholeSpec)) interpWholeUptoCard

/-- THE SECOND FORM's CARD OF 'gafferlaw06.InterpSteps'. -/
def interpStepsUptoCard : Claim7 := { stood := { row := interpStepsUptoRow, standIns := [], harness := (true, "72cddb71e993b82ccf4b252dc0784758bff5de743f2e3c2703bc9e5ce4a92f5f"), looks := true }, kinds := [], alts := [], laidByText := true, laidKinds := [.data, .data, .data], laidTests := true, laidLooks := .later }
def InterpStepsUptoCardSaid : Prop := Claim7.holds Tryz.pinned (.plain (OpenSpec.upto interpStepsSpec)) interpStepsUptoCard
end Rows
end Go.Proofs.YtjloiclbknfomaaGreatDoor
