/-
  DERIVED. GIVEN WITH THE SEED: THE CARDS: each row of YtjloiclbknfomaaDoorRows.lean that lists a variable, with what it lists TIED to the program's text (the seventh form; the later family's looks); each row that meets fmt, with fmt's text TOLD by the authors' own Lean function (tested against real Go, not proved from fmt's source: count such statements apart). THE CARD IS WHAT COUNTS. Prove the row's statement (the work); the ties are given (YtjloiclbknfomaaDoorTie.lean); close each card by the builder's one call (the guide's Derived/Test/ToyasCard.lean, 'card_holds'). Laid BY PROGRAM, IN A SANDBOX (cutbox-door.mjs). By AI agents, Wed Nov 11 2026. No macro, syntax, notation, axiom, sorry.
-/
import Derived.Test.YtjloiclbknfomaaDoorRows
import GoSem.ClaimSeven
namespace Go.Proofs.YtjloiclbknfomaaDoor
namespace Rows

/-- THE TIED CARD OF 'gafferlaw06.InterpEnds'. -/
def interpEndsCard : Claim7 := { stood := { row := interpEndsRow, standIns := [], harness := (true, "0cc7ded11106166f7ba0059b7090cc55f2e0bcc1dd53c813add5ba96b78c5434"), looks := true }, kinds := [], alts := [], laidByText := true, laidKinds := [.data, .data, .data], laidTests := true, laidLooks := .later }
def InterpEndsCardSaid : Prop := Claim7.holds Tryd.pinned (.plain (OpenSpec.ofChange interpEndsSpec)) interpEndsCard

/-- THE TIED CARD OF 'gafferlaw06.InterpFuel'. -/
def interpFuelCard : Claim7 := { stood := { row := interpFuelRow, standIns := [], harness := (true, "0cc7ded11106166f7ba0059b7090cc55f2e0bcc1dd53c813add5ba96b78c5434"), looks := true }, kinds := [], alts := [], laidByText := true, laidKinds := [.data, .data, .data], laidTests := true, laidLooks := .later }
def InterpFuelCardSaid : Prop := Claim7.holds Tryd.pinned (.plain (OpenSpec.ofChange interpFuelSpec)) interpFuelCard

/-- THE TIED CARD OF 'gafferlaw06.InterpStraight'. -/
def interpStraightCard : Claim7 := { stood := { row := interpStraightRow, standIns := [], harness := (true, "0cc7ded11106166f7ba0059b7090cc55f2e0bcc1dd53c813add5ba96b78c5434"), looks := true }, kinds := [], alts := [], laidByText := true, laidKinds := [.data, .data, .data], laidTests := true, laidLooks := .later }
def InterpStraightCardSaid : Prop := Claim7.holds Tryd.pinned (.plain (OpenSpec.ofChange interpStraightSpec)) interpStraightCard

/-- THE TIED CARD OF 'gafferlaw06.InterpSpare'. -/
def interpSpareCard : Claim7 := { stood := { row := interpSpareRow, standIns := [], harness := (true, "0cc7ded11106166f7ba0059b7090cc55f2e0bcc1dd53c813add5ba96b78c5434"), looks := true }, kinds := [], alts := [], laidByText := true, laidKinds := [.data, .data, .data], laidTests := true, laidLooks := .later }
def InterpSpareCardSaid : Prop := Claim7.holds Tryd.pinned (.plain (OpenSpec.ofChange interpSpareSpec)) interpSpareCard

/-- THE SECOND FORM's CARD OF 'gafferlaw06.InterpEnds'. -/
def interpEndsUptoCard : Claim7 := { stood := { row := interpEndsUptoRow, standIns := [], harness := (true, "0cc7ded11106166f7ba0059b7090cc55f2e0bcc1dd53c813add5ba96b78c5434"), looks := true }, kinds := [], alts := [], laidByText := true, laidKinds := [.data, .data, .data], laidTests := true, laidLooks := .later }
def InterpEndsUptoCardSaid : Prop := Claim7.holds Tryd.pinned (.plain (OpenSpec.upto interpEndsSpec)) interpEndsUptoCard

/-- THE SECOND FORM's CARD OF 'gafferlaw06.InterpFuel'. -/
def interpFuelUptoCard : Claim7 := { stood := { row := interpFuelUptoRow, standIns := [], harness := (true, "0cc7ded11106166f7ba0059b7090cc55f2e0bcc1dd53c813add5ba96b78c5434"), looks := true }, kinds := [], alts := [], laidByText := true, laidKinds := [.data, .data, .data], laidTests := true, laidLooks := .later }
def InterpFuelUptoCardSaid : Prop := Claim7.holds Tryd.pinned (.plain (OpenSpec.upto interpFuelSpec)) interpFuelUptoCard

/-- THE SECOND FORM's CARD OF 'gafferlaw06.InterpStraight'. -/
def interpStraightUptoCard : Claim7 := { stood := { row := interpStraightUptoRow, standIns := [], harness := (true, "0cc7ded11106166f7ba0059b7090cc55f2e0bcc1dd53c813add5ba96b78c5434"), looks := true }, kinds := [], alts := [], laidByText := true, laidKinds := [.data, .data, .data], laidTests := true, laidLooks := .later }
def InterpStraightUptoCardSaid : Prop := Claim7.holds Tryd.pinned (.plain (OpenSpec.upto interpStraightSpec)) interpStraightUptoCard

/-- THE SECOND FORM's CARD OF 'gafferlaw06.InterpSpare'. -/
def interpSpareUptoCard : Claim7 := { stood := { row := interpSpareUptoRow, standIns := [], harness := (true, "0cc7ded11106166f7ba0059b7090cc55f2e0bcc1dd53c813add5ba96b78c5434"), looks := true }, kinds := [], alts := [], laidByText := true, laidKinds := [.data, .data, .data], laidTests := true, laidLooks := .later }
def InterpSpareUptoCardSaid : Prop := Claim7.holds Tryd.pinned (.plain (OpenSpec.upto interpSpareSpec)) interpSpareUptoCard
end Rows
end Go.Proofs.YtjloiclbknfomaaDoor
