/-
  DERIVED. GIVEN WITH THE SEED: THE CARDS: each row of YtiidkgdlngcpgaaGreatDoorRows.lean that lists a variable, with what it lists TIED to the program's text (the seventh form; the later family's looks); each row that meets fmt, with fmt's text TOLD by the authors' own Lean function (tested against real Go, not proved from fmt's source: count such statements apart). THE CARD IS WHAT COUNTS. Prove the row's statement (the work); the ties are given (YtiidkgdlngcpgaaGreatDoorTie.lean); close each card by the builder's one call (the guide's Derived/Test/ToyasCard.lean, 'card_holds'). Laid BY PROGRAM, IN A SANDBOX (cutbox-door.mjs). By AI agents, Wed Nov 11 2026. No macro, syntax, notation, axiom, sorry.
-/
import Derived.Test.YtiidkgdlngcpgaaGreatDoorRows
import GoSem.ClaimSeven
namespace Go.Proofs.YtiidkgdlngcpgaaGreatDoor
namespace Rows

/-- THE TIED CARD OF 'gafferlaw05.ProgChecks'. -/
def progChecksCard : Claim7 := { stood := { row := progChecksRow, standIns := [], harness := (true, "f165764945bb297f9b37aab5bda57b80de6f45f84d74b3d9038276ea40782b50"), looks := true }, kinds := [], alts := [], laidByText := true, laidKinds := [.data, .data, .data, .data, .sentinel, .sentinel, .pinned], laidTests := true, laidLooks := .later }
def ProgChecksCardSaid : Prop := Claim7.holds Tryz.pinned (.plain (OpenSpec.ofChange progChecksSpec)) progChecksCard

/-- THE TIED CARD OF 'gafferlaw05.ProgPrints'. -/
def progPrintsCard : Claim7 := { stood := { row := progPrintsRow, standIns := [], harness := (true, "f165764945bb297f9b37aab5bda57b80de6f45f84d74b3d9038276ea40782b50"), looks := true }, kinds := [], alts := [], laidByText := true, laidKinds := [.data, .data, .data, .data, .sentinel, .sentinel, .pinned], laidTests := true, laidLooks := .later }
def ProgPrintsCardSaid : Prop := Claim7.holds Tryz.pinned (.plain (OpenSpec.ofChange progPrintsSpec)) progPrintsCard

/-- THE TIED CARD OF 'gafferlaw05.ProgReads'. -/
def progReadsCard : Claim7 := { stood := { row := progReadsRow, standIns := [], harness := (true, "f165764945bb297f9b37aab5bda57b80de6f45f84d74b3d9038276ea40782b50"), looks := true }, kinds := [], alts := [], laidByText := true, laidKinds := [.data, .data, .data, .data, .sentinel, .sentinel, .pinned], laidTests := true, laidLooks := .later }
def ProgReadsCardSaid : Prop := Claim7.holds Tryz.pinned (.plain (OpenSpec.ofChange progReadsSpec)) progReadsCard

/-- THE TIED CARD OF 'gafferlaw05.ProgLays'. -/
def progLaysCard : Claim7 := { stood := { row := progLaysRow, standIns := [], harness := (true, "f165764945bb297f9b37aab5bda57b80de6f45f84d74b3d9038276ea40782b50"), looks := true }, kinds := [], alts := [], laidByText := true, laidKinds := [.data, .data, .data, .data, .sentinel, .sentinel, .pinned], laidTests := true, laidLooks := .later }
def ProgLaysCardSaid : Prop := Claim7.holds Tryz.pinned (.plain (OpenSpec.ofChange progLaysSpec)) progLaysCard

/-- THE TIED CARD OF 'gafferlaw05.ProgOpens'. -/
def progOpensCard : Claim7 := { stood := { row := progOpensRow, standIns := [], harness := (true, "f165764945bb297f9b37aab5bda57b80de6f45f84d74b3d9038276ea40782b50"), looks := true }, kinds := [], alts := [], laidByText := true, laidKinds := [.data, .data, .data, .data, .sentinel, .sentinel, .pinned], laidTests := true, laidLooks := .later }
def ProgOpensCardSaid : Prop := Claim7.holds Tryz.pinned (.plain (OpenSpec.ofChange progOpensSpec)) progOpensCard

/-- THE TIED CARD OF 'gafferlaw05.ProgBack'. -/
def progBackCard : Claim7 := { stood := { row := progBackRow, standIns := [], harness := (true, "f165764945bb297f9b37aab5bda57b80de6f45f84d74b3d9038276ea40782b50"), looks := true }, kinds := [], alts := [], laidByText := true, laidKinds := [.data, .data, .data, .data, .sentinel, .sentinel, .pinned], laidTests := true, laidLooks := .later }
def ProgBackCardSaid : Prop := Claim7.holds Tryz.pinned (.plain (OpenSpec.ofChange progBackSpec)) progBackCard

/-- THE TIED CARD OF 'gafferlaw05.ProgForms'. -/
def progFormsCard : Claim7 := { stood := { row := progFormsRow, standIns := [], harness := (true, "f165764945bb297f9b37aab5bda57b80de6f45f84d74b3d9038276ea40782b50"), looks := true }, kinds := [], alts := [], laidByText := true, laidKinds := [.data, .data, .data, .data, .sentinel, .sentinel, .pinned], laidTests := true, laidLooks := .later }
def ProgFormsCardSaid : Prop := Claim7.holds Tryz.pinned (.plain (OpenSpec.ofChange progFormsSpec)) progFormsCard

/-- THE TIED CARD OF 'gafferlaw05.ProgCuts'. -/
def progCutsCard : Claim7 := { stood := { row := progCutsRow, standIns := [], harness := (true, "f165764945bb297f9b37aab5bda57b80de6f45f84d74b3d9038276ea40782b50"), looks := true }, kinds := [], alts := [], laidByText := true, laidKinds := [.data, .data, .data, .data, .sentinel, .sentinel, .pinned], laidTests := true, laidLooks := .later }
def ProgCutsCardSaid : Prop := Claim7.holds Tryz.pinned (.plain (OpenSpec.ofChange progCutsSpec)) progCutsCard

/-- THE TIED CARD OF 'gafferlaw05.ProgPlaces'. -/
def progPlacesCard : Claim7 := { stood := { row := progPlacesRow, standIns := [], harness := (true, "f165764945bb297f9b37aab5bda57b80de6f45f84d74b3d9038276ea40782b50"), looks := true }, kinds := [], alts := [], laidByText := true, laidKinds := [.data, .data, .data, .data, .sentinel, .sentinel, .pinned], laidTests := true, laidLooks := .later }
def ProgPlacesCardSaid : Prop := Claim7.holds Tryz.pinned (.plain (OpenSpec.ofChange progPlacesSpec)) progPlacesCard

/-- THE SECOND FORM's CARD OF 'gafferlaw05.ProgChecks'. -/
def progChecksUptoCard : Claim7 := { stood := { row := progChecksUptoRow, standIns := [], harness := (true, "f165764945bb297f9b37aab5bda57b80de6f45f84d74b3d9038276ea40782b50"), looks := true }, kinds := [], alts := [], laidByText := true, laidKinds := [.data, .data, .data, .data, .sentinel, .sentinel, .pinned], laidTests := true, laidLooks := .later }
def ProgChecksUptoCardSaid : Prop := Claim7.holds Tryz.pinned (.plain (OpenSpec.upto progChecksSpec)) progChecksUptoCard

/-- THE SECOND FORM's CARD OF 'gafferlaw05.ProgPrints'. -/
def progPrintsUptoCard : Claim7 := { stood := { row := progPrintsUptoRow, standIns := [], harness := (true, "f165764945bb297f9b37aab5bda57b80de6f45f84d74b3d9038276ea40782b50"), looks := true }, kinds := [], alts := [], laidByText := true, laidKinds := [.data, .data, .data, .data, .sentinel, .sentinel, .pinned], laidTests := true, laidLooks := .later }
def ProgPrintsUptoCardSaid : Prop := Claim7.holds Tryz.pinned (.plain (OpenSpec.upto progPrintsSpec)) progPrintsUptoCard

/-- THE SECOND FORM's CARD OF 'gafferlaw05.ProgReads'. -/
def progReadsUptoCard : Claim7 := { stood := { row := progReadsUptoRow, standIns := [], harness := (true, "f165764945bb297f9b37aab5bda57b80de6f45f84d74b3d9038276ea40782b50"), looks := true }, kinds := [], alts := [], laidByText := true, laidKinds := [.data, .data, .data, .data, .sentinel, .sentinel, .pinned], laidTests := true, laidLooks := .later }
def ProgReadsUptoCardSaid : Prop := Claim7.holds Tryz.pinned (.plain (OpenSpec.upto progReadsSpec)) progReadsUptoCard

/-- THE SECOND FORM's CARD OF 'gafferlaw05.ProgLays'. -/
def progLaysUptoCard : Claim7 := { stood := { row := progLaysUptoRow, standIns := [], harness := (true, "f165764945bb297f9b37aab5bda57b80de6f45f84d74b3d9038276ea40782b50"), looks := true }, kinds := [], alts := [], laidByText := true, laidKinds := [.data, .data, .data, .data, .sentinel, .sentinel, .pinned], laidTests := true, laidLooks := .later }
def ProgLaysUptoCardSaid : Prop := Claim7.holds Tryz.pinned (.plain (OpenSpec.upto progLaysSpec)) progLaysUptoCard

/-- THE SECOND FORM's CARD OF 'gafferlaw05.ProgOpens'. -/
def progOpensUptoCard : Claim7 := { stood := { row := progOpensUptoRow, standIns := [], harness := (true, "f165764945bb297f9b37aab5bda57b80de6f45f84d74b3d9038276ea40782b50"), looks := true }, kinds := [], alts := [], laidByText := true, laidKinds := [.data, .data, .data, .data, .sentinel, .sentinel, .pinned], laidTests := true, laidLooks := .later }
def ProgOpensUptoCardSaid : Prop := Claim7.holds Tryz.pinned (.plain (OpenSpec.upto progOpensSpec)) progOpensUptoCard

/-- THE SECOND FORM's CARD OF 'gafferlaw05.ProgBack'. -/
def progBackUptoCard : Claim7 := { stood := { row := progBackUptoRow, standIns := [], harness := (true, "f165764945bb297f9b37aab5bda57b80de6f45f84d74b3d9038276ea40782b50"), looks := true }, kinds := [], alts := [], laidByText := true, laidKinds := [.data, .data, .data, .data, .sentinel, .sentinel, .pinned], laidTests := true, laidLooks := .later }
def ProgBackUptoCardSaid : Prop := Claim7.holds Tryz.pinned (.plain (OpenSpec.upto progBackSpec)) progBackUptoCard

/-- THE SECOND FORM's CARD OF 'gafferlaw05.ProgForms'. -/
def progFormsUptoCard : Claim7 := { stood := { row := progFormsUptoRow, standIns := [], harness := (true, "f165764945bb297f9b37aab5bda57b80de6f45f84d74b3d9038276ea40782b50"), looks := true }, kinds := [], alts := [], laidByText := true, laidKinds := [.data, .data, .data, .data, .sentinel, .sentinel, .pinned], laidTests := true, laidLooks := .later }
def ProgFormsUptoCardSaid : Prop := Claim7.holds Tryz.pinned (.plain (OpenSpec.upto progFormsSpec)) progFormsUptoCard

/-- THE SECOND FORM's CARD OF 'gafferlaw05.ProgCuts'. -/
def progCutsUptoCard : Claim7 := { stood := { row := progCutsUptoRow, standIns := [], harness := (true, "f165764945bb297f9b37aab5bda57b80de6f45f84d74b3d9038276ea40782b50"), looks := true }, kinds := [], alts := [], laidByText := true, laidKinds := [.data, .data, .data, .data, .sentinel, .sentinel, .pinned], laidTests := true, laidLooks := .later }
def ProgCutsUptoCardSaid : Prop := Claim7.holds Tryz.pinned (.plain (OpenSpec.upto progCutsSpec)) progCutsUptoCard

/-- THE SECOND FORM's CARD OF 'gafferlaw05.ProgPlaces'. -/
def progPlacesUptoCard : Claim7 := { stood := { row := progPlacesUptoRow, standIns := [], harness := (true, "f165764945bb297f9b37aab5bda57b80de6f45f84d74b3d9038276ea40782b50"), looks := true }, kinds := [], alts := [], laidByText := true, laidKinds := [.data, .data, .data, .data, .sentinel, .sentinel, .pinned], laidTests := true, laidLooks := .later }
def ProgPlacesUptoCardSaid : Prop := Claim7.holds Tryz.pinned (.plain (OpenSpec.upto progPlacesSpec)) progPlacesUptoCard
end Rows
end Go.Proofs.YtiidkgdlngcpgaaGreatDoor
