/-
  DERIVED. GIVEN WITH THE SEED: THE CARDS: each row of YtjlnbfpjlladoaaDoorRows.lean that lists a variable, with what it lists TIED to the program's text (the seventh form; the later family's looks); each row that meets fmt, with fmt's text TOLD by the authors' own Lean function (tested against real Go, not proved from fmt's source: count such statements apart). THE CARD IS WHAT COUNTS. Prove the row's statement (the work); the ties are given (YtjlnbfpjlladoaaDoorTie.lean); close each card by the builder's one call (the guide's Derived/Test/ToyasCard.lean, 'card_holds'). Laid BY PROGRAM, IN A SANDBOX (cutbox-door.mjs). By AI agents, Wed Nov 11 2026. No macro, syntax, notation, axiom, sorry.
-/
import Derived.Test.YtjlnbfpjlladoaaDoorRows
import GoSem.ClaimSeven
namespace Go.Proofs.YtjlnbfpjlladoaaDoor
namespace Rows

/-- THE TIED CARD OF 'gafferlaw01.NumTexts'. -/
def numTextsCard : Claim7 := { stood := { row := numTextsRow, standIns := [], harness := (true, "2408527d5f3f13ac52b4e449b65b53a7faf17a23f3e41ef290e4e0d16d0f79e4"), looks := true }, kinds := [], alts := [], laidByText := true, laidKinds := [.data, .data, .data, .sentinel, .sentinel], laidTests := true, laidLooks := .later }
def NumTextsCardSaid : Prop := Claim7.holds Tryd.pinned (.plain (OpenSpec.ofChange numTextsSpec)) numTextsCard

/-- THE TIED CARD OF 'gafferlaw01.NumBack'. -/
def numBackCard : Claim7 := { stood := { row := numBackRow, standIns := [], harness := (true, "2408527d5f3f13ac52b4e449b65b53a7faf17a23f3e41ef290e4e0d16d0f79e4"), looks := true }, kinds := [], alts := [], laidByText := true, laidKinds := [.data, .data, .data, .sentinel, .sentinel], laidTests := true, laidLooks := .later }
def NumBackCardSaid : Prop := Claim7.holds Tryd.pinned (.plain (OpenSpec.ofChange numBackSpec)) numBackCard

/-- THE TIED CARD OF 'gafferlaw01.NumHeeds'. -/
def numHeedsCard : Claim7 := { stood := { row := numHeedsRow, standIns := [], harness := (true, "2408527d5f3f13ac52b4e449b65b53a7faf17a23f3e41ef290e4e0d16d0f79e4"), looks := true }, kinds := [], alts := [], laidByText := true, laidKinds := [.data, .data, .data, .sentinel, .sentinel], laidTests := true, laidLooks := .later }
def NumHeedsCardSaid : Prop := Claim7.holds Tryd.pinned (.plain (OpenSpec.ofChange numHeedsSpec)) numHeedsCard

/-- THE SECOND FORM's CARD OF 'gafferlaw01.NumTexts'. -/
def numTextsUptoCard : Claim7 := { stood := { row := numTextsUptoRow, standIns := [], harness := (true, "2408527d5f3f13ac52b4e449b65b53a7faf17a23f3e41ef290e4e0d16d0f79e4"), looks := true }, kinds := [], alts := [], laidByText := true, laidKinds := [.data, .data, .data, .sentinel, .sentinel], laidTests := true, laidLooks := .later }
def NumTextsUptoCardSaid : Prop := Claim7.holds Tryd.pinned (.plain (OpenSpec.upto numTextsSpec)) numTextsUptoCard

/-- THE SECOND FORM's CARD OF 'gafferlaw01.NumBack'. -/
def numBackUptoCard : Claim7 := { stood := { row := numBackUptoRow, standIns := [], harness := (true, "2408527d5f3f13ac52b4e449b65b53a7faf17a23f3e41ef290e4e0d16d0f79e4"), looks := true }, kinds := [], alts := [], laidByText := true, laidKinds := [.data, .data, .data, .sentinel, .sentinel], laidTests := true, laidLooks := .later }
def NumBackUptoCardSaid : Prop := Claim7.holds Tryd.pinned (.plain (OpenSpec.upto numBackSpec)) numBackUptoCard

/-- THE SECOND FORM's CARD OF 'gafferlaw01.NumHeeds'. -/
def numHeedsUptoCard : Claim7 := { stood := { row := numHeedsUptoRow, standIns := [], harness := (true, "2408527d5f3f13ac52b4e449b65b53a7faf17a23f3e41ef290e4e0d16d0f79e4"), looks := true }, kinds := [], alts := [], laidByText := true, laidKinds := [.data, .data, .data, .sentinel, .sentinel], laidTests := true, laidLooks := .later }
def NumHeedsUptoCardSaid : Prop := Claim7.holds Tryd.pinned (.plain (OpenSpec.upto numHeedsSpec)) numHeedsUptoCard
end Rows
end Go.Proofs.YtjlnbfpjlladoaaDoor
