/-
  DERIVED. GIVEN WITH THE SEED: THE CARDS: each row of YtpkjdnplmgfbbaaGreatDoorRows.lean that lists a variable, with what it lists TIED to the program's text (the seventh form; the later family's looks); each row that meets fmt, with fmt's text TOLD by the authors' own Lean function (tested against real Go, not proved from fmt's source: count such statements apart). THE CARD IS WHAT COUNTS. Prove the row's statement (the work); the ties are given (YtpkjdnplmgfbbaaGreatDoorTie.lean); close each card by the builder's one call (the guide's Derived/Test/ToyasCard.lean, 'card_holds'). Laid BY PROGRAM, IN A SANDBOX (cutbox-door.mjs). By AI agents, Wed Nov 11 2026. No macro, syntax, notation, axiom, sorry.
-/
import Derived.Test.YtpkjdnplmgfbbaaGreatDoorRows
import GoSem.ClaimSeven
namespace Go.Proofs.YtpkjdnplmgfbbaaGreatDoor
namespace Rows

/-- THE TIED CARD OF 'fourfoldlaw09.GraphIrreducible'. -/
def graphIrreducibleCard : Claim7 := { stood := { row := graphIrreducibleRow, standIns := [], harness := (true, "eccfe8dd0ce55d72faa5489ce58635d5cc3ccff6a9da8da06ad0c852ccccc5e2"), looks := true }, kinds := [], alts := [], laidByText := true, laidKinds := [.data, .data, .data], laidTests := true, laidLooks := .later }
def GraphIrreducibleCardSaid : Prop := Claim7.holds Tryz.pinned (.plain (OpenSpec.ofChange graphIrreducibleSpec)) graphIrreducibleCard

/-- THE TIED CARD OF 'fourfoldlaw09.GraphTexts'. -/
def graphTextsCard : Claim7 := { stood := { row := graphTextsRow, standIns := [], harness := (true, "eccfe8dd0ce55d72faa5489ce58635d5cc3ccff6a9da8da06ad0c852ccccc5e2"), looks := true }, kinds := [], alts := [], laidByText := true, laidKinds := [.data, .data, .data, .data, .sentinel, .sentinel, .pinned], laidTests := true, laidLooks := .later }
def GraphTextsCardSaid : Prop := Claim7.holds Tryz.pinned (.plain (OpenSpec.ofChange graphTextsSpec)) graphTextsCard

/-- THE SECOND FORM's CARD OF 'fourfoldlaw09.GraphIrreducible'. -/
def graphIrreducibleUptoCard : Claim7 := { stood := { row := graphIrreducibleUptoRow, standIns := [], harness := (true, "eccfe8dd0ce55d72faa5489ce58635d5cc3ccff6a9da8da06ad0c852ccccc5e2"), looks := true }, kinds := [], alts := [], laidByText := true, laidKinds := [.data, .data, .data], laidTests := true, laidLooks := .later }
def GraphIrreducibleUptoCardSaid : Prop := Claim7.holds Tryz.pinned (.plain (OpenSpec.upto graphIrreducibleSpec)) graphIrreducibleUptoCard

/-- THE SECOND FORM's CARD OF 'fourfoldlaw09.GraphTexts'. -/
def graphTextsUptoCard : Claim7 := { stood := { row := graphTextsUptoRow, standIns := [], harness := (true, "eccfe8dd0ce55d72faa5489ce58635d5cc3ccff6a9da8da06ad0c852ccccc5e2"), looks := true }, kinds := [], alts := [], laidByText := true, laidKinds := [.data, .data, .data, .data, .sentinel, .sentinel, .pinned], laidTests := true, laidLooks := .later }
def GraphTextsUptoCardSaid : Prop := Claim7.holds Tryz.pinned (.plain (OpenSpec.upto graphTextsSpec)) graphTextsUptoCard
end Rows
end Go.Proofs.YtpkjdnplmgfbbaaGreatDoor
