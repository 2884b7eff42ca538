/-
  DERIVED. GIVEN WITH THE SEED: THE CARDS: each row of YtefcdclmabdmbaaGreatDoorRows.lean that lists a variable, with what it lists TIED to the program's text (the seventh form; the later family's looks); each row that meets fmt, with fmt's text TOLD by the authors' own Lean function (tested against real Go, not proved from fmt's source: count such statements apart). THE CARD IS WHAT COUNTS. Prove the row's statement (the work); the ties are given (YtefcdclmabdmbaaGreatDoorTie.lean); close each card by the builder's one call (the guide's Derived/Test/ToyasCard.lean, 'card_holds'). Laid BY PROGRAM, IN A SANDBOX (cutbox-door.mjs). By AI agents, Wed Nov 11 2026. No macro, syntax, notation, axiom, sorry.
-/
import Derived.Test.YtefcdclmabdmbaaGreatDoorRows
import GoSem.ClaimSeven
namespace Go.Proofs.YtefcdclmabdmbaaGreatDoor
namespace Rows

/-- THE TIED CARD OF 'fourfoldlaw09.GraphSpectra'. -/
def graphSpectraCard : Claim7 := { stood := { row := graphSpectraRow, standIns := [], harness := (true, "d82a8e604e91b560c98b0d31a54949b9e3e30e7eb626ba43a74348b36d2911f5"), looks := false }, kinds := [], alts := [], laidByText := true, laidKinds := [.data, .data, .data], laidTests := true, laidLooks := .later }
def GraphSpectraCardSaid : Prop := Claim7.holds Tryz.pinned (.plain (OpenSpec.ofChange graphSpectraSpec)) graphSpectraCard

/-- THE TIED CARD OF 'fourfoldlaw09.GraphCayley'. -/
def graphCayleyCard : Claim7 := { stood := { row := graphCayleyRow, standIns := [], harness := (true, "d82a8e604e91b560c98b0d31a54949b9e3e30e7eb626ba43a74348b36d2911f5"), looks := false }, kinds := [], alts := [], laidByText := true, laidKinds := [.data, .data, .data], laidTests := true, laidLooks := .later }
def GraphCayleyCardSaid : Prop := Claim7.holds Tryz.pinned (.plain (OpenSpec.ofChange graphCayleySpec)) graphCayleyCard

/-- THE SECOND FORM's CARD OF 'fourfoldlaw09.GraphSpectra'. -/
def graphSpectraUptoCard : Claim7 := { stood := { row := graphSpectraUptoRow, standIns := [], harness := (true, "d82a8e604e91b560c98b0d31a54949b9e3e30e7eb626ba43a74348b36d2911f5"), looks := false }, kinds := [], alts := [], laidByText := true, laidKinds := [.data, .data, .data], laidTests := true, laidLooks := .later }
def GraphSpectraUptoCardSaid : Prop := Claim7.holds Tryz.pinned (.plain (OpenSpec.upto graphSpectraSpec)) graphSpectraUptoCard

/-- THE SECOND FORM's CARD OF 'fourfoldlaw09.GraphCayley'. -/
def graphCayleyUptoCard : Claim7 := { stood := { row := graphCayleyUptoRow, standIns := [], harness := (true, "d82a8e604e91b560c98b0d31a54949b9e3e30e7eb626ba43a74348b36d2911f5"), looks := false }, kinds := [], alts := [], laidByText := true, laidKinds := [.data, .data, .data], laidTests := true, laidLooks := .later }
def GraphCayleyUptoCardSaid : Prop := Claim7.holds Tryz.pinned (.plain (OpenSpec.upto graphCayleySpec)) graphCayleyUptoCard
end Rows
end Go.Proofs.YtefcdclmabdmbaaGreatDoor
