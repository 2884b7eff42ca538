/-
  DERIVED. GIVEN WITH THE SEED: THE CARDS: each row of YtpkjdnplmgfbbaaDoorRows.lean that lists a variable, with what it lists TIED to the program's text (the seventh form; the later family's looks); each row that meets fmt, with fmt's text TOLD by the authors' own Lean function (tested against real Go, not proved from fmt's source: count such statements apart). THE CARD IS WHAT COUNTS. Prove the row's statement (the work); the ties are given (YtpkjdnplmgfbbaaDoorTie.lean); close each card by the builder's one call (the guide's Derived/Test/ToyasCard.lean, 'card_holds'). Laid BY PROGRAM, IN A SANDBOX (cutbox-door.mjs). By AI agents, Wed Nov 11 2026. No macro, syntax, notation, axiom, sorry.
-/
import Derived.Test.YtpkjdnplmgfbbaaDoorRows
import GoSem.ClaimSeven
namespace Go.Proofs.YtpkjdnplmgfbbaaDoor
namespace Rows

/-- THE TIED CARD OF 'fourfoldlaw09.GraphDistances'. -/
def graphDistancesCard : Claim7 := { stood := { row := graphDistancesRow, standIns := [], harness := (true, "6c220bf9b7907cb3651b8d027a6acdbed5a8aa71435570e863735dd3004a3fdb"), looks := false }, kinds := [], alts := [], laidByText := true, laidKinds := [.data, .data, .data], laidTests := true, laidLooks := .later }
def GraphDistancesCardSaid : Prop := Claim7.holds Tryd.pinned (.plain (OpenSpec.ofChange graphDistancesSpec)) graphDistancesCard

/-- THE TIED CARD OF 'fourfoldlaw09.GraphWalks'. -/
def graphWalksCard : Claim7 := { stood := { row := graphWalksRow, standIns := [], harness := (true, "6c220bf9b7907cb3651b8d027a6acdbed5a8aa71435570e863735dd3004a3fdb"), looks := false }, kinds := [], alts := [], laidByText := true, laidKinds := [.data, .data, .data], laidTests := true, laidLooks := .later }
def GraphWalksCardSaid : Prop := Claim7.holds Tryd.pinned (.plain (OpenSpec.ofChange graphWalksSpec)) graphWalksCard

/-- THE TIED CARD OF 'fourfoldlaw09.GraphPaths'. -/
def graphPathsCard : Claim7 := { stood := { row := graphPathsRow, standIns := [], harness := (true, "6c220bf9b7907cb3651b8d027a6acdbed5a8aa71435570e863735dd3004a3fdb"), looks := false }, kinds := [], alts := [], laidByText := true, laidKinds := [.data, .data, .data], laidTests := true, laidLooks := .later }
def GraphPathsCardSaid : Prop := Claim7.holds Tryd.pinned (.plain (OpenSpec.ofChange graphPathsSpec)) graphPathsCard

/-- THE TIED CARD OF 'fourfoldlaw09.GraphChecks'. -/
def graphChecksCard : Claim7 := { stood := { row := graphChecksRow, standIns := [], harness := (true, "6c220bf9b7907cb3651b8d027a6acdbed5a8aa71435570e863735dd3004a3fdb"), looks := false }, kinds := [], alts := [], laidByText := true, laidKinds := [.data, .data, .data], laidTests := true, laidLooks := .later }
def GraphChecksCardSaid : Prop := Claim7.holds Tryd.pinned (.plain (OpenSpec.ofChange graphChecksSpec)) graphChecksCard

/-- THE TIED CARD OF 'fourfoldlaw09.GraphComponents'. -/
def graphComponentsCard : Claim7 := { stood := { row := graphComponentsRow, standIns := [], harness := (true, "6c220bf9b7907cb3651b8d027a6acdbed5a8aa71435570e863735dd3004a3fdb"), looks := false }, kinds := [], alts := [], laidByText := true, laidKinds := [.data, .data, .data], laidTests := true, laidLooks := .later }
def GraphComponentsCardSaid : Prop := Claim7.holds Tryd.pinned (.plain (OpenSpec.ofChange graphComponentsSpec)) graphComponentsCard

/-- THE TIED CARD OF 'fourfoldlaw09.GraphDistant'. -/
def graphDistantCard : Claim7 := { stood := { row := graphDistantRow, standIns := [], harness := (true, "6c220bf9b7907cb3651b8d027a6acdbed5a8aa71435570e863735dd3004a3fdb"), looks := false }, kinds := [], alts := [], laidByText := true, laidKinds := [.data, .data, .data], laidTests := true, laidLooks := .later }
def GraphDistantCardSaid : Prop := Claim7.holds Tryd.pinned (.plain (OpenSpec.ofChange graphDistantSpec)) graphDistantCard

/-- THE TIED CARD OF 'fourfoldlaw09.GraphReturns'. -/
def graphReturnsCard : Claim7 := { stood := { row := graphReturnsRow, standIns := [], harness := (true, "6c220bf9b7907cb3651b8d027a6acdbed5a8aa71435570e863735dd3004a3fdb"), looks := false }, kinds := [], alts := [], laidByText := true, laidKinds := [.data, .data, .data], laidTests := true, laidLooks := .later }
def GraphReturnsCardSaid : Prop := Claim7.holds Tryd.pinned (.plain (OpenSpec.ofChange graphReturnsSpec)) graphReturnsCard

/-- THE TIED CARD OF 'fourfoldlaw09.GraphGenerators'. -/
def graphGeneratorsCard : Claim7 := { stood := { row := graphGeneratorsRow, standIns := [], harness := (true, "6c220bf9b7907cb3651b8d027a6acdbed5a8aa71435570e863735dd3004a3fdb"), looks := false }, kinds := [], alts := [], laidByText := true, laidKinds := [.data, .data, .data], laidTests := true, laidLooks := .later }
def GraphGeneratorsCardSaid : Prop := Claim7.holds Tryd.pinned (.plain (OpenSpec.ofChange graphGeneratorsSpec)) graphGeneratorsCard

/-- THE TIED CARD OF 'fourfoldlaw09.GraphCycles'. -/
def graphCyclesCard : Claim7 := { stood := { row := graphCyclesRow, standIns := [], harness := (true, "6c220bf9b7907cb3651b8d027a6acdbed5a8aa71435570e863735dd3004a3fdb"), looks := false }, kinds := [], alts := [], laidByText := true, laidKinds := [.data, .data, .data], laidTests := true, laidLooks := .later }
def GraphCyclesCardSaid : Prop := Claim7.holds Tryd.pinned (.plain (OpenSpec.ofChange graphCyclesSpec)) graphCyclesCard

/-- THE SECOND FORM's CARD OF 'fourfoldlaw09.GraphDistances'. -/
def graphDistancesUptoCard : Claim7 := { stood := { row := graphDistancesUptoRow, standIns := [], harness := (true, "6c220bf9b7907cb3651b8d027a6acdbed5a8aa71435570e863735dd3004a3fdb"), looks := false }, kinds := [], alts := [], laidByText := true, laidKinds := [.data, .data, .data], laidTests := true, laidLooks := .later }
def GraphDistancesUptoCardSaid : Prop := Claim7.holds Tryd.pinned (.plain (OpenSpec.upto graphDistancesSpec)) graphDistancesUptoCard

/-- THE SECOND FORM's CARD OF 'fourfoldlaw09.GraphWalks'. -/
def graphWalksUptoCard : Claim7 := { stood := { row := graphWalksUptoRow, standIns := [], harness := (true, "6c220bf9b7907cb3651b8d027a6acdbed5a8aa71435570e863735dd3004a3fdb"), looks := false }, kinds := [], alts := [], laidByText := true, laidKinds := [.data, .data, .data], laidTests := true, laidLooks := .later }
def GraphWalksUptoCardSaid : Prop := Claim7.holds Tryd.pinned (.plain (OpenSpec.upto graphWalksSpec)) graphWalksUptoCard

/-- THE SECOND FORM's CARD OF 'fourfoldlaw09.GraphPaths'. -/
def graphPathsUptoCard : Claim7 := { stood := { row := graphPathsUptoRow, standIns := [], harness := (true, "6c220bf9b7907cb3651b8d027a6acdbed5a8aa71435570e863735dd3004a3fdb"), looks := false }, kinds := [], alts := [], laidByText := true, laidKinds := [.data, .data, .data], laidTests := true, laidLooks := .later }
def GraphPathsUptoCardSaid : Prop := Claim7.holds Tryd.pinned (.plain (OpenSpec.upto graphPathsSpec)) graphPathsUptoCard

/-- THE SECOND FORM's CARD OF 'fourfoldlaw09.GraphChecks'. -/
def graphChecksUptoCard : Claim7 := { stood := { row := graphChecksUptoRow, standIns := [], harness := (true, "6c220bf9b7907cb3651b8d027a6acdbed5a8aa71435570e863735dd3004a3fdb"), looks := false }, kinds := [], alts := [], laidByText := true, laidKinds := [.data, .data, .data], laidTests := true, laidLooks := .later }
def GraphChecksUptoCardSaid : Prop := Claim7.holds Tryd.pinned (.plain (OpenSpec.upto graphChecksSpec)) graphChecksUptoCard

/-- THE SECOND FORM's CARD OF 'fourfoldlaw09.GraphComponents'. -/
def graphComponentsUptoCard : Claim7 := { stood := { row := graphComponentsUptoRow, standIns := [], harness := (true, "6c220bf9b7907cb3651b8d027a6acdbed5a8aa71435570e863735dd3004a3fdb"), looks := false }, kinds := [], alts := [], laidByText := true, laidKinds := [.data, .data, .data], laidTests := true, laidLooks := .later }
def GraphComponentsUptoCardSaid : Prop := Claim7.holds Tryd.pinned (.plain (OpenSpec.upto graphComponentsSpec)) graphComponentsUptoCard

/-- THE SECOND FORM's CARD OF 'fourfoldlaw09.GraphDistant'. -/
def graphDistantUptoCard : Claim7 := { stood := { row := graphDistantUptoRow, standIns := [], harness := (true, "6c220bf9b7907cb3651b8d027a6acdbed5a8aa71435570e863735dd3004a3fdb"), looks := false }, kinds := [], alts := [], laidByText := true, laidKinds := [.data, .data, .data], laidTests := true, laidLooks := .later }
def GraphDistantUptoCardSaid : Prop := Claim7.holds Tryd.pinned (.plain (OpenSpec.upto graphDistantSpec)) graphDistantUptoCard

/-- THE SECOND FORM's CARD OF 'fourfoldlaw09.GraphReturns'. -/
def graphReturnsUptoCard : Claim7 := { stood := { row := graphReturnsUptoRow, standIns := [], harness := (true, "6c220bf9b7907cb3651b8d027a6acdbed5a8aa71435570e863735dd3004a3fdb"), looks := false }, kinds := [], alts := [], laidByText := true, laidKinds := [.data, .data, .data], laidTests := true, laidLooks := .later }
def GraphReturnsUptoCardSaid : Prop := Claim7.holds Tryd.pinned (.plain (OpenSpec.upto graphReturnsSpec)) graphReturnsUptoCard

/-- THE SECOND FORM's CARD OF 'fourfoldlaw09.GraphGenerators'. -/
def graphGeneratorsUptoCard : Claim7 := { stood := { row := graphGeneratorsUptoRow, standIns := [], harness := (true, "6c220bf9b7907cb3651b8d027a6acdbed5a8aa71435570e863735dd3004a3fdb"), looks := false }, kinds := [], alts := [], laidByText := true, laidKinds := [.data, .data, .data], laidTests := true, laidLooks := .later }
def GraphGeneratorsUptoCardSaid : Prop := Claim7.holds Tryd.pinned (.plain (OpenSpec.upto graphGeneratorsSpec)) graphGeneratorsUptoCard

/-- THE SECOND FORM's CARD OF 'fourfoldlaw09.GraphCycles'. -/
def graphCyclesUptoCard : Claim7 := { stood := { row := graphCyclesUptoRow, standIns := [], harness := (true, "6c220bf9b7907cb3651b8d027a6acdbed5a8aa71435570e863735dd3004a3fdb"), looks := false }, kinds := [], alts := [], laidByText := true, laidKinds := [.data, .data, .data], laidTests := true, laidLooks := .later }
def GraphCyclesUptoCardSaid : Prop := Claim7.holds Tryd.pinned (.plain (OpenSpec.upto graphCyclesSpec)) graphCyclesUptoCard
end Rows
end Go.Proofs.YtpkjdnplmgfbbaaDoor
