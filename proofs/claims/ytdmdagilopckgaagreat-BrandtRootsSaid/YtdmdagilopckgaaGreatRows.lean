/-
  No cell of these rows narrows 'for every input' (looked for: loops, veiled, ifaces, maps, wideKeys, modest, calm, conditions, laid).
  DERIVED. THE GIVEN ROWS OF THIS SEAT. 3 by the template 'for every input the law returns true; each argument reads behind the call as it read before'; 0 by the template 'total and deterministic' (their statements: YtdmdagilopckgaaGreatTotals.lean).
  GIVEN WITH THE SEED: the statements are not yours to turn. If you find one false, say at which input.
  Laid BY PROGRAM, IN A SANDBOX (cutbox-rows.mjs): the forced cells as the released guide's own fill.sh prints them over the translation fc23b5f78d9015ee… (all of the seat's roots in one cut). By AI agents, Wed Nov 11 2026. No macro, syntax, notation, axiom, sorry.
-/
import Derived.Test.YtdmdagilopckgaaGreatChecked
import GoSem.Claim
import GoSem.ClaimJoined
import GoSem.ClaimMapViews
import Derived.JoinedTies
import Derived.KernelRfl
namespace Go.Proofs.YtdmdagilopckgaaGreat
/- THE CELL 'sum', in the pinned program and in every row, IS THE sha256 OF THE DUMP (.gsa) THAT YtdmdagilopckgaaGreatProg.lean LOADS. Nothing in Lean hashes anything: it is a label: what it is worth is what the hold of that sum in a sandbox is worth. -/
noncomputable def Tryz.pinned : Pinned := { name := "ytdmdagilopckgaagreat", sum := "fc23b5f78d9015eecb8d00cd6a2eeb93b28d3c559d8ed2b9e714ec46513593b4", checked := Tryz.checked }
namespace Rows
def none {H : Type} : Left H := { results := [], args := [] }

/-- 'fourfoldlaw08.BrandtRoots': WHATEVER THE INPUT: true; the input reads as it did. -/
def brandtRootsSpec : ChangeSpec := { name := "brandtRoots", fn := fun _ => fun
  | [d1, d2, d3] => { results := [.lit (.bool true)], args := [d1, d2, d3] }
  | _ => none }
def brandtRootsRow : OpenClaim := { program := "ytdmdagilopckgaagreat", sum := "fc23b5f78d9015eecb8d00cd6a2eeb93b28d3c559d8ed2b9e714ec46513593b4", func := "fourfold/fourfoldlaw08.BrandtRoots", spec := "brandtRoots", unfollowed := true, recurses := true, apart := false }
def BrandtRootsSaid : Prop := brandtRootsRow.holds Tryz.pinned (OpenSpec.ofChange brandtRootsSpec)

/-- ITS FALSE NEIGHBOUR: 'it returns false'. Refute it at one input. -/
def brandtRootsWrong : ChangeSpec := { name := "brandtRoots", fn := fun _ => fun
  | [d1, d2, d3] => { results := [.lit (.bool false)], args := [d1, d2, d3] }
  | _ => none }
def BrandtRootsWrongFalsely : Prop := brandtRootsRow.holds Tryz.pinned (OpenSpec.ofChange brandtRootsWrong)

/-- 'fourfoldlaw08.BrandtChecks': WHATEVER THE INPUT: true; the input reads as it did. -/
def brandtChecksSpec : ChangeSpec := { name := "brandtChecks", fn := fun _ => fun
  | [d1, d2] => { results := [.lit (.bool true)], args := [d1, d2] }
  | _ => none }
def brandtChecksRow : OpenClaim := { program := "ytdmdagilopckgaagreat", sum := "fc23b5f78d9015eecb8d00cd6a2eeb93b28d3c559d8ed2b9e714ec46513593b4", func := "fourfold/fourfoldlaw08.BrandtChecks", spec := "brandtChecks", unfollowed := true, recurses := true, apart := false }
def BrandtChecksSaid : Prop := brandtChecksRow.holds Tryz.pinned (OpenSpec.ofChange brandtChecksSpec)

/-- ITS FALSE NEIGHBOUR: 'it returns false'. Refute it at one input. -/
def brandtChecksWrong : ChangeSpec := { name := "brandtChecks", fn := fun _ => fun
  | [d1, d2] => { results := [.lit (.bool false)], args := [d1, d2] }
  | _ => none }
def BrandtChecksWrongFalsely : Prop := brandtChecksRow.holds Tryz.pinned (OpenSpec.ofChange brandtChecksWrong)

/-- 'fourfoldlaw08.BrandtPolynomials': WHATEVER THE INPUT: true; the input reads as it did. -/
def brandtPolynomialsSpec : ChangeSpec := { name := "brandtPolynomials", fn := fun _ => fun
  | [d1, d2, d3] => { results := [.lit (.bool true)], args := [d1, d2, d3] }
  | _ => none }
def brandtPolynomialsRow : OpenClaim := { program := "ytdmdagilopckgaagreat", sum := "fc23b5f78d9015eecb8d00cd6a2eeb93b28d3c559d8ed2b9e714ec46513593b4", func := "fourfold/fourfoldlaw08.BrandtPolynomials", spec := "brandtPolynomials", unfollowed := true, recurses := true, apart := false }
def BrandtPolynomialsSaid : Prop := brandtPolynomialsRow.holds Tryz.pinned (OpenSpec.ofChange brandtPolynomialsSpec)

/-- ITS FALSE NEIGHBOUR: 'it returns false'. Refute it at one input. -/
def brandtPolynomialsWrong : ChangeSpec := { name := "brandtPolynomials", fn := fun _ => fun
  | [d1, d2, d3] => { results := [.lit (.bool false)], args := [d1, d2, d3] }
  | _ => none }
def BrandtPolynomialsWrongFalsely : Prop := brandtPolynomialsRow.holds Tryz.pinned (OpenSpec.ofChange brandtPolynomialsWrong)

/- THE SECOND FORM. 'bulk': how many values and letters a reading holds, each counted each time it is reached (what is shared counts as often as it is met; a slice's spare places count too). A statement '..UptoSaid' is the law's where the arguments, and the package variables that the reading takes, are together of bulk at most 1048576: NARROWER than '..Said'. Prove '..Said' where nothing that the law and all that it calls make is longer than what came in: it says more and counts as full. Else prove '..UptoSaid'. A law counts once. -/
mutual
def uptoBulk {H : Type} : DataW H → Nat
  | .lit (.string bytes) => bytes.length + 1
  | .lit _ => 1
  | .nil => 1
  | .ptr d => uptoBulk d + 1
  | .slice elems spare => uptoBulkAll elems + uptoBulkAll spare + 1
  | .agg parts => uptoBulkAll parts + 1
  | .iface _ d => uptoBulk d + 1
  | .map entries => uptoBulkEntries entries + 1
  | .held _ => 1
def uptoBulkAll {H : Type} : List (DataW H) → Nat
  | [] => 0
  | d :: r => uptoBulk d + uptoBulkAll r
def uptoBulkEntries {H : Type} : List (Lit × DataW H) → Nat
  | [] => 0
  | x :: r => uptoBulkEntry x + uptoBulkEntries r
def uptoBulkEntry {H : Type} : Lit × DataW H → Nat
  | (.string bytes, d) => bytes.length + uptoBulk d + 1
  | (_, d) => uptoBulk d + 1
 end
def uptoSmall : (H : Type) → List (DataW H) → Bool := fun _ ds => decide (uptoBulkAll ds ≤ 1048576)
def OpenSpec.upto (s : _root_.Go.ChangeSpec) : _root_.Go.OpenSpec := { _root_.Go.OpenSpec.ofChange s with cond := some uptoSmall }

/-- 'fourfoldlaw08.BrandtRoots', WHERE WHAT IT READS IS OF BULK AT MOST 1048576: true; the input reads as it did. -/
def brandtRootsUptoRow : OpenClaim := { program := "ytdmdagilopckgaagreat", sum := "fc23b5f78d9015eecb8d00cd6a2eeb93b28d3c559d8ed2b9e714ec46513593b4", func := "fourfold/fourfoldlaw08.BrandtRoots", spec := "brandtRoots", unfollowed := true, recurses := true, apart := false, narrowed := true }
def BrandtRootsUptoSaid : Prop := brandtRootsUptoRow.holds Tryz.pinned (OpenSpec.upto brandtRootsSpec)

/-- 'fourfoldlaw08.BrandtChecks', WHERE WHAT IT READS IS OF BULK AT MOST 1048576: true; the input reads as it did. -/
def brandtChecksUptoRow : OpenClaim := { program := "ytdmdagilopckgaagreat", sum := "fc23b5f78d9015eecb8d00cd6a2eeb93b28d3c559d8ed2b9e714ec46513593b4", func := "fourfold/fourfoldlaw08.BrandtChecks", spec := "brandtChecks", unfollowed := true, recurses := true, apart := false, narrowed := true }
def BrandtChecksUptoSaid : Prop := brandtChecksUptoRow.holds Tryz.pinned (OpenSpec.upto brandtChecksSpec)

/-- 'fourfoldlaw08.BrandtPolynomials', WHERE WHAT IT READS IS OF BULK AT MOST 1048576: true; the input reads as it did. -/
def brandtPolynomialsUptoRow : OpenClaim := { program := "ytdmdagilopckgaagreat", sum := "fc23b5f78d9015eecb8d00cd6a2eeb93b28d3c559d8ed2b9e714ec46513593b4", func := "fourfold/fourfoldlaw08.BrandtPolynomials", spec := "brandtPolynomials", unfollowed := true, recurses := true, apart := false, narrowed := true }
def BrandtPolynomialsUptoSaid : Prop := brandtPolynomialsUptoRow.holds Tryz.pinned (OpenSpec.upto brandtPolynomialsSpec)

end Rows
end Go.Proofs.YtdmdagilopckgaaGreat
