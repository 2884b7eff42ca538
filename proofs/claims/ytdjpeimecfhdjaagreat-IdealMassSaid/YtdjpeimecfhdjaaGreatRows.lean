/-
  No cell of these rows narrows 'for every input' (looked for: loops, veiled, ifaces, maps, wideKeys, modest, calm, conditions, laid).
  DERIVED. THE GIVEN ROWS OF THIS SEAT. 7 by the template 'for every input the law returns true; each argument reads behind the call as it read before'; 0 by the template 'total and deterministic' (their statements: YtdjpeimecfhdjaaGreatTotals.lean).
  GIVEN WITH THE SEED: the statements are not yours to turn. If you find one false, say at which input.
  Laid BY PROGRAM, IN A SANDBOX (cutbox-rows.mjs): the forced cells as the released guide's own fill.sh prints them over the translation ea2b399c1320bcdd… (all of the seat's roots in one cut). By AI agents, Wed Nov 11 2026. No macro, syntax, notation, axiom, sorry.
-/
import Derived.Test.YtdjpeimecfhdjaaGreatChecked
import GoSem.Claim
import GoSem.ClaimJoined
import GoSem.ClaimMapViews
import Derived.JoinedTies
import Derived.KernelRfl
namespace Go.Proofs.YtdjpeimecfhdjaaGreat
/- THE CELL 'sum', in the pinned program and in every row, IS THE sha256 OF THE DUMP (.gsa) THAT YtdjpeimecfhdjaaGreatProg.lean LOADS. Nothing in Lean hashes anything: it is a label: what it is worth is what the hold of that sum in a sandbox is worth. -/
noncomputable def Tryz.pinned : Pinned := { name := "ytdjpeimecfhdjaagreat", sum := "ea2b399c1320bcdd3ed96d76d1d9ab27280adcf451978d02b269efc13afae16e", checked := Tryz.checked }
namespace Rows
def none {H : Type} : Left H := { results := [], args := [] }

/-- 'fourfoldlaw08.BrandtTheta': WHATEVER THE INPUT: true; the input reads as it did. -/
def brandtThetaSpec : ChangeSpec := { name := "brandtTheta", fn := fun _ => fun
  | [d1, d2, d3] => { results := [.lit (.bool true)], args := [d1, d2, d3] }
  | _ => none }
def brandtThetaRow : OpenClaim := { program := "ytdjpeimecfhdjaagreat", sum := "ea2b399c1320bcdd3ed96d76d1d9ab27280adcf451978d02b269efc13afae16e", func := "fourfold/fourfoldlaw08.BrandtTheta", spec := "brandtTheta", unfollowed := true, recurses := true, apart := false }
def BrandtThetaSaid : Prop := brandtThetaRow.holds Tryz.pinned (OpenSpec.ofChange brandtThetaSpec)

/-- ITS FALSE NEIGHBOUR: 'it returns false'. Refute it at one input. -/
def brandtThetaWrong : ChangeSpec := { name := "brandtTheta", fn := fun _ => fun
  | [d1, d2, d3] => { results := [.lit (.bool false)], args := [d1, d2, d3] }
  | _ => none }
def BrandtThetaWrongFalsely : Prop := brandtThetaRow.holds Tryz.pinned (OpenSpec.ofChange brandtThetaWrong)

/-- 'fourfoldlaw08.BrandtClassNumbers': WHATEVER THE INPUT: true; the input reads as it did. -/
def brandtClassNumbersSpec : ChangeSpec := { name := "brandtClassNumbers", fn := fun _ => fun
  | [d1, d2, d3] => { results := [.lit (.bool true)], args := [d1, d2, d3] }
  | _ => none }
def brandtClassNumbersRow : OpenClaim := { program := "ytdjpeimecfhdjaagreat", sum := "ea2b399c1320bcdd3ed96d76d1d9ab27280adcf451978d02b269efc13afae16e", func := "fourfold/fourfoldlaw08.BrandtClassNumbers", spec := "brandtClassNumbers", unfollowed := true, recurses := true, apart := false }
def BrandtClassNumbersSaid : Prop := brandtClassNumbersRow.holds Tryz.pinned (OpenSpec.ofChange brandtClassNumbersSpec)

/-- ITS FALSE NEIGHBOUR: 'it returns false'. Refute it at one input. -/
def brandtClassNumbersWrong : ChangeSpec := { name := "brandtClassNumbers", fn := fun _ => fun
  | [d1, d2, d3] => { results := [.lit (.bool false)], args := [d1, d2, d3] }
  | _ => none }
def BrandtClassNumbersWrongFalsely : Prop := brandtClassNumbersRow.holds Tryz.pinned (OpenSpec.ofChange brandtClassNumbersWrong)

/-- 'fourfoldlaw08.BrandtSums': WHATEVER THE INPUT: true; the input reads as it did. -/
def brandtSumsSpec : ChangeSpec := { name := "brandtSums", fn := fun _ => fun
  | [d1, d2, d3] => { results := [.lit (.bool true)], args := [d1, d2, d3] }
  | _ => none }
def brandtSumsRow : OpenClaim := { program := "ytdjpeimecfhdjaagreat", sum := "ea2b399c1320bcdd3ed96d76d1d9ab27280adcf451978d02b269efc13afae16e", func := "fourfold/fourfoldlaw08.BrandtSums", spec := "brandtSums", unfollowed := true, recurses := true, apart := false }
def BrandtSumsSaid : Prop := brandtSumsRow.holds Tryz.pinned (OpenSpec.ofChange brandtSumsSpec)

/-- ITS FALSE NEIGHBOUR: 'it returns false'. Refute it at one input. -/
def brandtSumsWrong : ChangeSpec := { name := "brandtSums", fn := fun _ => fun
  | [d1, d2, d3] => { results := [.lit (.bool false)], args := [d1, d2, d3] }
  | _ => none }
def BrandtSumsWrongFalsely : Prop := brandtSumsRow.holds Tryz.pinned (OpenSpec.ofChange brandtSumsWrong)

/-- 'fourfoldlaw08.BrandtKernels': WHATEVER THE INPUT: true; the input reads as it did. -/
def brandtKernelsSpec : ChangeSpec := { name := "brandtKernels", fn := fun _ => fun
  | [d1, d2] => { results := [.lit (.bool true)], args := [d1, d2] }
  | _ => none }
def brandtKernelsRow : OpenClaim := { program := "ytdjpeimecfhdjaagreat", sum := "ea2b399c1320bcdd3ed96d76d1d9ab27280adcf451978d02b269efc13afae16e", func := "fourfold/fourfoldlaw08.BrandtKernels", spec := "brandtKernels", unfollowed := true, recurses := true, apart := false }
def BrandtKernelsSaid : Prop := brandtKernelsRow.holds Tryz.pinned (OpenSpec.ofChange brandtKernelsSpec)

/-- ITS FALSE NEIGHBOUR: 'it returns false'. Refute it at one input. -/
def brandtKernelsWrong : ChangeSpec := { name := "brandtKernels", fn := fun _ => fun
  | [d1, d2] => { results := [.lit (.bool false)], args := [d1, d2] }
  | _ => none }
def BrandtKernelsWrongFalsely : Prop := brandtKernelsRow.holds Tryz.pinned (OpenSpec.ofChange brandtKernelsWrong)

/-- 'fourfoldlaw08.BrandtProducts': WHATEVER THE INPUT: true; the input reads as it did. -/
def brandtProductsSpec : ChangeSpec := { name := "brandtProducts", fn := fun _ => fun
  | [d1, d2] => { results := [.lit (.bool true)], args := [d1, d2] }
  | _ => none }
def brandtProductsRow : OpenClaim := { program := "ytdjpeimecfhdjaagreat", sum := "ea2b399c1320bcdd3ed96d76d1d9ab27280adcf451978d02b269efc13afae16e", func := "fourfold/fourfoldlaw08.BrandtProducts", spec := "brandtProducts", unfollowed := true, recurses := true, apart := false }
def BrandtProductsSaid : Prop := brandtProductsRow.holds Tryz.pinned (OpenSpec.ofChange brandtProductsSpec)

/-- ITS FALSE NEIGHBOUR: 'it returns false'. Refute it at one input. -/
def brandtProductsWrong : ChangeSpec := { name := "brandtProducts", fn := fun _ => fun
  | [d1, d2] => { results := [.lit (.bool false)], args := [d1, d2] }
  | _ => none }
def BrandtProductsWrongFalsely : Prop := brandtProductsRow.holds Tryz.pinned (OpenSpec.ofChange brandtProductsWrong)

/-- 'fourfoldlaw05.IdealElements': WHATEVER THE INPUT: true; the input reads as it did. -/
def idealElementsSpec : ChangeSpec := { name := "idealElements", fn := fun _ => fun
  | [d1, d2, d3] => { results := [.lit (.bool true)], args := [d1, d2, d3] }
  | _ => none }
def idealElementsRow : OpenClaim := { program := "ytdjpeimecfhdjaagreat", sum := "ea2b399c1320bcdd3ed96d76d1d9ab27280adcf451978d02b269efc13afae16e", func := "fourfold/fourfoldlaw05.IdealElements", spec := "idealElements", unfollowed := true, recurses := true, apart := false }
def IdealElementsSaid : Prop := idealElementsRow.holds Tryz.pinned (OpenSpec.ofChange idealElementsSpec)

/-- ITS FALSE NEIGHBOUR: 'it returns false'. Refute it at one input. -/
def idealElementsWrong : ChangeSpec := { name := "idealElements", fn := fun _ => fun
  | [d1, d2, d3] => { results := [.lit (.bool false)], args := [d1, d2, d3] }
  | _ => none }
def IdealElementsWrongFalsely : Prop := idealElementsRow.holds Tryz.pinned (OpenSpec.ofChange idealElementsWrong)

/-- 'fourfoldlaw05.IdealMass': WHATEVER THE INPUT: true; the input reads as it did. -/
def idealMassSpec : ChangeSpec := { name := "idealMass", fn := fun _ => fun
  | [d1, d2] => { results := [.lit (.bool true)], args := [d1, d2] }
  | _ => none }
def idealMassRow : OpenClaim := { program := "ytdjpeimecfhdjaagreat", sum := "ea2b399c1320bcdd3ed96d76d1d9ab27280adcf451978d02b269efc13afae16e", func := "fourfold/fourfoldlaw05.IdealMass", spec := "idealMass", unfollowed := true, recurses := true, apart := false }
def IdealMassSaid : Prop := idealMassRow.holds Tryz.pinned (OpenSpec.ofChange idealMassSpec)

/-- ITS FALSE NEIGHBOUR: 'it returns false'. Refute it at one input. -/
def idealMassWrong : ChangeSpec := { name := "idealMass", fn := fun _ => fun
  | [d1, d2] => { results := [.lit (.bool false)], args := [d1, d2] }
  | _ => none }
def IdealMassWrongFalsely : Prop := idealMassRow.holds Tryz.pinned (OpenSpec.ofChange idealMassWrong)

/- THE SECOND FORM. 'bulk': how many values and letters a reading holds, each counted each time it is reached (what is shared counts as often as it is met; a slice's spare places count too). A statement '..UptoSaid' is the law's where the arguments, and the package variables that the reading takes, are together of bulk at most 1048576: NARROWER than '..Said'. Prove '..Said' where nothing that the law and all that it calls make is longer than what came in: it says more and counts as full. Else prove '..UptoSaid'. A law counts once. -/
mutual
def uptoBulk {H : Type} : DataW H → Nat
  | .lit (.string bytes) => bytes.length + 1
  | .lit _ => 1
  | .nil => 1
  | .ptr d => uptoBulk d + 1
  | .slice elems spare => uptoBulkAll elems + uptoBulkAll spare + 1
  | .agg parts => uptoBulkAll parts + 1
  | .iface _ d => uptoBulk d + 1
  | .map entries => uptoBulkEntries entries + 1
  | .held _ => 1
def uptoBulkAll {H : Type} : List (DataW H) → Nat
  | [] => 0
  | d :: r => uptoBulk d + uptoBulkAll r
def uptoBulkEntries {H : Type} : List (Lit × DataW H) → Nat
  | [] => 0
  | x :: r => uptoBulkEntry x + uptoBulkEntries r
def uptoBulkEntry {H : Type} : Lit × DataW H → Nat
  | (.string bytes, d) => bytes.length + uptoBulk d + 1
  | (_, d) => uptoBulk d + 1
 end
def uptoSmall : (H : Type) → List (DataW H) → Bool := fun _ ds => decide (uptoBulkAll ds ≤ 1048576)
def OpenSpec.upto (s : _root_.Go.ChangeSpec) : _root_.Go.OpenSpec := { _root_.Go.OpenSpec.ofChange s with cond := some uptoSmall }

/-- 'fourfoldlaw08.BrandtTheta', WHERE WHAT IT READS IS OF BULK AT MOST 1048576: true; the input reads as it did. -/
def brandtThetaUptoRow : OpenClaim := { program := "ytdjpeimecfhdjaagreat", sum := "ea2b399c1320bcdd3ed96d76d1d9ab27280adcf451978d02b269efc13afae16e", func := "fourfold/fourfoldlaw08.BrandtTheta", spec := "brandtTheta", unfollowed := true, recurses := true, apart := false, narrowed := true }
def BrandtThetaUptoSaid : Prop := brandtThetaUptoRow.holds Tryz.pinned (OpenSpec.upto brandtThetaSpec)

/-- 'fourfoldlaw08.BrandtClassNumbers', WHERE WHAT IT READS IS OF BULK AT MOST 1048576: true; the input reads as it did. -/
def brandtClassNumbersUptoRow : OpenClaim := { program := "ytdjpeimecfhdjaagreat", sum := "ea2b399c1320bcdd3ed96d76d1d9ab27280adcf451978d02b269efc13afae16e", func := "fourfold/fourfoldlaw08.BrandtClassNumbers", spec := "brandtClassNumbers", unfollowed := true, recurses := true, apart := false, narrowed := true }
def BrandtClassNumbersUptoSaid : Prop := brandtClassNumbersUptoRow.holds Tryz.pinned (OpenSpec.upto brandtClassNumbersSpec)

/-- 'fourfoldlaw08.BrandtSums', WHERE WHAT IT READS IS OF BULK AT MOST 1048576: true; the input reads as it did. -/
def brandtSumsUptoRow : OpenClaim := { program := "ytdjpeimecfhdjaagreat", sum := "ea2b399c1320bcdd3ed96d76d1d9ab27280adcf451978d02b269efc13afae16e", func := "fourfold/fourfoldlaw08.BrandtSums", spec := "brandtSums", unfollowed := true, recurses := true, apart := false, narrowed := true }
def BrandtSumsUptoSaid : Prop := brandtSumsUptoRow.holds Tryz.pinned (OpenSpec.upto brandtSumsSpec)

/-- 'fourfoldlaw08.BrandtKernels', WHERE WHAT IT READS IS OF BULK AT MOST 1048576: true; the input reads as it did. -/
def brandtKernelsUptoRow : OpenClaim := { program := "ytdjpeimecfhdjaagreat", sum := "ea2b399c1320bcdd3ed96d76d1d9ab27280adcf451978d02b269efc13afae16e", func := "fourfold/fourfoldlaw08.BrandtKernels", spec := "brandtKernels", unfollowed := true, recurses := true, apart := false, narrowed := true }
def BrandtKernelsUptoSaid : Prop := brandtKernelsUptoRow.holds Tryz.pinned (OpenSpec.upto brandtKernelsSpec)

/-- 'fourfoldlaw08.BrandtProducts', WHERE WHAT IT READS IS OF BULK AT MOST 1048576: true; the input reads as it did. -/
def brandtProductsUptoRow : OpenClaim := { program := "ytdjpeimecfhdjaagreat", sum := "ea2b399c1320bcdd3ed96d76d1d9ab27280adcf451978d02b269efc13afae16e", func := "fourfold/fourfoldlaw08.BrandtProducts", spec := "brandtProducts", unfollowed := true, recurses := true, apart := false, narrowed := true }
def BrandtProductsUptoSaid : Prop := brandtProductsUptoRow.holds Tryz.pinned (OpenSpec.upto brandtProductsSpec)

/-- 'fourfoldlaw05.IdealElements', WHERE WHAT IT READS IS OF BULK AT MOST 1048576: true; the input reads as it did. -/
def idealElementsUptoRow : OpenClaim := { program := "ytdjpeimecfhdjaagreat", sum := "ea2b399c1320bcdd3ed96d76d1d9ab27280adcf451978d02b269efc13afae16e", func := "fourfold/fourfoldlaw05.IdealElements", spec := "idealElements", unfollowed := true, recurses := true, apart := false, narrowed := true }
def IdealElementsUptoSaid : Prop := idealElementsUptoRow.holds Tryz.pinned (OpenSpec.upto idealElementsSpec)

/-- 'fourfoldlaw05.IdealMass', WHERE WHAT IT READS IS OF BULK AT MOST 1048576: true; the input reads as it did. -/
def idealMassUptoRow : OpenClaim := { program := "ytdjpeimecfhdjaagreat", sum := "ea2b399c1320bcdd3ed96d76d1d9ab27280adcf451978d02b269efc13afae16e", func := "fourfold/fourfoldlaw05.IdealMass", spec := "idealMass", unfollowed := true, recurses := true, apart := false, narrowed := true }
def IdealMassUptoSaid : Prop := idealMassUptoRow.holds Tryz.pinned (OpenSpec.upto idealMassSpec)

end Rows
end Go.Proofs.YtdjpeimecfhdjaaGreat
