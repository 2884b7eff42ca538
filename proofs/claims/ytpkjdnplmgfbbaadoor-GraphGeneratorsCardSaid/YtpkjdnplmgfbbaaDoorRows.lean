/-
  NARROWER THAN 'FOR EVERY INPUT', by the rows' own cells (each row's printed sentence says how): GraphDistances: laid · GraphWalks: laid · GraphPaths: laid · GraphChecks: laid · GraphComponents: laid · GraphDistant: laid · GraphReturns: laid · GraphGenerators: laid · GraphCycles: laid.
  DERIVED. THE GIVEN ROWS OF THIS SEAT. 9 by the template 'for every input the law returns true; each argument reads behind the call as it read before'; 0 by the template 'total and deterministic' (their statements: YtpkjdnplmgfbbaaDoorTotals.lean).
  GIVEN WITH THE SEED: the statements are not yours to turn. If you find one false, say at which input.
  Laid BY PROGRAM, IN A SANDBOX (cutbox-rows.mjs): the forced cells as the released guide's own fill.sh prints them over the translation 9fa98ffa0a2725ab… (all of the seat's roots in one cut). By AI agents, Wed Nov 11 2026. No macro, syntax, notation, axiom, sorry.
-/
import Derived.Test.YtpkjdnplmgfbbaaDoorChecked
import GoSem.Claim
import GoSem.ClaimJoined
import GoSem.ClaimMapViews
import Derived.JoinedTies
import Derived.KernelRfl
namespace Go.Proofs.YtpkjdnplmgfbbaaDoor
/- THE CELL 'sum', in the pinned program and in every row, IS THE sha256 OF THE DUMP (.gsa) THAT YtpkjdnplmgfbbaaDoorProg.lean LOADS. Nothing in Lean hashes anything: it is a label: what it is worth is what the hold of that sum in a sandbox is worth. -/
noncomputable def Tryd.pinned : Pinned := { name := "ytpkjdnplmgfbbaadoor", sum := "9fa98ffa0a2725ab5f16bae8dda1d13cc117c5ab4a8d4bf67f9665d7beca5a35", checked := Tryd.checked }
namespace Rows
def none {H : Type} : Left H := { results := [], args := [] }

/- WHAT THE LISTED PACKAGE-LEVEL VARIABLES READ AS WHEN THE CALL BEGINS. Each datum BY PROGRAM (the guide's laid-datum.mjs) off the statement by which the dump's own 'gosem.cut.vars' lays the variable. In a bare row this is a premise. The card (YtpkjdnplmgfbbaaDoorCards.lean) ties it to the program's text. -/
def laid_math_bits_deBruijn32tab {H : Type} : DataW H := .agg [.lit (.int .u8 0), .lit (.int .u8 1), .lit (.int .u8 28), .lit (.int .u8 2), .lit (.int .u8 29), .lit (.int .u8 14), .lit (.int .u8 24), .lit (.int .u8 3), .lit (.int .u8 30), .lit (.int .u8 22), .lit (.int .u8 20), .lit (.int .u8 15), .lit (.int .u8 25), .lit (.int .u8 17), .lit (.int .u8 4), .lit (.int .u8 8), .lit (.int .u8 31), .lit (.int .u8 27), .lit (.int .u8 13), .lit (.int .u8 23), .lit (.int .u8 21), .lit (.int .u8 19), .lit (.int .u8 16), .lit (.int .u8 7), .lit (.int .u8 26), .lit (.int .u8 12), .lit (.int .u8 18), .lit (.int .u8 6), .lit (.int .u8 11), .lit (.int .u8 5), .lit (.int .u8 10), .lit (.int .u8 9)]
def laid_math_bits_deBruijn64tab {H : Type} : DataW H := .agg [.lit (.int .u8 0), .lit (.int .u8 1), .lit (.int .u8 56), .lit (.int .u8 2), .lit (.int .u8 57), .lit (.int .u8 49), .lit (.int .u8 28), .lit (.int .u8 3), .lit (.int .u8 61), .lit (.int .u8 58), .lit (.int .u8 42), .lit (.int .u8 50), .lit (.int .u8 38), .lit (.int .u8 29), .lit (.int .u8 17), .lit (.int .u8 4), .lit (.int .u8 62), .lit (.int .u8 47), .lit (.int .u8 59), .lit (.int .u8 36), .lit (.int .u8 45), .lit (.int .u8 43), .lit (.int .u8 51), .lit (.int .u8 22), .lit (.int .u8 53), .lit (.int .u8 39), .lit (.int .u8 33), .lit (.int .u8 30), .lit (.int .u8 24), .lit (.int .u8 18), .lit (.int .u8 12), .lit (.int .u8 5), .lit (.int .u8 63), .lit (.int .u8 55), .lit (.int .u8 48), .lit (.int .u8 27), .lit (.int .u8 60), .lit (.int .u8 41), .lit (.int .u8 37), .lit (.int .u8 16), .lit (.int .u8 46), .lit (.int .u8 35), .lit (.int .u8 44), .lit (.int .u8 21), .lit (.int .u8 52), .lit (.int .u8 32), .lit (.int .u8 23), .lit (.int .u8 11), .lit (.int .u8 54), .lit (.int .u8 26), .lit (.int .u8 40), .lit (.int .u8 15), .lit (.int .u8 34), .lit (.int .u8 20), .lit (.int .u8 31), .lit (.int .u8 10), .lit (.int .u8 25), .lit (.int .u8 14), .lit (.int .u8 19), .lit (.int .u8 9), .lit (.int .u8 13), .lit (.int .u8 8), .lit (.int .u8 7), .lit (.int .u8 6)]
def laid_internal_strconv_uint64pow10 {H : Type} : DataW H := .agg [.lit (.int .u64 1), .lit (.int .u64 10), .lit (.int .u64 100), .lit (.int .u64 1000), .lit (.int .u64 10000), .lit (.int .u64 100000), .lit (.int .u64 1000000), .lit (.int .u64 10000000), .lit (.int .u64 100000000), .lit (.int .u64 1000000000), .lit (.int .u64 10000000000), .lit (.int .u64 100000000000), .lit (.int .u64 1000000000000), .lit (.int .u64 10000000000000), .lit (.int .u64 100000000000000), .lit (.int .u64 1000000000000000), .lit (.int .u64 10000000000000000), .lit (.int .u64 100000000000000000), .lit (.int .u64 1000000000000000000), .lit (.int .u64 10000000000000000000)]

/-- 'fourfoldlaw09.GraphDistances': WHATEVER THE INPUT: true; the input reads as it did. -/
def graphDistancesSpec : ChangeSpec := { name := "graphDistances", fn := fun _ => fun
  | [d1, d2] => { results := [.lit (.bool true)], args := [d1, d2] }
  | _ => none }
def graphDistancesRow : OpenClaim := { program := "ytpkjdnplmgfbbaadoor", sum := "9fa98ffa0a2725ab5f16bae8dda1d13cc117c5ab4a8d4bf67f9665d7beca5a35", func := "fourfold/fourfoldlaw09.GraphDistances", spec := "graphDistances", inPlace := ["internal/bytealg.IndexByteString", "internal/bytealg.IndexString", "internal/abi.NoEscape"], unfollowed := true, recurses := true, named := ["internal/strconv.uint64pow10", "math/bits.deBruijn32tab", "math/bits.deBruijn64tab", "internal/bytealg.MaxLen"], plainKeys := false, apart := false, laid := [("math/bits.deBruijn32tab", laid_math_bits_deBruijn32tab), ("math/bits.deBruijn64tab", laid_math_bits_deBruijn64tab), ("internal/strconv.uint64pow10", laid_internal_strconv_uint64pow10)] }
def GraphDistancesSaid : Prop := graphDistancesRow.holds Tryd.pinned (OpenSpec.ofChange graphDistancesSpec)

/-- ITS FALSE NEIGHBOUR: 'it returns false'. Refute it at one input. -/
def graphDistancesWrong : ChangeSpec := { name := "graphDistances", fn := fun _ => fun
  | [d1, d2] => { results := [.lit (.bool false)], args := [d1, d2] }
  | _ => none }
def GraphDistancesWrongFalsely : Prop := graphDistancesRow.holds Tryd.pinned (OpenSpec.ofChange graphDistancesWrong)

/-- 'fourfoldlaw09.GraphWalks': WHATEVER THE INPUT: true; the input reads as it did. -/
def graphWalksSpec : ChangeSpec := { name := "graphWalks", fn := fun _ => fun
  | [d1, d2, d3] => { results := [.lit (.bool true)], args := [d1, d2, d3] }
  | _ => none }
def graphWalksRow : OpenClaim := { program := "ytpkjdnplmgfbbaadoor", sum := "9fa98ffa0a2725ab5f16bae8dda1d13cc117c5ab4a8d4bf67f9665d7beca5a35", func := "fourfold/fourfoldlaw09.GraphWalks", spec := "graphWalks", inPlace := ["internal/bytealg.IndexByteString", "internal/bytealg.IndexString", "internal/abi.NoEscape"], unfollowed := true, recurses := true, named := ["internal/strconv.uint64pow10", "math/bits.deBruijn32tab", "math/bits.deBruijn64tab", "internal/bytealg.MaxLen"], plainKeys := false, apart := false, laid := [("math/bits.deBruijn32tab", laid_math_bits_deBruijn32tab), ("math/bits.deBruijn64tab", laid_math_bits_deBruijn64tab), ("internal/strconv.uint64pow10", laid_internal_strconv_uint64pow10)] }
def GraphWalksSaid : Prop := graphWalksRow.holds Tryd.pinned (OpenSpec.ofChange graphWalksSpec)

/-- ITS FALSE NEIGHBOUR: 'it returns false'. Refute it at one input. -/
def graphWalksWrong : ChangeSpec := { name := "graphWalks", fn := fun _ => fun
  | [d1, d2, d3] => { results := [.lit (.bool false)], args := [d1, d2, d3] }
  | _ => none }
def GraphWalksWrongFalsely : Prop := graphWalksRow.holds Tryd.pinned (OpenSpec.ofChange graphWalksWrong)

/-- 'fourfoldlaw09.GraphPaths': WHATEVER THE INPUT: true; the input reads as it did. -/
def graphPathsSpec : ChangeSpec := { name := "graphPaths", fn := fun _ => fun
  | [d1, d2, d3] => { results := [.lit (.bool true)], args := [d1, d2, d3] }
  | _ => none }
def graphPathsRow : OpenClaim := { program := "ytpkjdnplmgfbbaadoor", sum := "9fa98ffa0a2725ab5f16bae8dda1d13cc117c5ab4a8d4bf67f9665d7beca5a35", func := "fourfold/fourfoldlaw09.GraphPaths", spec := "graphPaths", inPlace := ["internal/bytealg.IndexByteString", "internal/bytealg.IndexString", "internal/abi.NoEscape"], unfollowed := true, recurses := true, named := ["internal/strconv.uint64pow10", "math/bits.deBruijn32tab", "math/bits.deBruijn64tab", "internal/bytealg.MaxLen"], plainKeys := false, apart := false, laid := [("math/bits.deBruijn32tab", laid_math_bits_deBruijn32tab), ("math/bits.deBruijn64tab", laid_math_bits_deBruijn64tab), ("internal/strconv.uint64pow10", laid_internal_strconv_uint64pow10)] }
def GraphPathsSaid : Prop := graphPathsRow.holds Tryd.pinned (OpenSpec.ofChange graphPathsSpec)

/-- ITS FALSE NEIGHBOUR: 'it returns false'. Refute it at one input. -/
def graphPathsWrong : ChangeSpec := { name := "graphPaths", fn := fun _ => fun
  | [d1, d2, d3] => { results := [.lit (.bool false)], args := [d1, d2, d3] }
  | _ => none }
def GraphPathsWrongFalsely : Prop := graphPathsRow.holds Tryd.pinned (OpenSpec.ofChange graphPathsWrong)

/-- 'fourfoldlaw09.GraphChecks': WHATEVER THE INPUT: true; the input reads as it did. -/
def graphChecksSpec : ChangeSpec := { name := "graphChecks", fn := fun _ => fun
  | [d] => { results := [.lit (.bool true)], args := [d] }
  | _ => none }
def graphChecksRow : OpenClaim := { program := "ytpkjdnplmgfbbaadoor", sum := "9fa98ffa0a2725ab5f16bae8dda1d13cc117c5ab4a8d4bf67f9665d7beca5a35", func := "fourfold/fourfoldlaw09.GraphChecks", spec := "graphChecks", inPlace := ["internal/bytealg.IndexByteString", "internal/bytealg.IndexString", "internal/abi.NoEscape"], unfollowed := true, recurses := true, named := ["internal/strconv.uint64pow10", "math/bits.deBruijn32tab", "math/bits.deBruijn64tab", "internal/bytealg.MaxLen"], plainKeys := false, apart := false, laid := [("math/bits.deBruijn32tab", laid_math_bits_deBruijn32tab), ("math/bits.deBruijn64tab", laid_math_bits_deBruijn64tab), ("internal/strconv.uint64pow10", laid_internal_strconv_uint64pow10)] }
def GraphChecksSaid : Prop := graphChecksRow.holds Tryd.pinned (OpenSpec.ofChange graphChecksSpec)

/-- ITS FALSE NEIGHBOUR: 'it returns false'. Refute it at one input. -/
def graphChecksWrong : ChangeSpec := { name := "graphChecks", fn := fun _ => fun
  | [d] => { results := [.lit (.bool false)], args := [d] }
  | _ => none }
def GraphChecksWrongFalsely : Prop := graphChecksRow.holds Tryd.pinned (OpenSpec.ofChange graphChecksWrong)

/-- 'fourfoldlaw09.GraphComponents': WHATEVER THE INPUT: true; the input reads as it did. -/
def graphComponentsSpec : ChangeSpec := { name := "graphComponents", fn := fun _ => fun
  | [d] => { results := [.lit (.bool true)], args := [d] }
  | _ => none }
def graphComponentsRow : OpenClaim := { program := "ytpkjdnplmgfbbaadoor", sum := "9fa98ffa0a2725ab5f16bae8dda1d13cc117c5ab4a8d4bf67f9665d7beca5a35", func := "fourfold/fourfoldlaw09.GraphComponents", spec := "graphComponents", inPlace := ["internal/bytealg.IndexByteString", "internal/bytealg.IndexString", "internal/abi.NoEscape"], unfollowed := true, recurses := true, named := ["internal/strconv.uint64pow10", "math/bits.deBruijn32tab", "math/bits.deBruijn64tab", "internal/bytealg.MaxLen"], plainKeys := false, apart := false, laid := [("math/bits.deBruijn32tab", laid_math_bits_deBruijn32tab), ("math/bits.deBruijn64tab", laid_math_bits_deBruijn64tab), ("internal/strconv.uint64pow10", laid_internal_strconv_uint64pow10)] }
def GraphComponentsSaid : Prop := graphComponentsRow.holds Tryd.pinned (OpenSpec.ofChange graphComponentsSpec)

/-- ITS FALSE NEIGHBOUR: 'it returns false'. Refute it at one input. -/
def graphComponentsWrong : ChangeSpec := { name := "graphComponents", fn := fun _ => fun
  | [d] => { results := [.lit (.bool false)], args := [d] }
  | _ => none }
def GraphComponentsWrongFalsely : Prop := graphComponentsRow.holds Tryd.pinned (OpenSpec.ofChange graphComponentsWrong)

/-- 'fourfoldlaw09.GraphDistant': WHATEVER THE INPUT: true; the input reads as it did. -/
def graphDistantSpec : ChangeSpec := { name := "graphDistant", fn := fun _ => fun
  | [d] => { results := [.lit (.bool true)], args := [d] }
  | _ => none }
def graphDistantRow : OpenClaim := { program := "ytpkjdnplmgfbbaadoor", sum := "9fa98ffa0a2725ab5f16bae8dda1d13cc117c5ab4a8d4bf67f9665d7beca5a35", func := "fourfold/fourfoldlaw09.GraphDistant", spec := "graphDistant", inPlace := ["internal/bytealg.IndexByteString", "internal/bytealg.IndexString", "internal/abi.NoEscape"], unfollowed := true, recurses := true, named := ["internal/strconv.uint64pow10", "math/bits.deBruijn32tab", "math/bits.deBruijn64tab", "internal/bytealg.MaxLen"], plainKeys := false, apart := false, laid := [("math/bits.deBruijn32tab", laid_math_bits_deBruijn32tab), ("math/bits.deBruijn64tab", laid_math_bits_deBruijn64tab), ("internal/strconv.uint64pow10", laid_internal_strconv_uint64pow10)] }
def GraphDistantSaid : Prop := graphDistantRow.holds Tryd.pinned (OpenSpec.ofChange graphDistantSpec)

/-- ITS FALSE NEIGHBOUR: 'it returns false'. Refute it at one input. -/
def graphDistantWrong : ChangeSpec := { name := "graphDistant", fn := fun _ => fun
  | [d] => { results := [.lit (.bool false)], args := [d] }
  | _ => none }
def GraphDistantWrongFalsely : Prop := graphDistantRow.holds Tryd.pinned (OpenSpec.ofChange graphDistantWrong)

/-- 'fourfoldlaw09.GraphReturns': WHATEVER THE INPUT: true; the input reads as it did. -/
def graphReturnsSpec : ChangeSpec := { name := "graphReturns", fn := fun _ => fun
  | [d1, d2] => { results := [.lit (.bool true)], args := [d1, d2] }
  | _ => none }
def graphReturnsRow : OpenClaim := { program := "ytpkjdnplmgfbbaadoor", sum := "9fa98ffa0a2725ab5f16bae8dda1d13cc117c5ab4a8d4bf67f9665d7beca5a35", func := "fourfold/fourfoldlaw09.GraphReturns", spec := "graphReturns", inPlace := ["internal/bytealg.IndexByteString", "internal/bytealg.IndexString", "internal/abi.NoEscape"], unfollowed := true, recurses := true, named := ["internal/strconv.uint64pow10", "math/bits.deBruijn32tab", "math/bits.deBruijn64tab", "internal/bytealg.MaxLen"], plainKeys := false, apart := false, laid := [("math/bits.deBruijn32tab", laid_math_bits_deBruijn32tab), ("math/bits.deBruijn64tab", laid_math_bits_deBruijn64tab), ("internal/strconv.uint64pow10", laid_internal_strconv_uint64pow10)] }
def GraphReturnsSaid : Prop := graphReturnsRow.holds Tryd.pinned (OpenSpec.ofChange graphReturnsSpec)

/-- ITS FALSE NEIGHBOUR: 'it returns false'. Refute it at one input. -/
def graphReturnsWrong : ChangeSpec := { name := "graphReturns", fn := fun _ => fun
  | [d1, d2] => { results := [.lit (.bool false)], args := [d1, d2] }
  | _ => none }
def GraphReturnsWrongFalsely : Prop := graphReturnsRow.holds Tryd.pinned (OpenSpec.ofChange graphReturnsWrong)

/-- 'fourfoldlaw09.GraphGenerators': WHATEVER THE INPUT: true; the input reads as it did. -/
def graphGeneratorsSpec : ChangeSpec := { name := "graphGenerators", fn := fun _ => fun
  | [d] => { results := [.lit (.bool true)], args := [d] }
  | _ => none }
def graphGeneratorsRow : OpenClaim := { program := "ytpkjdnplmgfbbaadoor", sum := "9fa98ffa0a2725ab5f16bae8dda1d13cc117c5ab4a8d4bf67f9665d7beca5a35", func := "fourfold/fourfoldlaw09.GraphGenerators", spec := "graphGenerators", inPlace := ["internal/bytealg.IndexByteString", "internal/bytealg.IndexString", "internal/abi.NoEscape"], unfollowed := true, recurses := true, named := ["internal/strconv.uint64pow10", "math/bits.deBruijn32tab", "math/bits.deBruijn64tab", "internal/bytealg.MaxLen"], plainKeys := false, apart := false, laid := [("math/bits.deBruijn32tab", laid_math_bits_deBruijn32tab), ("math/bits.deBruijn64tab", laid_math_bits_deBruijn64tab), ("internal/strconv.uint64pow10", laid_internal_strconv_uint64pow10)] }
def GraphGeneratorsSaid : Prop := graphGeneratorsRow.holds Tryd.pinned (OpenSpec.ofChange graphGeneratorsSpec)

/-- ITS FALSE NEIGHBOUR: 'it returns false'. Refute it at one input. -/
def graphGeneratorsWrong : ChangeSpec := { name := "graphGenerators", fn := fun _ => fun
  | [d] => { results := [.lit (.bool false)], args := [d] }
  | _ => none }
def GraphGeneratorsWrongFalsely : Prop := graphGeneratorsRow.holds Tryd.pinned (OpenSpec.ofChange graphGeneratorsWrong)

/-- 'fourfoldlaw09.GraphCycles': WHATEVER THE INPUT: true; the input reads as it did. -/
def graphCyclesSpec : ChangeSpec := { name := "graphCycles", fn := fun _ => fun
  | [d1, d2] => { results := [.lit (.bool true)], args := [d1, d2] }
  | _ => none }
def graphCyclesRow : OpenClaim := { program := "ytpkjdnplmgfbbaadoor", sum := "9fa98ffa0a2725ab5f16bae8dda1d13cc117c5ab4a8d4bf67f9665d7beca5a35", func := "fourfold/fourfoldlaw09.GraphCycles", spec := "graphCycles", inPlace := ["internal/bytealg.IndexByteString", "internal/bytealg.IndexString", "internal/abi.NoEscape"], unfollowed := true, recurses := true, named := ["internal/strconv.uint64pow10", "math/bits.deBruijn32tab", "math/bits.deBruijn64tab", "internal/bytealg.MaxLen"], plainKeys := false, apart := false, laid := [("math/bits.deBruijn32tab", laid_math_bits_deBruijn32tab), ("math/bits.deBruijn64tab", laid_math_bits_deBruijn64tab), ("internal/strconv.uint64pow10", laid_internal_strconv_uint64pow10)] }
def GraphCyclesSaid : Prop := graphCyclesRow.holds Tryd.pinned (OpenSpec.ofChange graphCyclesSpec)

/-- ITS FALSE NEIGHBOUR: 'it returns false'. Refute it at one input. -/
def graphCyclesWrong : ChangeSpec := { name := "graphCycles", fn := fun _ => fun
  | [d1, d2] => { results := [.lit (.bool false)], args := [d1, d2] }
  | _ => none }
def GraphCyclesWrongFalsely : Prop := graphCyclesRow.holds Tryd.pinned (OpenSpec.ofChange graphCyclesWrong)

/- THE SECOND FORM. 'bulk': how many values and letters a reading holds, each counted each time it is reached (what is shared counts as often as it is met; a slice's spare places count too). A statement '..UptoSaid' is the law's where the arguments, and the package variables that the reading takes, are together of bulk at most 1048576: NARROWER than '..Said'. Prove '..Said' where nothing that the law and all that it calls make is longer than what came in: it says more and counts as full. Else prove '..UptoSaid'. A law counts once. -/
mutual
def uptoBulk {H : Type} : DataW H → Nat
  | .lit (.string bytes) => bytes.length + 1
  | .lit _ => 1
  | .nil => 1
  | .ptr d => uptoBulk d + 1
  | .slice elems spare => uptoBulkAll elems + uptoBulkAll spare + 1
  | .agg parts => uptoBulkAll parts + 1
  | .iface _ d => uptoBulk d + 1
  | .map entries => uptoBulkEntries entries + 1
  | .held _ => 1
def uptoBulkAll {H : Type} : List (DataW H) → Nat
  | [] => 0
  | d :: r => uptoBulk d + uptoBulkAll r
def uptoBulkEntries {H : Type} : List (Lit × DataW H) → Nat
  | [] => 0
  | x :: r => uptoBulkEntry x + uptoBulkEntries r
def uptoBulkEntry {H : Type} : Lit × DataW H → Nat
  | (.string bytes, d) => bytes.length + uptoBulk d + 1
  | (_, d) => uptoBulk d + 1
 end
def uptoSmall : (H : Type) → List (DataW H) → Bool := fun _ ds => decide (uptoBulkAll ds ≤ 1048576)
def OpenSpec.upto (s : _root_.Go.ChangeSpec) : _root_.Go.OpenSpec := { _root_.Go.OpenSpec.ofChange s with cond := some uptoSmall }

/-- 'fourfoldlaw09.GraphDistances', WHERE WHAT IT READS IS OF BULK AT MOST 1048576: true; the input reads as it did. -/
def graphDistancesUptoRow : OpenClaim := { program := "ytpkjdnplmgfbbaadoor", sum := "9fa98ffa0a2725ab5f16bae8dda1d13cc117c5ab4a8d4bf67f9665d7beca5a35", func := "fourfold/fourfoldlaw09.GraphDistances", spec := "graphDistances", inPlace := ["internal/bytealg.IndexByteString", "internal/bytealg.IndexString", "internal/abi.NoEscape"], unfollowed := true, recurses := true, named := ["internal/strconv.uint64pow10", "math/bits.deBruijn32tab", "math/bits.deBruijn64tab", "internal/bytealg.MaxLen"], plainKeys := false, apart := false, laid := [("math/bits.deBruijn32tab", laid_math_bits_deBruijn32tab), ("math/bits.deBruijn64tab", laid_math_bits_deBruijn64tab), ("internal/strconv.uint64pow10", laid_internal_strconv_uint64pow10)], narrowed := true }
def GraphDistancesUptoSaid : Prop := graphDistancesUptoRow.holds Tryd.pinned (OpenSpec.upto graphDistancesSpec)

/-- 'fourfoldlaw09.GraphWalks', WHERE WHAT IT READS IS OF BULK AT MOST 1048576: true; the input reads as it did. -/
def graphWalksUptoRow : OpenClaim := { program := "ytpkjdnplmgfbbaadoor", sum := "9fa98ffa0a2725ab5f16bae8dda1d13cc117c5ab4a8d4bf67f9665d7beca5a35", func := "fourfold/fourfoldlaw09.GraphWalks", spec := "graphWalks", inPlace := ["internal/bytealg.IndexByteString", "internal/bytealg.IndexString", "internal/abi.NoEscape"], unfollowed := true, recurses := true, named := ["internal/strconv.uint64pow10", "math/bits.deBruijn32tab", "math/bits.deBruijn64tab", "internal/bytealg.MaxLen"], plainKeys := false, apart := false, laid := [("math/bits.deBruijn32tab", laid_math_bits_deBruijn32tab), ("math/bits.deBruijn64tab", laid_math_bits_deBruijn64tab), ("internal/strconv.uint64pow10", laid_internal_strconv_uint64pow10)], narrowed := true }
def GraphWalksUptoSaid : Prop := graphWalksUptoRow.holds Tryd.pinned (OpenSpec.upto graphWalksSpec)

/-- 'fourfoldlaw09.GraphPaths', WHERE WHAT IT READS IS OF BULK AT MOST 1048576: true; the input reads as it did. -/
def graphPathsUptoRow : OpenClaim := { program := "ytpkjdnplmgfbbaadoor", sum := "9fa98ffa0a2725ab5f16bae8dda1d13cc117c5ab4a8d4bf67f9665d7beca5a35", func := "fourfold/fourfoldlaw09.GraphPaths", spec := "graphPaths", inPlace := ["internal/bytealg.IndexByteString", "internal/bytealg.IndexString", "internal/abi.NoEscape"], unfollowed := true, recurses := true, named := ["internal/strconv.uint64pow10", "math/bits.deBruijn32tab", "math/bits.deBruijn64tab", "internal/bytealg.MaxLen"], plainKeys := false, apart := false, laid := [("math/bits.deBruijn32tab", laid_math_bits_deBruijn32tab), ("math/bits.deBruijn64tab", laid_math_bits_deBruijn64tab), ("internal/strconv.uint64pow10", laid_internal_strconv_uint64pow10)], narrowed := true }
def GraphPathsUptoSaid : Prop := graphPathsUptoRow.holds Tryd.pinned (OpenSpec.upto graphPathsSpec)

/-- 'fourfoldlaw09.GraphChecks', WHERE WHAT IT READS IS OF BULK AT MOST 1048576: true; the input reads as it did. -/
def graphChecksUptoRow : OpenClaim := { program := "ytpkjdnplmgfbbaadoor", sum := "9fa98ffa0a2725ab5f16bae8dda1d13cc117c5ab4a8d4bf67f9665d7beca5a35", func := "fourfold/fourfoldlaw09.GraphChecks", spec := "graphChecks", inPlace := ["internal/bytealg.IndexByteString", "internal/bytealg.IndexString", "internal/abi.NoEscape"], unfollowed := true, recurses := true, named := ["internal/strconv.uint64pow10", "math/bits.deBruijn32tab", "math/bits.deBruijn64tab", "internal/bytealg.MaxLen"], plainKeys := false, apart := false, laid := [("math/bits.deBruijn32tab", laid_math_bits_deBruijn32tab), ("math/bits.deBruijn64tab", laid_math_bits_deBruijn64tab), ("internal/strconv.uint64pow10", laid_internal_strconv_uint64pow10)], narrowed := true }
def GraphChecksUptoSaid : Prop := graphChecksUptoRow.holds Tryd.pinned (OpenSpec.upto graphChecksSpec)

/-- 'fourfoldlaw09.GraphComponents', WHERE WHAT IT READS IS OF BULK AT MOST 1048576: true; the input reads as it did. -/
def graphComponentsUptoRow : OpenClaim := { program := "ytpkjdnplmgfbbaadoor", sum := "9fa98ffa0a2725ab5f16bae8dda1d13cc117c5ab4a8d4bf67f9665d7beca5a35", func := "fourfold/fourfoldlaw09.GraphComponents", spec := "graphComponents", inPlace := ["internal/bytealg.IndexByteString", "internal/bytealg.IndexString", "internal/abi.NoEscape"], unfollowed := true, recurses := true, named := ["internal/strconv.uint64pow10", "math/bits.deBruijn32tab", "math/bits.deBruijn64tab", "internal/bytealg.MaxLen"], plainKeys := false, apart := false, laid := [("math/bits.deBruijn32tab", laid_math_bits_deBruijn32tab), ("math/bits.deBruijn64tab", laid_math_bits_deBruijn64tab), ("internal/strconv.uint64pow10", laid_internal_strconv_uint64pow10)], narrowed := true }
def GraphComponentsUptoSaid : Prop := graphComponentsUptoRow.holds Tryd.pinned (OpenSpec.upto graphComponentsSpec)

/-- 'fourfoldlaw09.GraphDistant', WHERE WHAT IT READS IS OF BULK AT MOST 1048576: true; the input reads as it did. -/
def graphDistantUptoRow : OpenClaim := { program := "ytpkjdnplmgfbbaadoor", sum := "9fa98ffa0a2725ab5f16bae8dda1d13cc117c5ab4a8d4bf67f9665d7beca5a35", func := "fourfold/fourfoldlaw09.GraphDistant", spec := "graphDistant", inPlace := ["internal/bytealg.IndexByteString", "internal/bytealg.IndexString", "internal/abi.NoEscape"], unfollowed := true, recurses := true, named := ["internal/strconv.uint64pow10", "math/bits.deBruijn32tab", "math/bits.deBruijn64tab", "internal/bytealg.MaxLen"], plainKeys := false, apart := false, laid := [("math/bits.deBruijn32tab", laid_math_bits_deBruijn32tab), ("math/bits.deBruijn64tab", laid_math_bits_deBruijn64tab), ("internal/strconv.uint64pow10", laid_internal_strconv_uint64pow10)], narrowed := true }
def GraphDistantUptoSaid : Prop := graphDistantUptoRow.holds Tryd.pinned (OpenSpec.upto graphDistantSpec)

/-- 'fourfoldlaw09.GraphReturns', WHERE WHAT IT READS IS OF BULK AT MOST 1048576: true; the input reads as it did. -/
def graphReturnsUptoRow : OpenClaim := { program := "ytpkjdnplmgfbbaadoor", sum := "9fa98ffa0a2725ab5f16bae8dda1d13cc117c5ab4a8d4bf67f9665d7beca5a35", func := "fourfold/fourfoldlaw09.GraphReturns", spec := "graphReturns", inPlace := ["internal/bytealg.IndexByteString", "internal/bytealg.IndexString", "internal/abi.NoEscape"], unfollowed := true, recurses := true, named := ["internal/strconv.uint64pow10", "math/bits.deBruijn32tab", "math/bits.deBruijn64tab", "internal/bytealg.MaxLen"], plainKeys := false, apart := false, laid := [("math/bits.deBruijn32tab", laid_math_bits_deBruijn32tab), ("math/bits.deBruijn64tab", laid_math_bits_deBruijn64tab), ("internal/strconv.uint64pow10", laid_internal_strconv_uint64pow10)], narrowed := true }
def GraphReturnsUptoSaid : Prop := graphReturnsUptoRow.holds Tryd.pinned (OpenSpec.upto graphReturnsSpec)

/-- 'fourfoldlaw09.GraphGenerators', WHERE WHAT IT READS IS OF BULK AT MOST 1048576: true; the input reads as it did. -/
def graphGeneratorsUptoRow : OpenClaim := { program := "ytpkjdnplmgfbbaadoor", sum := "9fa98ffa0a2725ab5f16bae8dda1d13cc117c5ab4a8d4bf67f9665d7beca5a35", func := "fourfold/fourfoldlaw09.GraphGenerators", spec := "graphGenerators", inPlace := ["internal/bytealg.IndexByteString", "internal/bytealg.IndexString", "internal/abi.NoEscape"], unfollowed := true, recurses := true, named := ["internal/strconv.uint64pow10", "math/bits.deBruijn32tab", "math/bits.deBruijn64tab", "internal/bytealg.MaxLen"], plainKeys := false, apart := false, laid := [("math/bits.deBruijn32tab", laid_math_bits_deBruijn32tab), ("math/bits.deBruijn64tab", laid_math_bits_deBruijn64tab), ("internal/strconv.uint64pow10", laid_internal_strconv_uint64pow10)], narrowed := true }
def GraphGeneratorsUptoSaid : Prop := graphGeneratorsUptoRow.holds Tryd.pinned (OpenSpec.upto graphGeneratorsSpec)

/-- 'fourfoldlaw09.GraphCycles', WHERE WHAT IT READS IS OF BULK AT MOST 1048576: true; the input reads as it did. -/
def graphCyclesUptoRow : OpenClaim := { program := "ytpkjdnplmgfbbaadoor", sum := "9fa98ffa0a2725ab5f16bae8dda1d13cc117c5ab4a8d4bf67f9665d7beca5a35", func := "fourfold/fourfoldlaw09.GraphCycles", spec := "graphCycles", inPlace := ["internal/bytealg.IndexByteString", "internal/bytealg.IndexString", "internal/abi.NoEscape"], unfollowed := true, recurses := true, named := ["internal/strconv.uint64pow10", "math/bits.deBruijn32tab", "math/bits.deBruijn64tab", "internal/bytealg.MaxLen"], plainKeys := false, apart := false, laid := [("math/bits.deBruijn32tab", laid_math_bits_deBruijn32tab), ("math/bits.deBruijn64tab", laid_math_bits_deBruijn64tab), ("internal/strconv.uint64pow10", laid_internal_strconv_uint64pow10)], narrowed := true }
def GraphCyclesUptoSaid : Prop := graphCyclesUptoRow.holds Tryd.pinned (OpenSpec.upto graphCyclesSpec)

end Rows
end Go.Proofs.YtpkjdnplmgfbbaaDoor
