/- (pruned) -/
import Derived.ProofKit
import Derived.Lib.SmallJoins
import Derived.Deep.SlicePairs
import Derived.OpenShut
import Derived.Test.YtdjpeimecfhdjaaGreatUi
import Derived.Test.YtdjpeimecfhdjaaGreatRows
import Derived.LaidMore
namespace Go.Proofs.YtdjpeimecfhdjaaGreat
open Go.ChangeShapes Go.WideShapes Go.ChangeAt Go.WideMaps Go.WideElems Go.RowKit
theorem own_knob : ownKnob Tryz.prog.godebug = none := by kernel_rfl
theorem laid_out : laidOutB Tryz.prog = true := by kernel_rfl
set_option maxRecDepth 100000 in
theorem lawN_lifted (os : Os) (started : os.Started) (H : Type) (enc : TypeId × Value → H) :
  ReturnsInHanded {} Tryz.checked os 4 .any (Rows.brandtClassNumbersSpec.pre6 enc Tryz.prog Tryz.f4 Rows.brandtClassNumbersRow.domain false) (Rows.brandtClassNumbersSpec.post enc Tryz.prog Tryz.f4 false true false false) := by
 refine returnsInHanded_of_change (C := Tryz.checked) own_knob started (by kernel_rfl) Tryz.func4
  (ChangeSpec.witness6 (enc := enc) (C := Tryz.checked) false ⟨#[], #[.int .i64 0, .int .i64 0, .int .i64 0], []⟩ 8 (by kernel_rfl) (by kernel_rfl) (by kernel_rfl) (by kernel_rfl)) ?_
 intro W base args ds gs before hval0 hW _ _
 have hval : ∀ (j : Nat) t v, Tryz.f4.params[j]? = some t → args[j]? = some v → Value.okWide Tryz.prog W .any base t v := hval0
 have hW' := hW
 obtain ⟨p, q, hA0, hV, rfl, hfz, hnd⟩ := hW
 have hA : DataW.TrodAll enc Tryz.prog W 0 (fun _ => true) true Tryz.f4.params.toList args.toList ds p := hA0
 rw [Tryz.params4] at hA hval
 obtain ⟨v0, v1, v2, d0, d1, d2, p0, p1, p2, rfl, rfl, rfl, h0, h1, h2⟩ := trodAll_three hA
 obtain ⟨rfl, rfl⟩ := trodVars_none hV
 obtain ⟨x0, hx0, _, _, wx0⟩ := open_int Tryz.underlying3 (hval 0 3 v0 rfl rfl) h0
 subst hx0
 obtain ⟨x1, hx1, _, _, wx1⟩ := open_int Tryz.underlying3 (hval 1 3 v1 rfl rfl) h1
 subst hx1
 obtain ⟨x2, hx2, _, _, wx2⟩ := open_int Tryz.underlying3 (hval 2 3 v2 rfl rfl) h2
 subst hx2
 clear hA0 hval0
 refine (BrandtClassNumbers_true x0 x1 x2).mono fun e W' ⟨he, hB⟩ => ?_
 subst he
 have hlt : ∀ z ∈ p0 ++ (p1 ++ p2), z.block < W.heap.size := fun z hz => hW'.lt z (by simpa using hz)
 have hargs : DataW.TrodAll enc Tryz.prog W' 0 (fun b => decide (b < W.heap.size)) true [3, 3, 3] [.int .i64 x0, .int .i64 x1, .int .i64 x2] [d0, d1, d2] (p0 ++ (p1 ++ p2)) :=
  trodAll_mk3 (Below.trod laid_out (by kernel_rfl) (of_decide_eq_true (by kernel_rfl)) h0 hB (fun z hz => hlt z (by simp [hz]))) (Below.trod laid_out (by kernel_rfl) (of_decide_eq_true (by kernel_rfl)) h1 hB (fun z hz => hlt z (by simp [hz]))) (Below.trod laid_out (by kernel_rfl) (of_decide_eq_true (by kernel_rfl)) h2 hB (fun z hz => hlt z (by simp [hz])))
 exact ⟨_, rfl, _, _, _, [], p0 ++ (p1 ++ p2), [], hW', trodAll_mk1 (shut_bool Tryz.underlying4 _), hargs, rfl, hB.frame _, fun h => by cases h⟩
theorem brandtClassNumbers_said : Rows.BrandtClassNumbersSaid :=
 OpenClaim.holds_of_wide 4 Tryz.f4 rfl rfl rfl rfl rfl rfl rfl ⟨rfl, rfl, rfl, rfl, rfl⟩ rfl rfl rfl rfl rfl (by kernel_rfl) Tryz.func4 (by kernel_rfl)
  (of_decide_eq_true (by kernel_rfl)) (by unfold Func.isWrapper; first | (rw [if_pos (by decide +kernel)]; kernel_rfl) | (rw [if_neg (by decide +kernel)]; exact ⟨rfl, rfl⟩))
  (fun os started H enc _ => lawN_lifted os started H enc)
#print axioms brandtClassNumbers_said
end Go.Proofs.YtdjpeimecfhdjaaGreat
