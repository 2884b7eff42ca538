/- GraphTexts returns true for every input, and leaves its arguments as they were: the tied card of the statement. No condition. -/
import Derived.Test.YtpkjdnplmgfbbaaGreatDoorTxv
import Derived.Test.YtpkjdnplmgfbbaaGreatDoorGop
import Derived.Test.YtpkjdnplmgfbbaaGreatDoorRows
import Derived.Test.YtpkjdnplmgfbbaaGreatDoorTie
import Derived.Test.YtpkjdnplmgfbbaaGreatDoorCards
import Derived.ProofKit
import Derived.LaidMore
import Derived.Lay
import Derived.ChangeMaps5
import Derived.OpenShut
import Derived.SevenTiedAt
namespace Go.Proofs.YtpkjdnplmgfbbaaGreatDoor
open Go.ChangeMaps Go.ChangeShapes Go.WideShapes Go.ChangeAt Go.WideMaps Go.WideElems Go.RowKit

theorem own_knob : ownKnob Tryz.prog.godebug = none := by kernel_rfl
theorem laid_out : laidOutB Tryz.prog = true := by kernel_rfl
theorem laidsMet (os : Os) (args : Array Value) : laidMetH Tryz.prog Rows.graphTextsRow.laid ((World.laidAll Tryz.prog os Rows.graphTextsRow.laid).forCall (fun _ _ => 0) ⟨#[], args, []⟩).memory := by
  rw [MakeChecks.laidMetH_plain _ _ _ (by kernel_rfl)]
  exact laidMet_laidAll _ (by kernel_rfl) (by kernel_rfl)
set_option maxRecDepth 100000 in
theorem lawT_lifted (os : Os) (started : os.Started) (H : Type) (enc : TypeId × Value → H) :
    ReturnsInHanded {} Tryz.checked os 4 .any (fun w args => (Rows.graphTextsSpec.pre enc Tryz.prog Tryz.f4 [] false w args ∧ laidMetH Tryz.prog Rows.graphTextsRow.laid w) ∧ sizedMet enc Tryz.prog Tryz.f4 (OpenSpec.ofChange Rows.graphTextsSpec) false w args)
      (Rows.graphTextsSpec.post enc Tryz.prog Tryz.f4 false true false false) := by
  refine returnsInHanded_of_change_and (C := Tryz.checked) (X := fun w _ => laidMetH Tryz.prog Rows.graphTextsRow.laid w) (fun _ _ _ hh h => h.of_heap hh) own_knob started (by kernel_rfl) Tryz.func4
    (ChangeSpec.witness_shaped (enc := enc) (C := Tryz.checked) (os := os) (X := fun w _ => laidMetH Tryz.prog Rows.graphTextsRow.laid w) false (World.laidAll Tryz.prog os Rows.graphTextsRow.laid) #[.agg #[.slice none 0 0, .slice none 0 0], .string ByteArray.empty] 8 (World.laidAll_os _ _ _) (World.shaped_of_ZipB (by kernel_rfl) (by kernel_rfl)) (by kernel_rfl) (by kernel_rfl) (by kernel_rfl) (laidsMet os _)) ?_
  intro W base args ds gs before hval0 hW _ _ hX _
  have hval : ∀ (j : Nat) t v, Tryz.f4.params[j]? = some t → args[j]? = some v → Value.okWide Tryz.prog W .any base t v := hval0
  have hW' := hW
  obtain ⟨p, q, hA0, hV, rfl, hfz, hnd⟩ := hW
  have hA : DataW.TrodAll enc Tryz.prog W 0 (fun _ => true) true Tryz.f4.params.toList args.toList ds p := hA0
  rw [Tryz.params4] at hA hval
  obtain ⟨v0, v1, d0, d1, p0, p1, rfl, rfl, rfl, h0, h1⟩ := trodAll_two hA
  obtain ⟨rfl, rfl⟩ := trodVars_none hV
  obtain ⟨names0, E0, hgr0⟩ := gopen (hval 0 25 v0 rfl rfl) h0
  obtain ⟨s1, hx1, _, _, ws1⟩ := open_string Tryz.underlying9 (hval 1 9 v1 rfl rfl) h1
  subst hx1
  clear hA0 hval0
  refine (GraphTexts_true (vrs_laid W hX) hgr0 s1).mono fun e W' ⟨he, hB⟩ => ?_
  subst he
  have hlt : ∀ z ∈ p0 ++ p1, z.block < W.heap.size := fun z hz => hW'.lt z (by simpa using hz)
  have hargs : DataW.TrodAll enc Tryz.prog W' 0 (fun b => decide (b < W.heap.size)) true [25, 9] [v0, .string s1] [d0, d1] (p0 ++ p1) :=
    trodAll_mk2 (Below.trod laid_out (by kernel_rfl) (of_decide_eq_true (by kernel_rfl)) h0 hB (fun z hz => hlt z (by simp [hz]))) (Below.trod laid_out (by kernel_rfl) (of_decide_eq_true (by kernel_rfl)) h1 hB (fun z hz => hlt z (by simp [hz])))
  exact ⟨_, rfl, _, _, _, [], p0 ++ p1, [], hW', trodAll_mk1 (shut_bool Tryz.underlying4 _), hargs, rfl, hB.frame _, fun h => by cases h⟩

theorem graphTexts_said : Rows.GraphTextsSaid :=
  OpenClaim.holds_of_wide 4 Tryz.f4 rfl rfl rfl rfl rfl rfl rfl ⟨rfl, rfl, rfl, rfl, rfl⟩ rfl rfl rfl rfl rfl (by kernel_rfl) Tryz.func4 (by kernel_rfl)
    (of_decide_eq_true (by kernel_rfl)) (by unfold Func.isWrapper; first | (rw [if_pos (by decide +kernel)]; kernel_rfl) | (rw [if_neg (by decide +kernel)]; exact ⟨rfl, rfl⟩))
    (fun os started H enc _ => lawT_lifted os started H enc)

theorem graphTexts_card : Rows.GraphTextsCardSaid :=
  Claim7.holds_tied_plain_at .later [] [.data, .data, .data, .data, .sentinel, .sentinel, .pinned] true Rows.graphTextsCard.stood.harness Rows.graphTextsCard.stood.looks
    graphTexts_said (fun _ h => by cases h) (by kernel_rfl) (fun _ h => by cases h) graphTexts_row_tie rfl ⟨rfl, rfl⟩ (by kernel_rfl) rfl
    (fun f fn hf hfn => by
      obtain rfl : f = 4 := Option.some.inj ((show Tryz.prog.funcNamed "fourfold/fourfoldlaw09.GraphTexts" = some 4 by kernel_rfl).symm.trans hf) |>.symm
      obtain rfl : fn = Tryz.f4 := (Option.some.inj (Tryz.func4.symm.trans hfn)).symm
      exact ⟨by kernel_rfl, fun j t ht => by
        rw [Tryz.params4] at ht
        have hm : t ∈ [25, 9] := by simpa using Array.mem_of_getElem? ht
        have hall : ([25, 9].all fun u => !Tryz.prog.wantsStandIn u) = true := by kernel_rfl
        exact (show Tryz.prog.wantsStandIn t = false by simpa using List.all_eq_true.1 hall t hm)⟩)
    (by kernel_rfl)
#print axioms graphTexts_card
end Go.Proofs.YtpkjdnplmgfbbaaGreatDoor
