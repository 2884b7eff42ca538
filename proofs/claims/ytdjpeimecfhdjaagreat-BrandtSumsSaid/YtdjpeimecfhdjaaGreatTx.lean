/- Arguments that come in: a list of ints. BrandtSums returns true for every input, and leaves its arguments as they were. No condition. -/
import Derived.Test.YtdjpeimecfhdjaaGreatTu
import Derived.ProofKit
import Derived.Lib.SmallJoins
import Derived.Deep.SlicePairs
import Derived.OpenShut
import Derived.Test.YtdjpeimecfhdjaaGreatTw
import Derived.Test.YtdjpeimecfhdjaaGreatRows
import Derived.LaidMore
namespace Go.Proofs.YtdjpeimecfhdjaaGreat
open Go.ChangeShapes Go.WideShapes Go.ChangeAt Go.RowKit Go.Joins
theorem cells_int : Tryz.prog.cellsOf 3 = 1 := by kernel_rfl
theorem plain_of_cell {W : World} {a : Addr} {u : Value} (h : W.cell? a = some u) : ∃ b off, a = ⟨b, off, none⟩ := by
 obtain ⟨b, off, spot⟩ := a
 have hs : spot = none := by simpa using World.cell?_spot h
 subst hs
 exact ⟨b, off, rfl⟩
theorem add_at (b off i : Nat) : (⟨b, off, none⟩ : Addr).add i = ⟨b, off + i, none⟩ := by
 unfold Addr.add
 split
 ·rename_i h; subst h; rfl
 ·rfl
section
variable {H : Type} {enc : TypeId × Value → H} {W : World}
set_option maxRecDepth 100000 in
theorem open_list {base : Nat} {v : Value} {d : DataW H} {p : List MemPlace} (hv : Value.okWide Tryz.prog W .any base 48 v) (h : DataW.Trod enc Tryz.prog W 0 (fun _ => true) true 48 v d p) : ∃ A n c l, v = .slice A n c ∧ IsD W (fun _ => True) (.slice A n c) l ∧ i64R l := by
 obtain ⟨a0, len, cap, rfl⟩ := okWide_slice Tryz.underlying48 hv
 obtain ⟨fuel, hf⟩ := h
 rcases open_ints Tryz.underlying48 Tryz.underlying3 cells_int hf with ⟨hcs, _⟩ | ⟨a, len', cap', zs, hcs, _, hl, hm, hz, _, hcell, hwz⟩
 ·simp [Value.cells] at hcs
  obtain ⟨rfl, rfl, rfl⟩ := hcs
  exact ⟨none, 0, 0, [], rfl, ⟨none, 0, rfl, Nat.le_refl _, Nat.zero_le _, fun hn => absurd hn (Nat.lt_irrefl _)⟩, fun x hx => by cases hx⟩
 ·simp [Value.cells] at hcs
  obtain ⟨rfl, rfl, rfl⟩ := hcs
  simp only [if_true] at hz
  have htl : (zs.take len).length = len := by rw [List.length_take]; omega
  refine ⟨some a, len, cap, zs.take len, rfl, ⟨some a, cap, by rw [htl], by rw [htl]; exact hl, hm, fun hn => ?_⟩, fun z hz2 => ?_⟩
  ·rw [htl] at hn
   obtain ⟨b, off, rfl⟩ := plain_of_cell (show W.cell? a = _ by simpa [Addr.add] using hcell 0 (by omega))
   refine ⟨b, off, rfl, trivial, fun j hj => ?_⟩
   rw [htl] at hj
   have k2 := hcell j (by omega)
   rw [add_at] at k2
   rw [k2]
   have hjz : j < zs.length := by omega
   simp [gz, List.getD, hjz, hj]
  ·have := hwz z (List.mem_of_mem_take hz2)
   simp only [Lit.wf, Bool.and_eq_true, decide_eq_true_eq] at this
   exact this
end
end Go.Proofs.YtdjpeimecfhdjaaGreat

namespace Go.Proofs.YtdjpeimecfhdjaaGreat
open Go.ChangeShapes Go.WideShapes Go.ChangeAt Go.WideMaps Go.WideElems Go.RowKit
theorem own_knob : ownKnob Tryz.prog.godebug = none := by kernel_rfl
theorem laid_out : laidOutB Tryz.prog = true := by kernel_rfl
set_option maxRecDepth 100000 in
theorem lawS_lifted (os : Os) (started : os.Started) (H : Type) (enc : TypeId × Value → H) :
  ReturnsInHanded {} Tryz.checked os 5 .any (Rows.brandtSumsSpec.pre6 enc Tryz.prog Tryz.f5 Rows.brandtSumsRow.domain false) (Rows.brandtSumsSpec.post enc Tryz.prog Tryz.f5 false true false false) := by
 refine returnsInHanded_of_change (C := Tryz.checked) own_knob started (by kernel_rfl) Tryz.func5
  (ChangeSpec.witness6 (enc := enc) (C := Tryz.checked) false ⟨#[], #[.int .i64 0, .int .i64 0, .slice none 0 0], []⟩ 8 (by kernel_rfl) (by kernel_rfl) (by kernel_rfl) (by kernel_rfl)) ?_
 intro W base args ds gs before hval0 hW _ _
 have hval : ∀ (j : Nat) t v, Tryz.f5.params[j]? = some t → args[j]? = some v → Value.okWide Tryz.prog W .any base t v := hval0
 have hW' := hW
 obtain ⟨p, q, hA0, hV, rfl, hfz, hnd⟩ := hW
 have hA : DataW.TrodAll enc Tryz.prog W 0 (fun _ => true) true Tryz.f5.params.toList args.toList ds p := hA0
 rw [Tryz.params5] at hA hval
 obtain ⟨v0, v1, v2, d0, d1, d2, p0, p1, p2, rfl, rfl, rfl, h0, h1, h2⟩ := trodAll_three hA
 obtain ⟨rfl, rfl⟩ := trodVars_none hV
 obtain ⟨x0, hx0, _, _, wx0⟩ := open_int Tryz.underlying3 (hval 0 3 v0 rfl rfl) h0
 subst hx0
 obtain ⟨x1, hx1, _, _, wx1⟩ := open_int Tryz.underlying3 (hval 1 3 v1 rfl rfl) h1
 subst hx1
 obtain ⟨A2, n2, c2, l2, hx2, hil2, hsi2⟩ := open_list (hval 2 48 v2 rfl rfl) h2
 subst hx2
 clear hA0 hval0
 refine (BrandtSums_true x0 x1 hil2 hsi2).mono fun e W' ⟨he, hB⟩ => ?_
 subst he
 have hlt : ∀ z ∈ p0 ++ (p1 ++ p2), z.block < W.heap.size := fun z hz => hW'.lt z (by simpa using hz)
 have hargs : DataW.TrodAll enc Tryz.prog W' 0 (fun b => decide (b < W.heap.size)) true [3, 3, 48] [.int .i64 x0, .int .i64 x1, .slice A2 n2 c2] [d0, d1, d2] (p0 ++ (p1 ++ p2)) :=
  trodAll_mk3 (Below.trod laid_out (by kernel_rfl) (of_decide_eq_true (by kernel_rfl)) h0 hB (fun z hz => hlt z (by simp [hz]))) (Below.trod laid_out (by kernel_rfl) (of_decide_eq_true (by kernel_rfl)) h1 hB (fun z hz => hlt z (by simp [hz]))) (Below.trod laid_out (by kernel_rfl) (of_decide_eq_true (by kernel_rfl)) h2 hB (fun z hz => hlt z (by simp [hz])))
 exact ⟨_, rfl, _, _, _, [], p0 ++ (p1 ++ p2), [], hW', trodAll_mk1 (shut_bool Tryz.underlying4 _), hargs, rfl, hB.frame _, fun h => by cases h⟩
theorem brandtSums_said : Rows.BrandtSumsSaid :=
 OpenClaim.holds_of_wide 5 Tryz.f5 rfl rfl rfl rfl rfl rfl rfl ⟨rfl, rfl, rfl, rfl, rfl⟩ rfl rfl rfl rfl rfl (by kernel_rfl) Tryz.func5 (by kernel_rfl)
  (of_decide_eq_true (by kernel_rfl)) (by unfold Func.isWrapper; first | (rw [if_pos (by decide +kernel)]; kernel_rfl) | (rw [if_neg (by decide +kernel)]; exact ⟨rfl, rfl⟩))
  (fun os started H enc _ => lawS_lifted os started H enc)
#print axioms brandtSums_said
end Go.Proofs.YtdjpeimecfhdjaaGreat
