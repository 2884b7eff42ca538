/- Arguments that come in: a list of ints. -/
import Derived.Test.YtpkjdnplmgfbbaaDoorG2
import Derived.Test.YtpkjdnplmgfbbaaDoorGop
import Derived.ProofKit
import Derived.OpenShut
namespace Go.Proofs.YtpkjdnplmgfbbaaDoor
open Go.ChangeShapes Go.WideShapes Go.ChangeAt Go.RowKit

theorem Il.nil_ (w : World) (A : Option Addr) (c : Nat) (hc : c ≤ maxLen) : Il w A 0 c [] := ⟨⟨rfl, Nat.zero_le _, hc, fun hn => by omega⟩, fun x hx => by cases hx⟩
section
variable {H : Type} {enc : TypeId × Value → H} {W : World}
set_option maxRecDepth 100000 in
theorem open_list {base : Nat} {v : Value} {d : DataW H} {p : List MemPlace} (hv : Value.okWide Tryd.prog W .any base 28 v) (h : DataW.Trod enc Tryd.prog W 0 (fun _ => true) true 28 v d p) : ∃ A n c l, v = .slice A n c ∧ Il W A n c l := by
  obtain ⟨a0, len, cap, rfl⟩ := okWide_slice Tryd.underlying28 hv
  obtain ⟨fuel, hf⟩ := h
  rcases open_ints Tryd.underlying28 Tryd.underlying3 cells_int hf with ⟨hcs, _⟩ | ⟨a, len', cap', zs, hcs, _, hl, hm, hz, _, hcell, hwz⟩
  · simp [Value.cells] at hcs
    obtain ⟨rfl, rfl, rfl⟩ := hcs
    exact ⟨none, 0, 0, [], rfl, Il.nil_ _ _ _ (Nat.zero_le _)⟩
  · simp [Value.cells] at hcs
    obtain ⟨rfl, rfl, rfl⟩ := hcs
    simp only [if_true] at hz
    have htl : (zs.take len).length = len := by rw [List.length_take]; omega
    refine ⟨some a, len, cap, zs.take len, rfl, ⟨by rw [List.length_map, htl], hl, hm, fun hn => ?_⟩, fun z hz2 => ?_⟩
    · obtain ⟨b, off, rfl⟩ := plain_of_cell (show W.cell? a = _ by simpa [Addr.add] using hcell 0 (by omega))
      refine ⟨b, off, rfl, fun j u hu => ?_⟩
      rw [List.getElem?_map] at hu
      cases hq : (zs.take len)[j]? with
      | none => rw [hq] at hu; cases hu
      | some z =>
        rw [hq] at hu
        injection hu with hu
        subst hu
        have hj : j < len := by have := lt_of_some hq; omega
        have k2 := hcell j (by omega)
        rw [add_at] at k2
        rw [k2]
        rw [List.getElem?_take, if_pos hj] at hq
        simp [List.getD, hq]
    · have := hwz z (List.mem_of_mem_take hz2)
      simp only [Lit.wf, Bool.and_eq_true, decide_eq_true_eq] at this
      exact this
end

end Go.Proofs.YtpkjdnplmgfbbaaDoor
