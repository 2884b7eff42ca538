/- Arguments that come in: a list of integers; a fraction. -/
import Derived.Test.YtdmdagilopckgaaGreatShr
import Derived.ProofKit
import Derived.Lib.SmallJoins
import Derived.Deep.SlicePairs
import Derived.OpenShut
namespace Go.Proofs.YtdmdagilopckgaaGreat
open Go.ChangeShapes Go.WideShapes Go.ChangeAt Go.RowKit Go.Joins

theorem cells_Int : Tryz.prog.cellsOf 63 = 2 := by kernel_rfl
theorem cells_u32 : Tryz.prog.cellsOf 110 = 1 := by kernel_rfl
theorem cells_u32s : Tryz.prog.cellsOf 61 = 1 := by kernel_rfl
theorem cells_bool : Tryz.prog.cellsOf 4 = 1 := by kernel_rfl
theorem cells_Frac : Tryz.prog.cellsOf 24 = 2 := by kernel_rfl
theorem plain_of_cell {W : World} {a : Addr} {u : Value} (h : W.cell? a = some u) : ∃ b off, a = ⟨b, off, none⟩ := by
  obtain ⟨b, off, spot⟩ := a
  have hs : spot = none := by simpa using World.cell?_spot h
  subst hs
  exact ⟨b, off, rfl⟩
theorem add_at (b off i : Nat) : (⟨b, off, none⟩ : Addr).add i = ⟨b, off + i, none⟩ := by
  unfold Addr.add
  split
  · rename_i h; subst h; rfl
  · rfl
section
variable {H : Type} {enc : TypeId × Value → H} {W : World}

theorem open_words {fuel : Nat} {v : Value} {x : DataW H × List MemPlace} (h : DataW.trod enc Tryz.prog W 0 (fun _ => true) true fuel 61 [v] = some x) :
    ∃ A n c l, v = .slice A n c ∧ Wd W (fun _ => True) A n c l := by
  rcases open_ints Tryz.underlying61 Tryz.underlying110 cells_u32 h with ⟨hcs, _⟩ | ⟨a, len, cap, zs, hcs, _, hl, hm, hz, _, hcell, hwz⟩
  · simp at hcs
    subst hcs
    exact ⟨none, 0, 0, [], rfl, rfl, Nat.le_refl _, Nat.zero_le _, (fun x hx => by cases hx), fun hn => absurd hn (Nat.lt_irrefl _)⟩
  · simp at hcs
    subst hcs
    simp only [if_true] at hz
    have htl : (zs.take len).length = len := by rw [List.length_take]; omega
    have hnn : ∀ z ∈ zs, 0 ≤ z ∧ z < 4294967296 := fun z hzm => by
      have := hwz z hzm
      simp only [Lit.wf, Bool.and_eq_true, decide_eq_true_eq] at this
      have h0 : IntKind.u32.min = 0 := by decide
      have h1 : IntKind.u32.max = 4294967295 := by decide
      rw [h0, h1] at this
      omega
    refine ⟨some a, len, cap, (zs.take len).map Int.toNat, rfl, by rw [List.length_map, htl], hl, hm, fun x hx => ?_, fun hn => ?_⟩
    · obtain ⟨z, hzm, rfl⟩ := List.mem_map.1 hx
      have := hnn z (List.mem_of_mem_take hzm)
      omega
    · obtain ⟨b, off, rfl⟩ := plain_of_cell (show W.cell? a = _ by simpa [Addr.add] using hcell 0 (by omega))
      refine ⟨b, off, rfl, trivial, fun j hj => ?_⟩
      have k2 := hcell j (by omega)
      rw [add_at] at k2
      rw [k2]
      have hjz : j < zs.length := by omega
      have := hnn zs[j] (List.getElem_mem hjz)
      simp [gw, List.getD, hjz, hj]
      omega
set_option maxRecDepth 100000 in
theorem open_Ints {base : Nat} {v : Value} {d : DataW H} {p : List MemPlace} (hv : Value.okWide Tryz.prog W .any base 22 v) (h : DataW.Trod enc Tryz.prog W 0 (fun _ => true) true 22 v d p) : ∃ A n c l, v = .slice A n c ∧ Pl IntU W (fun _ => True) A n c l := by
  obtain ⟨a0, len0, cap0, rfl⟩ := okWide_slice Tryz.underlying22 hv
  obtain ⟨fuel, hf⟩ := h
  rcases Deep.open_slice_pairs Tryz.underlying22 Tryz.underlying63 cells_Int rfl rfl cells_bool cells_u32s hf with ⟨hcs, _⟩ | ⟨a, len, cap, m, n, V0, V1, D0, D1, P0, P1, hcs, _, hl, hm, hmm, _, hx⟩
  · simp [Value.cells] at hcs
    obtain ⟨rfl, rfl, rfl⟩ := hcs
    exact ⟨none, 0, 0, [], rfl, rfl, Nat.le_refl _, Nat.zero_le _, fun hn => absurd hn (Nat.lt_irrefl _)⟩
  · simp [Value.cells] at hcs
    obtain ⟨rfl, rfl, rfl⟩ := hcs
    simp only [if_true] at hmm
    have each : ∀ i, i < len0 → ∃ x : Int, ∃ neg B k q, V0 i = .bool neg ∧ V1 i = .slice B k q ∧ IntU W (.agg #[.bool neg, .slice B k q]) x := fun i hi => by
      obtain ⟨h0, h1, h2, h3⟩ := hx i (by omega)
      obtain ⟨neg, hneg, _⟩ := DataW.trod_bool Tryz.underlying4 h2
      obtain ⟨B, k, q, l, hB, hw⟩ := open_words h3
      simp at hneg
      exact ⟨_, neg, B, k, q, hneg, hB, neg, B, k, q, l, rfl, hw, rfl⟩
    obtain ⟨X, hX⟩ := Deep.choose_lt each
    refine ⟨some a, len0, cap0, (List.range len0).map X, rfl, by simp, hl, hm, fun hn => ?_⟩
    obtain ⟨b, off, rfl⟩ := plain_of_cell (show W.cell? a = _ by simpa [Addr.add] using (hx 0 (by omega)).1)
    refine ⟨b, off, rfl, trivial, fun j hj => ?_⟩
    obtain ⟨h0, h1, _, _⟩ := hx j (by omega)
    obtain ⟨neg, B, k, q, e0, e1, e2⟩ := hX j hj
    rw [add_at, e0] at h0
    rw [add_at, e1] at h1
    exact ⟨neg, B, k, q, h0, by rw [Nat.add_assoc]; exact h1, by simpa [gz, List.getD, hj] using e2⟩
set_option maxRecDepth 100000 in
theorem open_Frac {base : Nat} {v : Value} {d : DataW H} {p : List MemPlace} (hv : Value.okWide Tryz.prog W .any base 24 v) (h : DataW.Trod enc Tryz.prog W 0 (fun _ => true) true 24 v d p) : ∃ a b : Int, v = .agg #[.int .i64 a, .int .i64 b] := by
  obtain ⟨v0, v1, y0, y1, n, rfl, _, _, h0, h1⟩ := open_agg2 Tryz.underlying24 (by kernel_rfl) cells_Frac hv h
  obtain ⟨a, ha, _⟩ := DataW.trod_int Tryz.underlying3 h0
  obtain ⟨b, hb, _⟩ := DataW.trod_int Tryz.underlying3 h1
  simp at ha hb
  exact ⟨a, b, by rw [ha, hb]⟩
end
end Go.Proofs.YtdmdagilopckgaaGreat
