/- Arguments that come in: a list of enclosures; a range. -/
import Derived.Test.YtdmdagilopckgaaGreatIop
import Derived.Test.YtdmdagilopckgaaGreatB5
import Derived.Deep.Slices
namespace Go.Proofs.YtdmdagilopckgaaGreat
open Go.ChangeShapes Go.WideShapes Go.ChangeAt Go.RowKit Go.Joins

theorem cells_Enc : Tryz.prog.cellsOf 42 = 5 := by kernel_rfl
theorem cells_Range : Tryz.prog.cellsOf 26 = 4 := by kernel_rfl
theorem cells_intI : Tryz.prog.cellsOf 3 = 1 := by kernel_rfl
theorem encs_length : ∀ L : List En, (encs L).length = L.length * 5
  | [] => rfl
  | q :: L => by rw [encs, List.length_append, encs_length L, List.length_cons]; simp [enc]; omega
section
variable {H : Type} {enc' : TypeId × Value → H} {W : World}
set_option maxRecDepth 100000 in
theorem trod_Frac {fuel : Nat} {cs : List Value} {x : DataW H × List MemPlace} (h : DataW.trod enc' Tryz.prog W 0 (fun _ => true) true fuel 24 cs = some x) : ∃ a b : Int, cs = [.int .i64 a, .int .i64 b] := by
  obtain ⟨xs, k, hk, hxy, hl, hxl, hf⟩ := DataW.trod_struct Tryz.underlying24 h
  rw [cells_Frac] at hl
  match xs, hxl, cs, hl with
  | [y0, y1], _, [v0, v1], _ =>
    have g0 := hf 0 _ rfl
    have g1 := hf 1 _ rfl
    simp [cells_intI] at g0 g1
    obtain ⟨a, ha, _⟩ := DataW.trod_int Tryz.underlying3 g0
    obtain ⟨b, hb, _⟩ := DataW.trod_int Tryz.underlying3 g1
    simp at ha hb
    exact ⟨a, b, by rw [ha, hb]⟩
set_option maxRecDepth 100000 in
theorem trod_Enc {fuel : Nat} {cs : List Value} {x : DataW H × List MemPlace} (h : DataW.trod enc' Tryz.prog W 0 (fun _ => true) true fuel 42 cs = some x) : ∃ q : En, cs = enc q := by
  obtain ⟨xs, k, hk, hxy, hl, hxl, hf⟩ := DataW.trod_struct Tryz.underlying42 h
  rw [cells_Enc] at hl
  match xs, hxl, cs, hl with
  | [y0, y1, y2], _, [v0, v1, v2, v3, v4], _ =>
    have g0 := hf 0 _ rfl
    have g1 := hf 1 _ rfl
    have g2 := hf 2 _ rfl
    simp [cells_intI, cells_Frac] at g0 g1 g2
    obtain ⟨a, b, hab⟩ := trod_Frac g0
    obtain ⟨c, d, hcd⟩ := trod_Frac g1
    obtain ⟨n, hn, _⟩ := DataW.trod_int Tryz.underlying3 g2
    simp at hab hcd hn
    exact ⟨(a, b, c, d, n), by simp [enc, hab, hcd, hn]⟩
set_option maxRecDepth 100000 in
theorem open_Encs {base : Nat} {v : Value} {d : DataW H} {p : List MemPlace} (hv : Value.okWide Tryz.prog W .any base 32 v) (h : DataW.Trod enc' Tryz.prog W 0 (fun _ => true) true 32 v d p) : ∃ A n c L, v = .slice A n c ∧ EnA W A n c L := by
  obtain ⟨a0, len0, cap0, rfl⟩ := okWide_slice Tryz.underlying32 hv
  obtain ⟨fuel, hf⟩ := h
  rcases Deep.open_slice Tryz.underlying32 hf with ⟨hcs, _⟩ | ⟨a, len, cap, m, n, D, Pl, hcs, _, hl, hm, hmm, _, hx⟩
  · simp [Value.cells] at hcs
    obtain ⟨rfl, rfl, rfl⟩ := hcs
    exact ⟨none, 0, 0, [], rfl, rfl, Nat.le_refl _, Nat.zero_le _, fun hn => absurd hn (Nat.lt_irrefl _)⟩
  · simp [Value.cells] at hcs
    obtain ⟨rfl, rfl, rfl⟩ := hcs
    simp only [if_true] at hmm
    have each : ∀ i, i < len0 → ∃ q : En, ∀ r u, (enc q)[r]? = some u → W.cell? (a.add (i * 5 + r)) = some u := fun i hi => by
      obtain ⟨cs', h1, h2⟩ := hx i (by omega)
      rw [cells_Enc] at h1
      obtain ⟨q, rfl⟩ := trod_Enc h2
      obtain ⟨_, hlen, hcell⟩ := World.cells?_some h1
      refine ⟨q, fun r u hu => ?_⟩
      have hr : r < 5 := by
        rcases Nat.lt_or_ge r 5 with h5 | h5
        · exact h5
        · rw [List.getElem?_eq_none (by simpa [enc] using h5)] at hu; cases hu
      have := hcell r hr
      rw [Deep.add_add] at this
      rw [this, hu]
    obtain ⟨X, hX⟩ := Deep.choose_lt each
    refine ⟨some a, len0, cap0, (List.range len0).map X, rfl, by simp, hl, hm, fun hn => ?_⟩
    obtain ⟨b, off, rfl⟩ := plain_of_cell (show W.cell? a = _ by simpa [Addr.add] using hX 0 hn 0 _ rfl)
    refine ⟨b, off, rfl, fun j u hu => ?_⟩
    have hj : j < len0 * 5 := by
      rcases Nat.lt_or_ge j (len0 * 5) with h5 | h5
      · exact h5
      · rw [List.getElem?_eq_none (by rw [encs_length]; simpa using h5)] at hu; cases hu
    have hi : j / 5 < len0 := by omega
    have hq : ((List.range len0).map X)[j / 5]? = some (X (j / 5)) := by simp [hi]
    have h6 := encs_at hq (j % 5) (Nat.mod_lt _ (by omega))
    rw [show j / 5 * 5 + j % 5 = j by omega, hu] at h6
    have h7 := hX (j / 5) hi (j % 5) u h6.symm
    rw [show j / 5 * 5 + j % 5 = j by omega, add_at] at h7
    exact h7
set_option maxRecDepth 100000 in
theorem open_Range {base : Nat} {v : Value} {d : DataW H} {p : List MemPlace} (hv : Value.okWide Tryz.prog W .any base 26 v) (h : DataW.Trod enc' Tryz.prog W 0 (fun _ => true) true 26 v d p) : ∃ a b c d : Int, v = .agg #[.int .i64 a, .int .i64 b, .int .i64 c, .int .i64 d] := by
  obtain ⟨cs, rfl, hsz⟩ := okWide_struct Tryz.underlying26 hv
  obtain ⟨fuel, hf⟩ := h
  obtain ⟨xs, k, hk, hxy, hl, hxl, hf⟩ := DataW.trod_struct Tryz.underlying26 hf
  obtain ⟨cl⟩ := cs
  simp only [Value.cells] at hl hf
  rw [cells_Range] at hl
  match xs, hxl, cl, hl with
  | [y0, y1], _, [v0, v1, v2, v3], _ =>
    have g0 := hf 0 _ rfl
    have g1 := hf 1 _ rfl
    simp [cells_Frac] at g0 g1
    obtain ⟨a, b, hab⟩ := trod_Frac g0
    obtain ⟨c, d, hcd⟩ := trod_Frac g1
    simp at hab hcd
    exact ⟨a, b, c, d, by simp [hab, hcd]⟩
end
end Go.Proofs.YtdmdagilopckgaaGreat
