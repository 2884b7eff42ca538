/- A graph that comes in as an argument. -/
import Derived.Test.YtpkjdnplmgfbbaaGreatDoorG2
import Derived.ProofKit
import Derived.Lib.SmallJoins
import Derived.Deep.Matrix
import Derived.SliceStrings
namespace Go.Proofs.YtpkjdnplmgfbbaaGreatDoor
open Go.ChangeShapes Go.WideShapes Go.ChangeAt Go.RowKit Go.Joins

section
variable {H : Type} {enc : TypeId × Value → H} {W : World}
theorem cells_Graph : Tryz.prog.cellsOf 25 = 2 := by kernel_rfl
theorem cells_string : Tryz.prog.cellsOf 9 = 1 := by kernel_rfl
theorem cells_ints : Tryz.prog.cellsOf 55 = 1 := by kernel_rfl
theorem cells_int : Tryz.prog.cellsOf 3 = 1 := by kernel_rfl

theorem plain_of_cell {a : Addr} {u : Value} (h : W.cell? a = some u) : ∃ b off, a = ⟨b, off, none⟩ := by
  obtain ⟨b, off, spot⟩ := a
  have hs : spot = none := by simpa using World.cell?_spot h
  subst hs
  exact ⟨b, off, rfl⟩
theorem add_at (b off i : Nat) : (⟨b, off, none⟩ : Addr).add i = ⟨b, off + i, none⟩ := by
  unfold Addr.add
  split
  · rename_i h; subst h; rfl
  · rfl

theorem open_names {fuel : Nat} {v : Value} {x : DataW H × List MemPlace} (h : DataW.trod enc Tryz.prog W 0 (fun _ => true) true fuel 22 [v] = some x) :
    ∃ A c names, v = .slice A (List.length names) c ∧ Sl W A names.length c names := by
  rcases open_strings Tryz.underlying22 Tryz.underlying9 cells_string h with ⟨hcs, _⟩ | ⟨a, len, cap, ss, hcs, _, hl, hm, hsl, _, hcell, hsz⟩
  · simp at hcs
    subst hcs
    exact ⟨none, 0, [], rfl, ⟨by simp, Nat.le_refl _, Nat.zero_le _, fun hn => by simp at hn⟩, fun s hs => by cases hs⟩
  · simp at hcs
    subst hcs
    simp only [if_true] at hsl
    have htl : (ss.take len).length = len := by rw [List.length_take]; omega
    refine ⟨some a, cap, ss.take len, by rw [htl], ⟨by simp, by rw [htl]; exact hl, hm, fun hn => ?_⟩, fun s hs => hsz s (List.mem_of_mem_take hs)⟩
    rw [htl] at hn
    have h0 := hcell 0 (by omega)
    obtain ⟨b, off, rfl⟩ := plain_of_cell (show W.cell? a = _ by simpa [Addr.add] using h0)
    refine ⟨b, off, rfl, fun j u hu => ?_⟩
    rw [List.getElem?_map] at hu
    cases hq : (ss.take len)[j]? with
    | none => rw [hq] at hu; cases hu
    | some s =>
      rw [hq] at hu
      injection hu with hu
      subst hu
      have hj : j < ss.length := by
        rcases Nat.lt_or_ge j (ss.take len).length with h1 | h1
        · omega
        · rw [List.getElem?_eq_none h1] at hq; cases hq
      have h1 := hcell j hj
      rw [add_at] at h1
      rw [h1]
      have : (ss.take len)[j]? = ss[j]? := by
        rw [List.getElem?_take]
        rw [if_pos]
        rcases Nat.lt_or_ge j (ss.take len).length with h1 | h1
        · omega
        · rw [List.getElem?_eq_none h1] at hq; cases hq
      rw [this] at hq
      simp [List.getD, hq]

theorem open_rows {fuel : Nat} {v : Value} {x : DataW H × List MemPlace} (h : DataW.trod enc Tryz.prog W 0 (fun _ => true) true fuel 23 [v] = some x) :
    ∃ A c E, v = .slice A (List.length E) c ∧ Gl W A E.length c E := by
  rcases Deep.open_int_rows Tryz.underlying23 Tryz.underlying55 Tryz.underlying3 cells_ints cells_int h with ⟨hcs, _⟩ | ⟨a, len, cap, A, L, C, Z, hcs, _, hl, hm, _, hrow⟩
  · simp at hcs
    subst hcs
    exact ⟨none, 0, [], rfl, [], ⟨rfl, Nat.le_refl _, Nat.zero_le _, fun hn => by simp at hn⟩, rfl, fun i v l hv => by simp at hv⟩
  · simp at hcs
    subst hcs
    have hlen : ((List.range len).map fun r => (Z r).take (L r)).length = len := by simp
    have hrl : ∀ r, r < len → ((Z r).take (L r)).length = L r := fun r hr => by
      obtain ⟨_, h1, _, h3, _⟩ := hrow r (by omega)
      rw [List.length_take]; omega
    refine ⟨some a, cap, (List.range len).map fun r => (Z r).take (L r), by rw [hlen], (List.range len).map fun r => .slice (A r) (L r) (C r), ⟨by rw [hlen]; simp, by rw [hlen]; exact hl, hm, fun hn => ?_⟩, by simp, ?_⟩
    · rw [hlen] at hn
      have h0 := (hrow 0 (by omega)).1
      obtain ⟨b, off, rfl⟩ := plain_of_cell (show W.cell? a = _ by simpa [Addr.add] using h0)
      refine ⟨b, off, rfl, fun j u hu => ?_⟩
      rw [List.getElem?_map] at hu
      rcases Nat.lt_or_ge j len with hj | hj
      · rw [List.getElem?_range hj] at hu
        injection hu with hu
        subst hu
        have h1 := (hrow j (by omega)).1
        rw [add_at] at h1
        exact h1
      · rw [List.getElem?_eq_none (by simpa using hj)] at hu; cases hu
    · intro i v l hv hl2
      rw [List.getElem?_map] at hv hl2
      rcases Nat.lt_or_ge i len with hi | hi
      · rw [List.getElem?_range hi] at hv hl2
        injection hv with hv
        injection hl2 with hl2
        subst hv hl2
        obtain ⟨_, h1, h2, h3, h4, h5, h6⟩ := hrow i (by omega)
        refine ⟨A i, C i, by rw [hrl i hi], ⟨⟨by simp, by rw [hrl i hi]; exact h1, h2, fun hn => ?_⟩, fun z hz => ?_⟩⟩
        · rw [hrl i hi] at hn
          cases hA : A i with
          | none => have := h5 hA; omega
          | some a' =>
            obtain ⟨_, hc⟩ := h6 a' hA
            obtain ⟨b, off, rfl⟩ := plain_of_cell (show W.cell? a' = _ by simpa [Addr.add] using hc 0 (by omega))
            refine ⟨b, off, rfl, fun j u hu => ?_⟩
            rw [List.getElem?_map] at hu
            cases hq : ((Z i).take (L i))[j]? with
            | none => rw [hq] at hu; cases hu
            | some z =>
              rw [hq] at hu
              injection hu with hu
              subst hu
              have hj : j < L i := by
                rcases Nat.lt_or_ge j ((Z i).take (L i)).length with k1 | k1
                · rw [hrl i hi] at k1; exact k1
                · rw [List.getElem?_eq_none k1] at hq; cases hq
              have k2 := hc j (by omega)
              rw [add_at] at k2
              rw [k2]
              rw [List.getElem?_take, if_pos hj] at hq
              simp [List.getD, hq]
        · have := h4 z (List.mem_of_mem_take hz)
          simp only [Lit.wf, Bool.and_eq_true, decide_eq_true_eq] at this
          exact this
      · rw [List.getElem?_eq_none (by simpa using hi)] at hv; cases hv

set_option maxRecDepth 100000 in
/-- A graph that reads, in memory. -/
theorem gopen {base : Nat} {v : Value} {d : DataW H} {p : List MemPlace} (hv : Value.okWide Tryz.prog W .any base 25 v) (h : DataW.Trod enc Tryz.prog W 0 (fun _ => true) true 25 v d p) : ∃ names E, GrV W v names E := by
  obtain ⟨v0, v1, y0, y1, n, rfl, _, _, h0, h1⟩ := open_agg2 Tryz.underlying25 (by kernel_rfl) cells_Graph hv h
  obtain ⟨A, c, names, rfl, hs⟩ := open_names h0
  obtain ⟨A', c', E, rfl, hg⟩ := open_rows h1
  exact ⟨names, E, A, c, A', c', rfl, hs, hg⟩
end
end Go.Proofs.YtpkjdnplmgfbbaaGreatDoor
