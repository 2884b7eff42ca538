/- What it says of a graph that it has no error. -/
import Derived.Test.YtpkjdnplmgfbbaaDoorDst
namespace Go.Proofs.YtpkjdnplmgfbbaaDoor
open Go.RowKit

/-- A graph without an error. -/
structure Ok (names : List ByteArray) (E : List (List Nat)) : Prop where
  valid : Valid E
  len : names.length = E.length
  small : E.length ≤ 2500
  deg : ∀ v, (gr E v).length ≤ 400
  asc : ∀ v, (gr E v).Pairwise (· ≤ ·)
  name : ∀ s ∈ names, okName s
  nodup : names.Nodup

theorem pairwise_of_next {l : List Nat} (h : ∀ k, k + 1 < l.length → l.getD k 0 ≤ l.getD (k + 1) 0) : l.Pairwise (· ≤ ·) := by
  refine List.pairwise_iff_getElem.2 fun i j hi hj hij => ?_
  have : ∀ d, i + d < l.length → l.getD i 0 ≤ l.getD (i + d) 0 := by
    intro d
    induction d with
    | zero => intro _; exact Nat.le_refl _
    | succ d ih => intro hd; exact Nat.le_trans (ih (by omega)) (h (i + d) hd)
  have h1 := this (j - i) (by omega)
  rw [show i + (j - i) = j by omega] at h1
  have e1 : l.getD i 0 = l[i] := by simp [List.getD, List.getElem?_eq_getElem hi]
  have e2 : l.getD j 0 = l[j] := by simp [List.getD, List.getElem?_eq_getElem hj]
  omega

theorem rowC_zero {n : Nat} {l : List Int} (h : rowC n l = 0) : l.length ≤ 400 ∧ (∀ k, k < l.length → 0 ≤ l.getD k 0 ∧ l.getD k 0 < n) ∧ ∀ k, k + 1 < l.length → l.getD k 0 ≤ l.getD (k + 1) 0 := by
  unfold rowC at h
  split at h
  · cases h
  · rename_i hl
    have hz := fnz_zero h
    refine ⟨by omega, fun k hk => ?_, fun k hk => ?_⟩
    · have := hz k hk
      unfold rowAt at this
      split at this
      · cases this
      · rename_i h1; exact Classical.not_not.1 h1
    · have := hz (k + 1) hk
      unfold rowAt at this
      split at this
      · cases this
      · split at this
        · cases this
        · rename_i _ h2
          rw [Nat.add_sub_cancel] at h2
          omega

theorem ok_of_chk {names : List ByteArray} {E' : List (List Int)} (h : chk names E' = 0) : ∃ E, E' = toI E ∧ Ok names E := by
  unfold chk at h
  split at h
  · cases h
  · rename_i hlen
    split at h
    · cases h
    · rename_i hlg
      have hz := fnz_zero h
      have hlen' : names.length = E'.length := by omega
      have hrow : ∀ i, i < names.length → nameB (names.getD i ByteArray.empty) = true ∧ ¬ names.getD i ByteArray.empty ∈ names.take i ∧ rowC names.length (E'.getD i []) = 0 := by
        intro i hi
        have := hz i hi
        unfold atC at this
        split at this
        · cases this
        · rename_i h1
          split at this
          · cases this
          · rename_i h2
            exact ⟨by simpa using h1, h2, this⟩
      have hrc : ∀ i, i < names.length → ∀ x ∈ E'.getD i [], 0 ≤ x ∧ x < (names.length : Int) := by
        intro i hi x hx
        obtain ⟨_, h2, _⟩ := rowC_zero (hrow i hi).2.2
        obtain ⟨k, hk, hk2⟩ := mem_getElem hx
        have := h2 k hk
        rwa [getD_some hk2] at this
      have hE : ∀ i l, E'[i]? = some l → E'.getD i [] = l := fun i l hl => getD_some hl
      have hgr : ∀ v, gr (E'.map (·.map Int.toNat)) v = (E'.getD v []).map Int.toNat := by
        intro v
        unfold gr
        simp only [List.getD, List.getElem?_map]
        cases E'[v]? <;> simp
      refine ⟨E'.map (·.map Int.toNat), ?_, ?_⟩
      · unfold toI
        rw [List.map_map]
        refine (List.map_id' _).symm.trans (List.map_congr_left fun l hl => ?_)
        obtain ⟨i, hi, hi2⟩ := mem_getElem hl
        show l = List.map _ (List.map _ l)
        rw [List.map_map]
        refine (List.map_id' _).symm.trans (List.map_congr_left fun x hx => ?_)
        have := hrc i (by omega) x (by rw [hE i l hi2]; exact hx)
        show x = ((x.toNat : Nat) : Int)
        omega
      · refine ⟨?_, by simp [hlen'], by simp; omega, ?_, ?_, ?_, ?_⟩
        · intro v hv x hx
          rw [hgr] at hx
          simp only [List.length_map] at hv ⊢
          obtain ⟨y, hy, rfl⟩ := List.mem_map.1 hx
          have := hrc v (by omega) y hy
          omega
        · intro v
          rw [hgr, List.length_map]
          rcases Nat.lt_or_ge v names.length with hv | hv
          · exact (rowC_zero (hrow v hv).2.2).1
          · rw [List.getD_eq_getElem?_getD, List.getElem?_eq_none (by omega)]; simp
        · intro v
          rw [hgr]
          rcases Nat.lt_or_ge v names.length with hv | hv
          · obtain ⟨_, h2, h3⟩ := rowC_zero (hrow v hv).2.2
            refine pairwise_of_next fun k hk => ?_
            rw [List.length_map] at hk
            have e : ∀ j, j < (E'.getD v []).length → (((E'.getD v []).map Int.toNat).getD j 0) = ((E'.getD v []).getD j 0).toNat := by
              intro j hj
              simp only [List.getD, List.getElem?_map] at hj ⊢
              rw [List.getElem?_eq_getElem hj]; rfl
            rw [e k (by omega), e (k + 1) hk]
            have := h3 k hk
            have := h2 k (by omega)
            omega
          · rw [List.getD_eq_getElem?_getD, List.getElem?_eq_none (by omega)]; simp
        · intro s hs
          obtain ⟨i, hi, hi2⟩ := mem_getElem hs
          have := (hrow i hi).1
          rw [getD_some hi2] at this
          exact nameB_true.1 this
        · refine List.pairwise_iff_getElem.2 fun i j hi hj hij he => ?_
          have := (hrow j hj).2.1
          rw [getD_some (List.getElem?_eq_getElem hj)] at this
          exact this (mem_take.2 ⟨i, hij, by rw [List.getElem?_eq_getElem hi, he]⟩)

end Go.Proofs.YtpkjdnplmgfbbaaDoor
