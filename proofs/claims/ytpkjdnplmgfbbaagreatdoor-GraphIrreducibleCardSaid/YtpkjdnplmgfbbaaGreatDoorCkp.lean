/- Lists of vertices: the reference's count; slices.ContainsFunc, slices.Contains; checkList, CheckPath and the reference's CheckPath. -/
import Derived.Test.YtpkjdnplmgfbbaaGreatDoorLawD
namespace Go.Proofs.YtpkjdnplmgfbbaaGreatDoor
open Go.RowKit

/-- The neighbours of a vertex, as ints. -/
def gi (E : List (List Nat)) (v : Nat) : List Int := (gr E v).map fun x : Nat => (x : Int)
theorem gi_length (E : List (List Nat)) (v : Nat) : (gi E v).length = (gr E v).length := by simp [gi]
theorem gi_get {E : List (List Nat)} {v k x : Nat} (h : (gr E v)[k]? = some x) : (gi E v)[k]? = some (x : Int) := by unfold gi; rw [List.getElem?_map, h]; rfl
theorem gi_mem {E : List (List Nat)} {v x : Nat} : (x : Int) ∈ gi E v ↔ x ∈ gr E v := by
  unfold gi
  constructor
  · intro h
    obtain ⟨y, hy, e⟩ := List.mem_map.1 h
    have : y = x := by omega
    subst this; exact hy
  · intro h; exact List.mem_map.2 ⟨x, h, rfl⟩
theorem count_take {l : List Int} {k : Nat} {y x : Int} (h : l[k]? = some y) : (l.take (k + 1)).count x = (l.take k).count x + if y = x then 1 else 0 := by
  rw [List.take_add_one, h, List.count_append]
  by_cases e : y = x
  · subst e; simp
  · rw [if_neg e]
    have : ([y] : List Int).count x = 0 := List.count_eq_zero.2 (by simpa using fun h => e h.symm)
    simp [this]

/-- The error of a list of vertices. -/
def lstC (n : Nat) (l : List Int) : Nat := if l.length = 0 then 9 else if l.any (fun x => !hasB n x) then 6 else 0
/-- The i-th step is an edge. -/
def edgeB (E : List (List Nat)) (l : List Int) (i : Nat) : Bool := (gi E (l.getD i 0).toNat).contains (l.getD (i + 1) 0)
open Classical in
/-- The error of a walk. -/
noncomputable def ptC (E : List (List Nat)) (l : List Int) : Nat := if lstC E.length l ≠ 0 then lstC E.length l else if ∀ i, i + 1 < l.length → edgeB E l i = true then 0 else 18
theorem ptC_list {E : List (List Nat)} {l : List Int} (h : lstC E.length l ≠ 0) : ptC E l = lstC E.length l := by unfold ptC; rw [if_pos h]
theorem ptC_ok {E : List (List Nat)} {l : List Int} (h : lstC E.length l = 0) (h2 : ∀ i, i + 1 < l.length → edgeB E l i = true) : ptC E l = 0 := by unfold ptC; rw [if_neg (by simp [h]), if_pos h2]
theorem ptC_no {E : List (List Nat)} {l : List Int} {i : Nat} (h : lstC E.length l = 0) (hi : i + 1 < l.length) (h2 : edgeB E l i = false) : ptC E l = 18 := by
  unfold ptC; rw [if_neg (by simp [h]), if_neg]
  intro h3
  rw [h3 i hi] at h2
  cases h2
theorem lstC_zero {n : Nat} {l : List Int} (h : lstC n l = 0) : 0 < l.length ∧ ∀ x ∈ l, 0 ≤ x ∧ x < n := by
  unfold lstC at h
  split at h
  · cases h
  · rename_i h0
    split at h
    · cases h
    · rename_i h1
      refine ⟨by omega, fun x hx => ?_⟩
      have h2 : l.any (fun x => !hasB n x) = false := by simpa using h1
      have := (List.any_eq_false.1 h2) x hx
      unfold hasB at this
      simpa using this

end Go.Proofs.YtpkjdnplmgfbbaaGreatDoor
