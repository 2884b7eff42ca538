/- Arrays of integers of the call's own. -/
import Derived.Test.YtpkjdnplmgfbbaaDoorPush
namespace Go.Proofs.YtpkjdnplmgfbbaaDoor
open Go.RowKit

theorem NI.below {w w' : World} {v : Value} {x : Int} (h : NI w v x) (hb : Below w.heap.size w w') : NI w' v x := NIntV.below h hb

/-- Block g is an array of the call's own that holds the integers l, in normal form. -/
def IArr (w : World) (g : Nat) (l : List Int) : Prop := ∃ xs, Arr w g 46 xs ∧ Cs w (· ≠ g) xs l
section
variable {w w' : World} {g : Nat} {l : List Int}
theorem IArr.lt (h : IArr w g l) : g < w.heap.size := by obtain ⟨xs, h1, _⟩ := h; exact h1.lt
theorem IArr.below (h : IArr w g l) (hb : Below w.heap.size w w') : IArr w' g l := by obtain ⟨xs, h1, h2⟩ := h; exact ⟨xs, h1.below' hb, h2.below hb⟩
theorem IArr.frozen (h : IArr w g l) (i : Nat) : w.frozen? ⟨g, i, none⟩ = false := by obtain ⟨xs, h1, _⟩ := h; exact h1.frozen i
theorem IArr.cells (h : IArr w g l) {j : Nat} (hj : j < l.length) : ∃ neg B m k, w.cell? ⟨g, j * 2, none⟩ = some (.bool neg) ∧ w.cell? ⟨g, j * 2 + 1, none⟩ = some (.slice B m k) ∧ NIntV w (· ≠ g) (.agg #[.bool neg, .slice B m k]) (gz l j) := by
  obtain ⟨xs, h1, h2⟩ := h
  obtain ⟨neg, B, m, k, e0, e1, e2⟩ := h2.2 j hj
  exact ⟨neg, B, m, k, (h1.cell _).trans e0, (h1.cell _).trans e1, e2⟩
theorem IArr.pl (h : IArr w g l) {D : Nat → Prop} (hd : D g) (hm : l.length ≤ maxLen) : Pl NI w D (some ⟨g, 0, none⟩) l.length l.length l := by
  obtain ⟨xs, h1, h2⟩ := h
  exact pl_of_arr h1 h2 hd rfl hm
theorem Cs.setCell {D : Nat → Prop} {xs : List Value} (h : Cs w D xs l) {p : Addr} (hp : ¬ D p.block) (u : Value) : Cs (w.setCell p u) D xs l :=
  h.keep fun b o hd _ => World.cell?_setCell_other w p ⟨b, o, none⟩ u (fun e => hp (by subst e; exact hd))
theorem IArr.set (h : IArr w g l) {i : Nat} (hi : i < l.length) {neg : Bool} {B : Option Addr} {m k : Nat} {x : Int} (hx : NIntV w (· ≠ g) (.agg #[.bool neg, .slice B m k]) x) :
    IArr ((w.setCell ⟨g, i * 2, none⟩ (.bool neg)).setCell ⟨g, i * 2 + 1, none⟩ (.slice B m k)) g (l.set i x) := by
  obtain ⟨xs, h1, h2⟩ := h
  exact ⟨_, (h1.set_ _ _).set_ _ _, ((h2.set hi hx).setCell (by simp) _).setCell (by simp) _⟩
theorem toList_madeCells_two (z z' : Value) (n : Nat) : (madeCells #[z, z'] (n * 2)).toList = (List.replicate n [z, z']).flatten := by
  apply List.ext_getElem?
  intro i
  have hsz := size_madeCells #[z, z'] (n * 2)
  have hfl : (List.replicate n [z, z']).flatten.length = n * 2 := by simp
  rcases Nat.lt_or_ge i (n * 2) with hi | hi
  · have h1 : (madeCells #[z, z'] (n * 2)).toList[i]? = some (#[z, z'][i % 2]!) := by
      simp [madeCells, hi]
    rw [h1]
    clear h1 hsz hfl
    induction n generalizing i with
    | zero => omega
    | succ n ih =>
      rw [List.replicate_succ, List.flatten_cons]
      rcases Nat.lt_or_ge i 2 with h2 | h2
      · rw [List.getElem?_append_left (by simpa using h2)]
        rcases i with _ | _ | i
        · rfl
        · rfl
        · omega
      · rw [List.getElem?_append_right (by simpa using h2)]
        have e : i % 2 = (i - 2) % 2 := by omega
        rw [e]
        exact ih (i - 2) (by omega)
  · rw [List.getElem?_eq_none (by rw [Array.length_toList, hsz]; exact hi), List.getElem?_eq_none (by rw [hfl]; exact hi)]
theorem IArr.made {n : Nat} (h : Arr w g 46 (madeCells (Value.agg #[.bool false, .slice none 0 0]).cells (n * 2)).toList) : IArr w g (List.replicate n 0) := by
  rw [show (Value.agg #[.bool false, .slice none 0 0]).cells = #[.bool false, .slice none 0 0] from rfl, toList_madeCells_two] at h
  exact ⟨_, h, Cs.zeros n⟩
end

end Go.Proofs.YtpkjdnplmgfbbaaDoor
