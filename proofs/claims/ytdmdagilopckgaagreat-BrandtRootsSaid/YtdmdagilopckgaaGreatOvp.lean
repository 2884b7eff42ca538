/- Package brandt: quotients (plain). -/
import Derived.Test.YtdmdagilopckgaaGreatRest
namespace Go.Proofs.YtdmdagilopckgaaGreat
open Go.RowKit

/-- The quotient with integer coefficients: p is what is left, o what has been found. -/
def ovF (g : List Int) : Nat → List Int → List Int → Option (List Int)
  | 0, p, o => if p = [] then some (tz o) else none
  | k + 1, p, o =>
    if g.length ≤ p.length then
      if ld p % ld g = 0 then ovF g k (ls p (ld p / ld g) g (p.length - g.length)) (o.set (p.length - g.length) (ld p / ld g)) else none
    else if p = [] then some (tz o) else none
def ov (f g : List Int) : Option (List Int) := ovF g f.length f (List.replicate (f.length + 1 - g.length) 0)

theorem ls_length_le (p : List Int) (y : Int) (q : List Int) (f : Nat) : (ls p y q f).length ≤ p.length := by
  have := tz_length_le (lsF y q f p)
  rw [lsF_length] at this
  exact this
theorem ls_down {p g : List Int} (h : g.length ≤ p.length) (h0 : 0 < g.length) (hd : ld p % ld g = 0) : (ls p (ld p / ld g) g (p.length - g.length)).length < p.length := by
  have hl : (lsF (ld p / ld g) g (p.length - g.length) p).length = p.length := lsF_length _ _ _ _
  have := tz_length_lt (l := lsF (ld p / ld g) g (p.length - g.length) p) (by omega) (by
    show gz _ (_ - 1) = 0
    rw [hl, lsF_gz _ _ _ _ _ (by omega), if_pos (by omega), show p.length - 1 - (p.length - g.length) = g.length - 1 by omega]
    show ld p - ld p / ld g * ld g = 0
    have := Int.mul_ediv_add_emod (ld p) (ld g)
    rw [Int.mul_comm] at this
    omega)
  rw [hl] at this
  exact this
theorem ovF_enough {g : List Int} (hg : 0 < g.length) : ∀ (k m : Nat) (p o : List Int), p.length ≤ k → p.length ≤ m → ovF g k p o = ovF g m p o := by
  intro k
  induction k with
  | zero =>
    intro m p o h1 h2
    cases m with
    | zero => rfl
    | succ m =>
      obtain rfl : p = [] := List.eq_nil_of_length_eq_zero (by omega)
      rw [ovF, ovF, if_neg (show ¬ g.length ≤ ([] : List Int).length from by simp only [List.length_nil]; omega)]
  | succ k ih =>
    intro m p o h1 h2
    cases m with
    | zero =>
      obtain rfl : p = [] := List.eq_nil_of_length_eq_zero (by omega)
      rw [ovF, ovF, if_neg (show ¬ g.length ≤ ([] : List Int).length from by simp only [List.length_nil]; omega)]
    | succ m =>
      rw [ovF, ovF]
      split
      · rename_i h
        split
        · rename_i hd
          have := ls_down h hg hd
          exact ih _ _ _ (by omega) (by omega)
        · rfl
      · rfl
theorem ovF_step {g p o : List Int} (hg : 0 < g.length) (h : g.length ≤ p.length) (hd : ld p % ld g = 0) : ovF g p.length p o = ovF g (ls p (ld p / ld g) g (p.length - g.length)).length (ls p (ld p / ld g) g (p.length - g.length)) (o.set (p.length - g.length) (ld p / ld g)) := by
  obtain ⟨k, hk⟩ : ∃ k, p.length = k + 1 := ⟨p.length - 1, by omega⟩
  have h1 := ls_down h hg hd
  conv => lhs; rw [hk, ovF, if_pos h, if_pos hd]
  exact ovF_enough hg _ _ _ _ (by omega) (Nat.le_refl _)
theorem ovF_no {g p o : List Int} (hg : 0 < g.length) (h : g.length ≤ p.length) (hd : ¬ ld p % ld g = 0) : ovF g p.length p o = none := by
  obtain ⟨k, hk⟩ : ∃ k, p.length = k + 1 := ⟨p.length - 1, by omega⟩
  rw [hk, ovF, if_pos h, if_neg hd]
theorem ovF_end {g p o : List Int} (h : ¬ g.length ≤ p.length) : ovF g p.length p o = if p = [] then some (tz o) else none := by
  rcases hk : p.length with _ | k
  · rw [ovF]
  · rw [ovF, if_neg h]
theorem Bd.ls {B C : Nat} {p g : List Int} {y : Int} {f : Nat} (hp : Bd B p) (hg : Bd C g) (hy : wl y.natAbs ≤ B) (hf : f + g.length ≤ p.length) : Bd (B + (C + 1)) (ls p y g f) :=
  Bd.tz (l := lsF _ _ _ _) fun x hx => Nat.le_trans (wl_lsF y g f p hp hg hy hf x hx) (by omega)
theorem Bd.set {B i : Nat} {l : List Int} {x : Int} (h : Bd B l) (hx : wl x.natAbs ≤ B) : Bd B (l.set i x) := fun y hy => by
  rcases List.mem_or_eq_of_mem_set hy with h1 | rfl
  · exact h y h1
  · exact hx
end Go.Proofs.YtdmdagilopckgaaGreat
