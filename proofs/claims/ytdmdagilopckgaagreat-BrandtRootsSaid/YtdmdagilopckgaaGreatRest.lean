/- Package brandt: remainders. -/
import Derived.Test.YtdmdagilopckgaaGreatB2
import Derived.Test.YtdmdagilopckgaaGreatRg
namespace Go.Proofs.YtdmdagilopckgaaGreat
open Go.RowKit

theorem btr {a b c : World} (h1 : Below a.heap.size a b) (h2 : Below b.heap.size b c) : Below a.heap.size a c := h1.trans (h2.mono h1.size)
/-- A list of integers in memory, in normal forms. -/
abbrev PL (w : World) (v : Value) (l : List Int) : Prop := PV w (fun _ => True) v l
/-- A bound of the words of a list's numbers. -/
def Bd (B : Nat) (l : List Int) : Prop := ∀ x ∈ l, wl x.natAbs ≤ B
theorem Bd.mono {B C : Nat} {l : List Int} (h : Bd B l) (hc : B ≤ C) : Bd C l := fun x hx => Nat.le_trans (h x hx) hc
theorem Bd.pp {B : Nat} {l : List Int} (h : Bd B l) : Bd B (pp l) := wl_pp h
theorem Bd.tz {B : Nat} {l : List Int} (h : Bd B l) : Bd B (tz l) := fun x hx => h x (tz_mem hx)

/-- One step of a remainder: f times the size of g's leading coefficient, less a multiple of g. -/
def stp (f g : List Int) : List Int := ls (f.map (· * ((ld g).natAbs : Int))) (if ld g < 0 then -(ld f) else ld f) g (f.length - g.length)
/-- The remainder; r is what is done behind each step. -/
def rsF (r : List Int → List Int) : Nat → List Int → List Int → List Int
  | 0, f, _ => f
  | k + 1, f, g => if g.length ≤ f.length then rsF r k (r (stp f g)) g else f
def rs (f g : List Int) : List Int := rsF pp f.length f g

theorem gz_map {l : List Int} {f : Int → Int} {j : Nat} (hj : j < l.length) : gz (l.map f) j = f (gz l j) := by
  have h1 : (l.map f)[j]? = some (f (gz l j)) := by rw [List.getElem?_map, gz_lt hj]; rfl
  have h2 := gz_lt (l := l.map f) (j := j) (by rw [List.length_map]; exact hj)
  rw [h1] at h2
  injection h2 with h2
  exact h2.symm
theorem tz_eq_self {l : List Int} (h : l ≠ [] → ld l ≠ 0) : tz l = l := by
  rcases Nat.eq_zero_or_pos l.length with h0 | h0
  · rw [List.eq_nil_of_length_eq_zero h0]; rfl
  · have h1 : l.length - 1 < l.length := by omega
    have h2 := tz_take_ne h1 (h (by intro e; rw [e] at h0; simp at h0))
    rw [show l.length - 1 + 1 = l.length by omega, List.take_length] at h2
    exact h2
theorem ld_of_tz {l : List Int} (h : tz l = l) (h0 : l ≠ []) : ld l ≠ 0 := by
  intro e
  have hp : 0 < l.length := List.length_pos_iff.2 h0
  have h1 : l.length - 1 < l.length := by omega
  have h2 := tz_take_zero h1 e
  rw [show l.length - 1 + 1 = l.length by omega, List.take_length, h] at h2
  have h3 := tz_length_le (l.take (l.length - 1))
  rw [← h2, List.length_take] at h3
  omega
theorem ct_cons_ne {l : List Int} {x : Int} (h : x ∈ l) (h0 : x ≠ 0) : ct l ≠ 0 := by
  have key : ∀ (l : List Int) (g : Int), (g ≠ 0 ∨ ∃ x ∈ l, x ≠ 0) → l.foldl (fun g x => (Int.gcd g x : Int)) g ≠ 0 := by
    intro l
    induction l with
    | nil => intro g hg; rcases hg with hg | ⟨x, hx, _⟩; exact hg; cases hx
    | cons y r ih =>
      intro g hg
      refine ih _ ?_
      rcases hg with hg | ⟨x, hx, hx0⟩
      · left
        intro e
        have := Int.gcd_eq_zero_iff.1 (Int.ofNat_eq_zero.1 e)
        exact hg this.1
      · rcases List.mem_cons.1 hx with rfl | hx
        · left
          intro e
          have := Int.gcd_eq_zero_iff.1 (Int.ofNat_eq_zero.1 e)
          exact hx0 this.2
        · exact .inr ⟨x, hx, hx0⟩
  exact key l 0 (.inr ⟨x, h, h0⟩)
theorem ct_of_tz {l : List Int} (h : tz l = l) (h0 : l ≠ []) : ct l ≠ 0 := ct_cons_ne (ld_mem (List.length_pos_iff.2 h0)) (ld_of_tz h h0)
theorem tz_scale {l : List Int} {s : Int} (h : tz l = l) (hs : s ≠ 0) : tz (l.map (· * s)) = l.map (· * s) := by
  refine tz_eq_self fun h0 => ?_
  have hl : l ≠ [] := fun e => h0 (by rw [e]; rfl)
  have hp : 0 < l.length := List.length_pos_iff.2 hl
  unfold ld
  rw [List.length_map, gz_map (by omega)]
  exact Int.mul_ne_zero (ld_of_tz h hl) hs
theorem tz_pp (l : List Int) : tz (pp l) = pp l := tz_tz _
theorem tz_ls (p : List Int) (y : Int) (q : List Int) (f : Nat) : tz (ls p y q f) = ls p y q f := tz_tz _
theorem tz_length_lt {l : List Int} (h0 : 0 < l.length) (h : ld l = 0) : (tz l).length < l.length := by
  have h1 : l.length - 1 < l.length := by omega
  have h2 := tz_take_zero h1 h
  rw [show l.length - 1 + 1 = l.length by omega, List.take_length] at h2
  have h3 := tz_length_le (l.take (l.length - 1))
  rw [← h2, List.length_take] at h3
  omega
theorem sign_mul (a b : Int) : a * (b.natAbs : Int) - (if b < 0 then -a else a) * b = 0 := by
  split
  · rw [show (b.natAbs : Int) = -b by omega, Int.neg_mul, Int.mul_neg]; omega
  · rw [show (b.natAbs : Int) = b by omega]; omega
theorem stp_length {f g : List Int} (h : g.length ≤ f.length) (h0 : 0 < g.length) : (stp f g).length < f.length := by
  have hl : (lsF (if ld g < 0 then -(ld f) else ld f) g (f.length - g.length) (f.map (· * ((ld g).natAbs : Int)))).length = f.length := by rw [lsF_length, List.length_map]
  have := tz_length_lt (l := lsF (if ld g < 0 then -(ld f) else ld f) g (f.length - g.length) (f.map (· * ((ld g).natAbs : Int)))) (by omega) (by
    show gz _ (_ - 1) = 0
    rw [hl, lsF_gz _ _ _ _ _ (by rw [List.length_map]; omega), if_pos (by omega), gz_map (by omega), show f.length - 1 - (f.length - g.length) = g.length - 1 by omega]
    exact sign_mul _ _)
  rw [hl] at this
  exact this
theorem Bd.map {B C : Nat} {l : List Int} {s : Int} (h : Bd B l) (hs : wl s.natAbs ≤ C) : Bd (B + C) (l.map (· * s)) := by
  intro x hx
  obtain ⟨y, hy, rfl⟩ := List.mem_map.1 hx
  have h1 := wl_mul y.natAbs s.natAbs
  rw [← Int.natAbs_mul] at h1
  have h2 := h y hy
  exact Nat.le_trans h1 (by omega)
theorem Bd.stp {B C : Nat} {f g : List Int} (hf : Bd B f) (hg : Bd C g) (h : g.length ≤ f.length) (h0 : 0 < g.length) : Bd (B + (C + 1)) (stp f g) := by
  have h1 : Bd (B + C) (f.map (· * ((ld g).natAbs : Int))) := hf.map (by simpa using hg _ (ld_mem h0))
  have h2 : wl (if ld g < 0 then -(ld f) else ld f).natAbs ≤ B := by
    have := hf _ (ld_mem (show 0 < f.length by omega))
    split
    · rw [Int.natAbs_neg]; exact this
    · exact this
  have h3 := wl_lsF (B := B + C) (C := C) (Y := B) _ g (f.length - g.length) _ h1 hg h2 (by rw [List.length_map]; omega)
  exact Bd.tz (l := lsF _ _ _ _) fun x hx => Nat.le_trans (h3 x hx) (by omega)

theorem rsF_enough {r : List Int → List Int} (hr : ∀ l, (r l).length ≤ l.length) {g : List Int} (hg : 0 < g.length) : ∀ (k m : Nat) (f : List Int), f.length ≤ k → f.length ≤ m → rsF r k f g = rsF r m f g := by
  intro k
  induction k with
  | zero =>
    intro m f h1 h2
    cases m with
    | zero => rfl
    | succ m => rw [rsF, rsF, if_neg (by omega)]
  | succ k ih =>
    intro m f h1 h2
    cases m with
    | zero => rw [rsF, rsF, if_neg (by omega)]
    | succ m =>
      rw [rsF, rsF]
      split
      · rename_i h
        have := stp_length h hg
        have := hr (stp f g)
        exact ih _ _ (by omega) (by omega)
      · rfl
theorem rsF_step {r : List Int → List Int} (hr : ∀ l, (r l).length ≤ l.length) {f g : List Int} (hg : 0 < g.length) (h : g.length ≤ f.length) : rsF r f.length f g = rsF r (r (stp f g)).length (r (stp f g)) g := by
  obtain ⟨k, hk⟩ : ∃ k, f.length = k + 1 := ⟨f.length - 1, by omega⟩
  have h1 := stp_length h hg
  have h2 := hr (stp f g)
  rw [hk, rsF, if_pos h]
  exact rsF_enough hr hg _ _ _ (by omega) (Nat.le_refl _)
theorem rsF_stop {r : List Int → List Int} {f g : List Int} (h : f.length < g.length) (k : Nat) : rsF r k f g = f := by
  cases k with
  | zero => rfl
  | succ k => rw [rsF, if_neg (by omega)]
theorem rs_step {f g : List Int} (hg : 0 < g.length) (h : g.length ≤ f.length) : rs f g = rs (pp (stp f g)) g := rsF_step pp_length hg h
theorem rs_stop {f g : List Int} (h : f.length < g.length) : rs f g = f := rsF_stop h _
theorem rsF_length {r : List Int → List Int} (hr : ∀ l, (r l).length ≤ l.length) {g : List Int} (hg : 0 < g.length) : ∀ (k : Nat) (f : List Int), f.length ≤ k → (rsF r k f g).length < g.length := by
  intro k
  induction k with
  | zero => intro f h; rw [rsF]; omega
  | succ k ih =>
    intro f h
    rw [rsF]
    split
    · rename_i h2
      have := stp_length h2 hg
      have := hr (stp f g)
      exact ih _ (by omega)
    · omega
theorem rs_length (f : List Int) {g : List Int} (hg : 0 < g.length) : (rs f g).length < g.length := rsF_length pp_length hg _ _ (Nat.le_refl _)
theorem tz_rsF {r : List Int → List Int} (hr : ∀ l, tz l = l → tz (r l) = r l) {g : List Int} : ∀ (k : Nat) (f : List Int), tz f = f → tz (rsF r k f g) = rsF r k f g := by
  intro k
  induction k with
  | zero => intro f h; exact h
  | succ k ih =>
    intro f h
    rw [rsF]
    split
    · exact ih _ (hr _ (tz_ls _ _ _ _))
    · exact h
theorem tz_rs {f g : List Int} (h : tz f = f) : tz (rs f g) = rs f g := tz_rsF (fun _ _ => tz_pp _) _ _ h
theorem Bd.rsF {r : List Int → List Int} (hr : ∀ l, (r l).length ≤ l.length) (hb : ∀ B l, Bd B l → Bd B (r l)) {g : List Int} (hg : 0 < g.length) {C : Nat} (hc : Bd C g) : ∀ (k : Nat) (f : List Int) (B : Nat), f.length ≤ k → Bd B f → Bd (B + (f.length + 1 - g.length) * (C + 1)) (rsF r k f g) := by
  intro k
  induction k with
  | zero => intro f B h hf; exact hf.mono (by omega)
  | succ k ih =>
    intro f B h hf
    rw [Go.Proofs.YtdmdagilopckgaaGreat.rsF]
    split
    · rename_i h2
      have h3 := stp_length h2 hg
      have h4 := hr (Go.Proofs.YtdmdagilopckgaaGreat.stp f g)
      refine (ih _ _ (by omega) (hb _ _ (hf.stp hc h2 hg))).mono ?_
      obtain ⟨m, hm⟩ : ∃ m, f.length + 1 - g.length = m + 1 := ⟨f.length - g.length, by omega⟩
      rw [hm]
      have h5 : (r (Go.Proofs.YtdmdagilopckgaaGreat.stp f g)).length + 1 - g.length ≤ m := by omega
      have h6 := Nat.mul_le_mul_right (C + 1) h5
      rw [Nat.succ_mul]
      omega
    · exact hf.mono (by omega)
theorem Bd.rs {f g : List Int} {B C : Nat} (hg : 0 < g.length) (hc : Bd C g) (hf : Bd B f) : Bd (B + (f.length + 1 - g.length) * (C + 1)) (rs f g) := Bd.rsF pp_length (fun _ _ h => h.pp) hg hc _ _ _ (Nat.le_refl _) hf
end Go.Proofs.YtdmdagilopckgaaGreat
