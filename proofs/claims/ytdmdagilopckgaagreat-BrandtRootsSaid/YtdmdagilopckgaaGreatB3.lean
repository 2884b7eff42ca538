/- Polynomials as lists: values, derivatives, sums, products; lists with the same values (plain Lean). Polynomials as lists: remainders, greatest common divisors, divisibility up to constants (plain Lean). The squarefree part of a polynomial and its derivative have no common divisor but constants (plain Lean). Exact quotients: primes, contents of products, leading coefficients (plain Lean). -/
import Derived.Test.YtdmdagilopckgaaGreatEu
namespace Go.Proofs.YtdmdagilopckgaaGreat
open Go.RowKit

/-- The value at x. -/
def ev : List Int → Int → Int
  | [], _ => 0
  | c :: r, x => c + x * ev r x
/-- The derivative's value at x. -/
def de : List Int → Int → Int
  | [], _ => 0
  | _ :: r, x => ev r x + x * de r x
theorem ev_nil (x : Int) : ev [] x = 0 := rfl
theorem ev_cons (c : Int) (r : List Int) (x : Int) : ev (c :: r) x = c + x * ev r x := rfl
theorem ev_dvF (i : Nat) (l : List Int) (x : Int) : ev (dvF i l) x = i * ev l x + x * de l x := by
  induction l generalizing i with
  | nil => simp [dvF, ev, de]
  | cons c r ih => rw [dvF, ev, ih, ev, de]; rw [Int.natCast_succ]; grind
theorem ev_append_zero (l : List Int) (x : Int) : ev (l ++ [0]) x = ev l x := by
  induction l with
  | nil => simp [ev]
  | cons c r ih => rw [List.cons_append, ev, ih, ev]
theorem de_append_zero (l : List Int) (x : Int) : de (l ++ [0]) x = de l x := by
  induction l with
  | nil => simp [de, ev]
  | cons c r ih => rw [List.cons_append, de, ih, de, ev_append_zero]
/-- What does not see zeros at the end. -/
theorem tz_law {α : Type} (F : List Int → α) (hF : ∀ l, F (l ++ [0]) = F l) (l : List Int) : F (tz l) = F l := by
  have key : ∀ (n : Nat) (l : List Int), l.length = n → F (tz l) = F l := by
    intro n
    induction n with
    | zero => intro l h; rw [List.eq_nil_of_length_eq_zero h]; rfl
    | succ n ih =>
      intro l h
      have e : l = l.take n ++ [gz l n] := by
        rw [← take_succ_gz (by omega), List.take_of_length_le (by omega)]
      by_cases h0 : gz l n = 0
      · rw [h0] at e
        rw [e, tz_snoc_zero, hF]
        exact ih _ (by rw [List.length_take]; omega)
      · rw [e, tz_snoc_ne _ _ h0]
  exact key _ l rfl
theorem ev_tz (l : List Int) (x : Int) : ev (tz l) x = ev l x := tz_law (fun l => ev l x) (fun l => ev_append_zero l x) l
theorem de_tz (l : List Int) (x : Int) : de (tz l) x = de l x := tz_law (fun l => de l x) (fun l => de_append_zero l x) l
theorem gz_append_zero (l : List Int) (j : Nat) : gz (l ++ [0]) j = gz l j := by
  rcases Nat.lt_trichotomy j l.length with h | h | h
  · exact gz_append_left h
  · subst h; rw [gz_append_at, gz_ge (Nat.le_refl _)]
  · rw [gz_ge (by simp; omega), gz_ge (by omega)]
theorem gz_tz (l : List Int) (j : Nat) : gz (tz l) j = gz l j := tz_law (fun l => gz l j) (fun l => gz_append_zero l j) l
theorem ev_dv (l : List Int) (x : Int) : ev (dv l) x = de l x := by
  unfold dv
  rw [ev_tz]
  cases l with
  | nil => rfl
  | cons c r => rw [List.drop_succ_cons, List.drop_zero, ev_dvF, de]; simp

def addL : List Int → List Int → List Int
  | [], b => b
  | a, [] => a
  | c :: r, d :: s => (c + d) :: addL r s
def mulL : List Int → List Int → List Int
  | [], _ => []
  | c :: r, b => addL (b.map (· * c)) (0 :: mulL r b)
def monoL (y : Int) (k : Nat) : List Int := List.replicate k 0 ++ [y]
theorem ev_addL : ∀ (a b : List Int) (x : Int), ev (addL a b) x = ev a x + ev b x
  | [], b, x => by rw [addL, ev]; omega
  | c :: r, [], x => by rw [addL, ev_nil]; omega; simp
  | c :: r, d :: s, x => by rw [addL, ev, ev, ev, ev_addL r s x]; grind
theorem de_addL : ∀ (a b : List Int) (x : Int), de (addL a b) x = de a x + de b x
  | [], b, x => by rw [addL, de]; omega
  | c :: r, [], x => by rw [addL]; simp [de]; simp
  | c :: r, d :: s, x => by rw [addL, de, de, de, de_addL r s x, ev_addL]; grind
theorem ev_map (s : Int) (l : List Int) (x : Int) : ev (l.map (· * s)) x = ev l x * s := by
  induction l with
  | nil => simp [ev]
  | cons c r ih => rw [List.map_cons, ev, ih, ev]; grind
theorem de_map (s : Int) (l : List Int) (x : Int) : de (l.map (· * s)) x = de l x * s := by
  induction l with
  | nil => simp [de]
  | cons c r ih => rw [List.map_cons, de, ih, de, ev_map]; grind
theorem ev_neg (l : List Int) (x : Int) : ev (l.map (- ·)) x = - ev l x := by
  induction l with
  | nil => simp [ev]
  | cons c r ih => rw [List.map_cons, ev, ih, ev]; grind
theorem ev_mulL (a b : List Int) (x : Int) : ev (mulL a b) x = ev a x * ev b x := by
  induction a with
  | nil => simp [mulL, ev]
  | cons c r ih => rw [mulL, ev_addL, ev_map, ev_cons, ih, ev_cons]; grind
theorem de_mulL (a b : List Int) (x : Int) : de (mulL a b) x = de a x * ev b x + ev a x * de b x := by
  induction a with
  | nil => simp [mulL, de, ev]
  | cons c r ih => rw [mulL, de_addL, de_map, de, ih, ev_mulL, de, ev]; grind
theorem ev_mono (y : Int) (k : Nat) (x : Int) : ev (monoL y k) x = y * x ^ k := by
  unfold monoL
  induction k with
  | zero => simp [ev]
  | succ k ih => rw [List.replicate_succ, List.cons_append, ev, ih, Int.pow_succ]; grind

/-- A bound of the coefficients' sizes together. -/
def sz : List Int → Nat
  | [] => 0
  | c :: r => c.natAbs + sz r
theorem tz_cons {c : Int} {r : List Int} (h : tz (c :: r) = c :: r) : tz r = r ∧ (r = [] → c ≠ 0) := by
  have h1 : ld (c :: r) ≠ 0 := ld_of_tz h (by simp)
  constructor
  · refine tz_eq_self fun h0 => ?_
    unfold ld at h1 ⊢
    have hl : 0 < r.length := List.length_pos_iff.2 h0
    rw [List.length_cons, show r.length + 1 - 1 = (r.length - 1) + 1 by omega, gz_cons_succ] at h1
    exact h1
  · rintro rfl
    simpa [ld, gz] using h1
/-- Behind the bound a polynomial is not 0. -/
theorem ev_ne {l : List Int} (h : tz l = l) (h0 : l ≠ []) {x : Int} (hx : (sz l : Int) < x) : ev l x ≠ 0 := by
  induction l with
  | nil => exact absurd rfl h0
  | cons c r ih =>
    obtain ⟨h1, h2⟩ := tz_cons h
    rw [ev_cons]
    rw [sz] at hx
    by_cases hr : r = []
    · subst hr; rw [ev_nil]; have := h2 rfl; omega
    · have h3 := ih h1 hr (by omega)
      intro h4
      have h5 : (x * ev r x).natAbs = c.natAbs := by omega
      rw [Int.natAbs_mul] at h5
      have h6 : x.natAbs * 1 ≤ x.natAbs * (ev r x).natAbs := Nat.mul_le_mul_left _ (by omega)
      omega
/-- It is large behind the bound, if it is no constant. -/
theorem ev_big {l : List Int} (h : tz l = l) (h0 : 2 ≤ l.length) {x : Int} (hx : (sz l : Int) < x) : x - sz l ≤ (ev l x).natAbs := by
  cases l with
  | nil => simp at h0
  | cons c r =>
    obtain ⟨h1, h2⟩ := tz_cons h
    rw [sz] at hx ⊢
    have hr : r ≠ [] := fun e => by rw [e] at h0; simp at h0
    have h3 := ev_ne h1 hr (x := x) (by omega)
    rw [ev_cons]
    have h5 : (x * ev r x).natAbs = x.natAbs * (ev r x).natAbs := Int.natAbs_mul _ _
    have h6 : x.natAbs * 1 ≤ x.natAbs * (ev r x).natAbs := Nat.mul_le_mul_left _ (by omega)
    omega
theorem ev_zero_all : ∀ (l : List Int) (N : Int), (∀ x, N ≤ x → ev l x = 0) → ∀ j, gz l j = 0
  | [], _, _, j => gz_nil j
  | c :: r, N, h, j => by
    have hc : c = 0 := by
      have h1 := h (max N (c.natAbs + 1)) (by omega)
      rw [ev_cons] at h1
      have hx : (max N ((c.natAbs : Int) + 1)) * ev r (max N (c.natAbs + 1)) = -c := by omega
      by_cases h0 : ev r (max N (c.natAbs + 1)) = 0
      · rw [h0] at hx; omega
      · have h5 : ((max N ((c.natAbs : Int) + 1)) * ev r (max N (c.natAbs + 1))).natAbs = c.natAbs := by omega
        rw [Int.natAbs_mul] at h5
        have h6 : (max N ((c.natAbs : Int) + 1)).natAbs * 1 ≤ (max N ((c.natAbs : Int) + 1)).natAbs * (ev r (max N (c.natAbs + 1))).natAbs := Nat.mul_le_mul_left _ (by omega)
        omega
    have hr := ev_zero_all r (max N 1) (fun x hx => by
      have h1 := h x (by omega)
      rw [ev_cons, hc] at h1
      rcases Int.mul_eq_zero.1 (show x * ev r x = 0 by omega) with h2 | h2
      · omega
      · exact h2)
    cases j with
    | zero => exact hc
    | succ j => exact hr j
theorem ev_ext_ge {a b : List Int} (N : Int) (h : ∀ x, N ≤ x → ev a x = ev b x) (j : Nat) : gz a j = gz b j := by
  have h1 := ev_zero_all (addL a (b.map (· * (-1)))) N (fun x hx => by rw [ev_addL, ev_map, h x hx]; omega) j
  have key : ∀ (a b : List Int) (j : Nat), gz (addL a b) j = gz a j + gz b j := by
    intro a
    induction a with
    | nil => intro b j; rw [addL, gz_nil]; omega
    | cons c r ih =>
      intro b j
      cases b with
      | nil => rw [addL, gz_nil]; omega; simp
      | cons d s => cases j with
        | zero => rfl
        | succ j => exact ih s j
  rw [key] at h1
  have hm : gz (b.map (· * (-1))) j = - gz b j := by
    rcases Nat.lt_or_ge j b.length with h2 | h2
    · rw [gz_map h2]; omega
    · rw [gz_ge (by simpa using h2), gz_ge h2]; rfl
  omega
theorem ev_gz {a b : List Int} (h : ∀ j, gz a j = gz b j) (x : Int) : ev a x = ev b x := by
  have key : ∀ (n : Nat) (a b : List Int), a.length ≤ n → (∀ j, gz a j = gz b j) → ∀ x, ev a x = ev b x := by
    intro n
    have hz : ∀ (b : List Int), (∀ j, gz b j = 0) → ∀ x, ev b x = 0 := by
      intro b
      induction b with
      | nil => intro _ x; rfl
      | cons c r ih =>
        intro h x
        rw [ev_cons, ih (fun j => h (j + 1)) x, show c = 0 from h 0]
        omega
    induction n with
    | zero =>
      intro a b h0 h x
      obtain rfl := List.eq_nil_of_length_eq_zero (Nat.le_zero.1 h0)
      rw [ev_nil, hz b (fun j => (h j).symm.trans (gz_nil j))]
    | succ n ih =>
      intro a b h0 h x
      cases a with
      | nil => rw [ev_nil, hz b (fun j => (h j).symm.trans (gz_nil j))]
      | cons c r =>
        cases b with
        | nil => rw [ev_nil, hz (c :: r) (fun j => (h j).trans (gz_nil j))]
        | cons d s =>
          rw [ev_cons, ev_cons, ih r s (by simpa using h0) (fun j => h (j + 1)) x, show c = d from h 0]
  exact key _ a b (Nat.le_refl _) h x
/-- Lists with the same values from somewhere on are equal but for zeros at the end. -/
theorem tz_ext {a b : List Int} (h : ∀ j, gz a j = gz b j) : tz a = tz b := by
  have key : ∀ (a b : List Int), tz a = a → tz b = b → (∀ j, gz a j = gz b j) → a.length ≤ b.length → a = b := by
    intro a b ha hb h hl
    rcases Nat.lt_or_ge a.length b.length with h1 | h1
    · have h2 := ld_of_tz hb (by intro e; rw [e] at h1; simp at h1)
      unfold ld at h2
      rw [← h, gz_ge (by omega)] at h2
      exact absurd rfl h2
    · exact gz_ext (by omega) (fun j _ => h j)
  have h' : ∀ j, gz (tz a) j = gz (tz b) j := fun j => by rw [gz_tz, gz_tz]; exact h j
  rcases Nat.le_total (tz a).length (tz b).length with h1 | h1
  · exact key _ _ (tz_tz _) (tz_tz _) h' h1
  · exact (key _ _ (tz_tz _) (tz_tz _) (fun j => (h' j).symm) h1).symm
theorem ev_all {a b : List Int} (N : Int) (h : ∀ x, N ≤ x → ev a x = ev b x) (x : Int) : ev a x = ev b x := ev_gz (ev_ext_ge N h) x
theorem tz_ev {a b : List Int} (h : ∀ x, ev a x = ev b x) : tz a = tz b := tz_ext (ev_ext_ge 0 fun x _ => h x)
theorem de_ev {a b : List Int} (h : ∀ x, ev a x = ev b x) (x : Int) : de a x = de b x := by rw [← de_tz a, tz_ev h, de_tz]
/-- A factor other than 0 may be left out. -/
theorem ev_cancel {e a b : List Int} (h0 : tz e ≠ []) (h : ∀ x, ev e x * ev a x = ev e x * ev b x) (x : Int) : ev a x = ev b x :=
  ev_all ((sz (tz e) : Int) + 1) (fun x hx => by
    have h1 := ev_ne (tz_tz e) h0 (x := x) (by omega)
    rw [ev_tz] at h1
    exact Int.eq_of_mul_eq_mul_left h1 (h x)) x
end Go.Proofs.YtdmdagilopckgaaGreat

namespace Go.Proofs.YtdmdagilopckgaaGreat
open Go.RowKit

theorem ev_set (x v : Int) : ∀ (p : List Int) (f : Nat), f < p.length → ev (p.set f v) x = ev p x + (v - gz p f) * x ^ f
  | [], f, h => by simp at h
  | c :: r, 0, _ => by rw [List.set_cons_zero, ev, ev, gz_cons_zero, Int.pow_zero]; omega
  | c :: r, f + 1, h => by
    rw [List.set_cons_succ, ev, ev, gz_cons_succ, ev_set x v r f (by simpa using h), Int.pow_succ]
    grind
theorem ev_lsF (y x : Int) : ∀ (q : List Int) (f : Nat) (p : List Int), f + q.length ≤ p.length → ev (lsF y q f p) x = ev p x - y * x ^ f * ev q x
  | [], f, p, _ => by rw [lsF, ev_nil]; omega
  | c :: q, f, p, h => by
    rw [List.length_cons] at h
    rw [lsF, ev_lsF y x q (f + 1) _ (by rw [List.length_set]; omega), ev_set _ _ _ _ (by omega), ev, Int.pow_succ]
    grind
theorem ct_nonneg (l : List Int) : 0 ≤ ct l := by
  have key : ∀ (l : List Int) (g : Int), 0 ≤ g → 0 ≤ l.foldl (fun g x => (Int.gcd g x : Int)) g := by
    intro l
    induction l with
    | nil => intro g h; exact h
    | cons c r ih => intro g h; exact ih _ (Int.natCast_nonneg _)
  exact key l 0 (Int.le_refl _)
theorem ev_div {g : Int} {l : List Int} (h : ∀ x ∈ l, g ∣ x) (x : Int) : g * ev (l.map (· / g)) x = ev l x := by
  induction l with
  | nil => simp [ev]
  | cons c r ih =>
    rw [List.map_cons, ev, ev, ← ih fun y hy => h y (List.mem_cons_of_mem _ hy)]
    have := Int.mul_ediv_cancel' (h c (List.mem_cons_self ..))
    grind
theorem pp_ev (l : List Int) : ∃ k : Int, 0 < k ∧ ∀ x, k * ev (pp l) x = ev l x := by
  by_cases h0 : ct l = 0
  · refine ⟨1, by omega, fun x => ?_⟩
    have hz : ∀ y ∈ l, y = 0 := fun y hy => by have := ct_dvd hy; rw [h0] at this; exact Int.zero_dvd.1 this
    unfold pp
    rw [ev_tz, Int.one_mul]
    refine ev_gz (fun j => ?_) x
    rcases Nat.lt_or_ge j l.length with h | h
    · rw [gz_map h, hz _ (gz_mem h)]; simp
    · rw [gz_ge (by simpa using h), gz_ge h]
  · refine ⟨ct l, by have := ct_nonneg l; omega, fun x => ?_⟩
    unfold pp
    rw [ev_tz, ev_div fun y hy => ct_dvd hy]
theorem ev_stp {f g : List Int} (h : g.length ≤ f.length) (x : Int) : ev (stp f g) x = ev f x * ((ld g).natAbs : Int) - (if ld g < 0 then -(ld f) else ld f) * x ^ (f.length - g.length) * ev g x := by
  unfold stp ls
  rw [ev_tz, ev_lsF _ _ _ _ _ (by rw [List.length_map]; omega), ev_map]
/-- A remainder is a positive multiple of f less a multiple of g. -/
theorem rsF_ev {r : List Int → List Int} (hr : ∀ l, ∃ k : Int, 0 < k ∧ ∀ x, k * ev (r l) x = ev l x) {g : List Int} (hg : tz g = g) (h0 : g ≠ []) : ∀ (k : Nat) (f : List Int), ∃ (a b : Int) (q : List Int), 0 < a ∧ 0 < b ∧ ∀ x, b * ev (rsF r k f g) x = a * ev f x - ev q x * ev g x
  | 0, f => ⟨1, 1, [], by omega, by omega, fun x => by rw [rsF, ev_nil]; omega⟩
  | k + 1, f => by
    rw [rsF]
    split
    · rename_i h
      obtain ⟨a, b, q, ha, hb, hq⟩ := rsF_ev hr hg h0 k (r (stp f g))
      obtain ⟨m, hm, hm2⟩ := hr (stp f g)
      have hl := ld_of_tz hg h0
      refine ⟨a * ((ld g).natAbs : Int), b * m, addL (q.map (· * m)) (monoL (a * (if ld g < 0 then -(ld f) else ld f)) (f.length - g.length)), Int.mul_pos ha (by omega), Int.mul_pos hb hm, fun x => ?_⟩
      have h1 := hq x
      have h2 := hm2 x
      rw [ev_stp h] at h2
      rw [ev_addL, ev_map, ev_mono]
      generalize (if ld g < 0 then -(ld f) else ld f) = y at *
      generalize x ^ (f.length - g.length) = z at *
      grind
    · exact ⟨1, 1, [], by omega, by omega, fun x => by rw [ev_nil]; omega⟩
theorem rs_ev {f g : List Int} (hg : tz g = g) (h0 : g ≠ []) : ∃ (a b : Int) (q : List Int), 0 < a ∧ 0 < b ∧ ∀ x, b * ev (rs f g) x = a * ev f x - ev q x * ev g x := rsF_ev pp_ev hg h0 _ _

/-- a divides b, up to a constant factor. -/
def Dv (a b : List Int) : Prop := ∃ (c : Int) (q : List Int), c ≠ 0 ∧ ∀ x, c * ev b x = ev a x * ev q x
theorem Dv.refl (a : List Int) : Dv a a := ⟨1, [1], by omega, fun x => by simp [ev]⟩
theorem Dv.zero {a b : List Int} (h : ∀ x, ev b x = 0) : Dv a b := ⟨1, [], by omega, fun x => by rw [h x, ev_nil]; omega⟩
theorem Dv.trans {a b c : List Int} (h : Dv a b) (h' : Dv b c) : Dv a c := by
  obtain ⟨m, q, hm, hq⟩ := h
  obtain ⟨n, r, hn, hr⟩ := h'
  refine ⟨m * n, mulL q r, Int.mul_ne_zero hm hn, fun x => ?_⟩
  have h1 := hq x
  have h2 := hr x
  rw [ev_mulL]
  grind
/-- k c = u a + v b. -/
theorem Dv.comb {a b c d : List Int} (h : Dv d a) (h' : Dv d b) {k : Int} {u v : List Int} (hk : k ≠ 0) (he : ∀ x, k * ev c x = ev u x * ev a x + ev v x * ev b x) : Dv d c := by
  obtain ⟨m, q, hm, hq⟩ := h
  obtain ⟨n, r, hn, hr⟩ := h'
  refine ⟨k * (m * n), addL (mulL (u.map (· * n)) q) (mulL (v.map (· * m)) r), Int.mul_ne_zero hk (Int.mul_ne_zero hm hn), fun x => ?_⟩
  have h1 := hq x
  have h2 := hr x
  have h3 := he x
  rw [ev_addL, ev_mulL, ev_mulL, ev_map, ev_map]
  grind
theorem Dv.mul {a b : List Int} (h : Dv a b) (u : List Int) : Dv a (mulL u b) := by
  obtain ⟨m, q, hm, hq⟩ := h
  refine ⟨m, mulL u q, hm, fun x => ?_⟩
  have h1 := hq x
  rw [ev_mulL, ev_mulL]
  grind
/-- A divisor of a constant is a constant. -/
theorem Dv.const {a : List Int} {b : List Int} {c : Int} (h : Dv a b) (hc : c ≠ 0) (hb : ∀ x, ev b x = c) : (tz a).length ≤ 1 := by
  obtain ⟨m, q, hm, hq⟩ := h
  rcases Nat.lt_or_ge 1 (tz a).length with h1 | h1
  · exfalso
    have h2 := ev_big (tz_tz a) (x := sz (tz a) + (m * c).natAbs + 1) (by omega) (by omega)
    have h3 := hq ((sz (tz a) : Int) + (m * c).natAbs + 1)
    rw [hb] at h3
    rw [ev_tz] at h2
    generalize ev a ((sz (tz a) : Int) + (m * c).natAbs + 1) = y at *
    generalize ev q ((sz (tz a) : Int) + (m * c).natAbs + 1) = z at *
    have h4 : (m * c).natAbs = y.natAbs * z.natAbs := by rw [h3, Int.natAbs_mul]
    have h5 : m * c ≠ 0 := Int.mul_ne_zero hm hc
    rcases Nat.eq_zero_or_pos z.natAbs with h6 | h6
    · rw [h6] at h4; omega
    · have h7 : y.natAbs * 1 ≤ y.natAbs * z.natAbs := Nat.mul_le_mul_left _ h6
      omega
  · exact h1
/-- Bezout: some constant is u a + v b. -/
def Cop (a b : List Int) : Prop := ∃ (c : Int) (u v : List Int), c ≠ 0 ∧ ∀ x, c = ev u x * ev a x + ev v x * ev b x
theorem Cop.symm {a b : List Int} (h : Cop a b) : Cop b a := by
  obtain ⟨c, u, v, hc, h⟩ := h
  exact ⟨c, v, u, hc, fun x => by rw [h x]; omega⟩
/-- A divisor of a product that is coprime to a factor divides the other one. -/
theorem Dv.of_cop {h a b p : List Int} (hd : Dv h p) (hp : ∀ x, ev p x = ev a x * ev b x) (hc : Cop h a) : Dv h b := by
  obtain ⟨c, u, v, hc0, he⟩ := hc
  refine Dv.comb (Dv.refl h) hd (k := c) (u := mulL u b) (v := v) hc0 fun x => ?_
  have h1 := he x
  have h2 := hp x
  rw [ev_mulL]
  grind

/-- What Euclid's algorithm leaves divides both, and is a combination of them. -/
theorem euF_ev : ∀ (k : Nat) (f g : List Int), g.length < k → tz g = g → Dv (euF k f g) f ∧ Dv (euF k f g) g ∧ ∃ (c : Int) (u v : List Int), c ≠ 0 ∧ ∀ x, c * ev (euF k f g) x = ev u x * ev f x + ev v x * ev g x
  | 0, f, g, h, _ => by omega
  | k + 1, f, g, h, hg => by
    rw [euF]
    split
    · rename_i h0
      have hg0 : g ≠ [] := List.length_pos_iff.1 h0
      obtain ⟨a, b, q, ha, hb, hq⟩ := rs_ev (f := f) hg hg0
      obtain ⟨m, hm, hm2⟩ := pp_ev (rs f g)
      obtain ⟨h1, h2, c, u, v, hc, hu⟩ := euF_ev k g (pp (rs f g)) (by have := pp_rs_length f h0; omega) (tz_pp _)
      have hbm : b * m ≠ 0 := Int.mul_ne_zero (by omega) (by omega)
      refine ⟨Dv.comb h2 h1 (k := a) (u := [b * m]) (v := q) (by omega) fun x => ?_, h1, c * (b * m), v.map (· * a), addL (u.map (· * (b * m))) ((mulL v q).map (· * (-1))), Int.mul_ne_zero hc hbm, fun x => ?_⟩
      · have e1 := hq x
        have e2 := hm2 x
        simp only [ev]
        grind
      · have e1 := hq x
        have e2 := hm2 x
        have e3 := hu x
        rw [ev_addL, ev_map, ev_map, ev_map, ev_mulL]
        grind
    · rename_i h0
      have hg0 : g = [] := List.eq_nil_of_length_eq_zero (by omega)
      subst hg0
      exact ⟨Dv.refl _, Dv.zero fun x => rfl, 1, [1], [], by omega, fun x => by simp [ev]⟩
theorem eu_ev {f g : List Int} (hg : tz g = g) : Dv (eu f g) f ∧ Dv (eu f g) g ∧ ∃ (c : Int) (u v : List Int), c ≠ 0 ∧ ∀ x, c * ev (eu f g) x = ev u x * ev f x + ev v x * ev g x := euF_ev _ _ _ (Nat.lt_succ_self _) hg
theorem euF_norm : ∀ (k : Nat) (f g : List Int), tz f = f → tz g = g → f ≠ [] → tz (euF k f g) = euF k f g ∧ euF k f g ≠ []
  | 0, f, g, hf, _, h0 => ⟨hf, h0⟩
  | k + 1, f, g, hf, hg, h0 => by
    rw [euF]
    split
    · rename_i h1
      exact euF_norm k g _ hg (tz_pp _) (List.length_pos_iff.1 h1)
    · exact ⟨hf, h0⟩
theorem eu_norm {f g : List Int} (hf : tz f = f) (hg : tz g = g) (h0 : f ≠ []) : tz (eu f g) = eu f g ∧ eu f g ≠ [] := euF_norm _ _ _ hf hg h0
theorem euF_len : ∀ (k : Nat) (f g : List Int), g.length ≤ f.length → (euF k f g).length ≤ f.length
  | 0, f, g, _ => Nat.le_refl _
  | k + 1, f, g, h => by
    rw [euF]
    split
    · rename_i h1
      have := pp_rs_length f h1
      have := euF_len k g (pp (rs f g)) (by omega)
      omega
    · exact Nat.le_refl _
theorem eu_len {f g : List Int} (h : 0 < g.length) : (eu f g).length ≤ g.length := by
  rw [eu_step h]
  have := pp_rs_length f h
  exact euF_len _ _ _ (by omega)
end Go.Proofs.YtdmdagilopckgaaGreat

namespace Go.Proofs.YtdmdagilopckgaaGreat
open Go.RowKit

theorem const_of_len {k : List Int} (h : (tz k).length ≤ 1) : ∃ c, ∀ x, ev k x = c := by
  rcases ht : tz k with _ | ⟨c, r⟩
  · exact ⟨0, fun x => by rw [← ev_tz, ht]; rfl⟩
  · rw [ht] at h
    have hr : r = [] := List.eq_nil_of_length_eq_zero (by simpa using h)
    subst hr
    exact ⟨c, fun x => by rw [← ev_tz, ht]; simp [ev]⟩
theorem ev_zero_tz {a : List Int} (h : tz a = []) (x : Int) : ev a x = 0 := by rw [← ev_tz, h]; rfl
theorem tz_ne_of {a : List Int} {x : Int} (h : ev a x ≠ 0) : tz a ≠ [] := fun e => h (ev_zero_tz e x)

theorem sf : ∀ (n : Nat) (p : List Int), tz p = p → p ≠ [] → p.length ≤ n → ∀ (s : List Int) (c : Int), c ≠ 0 → (∀ x, c * ev p x = ev (eu p (dv p)) x * ev s x) → ∀ h, Dv h s → Dv h (dv s) → (tz h).length ≤ 1 := by
  intro n
  induction n with
  | zero => intro p _ h0 hl; exact absurd (List.eq_nil_of_length_eq_zero (Nat.le_zero.1 hl)) h0
  | succ n ih =>
    intro p hp h0 hl s c hc hs h hd hd'
    by_cases hdp : (dv p).length = 0
    · have he : eu p (dv p) = p := eu_stop p (by omega)
      rw [he] at hs
      have h1 : ∀ x, ev s x = c := fun x => by
        have := ev_cancel (e := p) (a := s) (b := [c]) (by rw [hp]; exact h0) (fun x => by rw [← hs x]; simp [ev]; exact Int.mul_comm _ _) x
        rw [this]; simp [ev]
      exact hd.const hc h1
    · have hdp0 : 0 < (dv p).length := by omega
      obtain ⟨hd1, hd2, kd, U, V, hkd, hUV⟩ := eu_ev (f := p) (tz_dv p)
      obtain ⟨hdn, hdz⟩ := eu_norm hp (tz_dv p) h0
      have hdl := eu_len (f := p) hdp0
      have hdvl := dv_length p
      obtain ⟨c2, t, hc2, ht⟩ := hd2
      generalize eu p (dv p) = d at *
      obtain ⟨he1, he2, ke, u, v, hke, huv⟩ := eu_ev (f := d) (tz_dv d)
      obtain ⟨hen, hez⟩ := eu_norm hdn (tz_dv d) hdz
      have hIH := ih d hdn hdz (by omega)
      obtain ⟨ce, D, hce, hD⟩ := he1
      obtain ⟨ce', E, hce', hE⟩ := he2
      have hIH2 := hIH D ce hce hD
      generalize eu d (dv d) = e at *
      simp only [ev_dv] at ht hUV hE huv
      -- the derivative of c p = d s
      have hder : ∀ x, c * de p x = de d x * ev s x + ev d x * de s x := fun x => by
        have h1 := de_ev (a := p.map (· * c)) (b := mulL d s) (fun x => by rw [ev_map, ev_mulL, ← hs x]; exact Int.mul_comm _ _) x
        rw [de_map, de_mulL] at h1
        rw [← h1]; exact Int.mul_comm _ _
      have het : tz e ≠ [] := by rw [hen]; exact hez
      have hdt : tz d ≠ [] := by rw [hdn]; exact hdz
      -- D and E are coprime
      have hDE : Cop D E := by
        refine ⟨ke * (ce * ce'), u.map (· * ce'), v.map (· * ce), Int.mul_ne_zero hke (Int.mul_ne_zero hce hce'), fun x => ?_⟩
        have h1 := ev_cancel het (a := [ke * (ce * ce')]) (b := addL (mulL (u.map (· * ce')) D) (mulL (v.map (· * ce)) E)) (fun x => by
          have e1 := huv x
          have e2 := hD x
          have e3 := hE x
          rw [ev_addL, ev_mulL, ev_mulL, ev_map, ev_map]
          simp only [ev]
          grind) x
        rw [ev_addL, ev_mulL, ev_mulL] at h1
        simpa [ev] using h1
      -- e D (c t - c2 s') is e E s, up to constants
      have hk : ∀ x, ce' * (ev D x * (c * ev t x - c2 * de s x)) = c2 * ce * (ev E x * ev s x) := fun x => by
        have h1 := ev_cancel het (a := (mulL D (addL (t.map (· * c)) ((dv s).map (· * (-c2))))).map (· * ce')) (b := (mulL E s).map (· * (c2 * ce))) (fun x => by
          have e1 := hder x
          have e2 := ht x
          have e3 := hD x
          have e4 := hE x
          rw [ev_map, ev_map, ev_mulL, ev_mulL, ev_addL, ev_map, ev_map, ev_dv]
          grind) x
        rw [ev_map, ev_map, ev_mulL, ev_mulL, ev_addL, ev_map, ev_map, ev_dv] at h1
        grind
      have hDs : Dv D s := by
        refine Dv.of_cop (a := E) (p := mulL E s) ⟨c2 * ce, (addL (t.map (· * c)) ((dv s).map (· * (-c2)))).map (· * ce'), Int.mul_ne_zero hc2 hce, fun x => ?_⟩ (fun x => ev_mulL _ _ _) hDE
        have h1 := hk x
        rw [ev_map, ev_addL, ev_map, ev_map, ev_dv, ev_mulL]
        grind
      obtain ⟨cs, F, hcs, hF⟩ := hDs
      have hDt : tz D ≠ [] := by
        have h1 := ev_ne hdn hdz (x := sz d + 1) (by omega)
        refine tz_ne_of (x := sz d + 1) fun h2 => ?_
        have h3 := hD (sz d + 1)
        rw [h2, Int.mul_zero] at h3
        rcases Int.mul_eq_zero.1 h3 with h4 | h4
        · exact hce h4
        · exact h1 h4
      have hks : ∀ x, cs * ce' * (c * ev t x - c2 * de s x) = c2 * ce * (ev E x * ev F x) := fun x => by
        have h1 := ev_cancel hDt (a := (addL (t.map (· * c)) ((dv s).map (· * (-c2)))).map (· * (cs * ce'))) (b := (mulL E F).map (· * (c2 * ce))) (fun x => by
          have e1 := hk x
          have e2 := hF x
          rw [ev_map, ev_map, ev_mulL, ev_addL, ev_map, ev_map, ev_dv]
          grind) x
        rw [ev_map, ev_map, ev_mulL, ev_addL, ev_map, ev_map, ev_dv] at h1
        grind
      -- s and t are coprime
      have hst : ∀ x, c * c2 * kd = c2 * (ev U x * ev s x) + c * (ev V x * ev t x) := fun x => by
        have h1 := ev_cancel hdt (a := [c * c2 * kd]) (b := addL ((mulL U s).map (· * c2)) ((mulL V t).map (· * c))) (fun x => by
          have e1 := hUV x
          have e2 := hs x
          have e3 := ht x
          rw [ev_addL, ev_map, ev_map, ev_mulL, ev_mulL]
          simp only [ev]
          grind) x
        rw [ev_addL, ev_map, ev_map, ev_mulL, ev_mulL] at h1
        simp only [ev] at h1
        grind
      have hC : c * c2 * kd ≠ 0 := Int.mul_ne_zero (Int.mul_ne_zero hc hc2) hkd
      -- h and F are coprime
      have hhF : Cop h F := by
        obtain ⟨g1, g2, c0, u0, v0, hc0, hg3⟩ := eu_ev (f := h) (g := tz F) (tz_tz F)
        generalize eu h (tz F) = k0 at *
        have hF2 : Dv k0 F := by
          obtain ⟨m, q, hm, hq⟩ := g2
          exact ⟨m, q, hm, fun x => by rw [← hq x, ev_tz]⟩
        have hks0 : Dv k0 s := g1.trans hd
        have hkt : Dv k0 t := Dv.comb (g1.trans hd') hF2 (k := cs * ce' * c) (u := [cs * ce' * c2]) (v := E.map (· * (c2 * ce))) (Int.mul_ne_zero (Int.mul_ne_zero hcs hce') hc) fun x => by
          have h1 := hks x
          rw [ev_map, ev_dv]
          simp only [ev]
          grind
        have hkc : Dv k0 [c * c2 * kd] := Dv.comb hks0 hkt (k := 1) (u := U.map (· * c2)) (v := V.map (· * c)) (by omega) fun x => by
          have h1 := hst x
          rw [ev_map, ev_map]
          simp only [ev]
          grind
        obtain ⟨κ, hκ⟩ := const_of_len (hkc.const hC (fun x => by simp [ev]))
        have hκ0 : κ ≠ 0 := by
          rintro rfl
          obtain ⟨m, q, hm, hq⟩ := hkc
          have h1 := hq 0
          rw [hκ, Int.zero_mul] at h1
          simp only [ev, Int.mul_zero, Int.add_zero] at h1
          exact Int.mul_ne_zero hm hC h1
        refine ⟨c0 * κ, u0, v0, Int.mul_ne_zero hc0 hκ0, fun x => ?_⟩
        have h1 := hg3 x
        rw [hκ, ev_tz] at h1
        exact h1
      have hhD : Dv h D := by
        obtain ⟨m, q, hm, hq⟩ := hd
        refine Dv.of_cop (a := F) (p := s.map (· * cs)) ⟨m, q.map (· * cs), hm, fun x => ?_⟩ (fun x => ?_) hhF
        · have h1 := hq x
          rw [ev_map, ev_map]
          grind
        · have h1 := hF x
          rw [ev_map]
          grind
      have hder2 : ∀ x, cs * de s x = de D x * ev F x + ev D x * de F x := fun x => by
        have h1 := de_ev (a := s.map (· * cs)) (b := mulL D F) (fun x => by rw [ev_map, ev_mulL, ← hF x]; exact Int.mul_comm _ _) x
        rw [de_map, de_mulL] at h1
        rw [← h1]; exact Int.mul_comm _ _
      have hhD' : Dv h (dv D) := by
        refine Dv.of_cop (a := F) (p := mulL F (dv D)) (Dv.comb hd' hhD (k := 1) (u := [cs]) (v := (dv F).map (· * (-1))) (by omega) fun x => ?_) (fun x => ev_mulL _ _ _) hhF
        have h1 := hder2 x
        rw [ev_map, ev_mulL, ev_dv, ev_dv, ev_dv]
        simp only [ev]
        grind
      exact hIH2 h hhD hhD'
end Go.Proofs.YtdmdagilopckgaaGreat

namespace Go.Proofs.YtdmdagilopckgaaGreat
open Go.RowKit

theorem nat_dvd {m : Nat} {n : Int} : (m : Int) ∣ n ↔ m ∣ n.natAbs := by rw [← Int.natAbs_dvd_natAbs, Int.natAbs_natCast]
/-- A prime. -/
def Pm (p : Nat) : Prop := 2 ≤ p ∧ ∀ a b : Int, (p : Int) ∣ a * b → (p : Int) ∣ a ∨ (p : Int) ∣ b
theorem pm_exists : ∀ (n k : Nat), k ≤ n → 2 ≤ k → ∃ p, Pm p ∧ p ∣ k := by
  intro n
  induction n with
  | zero => intro k h1 h2; omega
  | succ n ih =>
    intro k h1 h2
    by_cases h : ∃ d, 2 ≤ d ∧ d < k ∧ d ∣ k
    · obtain ⟨d, hd1, hd2, hd3⟩ := h
      obtain ⟨p, hp, hpd⟩ := ih d (by omega) hd1
      exact ⟨p, hp, Nat.dvd_trans hpd hd3⟩
    · refine ⟨k, ⟨h2, fun a b hab => ?_⟩, Nat.dvd_refl k⟩
      have h3 : k ∣ a.natAbs * b.natAbs := by
        rw [← Int.natAbs_mul]
        exact nat_dvd.1 hab
      have hg1 : Nat.gcd k a.natAbs ∣ k := Nat.gcd_dvd_left _ _
      have hg2 : Nat.gcd k a.natAbs ∣ a.natAbs := Nat.gcd_dvd_right _ _
      have hg3 : 0 < Nat.gcd k a.natAbs := Nat.gcd_pos_of_pos_left _ (by omega)
      have hg4 := Nat.le_of_dvd (by omega) hg1
      by_cases h5 : Nat.gcd k a.natAbs = 1
      · exact .inr (nat_dvd.2 (Nat.Coprime.dvd_of_dvd_mul_left h5 h3))
      · by_cases h6 : Nat.gcd k a.natAbs = k
        · exact .inl (nat_dvd.2 (h6 ▸ hg2))
        · exact absurd ⟨_, by omega, by omega, hg1⟩ h
theorem gz_addL : ∀ (a b : List Int) (j : Nat), gz (addL a b) j = gz a j + gz b j := by
  intro a
  induction a with
  | nil => intro b j; rw [addL, gz_nil]; omega
  | cons c r ih =>
    intro b j
    cases b with
    | nil => rw [addL, gz_nil]; omega; simp
    | cons d s => cases j with
      | zero => rfl
      | succ j => exact ih s j
theorem gz_smul (b : List Int) (c : Int) (j : Nat) : gz (b.map (· * c)) j = gz b j * c := by
  rcases Nat.lt_or_ge j b.length with h2 | h2
  · rw [gz_map h2]
  · rw [gz_ge (by simpa using h2), gz_ge h2, Int.zero_mul]
theorem gz_mulL_zero (c : Int) (r b : List Int) : gz (mulL (c :: r) b) 0 = gz b 0 * c := by
  rw [mulL, gz_addL, gz_smul, gz_cons_zero]; omega
theorem gz_mulL_succ (c : Int) (r b : List Int) (j : Nat) : gz (mulL (c :: r) b) (j + 1) = gz b (j + 1) * c + gz (mulL r b) j := by
  rw [mulL, gz_addL, gz_smul, gz_cons_succ]
theorem gz_mulL_comm (a b : List Int) (j : Nat) : gz (mulL a b) j = gz (mulL b a) j := ev_ext_ge 0 (fun x _ => by rw [ev_mulL, ev_mulL]; exact Int.mul_comm _ _) j

/-- p divides all coefficients. -/
def AllD (p : Int) (l : List Int) : Prop := ∀ j, p ∣ gz l j
theorem gauss {p : Nat} (hp : Pm p) : ∀ (n : Nat) (a b : List Int), a.length + b.length ≤ n → AllD p (mulL a b) → AllD p a ∨ AllD p b := by
  intro n
  induction n with
  | zero =>
    intro a b h _
    obtain rfl := List.eq_nil_of_length_eq_zero (show a.length = 0 by omega)
    exact .inl fun j => by rw [gz_nil]; exact Int.dvd_zero _
  | succ n ih =>
    have key : ∀ (c : Int) (r b : List Int), (r.length + 1) + b.length ≤ n + 1 → AllD p (mulL (c :: r) b) → (p : Int) ∣ c → AllD p (c :: r) ∨ AllD p b := by
      intro c r b hl h hc
      have h1 : AllD p (mulL r b) := fun j => by
        have h2 := h (j + 1)
        rw [gz_mulL_succ] at h2
        exact (Int.dvd_add_right (Int.dvd_trans hc (Int.dvd_mul_left _ _))).1 h2
      rcases ih r b (by omega) h1 with h3 | h3
      · refine .inl fun j => ?_
        cases j with
        | zero => exact hc
        | succ j => exact h3 j
      · exact .inr h3
    intro a b hl h
    cases a with
    | nil => exact .inl fun j => by rw [gz_nil]; exact Int.dvd_zero _
    | cons c r =>
      cases b with
      | nil => exact .inr fun j => by rw [gz_nil]; exact Int.dvd_zero _
      | cons e t =>
        have h0 := h 0
        rw [gz_mulL_zero, gz_cons_zero] at h0
        rw [List.length_cons, List.length_cons] at hl
        rcases hp.2 e c h0 with h1 | h1
        · rcases key e t (c :: r) (by rw [List.length_cons]; omega) (fun j => by rw [gz_mulL_comm]; exact h j) h1 with h2 | h2
          · exact .inr h2
          · exact .inl h2
        · exact key c r (e :: t) (by rw [List.length_cons]; omega) h h1
theorem dvd_ct {g : Int} {l : List Int} (h : ∀ x ∈ l, g ∣ x) : g ∣ ct l := by
  have key : ∀ (l : List Int) (k : Int), g ∣ k → (∀ x ∈ l, g ∣ x) → g ∣ l.foldl (fun g x => (Int.gcd g x : Int)) k := by
    intro l
    induction l with
    | nil => intro k hk _; exact hk
    | cons y r ih => intro k hk hx; exact ih _ (Int.dvd_coe_gcd hk (hx y (List.mem_cons_self ..))) fun x h => hx x (List.mem_cons_of_mem _ h)
  exact key l 0 (Int.dvd_zero _) h
theorem AllD.mem {g : Int} {l : List Int} (h : AllD g l) : ∀ x ∈ l, g ∣ x := fun x hx => by
  obtain ⟨j, _, rfl⟩ := mem_gz hx
  exact h j
theorem AllD.ev {g : Int} {l : List Int} (h : AllD g l) (x : Int) : g * Go.Proofs.YtdmdagilopckgaaGreat.ev (l.map (· / g)) x = Go.Proofs.YtdmdagilopckgaaGreat.ev l x := ev_div h.mem x

/-- Over a primitive divisor a constant may be taken out. -/
theorem prim_div {d : List Int} (hd : ct d = 1) : ∀ (n : Nat) (c : Int) (p s : List Int), c.natAbs ≤ n → c ≠ 0 → (∀ x, c * ev p x = ev d x * ev s x) → ∃ q, ∀ x, ev p x = ev d x * ev q x := by
  intro n
  induction n with
  | zero => intro c p s h1 h2; omega
  | succ n ih =>
    intro c p s h1 h2 h
    by_cases hc : c.natAbs = 1
    · refine ⟨s.map (· * c), fun x => ?_⟩
      have h3 : c * c = 1 := by
        rcases Int.natAbs_eq c with e | e <;> rw [e, hc] <;> rfl
      have h4 := h x
      rw [ev_map]
      grind
    · obtain ⟨l, hl, hlc⟩ := pm_exists c.natAbs c.natAbs (Nat.le_refl _) (by omega)
      have hlc2 : (l : Int) ∣ c := nat_dvd.2 hlc
      obtain ⟨c1, rfl⟩ := hlc2
      have hl2 := hl.1
      have hA : AllD l (mulL d s) := fun j => by
        have h3 := ev_ext_ge 0 (a := mulL d s) (b := p.map (· * (l * c1))) (fun x _ => by rw [ev_mulL, ev_map, ← h x]; exact Int.mul_comm _ _) j
        rw [h3, gz_smul, Int.mul_left_comm]
        exact Int.dvd_mul_right _ _
      rcases gauss hl _ d s (Nat.le_refl _) hA with h3 | h3
      · have h4 := dvd_ct h3.mem
        rw [hd] at h4
        have h5 := Int.le_of_dvd (by omega) h4
        omega
      · have hc1 : c1 ≠ 0 := fun e => h2 (by rw [e]; exact Int.mul_zero _)
        refine ih c1 p (s.map (· / (l : Int))) ?_ hc1 fun x => ?_
        · rw [Int.natAbs_mul, Int.natAbs_natCast] at h1
          have h6 : 2 * c1.natAbs ≤ l * c1.natAbs := Nat.mul_le_mul_right _ hl2
          omega
        · have h4 := h x
          have h5 := h3.ev x
          refine Int.eq_of_mul_eq_mul_left (a := (l : Int)) (by omega) ?_
          rw [← Int.mul_assoc, h4, ← h5]
          grind

/-- The leading coefficient of a product. -/
theorem mulL_top : ∀ (a b : List Int), a ≠ [] → b ≠ [] → gz (mulL a b) (a.length + b.length - 2) = ld a * ld b ∧ ∀ j, a.length + b.length - 1 ≤ j → gz (mulL a b) j = 0
  | [], _, h, _ => absurd rfl h
  | [c], b, _, hb => by
    have hl := List.length_pos_iff.2 hb
    have h1 : ∀ j, gz (mulL [c] b) j = gz b j * c := fun j => by
      rw [mulL, gz_addL, gz_smul, mulL]
      cases j <;> simp [gz]
    refine ⟨?_, fun j hj => ?_⟩
    · rw [h1]
      unfold ld
      simp only [List.length_singleton]
      rw [show 1 + b.length - 2 = b.length - 1 by omega, show gz [c] (1 - 1) = c from rfl]
      exact Int.mul_comm _ _
    · rw [h1, gz_ge (by simp at hj; omega), Int.zero_mul]
  | c :: e :: r, b, _, hb => by
    have hl := List.length_pos_iff.2 hb
    obtain ⟨h1, h2⟩ := mulL_top (e :: r) b (by simp) hb
    simp only [List.length_cons] at h1 h2 ⊢
    refine ⟨?_, fun j hj => ?_⟩
    · rw [show r.length + 1 + 1 + b.length - 2 = (r.length + 1 + b.length - 2) + 1 by omega, gz_mulL_succ, h1, gz_ge (by omega), Int.zero_mul, Int.zero_add]
      congr 1
    · obtain ⟨i, rfl⟩ : ∃ i, j = i + 1 := ⟨j - 1, by omega⟩
      rw [gz_mulL_succ, h2 _ (by omega), gz_ge (by omega)]; omega
theorem ld_mul {p a b : List Int} (hp : tz p = p) (ha : tz a = a) (hb : tz b = b) (ha0 : a ≠ []) (hb0 : b ≠ []) (h : ∀ x, ev p x = ev a x * ev b x) : p.length = a.length + b.length - 1 ∧ ld p = ld a * ld b := by
  obtain ⟨h1, h2⟩ := mulL_top a b ha0 hb0
  have hg : ∀ j, gz p j = gz (mulL a b) j := ev_ext_ge 0 fun x _ => by rw [h x, ev_mulL]
  have hne : ld a * ld b ≠ 0 := Int.mul_ne_zero (ld_of_tz ha ha0) (ld_of_tz hb hb0)
  have hla := List.length_pos_iff.2 ha0
  have hlb := List.length_pos_iff.2 hb0
  have hlen : p.length = a.length + b.length - 1 := by
    rcases Nat.lt_trichotomy p.length (a.length + b.length - 1) with h3 | h3 | h3
    · exfalso
      have h4 := hg (a.length + b.length - 2)
      rw [h1, gz_ge (by omega)] at h4
      exact hne h4.symm
    · exact h3
    · exfalso
      have h4 := ld_of_tz hp (by intro e; rw [e] at h3; simp at h3)
      unfold ld at h4
      rw [hg, h2 _ (by omega)] at h4
      exact h4 rfl
  refine ⟨hlen, ?_⟩
  unfold ld at h1 ⊢
  rw [hg, hlen, ← h1]
  congr 1
theorem ov_exact {d : List Int} (hd : tz d = d) (h0 : d ≠ []) : ∀ (n : Nat) (p o q : List Int), p.length ≤ n → tz p = p → (∀ x, ev p x = ev d x * ev q x) → ∃ r, ovF d p.length p o = some r := by
  have hdl := List.length_pos_iff.2 h0
  have hnil : ∀ o, ovF d ([] : List Int).length [] o = some (tz o) := fun o => by rw [ovF_end (by simp; exact h0), if_pos rfl]
  intro n
  induction n with
  | zero =>
    intro p o q hl hp h
    obtain rfl := List.eq_nil_of_length_eq_zero (Nat.le_zero.1 hl)
    exact ⟨_, hnil o⟩
  | succ n ih =>
    intro p o q hl hp h
    by_cases hp0 : p = []
    · subst hp0; exact ⟨_, hnil o⟩
    · have hq0 : tz q ≠ [] := by
        intro e
        have h1 := ev_ne hp hp0 (x := sz p + 1) (by omega)
        rw [h, ev_zero_tz e, Int.mul_zero] at h1
        exact h1 rfl
      obtain ⟨h1, h2⟩ := ld_mul hp hd (tz_tz q) h0 hq0 (fun x => by rw [ev_tz]; exact h x)
      have hql := List.length_pos_iff.2 hq0
      have hge : d.length ≤ p.length := by omega
      have hld := ld_of_tz hd h0
      have hmod : ld p % ld d = 0 := by rw [h2]; exact Int.mul_emod_right _ _
      have hdiv : ld p / ld d = ld (tz q) := by rw [h2]; exact Int.mul_ediv_cancel_left _ hld
      have hdown := ls_down hge hdl hmod
      rw [ovF_step hdl hge hmod]
      refine ih _ _ (addL q (monoL (-(ld p / ld d)) (p.length - d.length))) (by omega) (tz_ls _ _ _ _) fun x => ?_
      unfold ls
      rw [ev_tz, ev_lsF _ _ _ _ _ (by omega), ev_addL, ev_mono, h x]
      grind
end Go.Proofs.YtdmdagilopckgaaGreat
