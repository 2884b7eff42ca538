/- Plain numbers: small programs that the kernel runs, and what their answers say. No program in sight. -/
import Derived.Test.YtpkjdnplmgfbbaaDoorPrb
namespace Go.Proofs.YtpkjdnplmgfbbaaDoor

theorem beq_iff {a b : Nat} : Nat.beq a b = true ↔ a = b := by rw [Nat.beq_eq]
theorem pm_pieces (a n M x y z : Nat) : (((a ^ x % n) ^ M * a ^ y % n) ^ M * a ^ z) % n = a ^ (x * (M * M) + (y * M + z)) % n := by
  have h2 : a ^ (x * (M * M) + (y * M + z)) = ((a ^ x) ^ M * a ^ y) ^ M * a ^ z := by
    rw [Nat.pow_add, Nat.pow_add, Nat.mul_pow, ← Nat.pow_mul, ← Nat.pow_mul, ← Nat.pow_mul, Nat.mul_assoc]
  have h3 : (a ^ x % n) ^ M * a ^ y % n = (a ^ x) ^ M * a ^ y % n := by rw [Nat.mul_mod, ← Nat.pow_mod, ← Nat.mul_mod]
  rw [h2, h3, Nat.mul_mod, ← Nat.pow_mod, ← Nat.mul_mod]
/-- a^e modulo n, by pieces of ten bits. -/
def pmM (M a e n : Nat) : Nat := (((a ^ (e / (M * M)) % n) ^ M * a ^ (e / M % M) % n) ^ M * a ^ (e % M)) % n
def pmR (M a e n : Nat) : Nat := Nat.mod (Nat.mul (Nat.pow (Nat.mod (Nat.mul (Nat.pow (Nat.mod (Nat.pow a (Nat.div e (Nat.mul M M))) n) M) (Nat.pow a (Nat.mod (Nat.div e M) M))) n) M) (Nat.pow a (Nat.mod e M))) n
def pm (a e n : Nat) : Nat := pmR 1024 a e n
theorem pmM_eq (M a e n : Nat) : pmM M a e n = a ^ e % n := by
  have h : e / (M * M) * (M * M) + (e / M % M * M + e % M) = e := by
    have h1 := Nat.div_add_mod e M
    have h2 := Nat.div_add_mod (e / M) M
    rw [← Nat.div_div_eq_div_mul]
    have h3 : e / M / M * (M * M) = M * (M * (e / M / M)) := by rw [← Nat.mul_assoc, Nat.mul_comm (e / M / M * M), Nat.mul_comm (e / M / M) M]
    rw [Nat.mul_comm (e / M % M) M, h3, ← Nat.add_assoc, ← Nat.mul_add, h2, h1]
  unfold pmM
  rw [pm_pieces, h]
theorem pmR_eq (M a e n : Nat) : pmR M a e n = a ^ e % n := (show pmR M a e n = pmM M a e n from rfl).trans (pmM_eq M a e n)
theorem pm_eq (a e n : Nat) : pm a e n = a ^ e % n := pmR_eq _ a e n

/-- The powers of 2, 3, 5 and 7 are 1. -/
def All (p e : Nat) : Prop := One p 2 e ∧ One p 3 e ∧ One p 5 e ∧ One p 7 e
def all1 (p e : Nat) : Bool := Nat.beq (pm 2 e p) (1 % p) && Nat.beq (pm 3 e p) (1 % p) && Nat.beq (pm 5 e p) (1 % p) && Nat.beq (pm 7 e p) (1 % p)
theorem all1_iff {p e : Nat} : all1 p e = true ↔ All p e := by
  unfold all1 All One
  simp only [Bool.and_eq_true, beq_iff, pm_eq]
  constructor
  · rintro ⟨⟨⟨a, b⟩, c⟩, d⟩; exact ⟨a, b, c, d⟩
  · rintro ⟨a, b, c, d⟩; exact ⟨⟨⟨a, b⟩, c⟩, d⟩
theorem All.dvd {p e f : Nat} (h : All p e) (hd : e ∣ f) : All p f := ⟨h.1.dvd hd, h.2.1.dvd hd, h.2.2.1.dvd hd, h.2.2.2.dvd hd⟩
theorem All.gcd {p e f : Nat} (h : All p e) (k : All p f) : All p (Nat.gcd e f) := ⟨One.gcd _ _ h.1 k.1, One.gcd _ _ h.2.1 k.2.1, One.gcd _ _ h.2.2.1 k.2.2.1, One.gcd _ _ h.2.2.2 k.2.2.2⟩

/-- One prime r of c is taken out; l comes down by it where it can. -/
theorem red_one {p l c r : Nat} (hr : Pr r) (hc : r ∣ c) (ha : All p l) (hI : ∀ e, All p e → l ∣ e * c) (hno : ¬ (r ∣ l ∧ All p (l / r))) : ∀ e, All p e → l ∣ e * (c / r) := by
  intro e he
  obtain ⟨c', rfl⟩ := hc
  have hr2 := hr.1
  rw [Nat.mul_div_cancel_left _ (by omega)]
  have hg := he.gcd ha
  obtain ⟨m, hm⟩ := Nat.gcd_dvd_right e l
  obtain ⟨e', he'⟩ := Nat.gcd_dvd_left e l
  obtain ⟨g, hgd⟩ : ∃ g, g = Nat.gcd e l := ⟨_, rfl⟩
  rw [← hgd] at hg hm he'
  by_cases hl0 : l = 0
  · have := hI e he
    rw [hl0] at this ⊢
    have h0 := Nat.eq_zero_of_zero_dvd this
    rcases Nat.mul_eq_zero.1 h0 with h1 | h1
    · rw [h1, Nat.zero_mul]; exact Nat.dvd_refl 0
    · rcases Nat.mul_eq_zero.1 h1 with h2 | h2
      · omega
      · rw [h2, Nat.mul_zero]; exact Nat.dvd_refl 0
  have hg0 : 0 < g := by
    rcases Nat.eq_zero_or_pos g with h | h
    · rw [h, Nat.zero_mul] at hm; omega
    · exact h
  have hrm : ¬ r ∣ m := fun ⟨k, hk⟩ => hno ⟨⟨g * k, by rw [hm, hk, ← Nat.mul_assoc, Nat.mul_comm g r, Nat.mul_assoc]⟩, by
    have e1 : l / r = g * k := by rw [hm, hk, ← Nat.mul_assoc, Nat.mul_comm g r, Nat.mul_assoc, Nat.mul_div_cancel_left _ (by omega)]
    rw [e1]
    exact hg.dvd ⟨k, rfl⟩⟩
  have hcop : Nat.Coprime m e' := by
    have h1 : Nat.gcd (g * m) (g * e') = g := by rw [← hm, ← he', Nat.gcd_comm]; exact hgd.symm
    rw [Nat.gcd_mul_left] at h1
    exact Nat.eq_of_mul_eq_mul_left hg0 (by rw [Nat.mul_one]; exact h1)
  have h2 := hI e he
  rw [hm, he', Nat.mul_assoc] at h2
  have h3 : m ∣ e' * (r * c') := Nat.dvd_of_mul_dvd_mul_left hg0 h2
  have h4 := hcop.dvd_of_dvd_mul_left h3
  have h5 := (hr.cop hrm).symm.dvd_of_dvd_mul_left h4
  rw [hm, he', Nat.mul_assoc]
  exact Nat.mul_dvd_mul_left g (Nat.dvd_trans h5 ⟨e', Nat.mul_comm _ _⟩)
theorem red_down {p l c r : Nat} (hr : 0 < r) (hc : r ∣ c) (hl : r ∣ l) (hI : ∀ e, All p e → l ∣ e * c) : ∀ e, All p e → l / r ∣ e * (c / r) := by
  intro e he
  obtain ⟨c', rfl⟩ := hc
  obtain ⟨l', rfl⟩ := hl
  rw [Nat.mul_div_cancel_left _ hr, Nat.mul_div_cancel_left _ hr]
  have := hI e he
  rw [← Nat.mul_assoc, Nat.mul_comm e r, Nat.mul_assoc] at this
  exact Nat.dvd_of_mul_dvd_mul_left hr this

/-- The least number that divides each e with powers 1: c is what is left of p - 1, without divisors below r. -/
def red (p : Nat) : Nat → Nat → Nat → Nat → Nat
  | 0, _, _, _ => 1
  | f + 1, l, c, r =>
    bif Nat.beq c 1 then l
    else bif Nat.ble (c + 1) (r * r) then (bif Nat.beq (l % c) 0 && all1 p (l / c) then l / c else l)
    else bif Nat.beq (c % r) 0 then (bif Nat.beq (l % r) 0 && all1 p (l / r) then red p f (l / r) (c / r) r else red p f l (c / r) r)
    else red p f l c (r + 1)
theorem pr_of_no {c r : Nat} (hc : 1 < c) (hno : ∀ d, 2 ≤ d → d < r → ¬ d ∣ c) (hr : c < r * r) : Pr c := by
  refine ⟨hc, fun d hd => ?_⟩
  apply Classical.byContradiction
  intro h
  have hd0 : d ≠ 0 := fun e => by subst e; have := Nat.eq_zero_of_zero_dvd hd; omega
  have h1 : d ≠ 1 := fun e => h (.inl e)
  have h2 : d ≠ c := fun e => h (.inr e)
  obtain ⟨k, hk⟩ := hd
  have hk1 : k ≠ 1 := fun e => h2 (by rw [hk, e, Nat.mul_one])
  have hk0 : k ≠ 0 := fun e => by rw [e, Nat.mul_zero] at hk; omega
  have a1 : r ≤ d := Nat.le_of_not_lt fun hlt => hno d (by omega) hlt ⟨k, hk⟩
  have a2 : r ≤ k := Nat.le_of_not_lt fun hlt => hno k (by omega) hlt ⟨d, by rw [hk, Nat.mul_comm]⟩
  have := Nat.mul_le_mul a1 a2
  omega
theorem pr_least {c r : Nat} (hr2 : 2 ≤ r) (hno : ∀ d, 2 ≤ d → d < r → ¬ d ∣ c) (hr : r ∣ c) : Pr r := by
  refine ⟨hr2, fun d hd => ?_⟩
  have hle := Nat.le_of_dvd (by omega) hd
  apply Classical.byContradiction
  intro h
  have hd0 : d ≠ 0 := fun e => by subst e; have := Nat.eq_zero_of_zero_dvd hd; omega
  exact hno d (by have : d ≠ 1 := fun e => h (.inl e); omega) (by have : d ≠ r := fun e => h (.inr e); omega) (Nat.dvd_trans hd hr)
theorem red_spec {p : Nat} : ∀ (f l c r : Nat), 0 < c → 2 ≤ r → All p l → (∀ e, All p e → l ∣ e * c) → (∀ d, 2 ≤ d → d < r → ¬ d ∣ c) → ∀ e, All p e → red p f l c r ∣ e
  | 0, _, _, _, _, _, _, _, _, e, _ => Nat.one_dvd e
  | f + 1, l, c, r, hc, hr, ha, hI, hno, e, he => by
    unfold red
    by_cases h1 : c = 1
    · subst h1
      have := hI e he
      rw [Nat.mul_one] at this
      simpa using this
    · have e1 : Nat.beq c 1 = false := by rw [Bool.eq_false_iff]; intro h; exact h1 (beq_iff.1 h)
      rw [e1, cond_false]
      by_cases h2 : c + 1 ≤ r * r
      · have e2 : Nat.ble (c + 1) (r * r) = true := Nat.ble_eq_true_of_le h2
        rw [e2, cond_true]
        have hp := pr_of_no (by omega) hno (show c < r * r by omega)
        by_cases h3 : (Nat.beq (l % c) 0 && all1 p (l / c)) = true
        · rw [h3, cond_true]
          simp only [Bool.and_eq_true, beq_iff] at h3
          have := red_down (by omega) (Nat.dvd_refl c) (Nat.dvd_of_mod_eq_zero h3.1) hI e he
          rw [Nat.div_self hc, Nat.mul_one] at this
          exact this
        · have h3' : (Nat.beq (l % c) 0 && all1 p (l / c)) = false := by simpa using h3
          rw [h3', cond_false]
          have := red_one hp (Nat.dvd_refl c) ha hI (fun ⟨h4, h5⟩ => h3 (by
            simp only [Bool.and_eq_true, beq_iff]
            exact ⟨Nat.mod_eq_zero_of_dvd h4, all1_iff.2 h5⟩)) e he
          rw [Nat.div_self hc, Nat.mul_one] at this
          exact this
      · have e2 : Nat.ble (c + 1) (r * r) = false := by rw [Bool.eq_false_iff]; intro h; exact h2 (Nat.le_of_ble_eq_true h)
        rw [e2, cond_false]
        by_cases h3 : c % r = 0
        · have e3 : Nat.beq (c % r) 0 = true := by rw [h3]; rfl
          rw [e3, cond_true]
          have hd := Nat.dvd_of_mod_eq_zero h3
          have hp := pr_least hr hno hd
          have hc' : 0 < c / r := Nat.div_pos (Nat.le_of_dvd hc hd) (by omega)
          have hno' : ∀ d, 2 ≤ d → d < r → ¬ d ∣ c / r := fun d h4 h5 h6 => hno d h4 h5 (Nat.dvd_trans h6 (Nat.div_dvd_of_dvd hd))
          by_cases h4 : (Nat.beq (l % r) 0 && all1 p (l / r)) = true
          · rw [h4, cond_true]
            simp only [Bool.and_eq_true, beq_iff] at h4
            exact red_spec f _ _ r hc' hr (all1_iff.1 h4.2) (red_down (by omega) hd (Nat.dvd_of_mod_eq_zero h4.1) hI) hno' e he
          · have h4' : (Nat.beq (l % r) 0 && all1 p (l / r)) = false := by simpa using h4
            rw [h4', cond_false]
            exact red_spec f _ _ r hc' hr ha (red_one hp hd ha hI (fun ⟨h5, h6⟩ => h4 (by
              simp only [Bool.and_eq_true, beq_iff]
              exact ⟨Nat.mod_eq_zero_of_dvd h5, all1_iff.2 h6⟩))) hno' e he
        · have e3 : Nat.beq (c % r) 0 = false := by rw [Bool.eq_false_iff]; intro h; exact h3 (beq_iff.1 h)
          rw [e3, cond_false]
          refine red_spec f l c (r + 1) hc (by omega) ha hI (fun d h4 h5 h6 => ?_) e he
          rcases Nat.lt_or_ge d r with h7 | h7
          · exact hno d h4 h7 h6
          · obtain rfl : d = r := by omega
            exact h3 (Nat.mod_eq_zero_of_dvd h6)
def lam (p : Nat) : Nat := red p 400 (p - 1) (p - 1) 2
theorem lam_spec {p : Nat} (h : Pr p) (h7 : 7 < p) {e : Nat} (he : All p e) : lam p ∣ e := by
  have hn : ∀ a, 0 < a → a < p → ¬ p ∣ a := fun a h0 h1 hd => by have := Nat.le_of_dvd h0 hd; omega
  exact red_spec 400 (p - 1) (p - 1) 2 (by omega) (Nat.le_refl _) ⟨fermat_one h (hn 2 (by omega) (by omega)), fermat_one h (hn 3 (by omega) (by omega)), fermat_one h (hn 5 (by omega) (by omega)), fermat_one h (hn 7 (by omega) (by omega))⟩ (fun e _ => ⟨e, Nat.mul_comm _ _⟩) (fun d h1 h2 => by omega) e he
end Go.Proofs.YtpkjdnplmgfbbaaDoor
