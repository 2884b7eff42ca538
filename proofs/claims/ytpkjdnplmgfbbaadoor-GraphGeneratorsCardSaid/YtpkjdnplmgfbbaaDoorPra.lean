/- Plain numbers: primes, powers, the little theorem, the strong test. No program in sight. -/
import Derived.Lib.Hide
namespace Go.Proofs.YtpkjdnplmgfbbaaDoor

/-- A prime. -/
def Pr (p : Nat) : Prop := 2 ≤ p ∧ ∀ d, d ∣ p → d = 1 ∨ d = p
theorem Pr.cop {p a : Nat} (h : Pr p) (ha : ¬ p ∣ a) : Nat.Coprime p a := by
  rcases h.2 _ (Nat.gcd_dvd_left p a) with e | e
  · exact e
  · exact absurd (e ▸ Nat.gcd_dvd_right p a) ha
theorem Pr.mul {p a b : Nat} (h : Pr p) (hab : p ∣ a * b) : p ∣ a ∨ p ∣ b := by
  by_cases ha : p ∣ a
  · exact .inl ha
  · exact .inr (Nat.Coprime.dvd_of_dvd_mul_left (h.cop ha) hab)
theorem Pr.pow {p a : Nat} (h : Pr p) : ∀ {e : Nat}, p ∣ a ^ e → p ∣ a
  | 0, he => by
    have := Nat.le_of_dvd (by omega) (show p ∣ 1 from he)
    have := h.1
    omega
  | e + 1, he => by
    rw [Nat.pow_succ] at he
    rcases h.mul he with h1 | h1
    · exact Pr.pow h h1
    · exact h1
/-- Each number from 2 on has a prime among its divisors. -/
theorem pr_dvd : ∀ n : Nat, 2 ≤ n → ∃ p, Pr p ∧ p ∣ n := by
  intro n
  induction n using Nat.strongRecOn with
  | ind n ih =>
    intro hn
    by_cases hp : Pr n
    · exact ⟨n, hp, Nat.dvd_refl n⟩
    · obtain ⟨d, hd, h1, h2⟩ : ∃ d, d ∣ n ∧ d ≠ 1 ∧ d ≠ n := by
        apply Classical.byContradiction
        intro hno
        exact hp ⟨hn, fun d hd => by
          apply Classical.byContradiction
          intro h3
          exact hno ⟨d, hd, fun e => h3 (.inl e), fun e => h3 (.inr e)⟩⟩
      have hdl := Nat.le_of_dvd (by omega) hd
      have hd0 : d ≠ 0 := fun e => by subst e; have := Nat.eq_zero_of_zero_dvd hd; omega
      obtain ⟨p, hp1, hp2⟩ := ih d (by omega) (by omega)
      exact ⟨p, hp1, Nat.dvd_trans hp2 hd⟩

/-- The e-th power is 1 modulo p. -/
def One (p x e : Nat) : Prop := x ^ e % p = 1 % p
theorem One.zero (p x : Nat) : One p x 0 := by unfold One; rw [Nat.pow_zero]
theorem One.add {p x e f : Nat} (h : One p x e) (k : One p x f) : One p x (e + f) := by
  unfold One at *
  rw [Nat.pow_add, Nat.mul_mod, h, k, ← Nat.mul_mod]
theorem One.sub {p x e f : Nat} (h : One p x e) (k : One p x (e + f)) : One p x f := by
  unfold One at *
  rw [Nat.pow_add, Nat.mul_mod, h, ← Nat.mul_mod, Nat.one_mul] at k
  exact k
theorem One.mul {p x e : Nat} (h : One p x e) : ∀ k, One p x (e * k)
  | 0 => One.zero p x
  | k + 1 => (One.mul h k).add h
theorem One.dvd {p x e f : Nat} (h : One p x e) (hd : e ∣ f) : One p x f := by
  obtain ⟨k, rfl⟩ := hd
  exact h.mul k
theorem One.gcd {p x : Nat} (e f : Nat) : One p x e → One p x f → One p x (Nat.gcd e f) := by
  refine Nat.gcd.induction (P := fun e f => One p x e → One p x f → One p x (Nat.gcd e f)) e f (fun f _ hf => by rw [Nat.gcd_zero_left]; exact hf) (fun m n hm ih h1 h2 => ?_)
  rw [Nat.gcd_rec]
  refine ih ?_ h1
  have e : m * (n / m) + n % m = n := Nat.div_add_mod n m
  exact One.sub (h1.mul (n / m)) (by rw [e]; exact h2)
theorem One.of_dvd {p n x e : Nat} (hpn : p ∣ n) (h : One n x e) : One p x e := by
  unfold One at *
  have h1 := congrArg (· % p) h
  simp only [Nat.mod_mod_of_dvd _ hpn] at h1
  exact h1

/-- Sums. -/
def psg (f : Nat → Nat) : Nat → Nat
  | 0 => 0
  | n + 1 => psg f n + f n
theorem psg_shift (f : Nat → Nat) : ∀ n, psg f (n + 1) = f 0 + psg (fun k => f (k + 1)) n
  | 0 => by simp [psg]
  | n + 1 => by
    show psg f (n + 1) + f (n + 1) = f 0 + (psg (fun k => f (k + 1)) n + f (n + 1))
    rw [psg_shift f n]; omega
theorem psg_add (f g : Nat → Nat) : ∀ n, psg (fun k => f k + g k) n = psg f n + psg g n
  | 0 => rfl
  | n + 1 => by
    show psg (fun k => f k + g k) n + (f n + g n) = psg f n + f n + (psg g n + g n)
    rw [psg_add f g n]; omega
theorem psg_mul (c : Nat) (f : Nat → Nat) : ∀ n, psg (fun k => c * f k) n = c * psg f n
  | 0 => by simp [psg]
  | n + 1 => by
    show psg (fun k => c * f k) n + c * f n = c * (psg f n + f n)
    rw [psg_mul c f n, Nat.mul_add]
theorem psg_congr {f g : Nat → Nat} : ∀ n, (∀ k, k < n → f k = g k) → psg f n = psg g n
  | 0, _ => rfl
  | n + 1, h => by
    show psg f n + f n = psg g n + g n
    rw [psg_congr n (fun k hk => h k (by omega)), h n (by omega)]
theorem psg_dvd {p : Nat} {f : Nat → Nat} : ∀ n, (∀ k, k < n → p ∣ f k) → p ∣ psg f n
  | 0, _ => Nat.dvd_zero p
  | n + 1, h => Nat.dvd_add (psg_dvd n (fun k hk => h k (by omega))) (h n (by omega))
/-- The binomial coefficients. -/
def ch : Nat → Nat → Nat
  | _, 0 => 1
  | 0, _ + 1 => 0
  | n + 1, k + 1 => ch n k + ch n (k + 1)
theorem ch_zero (n : Nat) : ch n 0 = 1 := by cases n <;> rfl
theorem ch_succ (n k : Nat) : ch (n + 1) (k + 1) = ch n k + ch n (k + 1) := rfl
theorem ch_gt : ∀ n k : Nat, n < k → ch n k = 0
  | 0, 0, h => by omega
  | 0, k + 1, _ => rfl
  | n + 1, 0, h => by omega
  | n + 1, k + 1, h => by rw [ch_succ, ch_gt n k (by omega), ch_gt n (k + 1) (by omega)]
theorem ch_self : ∀ n : Nat, ch n n = 1
  | 0 => rfl
  | n + 1 => by rw [ch_succ, ch_self n, ch_gt n (n + 1) (by omega)]
theorem ch_mul : ∀ n k : Nat, (k + 1) * ch (n + 1) (k + 1) = (n + 1) * ch n k
  | 0, 0 => rfl
  | 0, k + 1 => by rw [ch_gt 1 (k + 1 + 1) (by omega), ch_gt 0 (k + 1) (by omega), Nat.mul_zero, Nat.mul_zero]
  | n + 1, 0 => by
    have h := ch_mul n 0
    rw [ch_succ, ch_zero]
    rw [ch_zero] at h
    omega
  | n + 1, k + 1 => by
    have h1 := ch_mul n k
    have h2 := ch_mul n (k + 1)
    rw [ch_succ (n + 1) (k + 1), Nat.mul_add, h2]
    have e : (k + 1 + 1) * ch (n + 1) (k + 1) = (n + 1) * ch n k + ch (n + 1) (k + 1) := by rw [Nat.add_mul, h1, Nat.one_mul]
    rw [e, ch_succ n k, Nat.add_mul (n + 1) 1, Nat.mul_add, Nat.one_mul]
    omega
theorem binom (a : Nat) : ∀ n, (a + 1) ^ n = psg (fun k => ch n k * a ^ k) (n + 1)
  | 0 => by simp [psg, ch]
  | n + 1 => by
    have ih := binom a n
    rw [psg_shift]
    have e1 : psg (fun k => ch (n + 1) (k + 1) * a ^ (k + 1)) (n + 1) = psg (fun k => a * (ch n k * a ^ k)) (n + 1) + psg (fun k => ch n (k + 1) * a ^ (k + 1)) (n + 1) := by
      rw [← psg_add]
      refine psg_congr _ fun k _ => ?_
      rw [ch_succ, Nat.add_mul, Nat.pow_succ]
      congr 1
      rw [Nat.mul_comm a, Nat.mul_assoc]
    have e2 : ch n 0 * a ^ 0 + psg (fun k => ch n (k + 1) * a ^ (k + 1)) (n + 1) = (a + 1) ^ n := by
      have h := psg_shift (fun k => ch n k * a ^ k) (n + 1)
      rw [← h]
      show psg (fun k => ch n k * a ^ k) (n + 1) + ch n (n + 1) * a ^ (n + 1) = _
      rw [ch_gt n (n + 1) (by omega), Nat.zero_mul, Nat.add_zero, ← ih]
    rw [ch_zero] at e2 ⊢
    rw [e1, psg_mul, ← ih, Nat.pow_succ, Nat.mul_add, Nat.mul_one, Nat.mul_comm ((a + 1) ^ n) a]
    omega
theorem Pr.ch {p k : Nat} (h : Pr p) (h0 : 0 < k) (hk : k < p) : p ∣ Go.Proofs.YtpkjdnplmgfbbaaDoor.ch p k := by
  obtain ⟨q, rfl⟩ : ∃ q, p = q + 1 := ⟨p - 1, by omega⟩
  obtain ⟨j, rfl⟩ : ∃ j, k = j + 1 := ⟨k - 1, by omega⟩
  have h1 := ch_mul q j
  rcases h.mul (show q + 1 ∣ (j + 1) * Go.Proofs.YtpkjdnplmgfbbaaDoor.ch (q + 1) (j + 1) by rw [h1]; exact Nat.dvd_mul_right _ _) with h2 | h2
  · have := Nat.le_of_dvd (by omega) h2
    omega
  · exact h2
/-- The little theorem. -/
theorem fermat {p : Nat} (h : Pr p) : ∀ a : Nat, a ^ p % p = a % p
  | 0 => by
    have := h.1
    rw [Nat.zero_pow (by omega)]
  | a + 1 => by
    have h2 := h.1
    obtain ⟨q, hq⟩ : ∃ q, p = q + 1 := ⟨p - 1, by omega⟩
    have e := binom a p
    rw [psg_shift] at e
    have e2 : psg (fun k => ch p (k + 1) * a ^ (k + 1)) p = psg (fun k => ch p (k + 1) * a ^ (k + 1)) q + ch p p * a ^ p := by
      conv => lhs; rw [hq]
      show psg (fun k => ch (q + 1) (k + 1) * a ^ (k + 1)) q + ch (q + 1) (q + 1) * a ^ (q + 1) = _
      rw [hq]
    have hd : p ∣ psg (fun k => ch p (k + 1) * a ^ (k + 1)) q := psg_dvd q fun k hk => Nat.dvd_trans (h.ch (by omega) (by omega)) (Nat.dvd_mul_right _ _)
    obtain ⟨c, hc⟩ := hd
    rw [e2, hc, ch_self, ch_zero, Nat.pow_zero, Nat.one_mul, Nat.one_mul] at e
    rw [e, show 1 + (p * c + a ^ p) = (1 + a ^ p) + p * c by omega, Nat.add_mul_mod_self_left, Nat.add_mod, fermat h a, ← Nat.add_mod, Nat.add_comm]
theorem fermat_one {p a : Nat} (h : Pr p) (ha : ¬ p ∣ a) : One p a (p - 1) := by
  have h2 := h.1
  have h1 := fermat h a
  obtain ⟨q, rfl⟩ : ∃ q, p = q + 1 := ⟨p - 1, by omega⟩
  have h3 : q + 1 ∣ a ^ (q + 1) - a := Nat.dvd_of_mod_eq_zero (Nat.sub_mod_eq_zero_of_mod_eq h1)
  have e : a ^ (q + 1) - a = a * (a ^ q - 1) := by rw [Nat.pow_succ, Nat.mul_sub, Nat.mul_one, Nat.mul_comm]
  rw [e] at h3
  rcases h.mul h3 with h4 | h4
  · exact absurd h4 ha
  · have hpos : 1 ≤ a ^ q := Nat.one_le_pow _ _ (Nat.pos_of_ne_zero fun e0 => ha (e0 ▸ Nat.dvd_zero _))
    obtain ⟨c, hc⟩ := h4
    show a ^ q % (q + 1) = 1 % (q + 1)
    rw [show a ^ q = 1 + (q + 1) * c by omega, Nat.add_mul_mod_self_left]
end Go.Proofs.YtpkjdnplmgfbbaaDoor
