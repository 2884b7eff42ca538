/- Plain numbers: primes, powers, the little theorem, the strong test. No program in sight. Plain numbers: what the strong test says of the primes in a number. No program in sight. Plain numbers: small programs that the kernel runs, and what their answers say. No program in sight. Plain numbers: what the kernel looks through, and what follows of it. No program in sight. Plain numbers: the other tables of the strong test. No program in sight. -/
import Derived.Lib.Hide
namespace Go.Proofs.YtefcdclmabdmbaaGreatDoor

/-- A prime. -/
def Pr (p : Nat) : Prop := 2 ≤ p ∧ ∀ d, d ∣ p → d = 1 ∨ d = p
theorem Pr.cop {p a : Nat} (h : Pr p) (ha : ¬ p ∣ a) : Nat.Coprime p a := by
  rcases h.2 _ (Nat.gcd_dvd_left p a) with e | e
  · exact e
  · exact absurd (e ▸ Nat.gcd_dvd_right p a) ha
theorem Pr.mul {p a b : Nat} (h : Pr p) (hab : p ∣ a * b) : p ∣ a ∨ p ∣ b := by
  by_cases ha : p ∣ a
  · exact .inl ha
  · exact .inr (Nat.Coprime.dvd_of_dvd_mul_left (h.cop ha) hab)
theorem Pr.pow {p a : Nat} (h : Pr p) : ∀ {e : Nat}, p ∣ a ^ e → p ∣ a
  | 0, he => by
    have := Nat.le_of_dvd (by omega) (show p ∣ 1 from he)
    have := h.1
    omega
  | e + 1, he => by
    rw [Nat.pow_succ] at he
    rcases h.mul he with h1 | h1
    · exact Pr.pow h h1
    · exact h1
/-- Each number from 2 on has a prime among its divisors. -/
theorem pr_dvd : ∀ n : Nat, 2 ≤ n → ∃ p, Pr p ∧ p ∣ n := by
  intro n
  induction n using Nat.strongRecOn with
  | ind n ih =>
    intro hn
    by_cases hp : Pr n
    · exact ⟨n, hp, Nat.dvd_refl n⟩
    · obtain ⟨d, hd, h1, h2⟩ : ∃ d, d ∣ n ∧ d ≠ 1 ∧ d ≠ n := by
        apply Classical.byContradiction
        intro hno
        exact hp ⟨hn, fun d hd => by
          apply Classical.byContradiction
          intro h3
          exact hno ⟨d, hd, fun e => h3 (.inl e), fun e => h3 (.inr e)⟩⟩
      have hdl := Nat.le_of_dvd (by omega) hd
      have hd0 : d ≠ 0 := fun e => by subst e; have := Nat.eq_zero_of_zero_dvd hd; omega
      obtain ⟨p, hp1, hp2⟩ := ih d (by omega) (by omega)
      exact ⟨p, hp1, Nat.dvd_trans hp2 hd⟩

/-- The e-th power is 1 modulo p. -/
def One (p x e : Nat) : Prop := x ^ e % p = 1 % p
theorem One.zero (p x : Nat) : One p x 0 := by unfold One; rw [Nat.pow_zero]
theorem One.add {p x e f : Nat} (h : One p x e) (k : One p x f) : One p x (e + f) := by
  unfold One at *
  rw [Nat.pow_add, Nat.mul_mod, h, k, ← Nat.mul_mod]
theorem One.sub {p x e f : Nat} (h : One p x e) (k : One p x (e + f)) : One p x f := by
  unfold One at *
  rw [Nat.pow_add, Nat.mul_mod, h, ← Nat.mul_mod, Nat.one_mul] at k
  exact k
theorem One.mul {p x e : Nat} (h : One p x e) : ∀ k, One p x (e * k)
  | 0 => One.zero p x
  | k + 1 => (One.mul h k).add h
theorem One.dvd {p x e f : Nat} (h : One p x e) (hd : e ∣ f) : One p x f := by
  obtain ⟨k, rfl⟩ := hd
  exact h.mul k
theorem One.gcd {p x : Nat} (e f : Nat) : One p x e → One p x f → One p x (Nat.gcd e f) := by
  refine Nat.gcd.induction (P := fun e f => One p x e → One p x f → One p x (Nat.gcd e f)) e f (fun f _ hf => by rw [Nat.gcd_zero_left]; exact hf) (fun m n hm ih h1 h2 => ?_)
  rw [Nat.gcd_rec]
  refine ih ?_ h1
  have e : m * (n / m) + n % m = n := Nat.div_add_mod n m
  exact One.sub (h1.mul (n / m)) (by rw [e]; exact h2)
theorem One.of_dvd {p n x e : Nat} (hpn : p ∣ n) (h : One n x e) : One p x e := by
  unfold One at *
  have h1 := congrArg (· % p) h
  simp only [Nat.mod_mod_of_dvd _ hpn] at h1
  exact h1

/-- Sums. -/
def psg (f : Nat → Nat) : Nat → Nat
  | 0 => 0
  | n + 1 => psg f n + f n
theorem psg_shift (f : Nat → Nat) : ∀ n, psg f (n + 1) = f 0 + psg (fun k => f (k + 1)) n
  | 0 => by simp [psg]
  | n + 1 => by
    show psg f (n + 1) + f (n + 1) = f 0 + (psg (fun k => f (k + 1)) n + f (n + 1))
    rw [psg_shift f n]; omega
theorem psg_add (f g : Nat → Nat) : ∀ n, psg (fun k => f k + g k) n = psg f n + psg g n
  | 0 => rfl
  | n + 1 => by
    show psg (fun k => f k + g k) n + (f n + g n) = psg f n + f n + (psg g n + g n)
    rw [psg_add f g n]; omega
theorem psg_mul (c : Nat) (f : Nat → Nat) : ∀ n, psg (fun k => c * f k) n = c * psg f n
  | 0 => by simp [psg]
  | n + 1 => by
    show psg (fun k => c * f k) n + c * f n = c * (psg f n + f n)
    rw [psg_mul c f n, Nat.mul_add]
theorem psg_congr {f g : Nat → Nat} : ∀ n, (∀ k, k < n → f k = g k) → psg f n = psg g n
  | 0, _ => rfl
  | n + 1, h => by
    show psg f n + f n = psg g n + g n
    rw [psg_congr n (fun k hk => h k (by omega)), h n (by omega)]
theorem psg_dvd {p : Nat} {f : Nat → Nat} : ∀ n, (∀ k, k < n → p ∣ f k) → p ∣ psg f n
  | 0, _ => Nat.dvd_zero p
  | n + 1, h => Nat.dvd_add (psg_dvd n (fun k hk => h k (by omega))) (h n (by omega))
/-- The binomial coefficients. -/
def ch : Nat → Nat → Nat
  | _, 0 => 1
  | 0, _ + 1 => 0
  | n + 1, k + 1 => ch n k + ch n (k + 1)
theorem ch_zero (n : Nat) : ch n 0 = 1 := by cases n <;> rfl
theorem ch_succ (n k : Nat) : ch (n + 1) (k + 1) = ch n k + ch n (k + 1) := rfl
theorem ch_gt : ∀ n k : Nat, n < k → ch n k = 0
  | 0, 0, h => by omega
  | 0, k + 1, _ => rfl
  | n + 1, 0, h => by omega
  | n + 1, k + 1, h => by rw [ch_succ, ch_gt n k (by omega), ch_gt n (k + 1) (by omega)]
theorem ch_self : ∀ n : Nat, ch n n = 1
  | 0 => rfl
  | n + 1 => by rw [ch_succ, ch_self n, ch_gt n (n + 1) (by omega)]
theorem ch_mul : ∀ n k : Nat, (k + 1) * ch (n + 1) (k + 1) = (n + 1) * ch n k
  | 0, 0 => rfl
  | 0, k + 1 => by rw [ch_gt 1 (k + 1 + 1) (by omega), ch_gt 0 (k + 1) (by omega), Nat.mul_zero, Nat.mul_zero]
  | n + 1, 0 => by
    have h := ch_mul n 0
    rw [ch_succ, ch_zero]
    rw [ch_zero] at h
    omega
  | n + 1, k + 1 => by
    have h1 := ch_mul n k
    have h2 := ch_mul n (k + 1)
    rw [ch_succ (n + 1) (k + 1), Nat.mul_add, h2]
    have e : (k + 1 + 1) * ch (n + 1) (k + 1) = (n + 1) * ch n k + ch (n + 1) (k + 1) := by rw [Nat.add_mul, h1, Nat.one_mul]
    rw [e, ch_succ n k, Nat.add_mul (n + 1) 1, Nat.mul_add, Nat.one_mul]
    omega
theorem binom (a : Nat) : ∀ n, (a + 1) ^ n = psg (fun k => ch n k * a ^ k) (n + 1)
  | 0 => by simp [psg, ch]
  | n + 1 => by
    have ih := binom a n
    rw [psg_shift]
    have e1 : psg (fun k => ch (n + 1) (k + 1) * a ^ (k + 1)) (n + 1) = psg (fun k => a * (ch n k * a ^ k)) (n + 1) + psg (fun k => ch n (k + 1) * a ^ (k + 1)) (n + 1) := by
      rw [← psg_add]
      refine psg_congr _ fun k _ => ?_
      rw [ch_succ, Nat.add_mul, Nat.pow_succ]
      congr 1
      rw [Nat.mul_comm a, Nat.mul_assoc]
    have e2 : ch n 0 * a ^ 0 + psg (fun k => ch n (k + 1) * a ^ (k + 1)) (n + 1) = (a + 1) ^ n := by
      have h := psg_shift (fun k => ch n k * a ^ k) (n + 1)
      rw [← h]
      show psg (fun k => ch n k * a ^ k) (n + 1) + ch n (n + 1) * a ^ (n + 1) = _
      rw [ch_gt n (n + 1) (by omega), Nat.zero_mul, Nat.add_zero, ← ih]
    rw [ch_zero] at e2 ⊢
    rw [e1, psg_mul, ← ih, Nat.pow_succ, Nat.mul_add, Nat.mul_one, Nat.mul_comm ((a + 1) ^ n) a]
    omega
theorem Pr.ch {p k : Nat} (h : Pr p) (h0 : 0 < k) (hk : k < p) : p ∣ Go.Proofs.YtefcdclmabdmbaaGreatDoor.ch p k := by
  obtain ⟨q, rfl⟩ : ∃ q, p = q + 1 := ⟨p - 1, by omega⟩
  obtain ⟨j, rfl⟩ : ∃ j, k = j + 1 := ⟨k - 1, by omega⟩
  have h1 := ch_mul q j
  rcases h.mul (show q + 1 ∣ (j + 1) * Go.Proofs.YtefcdclmabdmbaaGreatDoor.ch (q + 1) (j + 1) by rw [h1]; exact Nat.dvd_mul_right _ _) with h2 | h2
  · have := Nat.le_of_dvd (by omega) h2
    omega
  · exact h2
/-- The little theorem. -/
theorem fermat {p : Nat} (h : Pr p) : ∀ a : Nat, a ^ p % p = a % p
  | 0 => by
    have := h.1
    rw [Nat.zero_pow (by omega)]
  | a + 1 => by
    have h2 := h.1
    obtain ⟨q, hq⟩ : ∃ q, p = q + 1 := ⟨p - 1, by omega⟩
    have e := binom a p
    rw [psg_shift] at e
    have e2 : psg (fun k => ch p (k + 1) * a ^ (k + 1)) p = psg (fun k => ch p (k + 1) * a ^ (k + 1)) q + ch p p * a ^ p := by
      conv => lhs; rw [hq]
      show psg (fun k => ch (q + 1) (k + 1) * a ^ (k + 1)) q + ch (q + 1) (q + 1) * a ^ (q + 1) = _
      rw [hq]
    have hd : p ∣ psg (fun k => ch p (k + 1) * a ^ (k + 1)) q := psg_dvd q fun k hk => Nat.dvd_trans (h.ch (by omega) (by omega)) (Nat.dvd_mul_right _ _)
    obtain ⟨c, hc⟩ := hd
    rw [e2, hc, ch_self, ch_zero, Nat.pow_zero, Nat.one_mul, Nat.one_mul] at e
    rw [e, show 1 + (p * c + a ^ p) = (1 + a ^ p) + p * c by omega, Nat.add_mul_mod_self_left, Nat.add_mod, fermat h a, ← Nat.add_mod, Nat.add_comm]
theorem fermat_one {p a : Nat} (h : Pr p) (ha : ¬ p ∣ a) : One p a (p - 1) := by
  have h2 := h.1
  have h1 := fermat h a
  obtain ⟨q, rfl⟩ : ∃ q, p = q + 1 := ⟨p - 1, by omega⟩
  have h3 : q + 1 ∣ a ^ (q + 1) - a := Nat.dvd_of_mod_eq_zero (Nat.sub_mod_eq_zero_of_mod_eq h1)
  have e : a ^ (q + 1) - a = a * (a ^ q - 1) := by rw [Nat.pow_succ, Nat.mul_sub, Nat.mul_one, Nat.mul_comm]
  rw [e] at h3
  rcases h.mul h3 with h4 | h4
  · exact absurd h4 ha
  · have hpos : 1 ≤ a ^ q := Nat.one_le_pow _ _ (Nat.pos_of_ne_zero fun e0 => ha (e0 ▸ Nat.dvd_zero _))
    obtain ⟨c, hc⟩ := h4
    show a ^ q % (q + 1) = 1 % (q + 1)
    rw [show a ^ q = 1 + (q + 1) * c by omega, Nat.add_mul_mod_self_left]
end Go.Proofs.YtefcdclmabdmbaaGreatDoor

namespace Go.Proofs.YtefcdclmabdmbaaGreatDoor

/-- A number passes the strong test. -/
def Pass (a n : Nat) : Prop := ∀ k d, n - 1 = 2 ^ k * d → d % 2 = 1 → (a ^ d % n = 1 ∨ ∃ i, i < k ∧ a ^ (2 ^ i * d) % n = n - 1)
theorem pow_two_succ (a i d : Nat) : a ^ (2 ^ (i + 1) * d) = a ^ (2 ^ i * d) * a ^ (2 ^ i * d) := by
  rw [← Nat.pow_add]
  congr 1
  rw [Nat.pow_succ]
  have : 2 ^ i * 2 * d = 2 ^ i * d * 2 := by rw [Nat.mul_assoc, Nat.mul_comm 2 d, ← Nat.mul_assoc]
  omega
/-- A root of 1 modulo a prime is 1 or -1. -/
theorem Pr.root {n y : Nat} (h : Pr n) (hy : y * y % n = 1) : y % n = 1 ∨ y % n = n - 1 := by
  have h2 := h.1
  have hlt : y % n < n := Nat.mod_lt _ (by omega)
  obtain ⟨z, hz⟩ : ∃ z, z = y % n := ⟨_, rfl⟩
  have hzz : z * z % n = 1 := by rw [hz, ← Nat.mul_mod]; exact hy
  rw [← hz] at hlt ⊢
  have hz0 : 1 ≤ z := by
    rcases Nat.eq_zero_or_pos z with e | e
    · rw [e] at hzz; simp at hzz
    · exact e
  have hd : n ∣ (z - 1) * (z + 1) := by
    have e : (z - 1) * (z + 1) = z * z - 1 := by
      obtain ⟨q, rfl⟩ : ∃ q, z = q + 1 := ⟨z - 1, by omega⟩
      rw [Nat.add_sub_cancel, Nat.mul_add, Nat.add_mul, Nat.mul_add, Nat.one_mul, Nat.mul_one]
      omega
    rw [e]
    have h1 : z * z % n = 1 % n := by rw [hzz, Nat.mod_eq_of_lt (by omega)]
    exact Nat.dvd_of_mod_eq_zero (Nat.sub_mod_eq_zero_of_mod_eq h1)
  rcases h.mul hd with h3 | h3
  · left
    rcases Nat.eq_zero_or_pos (z - 1) with e | e
    · omega
    · have := Nat.le_of_dvd e h3; omega
  · right
    have := Nat.le_of_dvd (by omega) h3
    omega
/-- A prime passes. -/
theorem pass_prime {a n : Nat} (h : Pr n) (ha : ¬ n ∣ a) : Pass a n := by
  intro k d hk hd
  have h2 := h.1
  have key : ∀ i, a ^ (2 ^ i * d) % n = 1 → (a ^ d % n = 1 ∨ ∃ j, j < i ∧ a ^ (2 ^ j * d) % n = n - 1) := by
    intro i
    induction i with
    | zero => intro h1; left; rw [Nat.pow_zero, Nat.one_mul] at h1; exact h1
    | succ i ih =>
      intro h1
      rw [pow_two_succ] at h1
      rcases h.root h1 with h3 | h3
      · rcases ih h3 with h4 | ⟨j, h4, h5⟩
        · exact .inl h4
        · exact .inr ⟨j, by omega, h5⟩
      · exact .inr ⟨i, by omega, h3⟩
  refine key k ?_
  have h1 := fermat_one h ha
  unfold One at h1
  rw [hk] at h1
  rw [h1, Nat.mod_eq_of_lt (by omega)]

theorem minus_sq {n x : Nat} (h1 : 1 < n) (hx : x % n = n - 1) : x * x % n = 1 := by
  rw [Nat.mul_mod, hx]
  obtain ⟨m, rfl⟩ : ∃ m, n = m + 2 := ⟨n - 2, by omega⟩
  rw [show m + 2 - 1 = m + 1 by omega]
  have e : (m + 1) * (m + 1) = 1 + (m + 2) * m := by rw [Nat.add_mul, Nat.mul_add, Nat.add_mul]; omega
  rw [e, Nat.add_mul_mod_self_left, Nat.mod_eq_of_lt (by omega)]
theorem two_pow_odd : ∀ n : Nat, 0 < n → ∃ k d, n = 2 ^ k * d ∧ d % 2 = 1 := by
  intro n
  induction n using Nat.strongRecOn with
  | ind n ih =>
    intro hn
    by_cases h : n % 2 = 1
    · exact ⟨0, n, by simp, h⟩
    · obtain ⟨k, d, h1, h2⟩ := ih (n / 2) (by omega) (by omega)
      refine ⟨k + 1, d, ?_, h2⟩
      have : n = 2 * (n / 2) := by omega
      rw [this, h1, Nat.pow_succ, ← Nat.mul_assoc, Nat.mul_comm 2 (2 ^ k)]
/-- What passes, passes the weak test. -/
theorem Pass.one {a n : Nat} (h : Pass a n) (hn : 2 < n) (ho : n % 2 = 1) : One n a (n - 1) := by
  obtain ⟨k, d, h1, h2⟩ := two_pow_odd (n - 1) (by omega)
  rcases h k d h1 h2 with h3 | ⟨i, h3, h4⟩
  · have : One n a d := by unfold One; rw [h3, Nat.mod_eq_of_lt (by omega)]
    exact this.dvd ⟨2 ^ k, by rw [h1, Nat.mul_comm]⟩
  · have h5 : One n a (2 ^ (i + 1) * d) := by
      unfold One
      rw [pow_two_succ, minus_sq (by omega) h4, Nat.mod_eq_of_lt (by omega)]
    refine h5.dvd ⟨2 ^ (k - (i + 1)), ?_⟩
    rw [h1, show k = (i + 1) + (k - (i + 1)) by omega, Nat.pow_add, show i + 1 + (k - (i + 1)) - (i + 1) = k - (i + 1) by omega, Nat.mul_assoc, Nat.mul_comm _ d, Nat.mul_assoc]

/-- The sign of a base modulo a prime: how often 2 divides its order. -/
def Sig (a p s : Nat) : Prop := ∀ k u, p - 1 = 2 ^ k * u → u % 2 = 1 → One p a (2 ^ s * u) ∧ (s = 0 ∨ ¬ One p a (2 ^ (s - 1) * u))
theorem Sig.unique {a p s s' : Nat} (hp : 2 < p) (h : Sig a p s) (h' : Sig a p s') : s = s' := by
  obtain ⟨k, u, h1, h2⟩ := two_pow_odd (p - 1) (by omega)
  obtain ⟨a1, a2⟩ := h k u h1 h2
  obtain ⟨b1, b2⟩ := h' k u h1 h2
  have up : ∀ i j, i ≤ j → One p a (2 ^ i * u) → One p a (2 ^ j * u) := fun i j hij ho => ho.dvd ⟨2 ^ (j - i), by
    rw [show j = i + (j - i) by omega, Nat.pow_add, show i + (j - i) - i = j - i by omega, Nat.mul_assoc, Nat.mul_comm _ u, Nat.mul_assoc]⟩
  rcases Nat.lt_trichotomy s s' with h3 | h3 | h3
  · rcases b2 with h4 | h4
    · omega
    · exact absurd (up s (s' - 1) (by omega) a1) h4
  · exact h3
  · rcases a2 with h4 | h4
    · omega
    · exact absurd (up s' (s - 1) (by omega) b1) h4
end Go.Proofs.YtefcdclmabdmbaaGreatDoor

namespace Go.Proofs.YtefcdclmabdmbaaGreatDoor

theorem beq_iff {a b : Nat} : Nat.beq a b = true ↔ a = b := by rw [Nat.beq_eq]
theorem pm_pieces (a n M x y z : Nat) : (((a ^ x % n) ^ M * a ^ y % n) ^ M * a ^ z) % n = a ^ (x * (M * M) + (y * M + z)) % n := by
  have h2 : a ^ (x * (M * M) + (y * M + z)) = ((a ^ x) ^ M * a ^ y) ^ M * a ^ z := by
    rw [Nat.pow_add, Nat.pow_add, Nat.mul_pow, ← Nat.pow_mul, ← Nat.pow_mul, ← Nat.pow_mul, Nat.mul_assoc]
  have h3 : (a ^ x % n) ^ M * a ^ y % n = (a ^ x) ^ M * a ^ y % n := by rw [Nat.mul_mod, ← Nat.pow_mod, ← Nat.mul_mod]
  rw [h2, h3, Nat.mul_mod, ← Nat.pow_mod, ← Nat.mul_mod]
/-- a^e modulo n, by pieces of ten bits. -/
def pmM (M a e n : Nat) : Nat := (((a ^ (e / (M * M)) % n) ^ M * a ^ (e / M % M) % n) ^ M * a ^ (e % M)) % n
def pmR (M a e n : Nat) : Nat := Nat.mod (Nat.mul (Nat.pow (Nat.mod (Nat.mul (Nat.pow (Nat.mod (Nat.pow a (Nat.div e (Nat.mul M M))) n) M) (Nat.pow a (Nat.mod (Nat.div e M) M))) n) M) (Nat.pow a (Nat.mod e M))) n
def pm (a e n : Nat) : Nat := pmR 1024 a e n
theorem pmM_eq (M a e n : Nat) : pmM M a e n = a ^ e % n := by
  have h : e / (M * M) * (M * M) + (e / M % M * M + e % M) = e := by
    have h1 := Nat.div_add_mod e M
    have h2 := Nat.div_add_mod (e / M) M
    rw [← Nat.div_div_eq_div_mul]
    have h3 : e / M / M * (M * M) = M * (M * (e / M / M)) := by rw [← Nat.mul_assoc, Nat.mul_comm (e / M / M * M), Nat.mul_comm (e / M / M) M]
    rw [Nat.mul_comm (e / M % M) M, h3, ← Nat.add_assoc, ← Nat.mul_add, h2, h1]
  unfold pmM
  rw [pm_pieces, h]
theorem pmR_eq (M a e n : Nat) : pmR M a e n = a ^ e % n := (show pmR M a e n = pmM M a e n from rfl).trans (pmM_eq M a e n)
theorem pm_eq (a e n : Nat) : pm a e n = a ^ e % n := pmR_eq _ a e n

/-- The powers of 2, 3, 5 and 7 are 1. -/
def All (p e : Nat) : Prop := One p 2 e ∧ One p 3 e ∧ One p 5 e ∧ One p 7 e
def all1 (p e : Nat) : Bool := Nat.beq (pm 2 e p) (1 % p) && Nat.beq (pm 3 e p) (1 % p) && Nat.beq (pm 5 e p) (1 % p) && Nat.beq (pm 7 e p) (1 % p)
theorem all1_iff {p e : Nat} : all1 p e = true ↔ All p e := by
  unfold all1 All One
  simp only [Bool.and_eq_true, beq_iff, pm_eq]
  constructor
  · rintro ⟨⟨⟨a, b⟩, c⟩, d⟩; exact ⟨a, b, c, d⟩
  · rintro ⟨a, b, c, d⟩; exact ⟨⟨⟨a, b⟩, c⟩, d⟩
theorem All.dvd {p e f : Nat} (h : All p e) (hd : e ∣ f) : All p f := ⟨h.1.dvd hd, h.2.1.dvd hd, h.2.2.1.dvd hd, h.2.2.2.dvd hd⟩
theorem All.gcd {p e f : Nat} (h : All p e) (k : All p f) : All p (Nat.gcd e f) := ⟨One.gcd _ _ h.1 k.1, One.gcd _ _ h.2.1 k.2.1, One.gcd _ _ h.2.2.1 k.2.2.1, One.gcd _ _ h.2.2.2 k.2.2.2⟩

/-- One prime r of c is taken out; l comes down by it where it can. -/
theorem red_one {p l c r : Nat} (hr : Pr r) (hc : r ∣ c) (ha : All p l) (hI : ∀ e, All p e → l ∣ e * c) (hno : ¬ (r ∣ l ∧ All p (l / r))) : ∀ e, All p e → l ∣ e * (c / r) := by
  intro e he
  obtain ⟨c', rfl⟩ := hc
  have hr2 := hr.1
  rw [Nat.mul_div_cancel_left _ (by omega)]
  have hg := he.gcd ha
  obtain ⟨m, hm⟩ := Nat.gcd_dvd_right e l
  obtain ⟨e', he'⟩ := Nat.gcd_dvd_left e l
  obtain ⟨g, hgd⟩ : ∃ g, g = Nat.gcd e l := ⟨_, rfl⟩
  rw [← hgd] at hg hm he'
  by_cases hl0 : l = 0
  · have := hI e he
    rw [hl0] at this ⊢
    have h0 := Nat.eq_zero_of_zero_dvd this
    rcases Nat.mul_eq_zero.1 h0 with h1 | h1
    · rw [h1, Nat.zero_mul]; exact Nat.dvd_refl 0
    · rcases Nat.mul_eq_zero.1 h1 with h2 | h2
      · omega
      · rw [h2, Nat.mul_zero]; exact Nat.dvd_refl 0
  have hg0 : 0 < g := by
    rcases Nat.eq_zero_or_pos g with h | h
    · rw [h, Nat.zero_mul] at hm; omega
    · exact h
  have hrm : ¬ r ∣ m := fun ⟨k, hk⟩ => hno ⟨⟨g * k, by rw [hm, hk, ← Nat.mul_assoc, Nat.mul_comm g r, Nat.mul_assoc]⟩, by
    have e1 : l / r = g * k := by rw [hm, hk, ← Nat.mul_assoc, Nat.mul_comm g r, Nat.mul_assoc, Nat.mul_div_cancel_left _ (by omega)]
    rw [e1]
    exact hg.dvd ⟨k, rfl⟩⟩
  have hcop : Nat.Coprime m e' := by
    have h1 : Nat.gcd (g * m) (g * e') = g := by rw [← hm, ← he', Nat.gcd_comm]; exact hgd.symm
    rw [Nat.gcd_mul_left] at h1
    exact Nat.eq_of_mul_eq_mul_left hg0 (by rw [Nat.mul_one]; exact h1)
  have h2 := hI e he
  rw [hm, he', Nat.mul_assoc] at h2
  have h3 : m ∣ e' * (r * c') := Nat.dvd_of_mul_dvd_mul_left hg0 h2
  have h4 := hcop.dvd_of_dvd_mul_left h3
  have h5 := (hr.cop hrm).symm.dvd_of_dvd_mul_left h4
  rw [hm, he', Nat.mul_assoc]
  exact Nat.mul_dvd_mul_left g (Nat.dvd_trans h5 ⟨e', Nat.mul_comm _ _⟩)
theorem red_down {p l c r : Nat} (hr : 0 < r) (hc : r ∣ c) (hl : r ∣ l) (hI : ∀ e, All p e → l ∣ e * c) : ∀ e, All p e → l / r ∣ e * (c / r) := by
  intro e he
  obtain ⟨c', rfl⟩ := hc
  obtain ⟨l', rfl⟩ := hl
  rw [Nat.mul_div_cancel_left _ hr, Nat.mul_div_cancel_left _ hr]
  have := hI e he
  rw [← Nat.mul_assoc, Nat.mul_comm e r, Nat.mul_assoc] at this
  exact Nat.dvd_of_mul_dvd_mul_left hr this

/-- The least number that divides each e with powers 1: c is what is left of p - 1, without divisors below r. -/
def red (p : Nat) : Nat → Nat → Nat → Nat → Nat
  | 0, _, _, _ => 1
  | f + 1, l, c, r =>
    bif Nat.beq c 1 then l
    else bif Nat.ble (c + 1) (r * r) then (bif Nat.beq (l % c) 0 && all1 p (l / c) then l / c else l)
    else bif Nat.beq (c % r) 0 then (bif Nat.beq (l % r) 0 && all1 p (l / r) then red p f (l / r) (c / r) r else red p f l (c / r) r)
    else red p f l c (r + 1)
theorem pr_of_no {c r : Nat} (hc : 1 < c) (hno : ∀ d, 2 ≤ d → d < r → ¬ d ∣ c) (hr : c < r * r) : Pr c := by
  refine ⟨hc, fun d hd => ?_⟩
  apply Classical.byContradiction
  intro h
  have hd0 : d ≠ 0 := fun e => by subst e; have := Nat.eq_zero_of_zero_dvd hd; omega
  have h1 : d ≠ 1 := fun e => h (.inl e)
  have h2 : d ≠ c := fun e => h (.inr e)
  obtain ⟨k, hk⟩ := hd
  have hk1 : k ≠ 1 := fun e => h2 (by rw [hk, e, Nat.mul_one])
  have hk0 : k ≠ 0 := fun e => by rw [e, Nat.mul_zero] at hk; omega
  have a1 : r ≤ d := Nat.le_of_not_lt fun hlt => hno d (by omega) hlt ⟨k, hk⟩
  have a2 : r ≤ k := Nat.le_of_not_lt fun hlt => hno k (by omega) hlt ⟨d, by rw [hk, Nat.mul_comm]⟩
  have := Nat.mul_le_mul a1 a2
  omega
theorem pr_least {c r : Nat} (hr2 : 2 ≤ r) (hno : ∀ d, 2 ≤ d → d < r → ¬ d ∣ c) (hr : r ∣ c) : Pr r := by
  refine ⟨hr2, fun d hd => ?_⟩
  have hle := Nat.le_of_dvd (by omega) hd
  apply Classical.byContradiction
  intro h
  have hd0 : d ≠ 0 := fun e => by subst e; have := Nat.eq_zero_of_zero_dvd hd; omega
  exact hno d (by have : d ≠ 1 := fun e => h (.inl e); omega) (by have : d ≠ r := fun e => h (.inr e); omega) (Nat.dvd_trans hd hr)
theorem red_spec {p : Nat} : ∀ (f l c r : Nat), 0 < c → 2 ≤ r → All p l → (∀ e, All p e → l ∣ e * c) → (∀ d, 2 ≤ d → d < r → ¬ d ∣ c) → ∀ e, All p e → red p f l c r ∣ e
  | 0, _, _, _, _, _, _, _, _, e, _ => Nat.one_dvd e
  | f + 1, l, c, r, hc, hr, ha, hI, hno, e, he => by
    unfold red
    by_cases h1 : c = 1
    · subst h1
      have := hI e he
      rw [Nat.mul_one] at this
      simpa using this
    · have e1 : Nat.beq c 1 = false := by rw [Bool.eq_false_iff]; intro h; exact h1 (beq_iff.1 h)
      rw [e1, cond_false]
      by_cases h2 : c + 1 ≤ r * r
      · have e2 : Nat.ble (c + 1) (r * r) = true := Nat.ble_eq_true_of_le h2
        rw [e2, cond_true]
        have hp := pr_of_no (by omega) hno (show c < r * r by omega)
        by_cases h3 : (Nat.beq (l % c) 0 && all1 p (l / c)) = true
        · rw [h3, cond_true]
          simp only [Bool.and_eq_true, beq_iff] at h3
          have := red_down (by omega) (Nat.dvd_refl c) (Nat.dvd_of_mod_eq_zero h3.1) hI e he
          rw [Nat.div_self hc, Nat.mul_one] at this
          exact this
        · have h3' : (Nat.beq (l % c) 0 && all1 p (l / c)) = false := by simpa using h3
          rw [h3', cond_false]
          have := red_one hp (Nat.dvd_refl c) ha hI (fun ⟨h4, h5⟩ => h3 (by
            simp only [Bool.and_eq_true, beq_iff]
            exact ⟨Nat.mod_eq_zero_of_dvd h4, all1_iff.2 h5⟩)) e he
          rw [Nat.div_self hc, Nat.mul_one] at this
          exact this
      · have e2 : Nat.ble (c + 1) (r * r) = false := by rw [Bool.eq_false_iff]; intro h; exact h2 (Nat.le_of_ble_eq_true h)
        rw [e2, cond_false]
        by_cases h3 : c % r = 0
        · have e3 : Nat.beq (c % r) 0 = true := by rw [h3]; rfl
          rw [e3, cond_true]
          have hd := Nat.dvd_of_mod_eq_zero h3
          have hp := pr_least hr hno hd
          have hc' : 0 < c / r := Nat.div_pos (Nat.le_of_dvd hc hd) (by omega)
          have hno' : ∀ d, 2 ≤ d → d < r → ¬ d ∣ c / r := fun d h4 h5 h6 => hno d h4 h5 (Nat.dvd_trans h6 (Nat.div_dvd_of_dvd hd))
          by_cases h4 : (Nat.beq (l % r) 0 && all1 p (l / r)) = true
          · rw [h4, cond_true]
            simp only [Bool.and_eq_true, beq_iff] at h4
            exact red_spec f _ _ r hc' hr (all1_iff.1 h4.2) (red_down (by omega) hd (Nat.dvd_of_mod_eq_zero h4.1) hI) hno' e he
          · have h4' : (Nat.beq (l % r) 0 && all1 p (l / r)) = false := by simpa using h4
            rw [h4', cond_false]
            exact red_spec f _ _ r hc' hr ha (red_one hp hd ha hI (fun ⟨h5, h6⟩ => h4 (by
              simp only [Bool.and_eq_true, beq_iff]
              exact ⟨Nat.mod_eq_zero_of_dvd h5, all1_iff.2 h6⟩))) hno' e he
        · have e3 : Nat.beq (c % r) 0 = false := by rw [Bool.eq_false_iff]; intro h; exact h3 (beq_iff.1 h)
          rw [e3, cond_false]
          refine red_spec f l c (r + 1) hc (by omega) ha hI (fun d h4 h5 h6 => ?_) e he
          rcases Nat.lt_or_ge d r with h7 | h7
          · exact hno d h4 h7 h6
          · obtain rfl : d = r := by omega
            exact h3 (Nat.mod_eq_zero_of_dvd h6)
def lam (p : Nat) : Nat := red p 400 (p - 1) (p - 1) 2
theorem lam_spec {p : Nat} (h : Pr p) (h7 : 7 < p) {e : Nat} (he : All p e) : lam p ∣ e := by
  have hn : ∀ a, 0 < a → a < p → ¬ p ∣ a := fun a h0 h1 hd => by have := Nat.le_of_dvd h0 hd; omega
  exact red_spec 400 (p - 1) (p - 1) 2 (by omega) (Nat.le_refl _) ⟨fermat_one h (hn 2 (by omega) (by omega)), fermat_one h (hn 3 (by omega) (by omega)), fermat_one h (hn 5 (by omega) (by omega)), fermat_one h (hn 7 (by omega) (by omega))⟩ (fun e _ => ⟨e, Nat.mul_comm _ _⟩) (fun d h1 h2 => by omega) e he
end Go.Proofs.YtefcdclmabdmbaaGreatDoor

namespace Go.Proofs.YtefcdclmabdmbaaGreatDoor

/-- Fails the strong test to the base a (n - 1 = 2^k d; y is the power to e = 2^j d). -/
def odd_ : Nat → Nat → Nat
  | 0, m => m
  | f + 1, m => bif Nat.beq (m % 2) 0 then odd_ f (m / 2) else m
def sfl (n : Nat) : Nat → Nat → Nat → Bool
  | 0, _, _ => false
  | f + 1, y, e => bif Nat.beq e (n - 1) then true else !(Nat.beq y (n - 1)) && sfl n f (y * y % n) (2 * e)
def sfail (a n : Nat) : Bool := !(Nat.beq (pm a (odd_ 40 (n - 1)) n) 1) && sfl n 40 (pm a (odd_ 40 (n - 1)) n) (odd_ 40 (n - 1))
def wfail (a n : Nat) : Bool := !(Nat.beq (pm a (n - 1) n) 1)
/-- The number is divided by 2, 3, 5 or 7, or fails a test. -/
def fails (n : Nat) : Bool :=
  Nat.beq (n % 2) 0 || Nat.beq (n % 3) 0 || Nat.beq (n % 5) 0 || Nat.beq (n % 7) 0 || wfail 2 n || wfail 3 n || wfail 5 n || wfail 7 n || sfail 2 n || sfail 3 n || sfail 5 n || sfail 7 n
/-- What the program's test lets through. -/
structure Thru4 (n : Nat) : Prop where
  odd : n % 2 ≠ 0
  three : n % 3 ≠ 0
  five : n % 5 ≠ 0
  seven : n % 7 ≠ 0
  p2 : Pass 2 n
  p3 : Pass 3 n
  p5 : Pass 5 n
  p7 : Pass 7 n
theorem odd_spec : ∀ f m : Nat, 0 < m → ∃ k, m = 2 ^ k * odd_ f m
  | 0, m, _ => ⟨0, by simp [odd_]⟩
  | f + 1, m, hm => by
    unfold odd_
    by_cases h : m % 2 = 0
    · rw [beq_iff.2 h, cond_true]
      obtain ⟨k, hk⟩ := odd_spec f (m / 2) (by omega)
      refine ⟨k + 1, ?_⟩
      rw [Nat.pow_succ, Nat.mul_assoc, Nat.mul_comm 2, ← Nat.mul_assoc, ← hk]
      omega
    · have e : Nat.beq (m % 2) 0 = false := by rw [Bool.eq_false_iff]; intro h2; exact h (beq_iff.1 h2)
      rw [e, cond_false]
      exact ⟨0, by simp⟩
theorem odd_is : ∀ f m : Nat, 0 < m → m < 2 ^ f → odd_ f m % 2 = 1
  | 0, m, h0, h => by simp at h; omega
  | f + 1, m, h0, h => by
    unfold odd_
    by_cases h2 : m % 2 = 0
    · rw [beq_iff.2 h2, cond_true]
      exact odd_is f (m / 2) (by omega) (by rw [Nat.pow_succ] at h; omega)
    · have e : Nat.beq (m % 2) 0 = false := by rw [Bool.eq_false_iff]; intro h3; exact h2 (beq_iff.1 h3)
      rw [e, cond_false]
      omega
theorem sfl_spec {a n d k : Nat} (hk : n - 1 = 2 ^ k * d) (hd : 0 < d) : ∀ (f j : Nat) (y : Nat), y = a ^ (2 ^ j * d) % n → j ≤ k → sfl n f y (2 ^ j * d) = true → ∀ i, j ≤ i → i < k → a ^ (2 ^ i * d) % n ≠ n - 1
  | 0, _, _, _, _, h, _, _, _ => by simp [sfl] at h
  | f + 1, j, y, hy, hjk, h, i, hji, hik => by
    unfold sfl at h
    by_cases he : 2 ^ j * d = n - 1
    · rw [hk] at he
      have h1 := Nat.eq_of_mul_eq_mul_right hd he
      have : j = k := (Nat.pow_right_inj (by omega)).1 h1
      omega
    · have e : Nat.beq (2 ^ j * d) (n - 1) = false := by rw [Bool.eq_false_iff]; intro h3; exact he (beq_iff.1 h3)
      rw [e, cond_false, Bool.and_eq_true] at h
      obtain ⟨h1, h2⟩ := h
      have hjk' : j ≠ k := fun e => he (by rw [hk, e])
      rcases Nat.lt_or_ge j i with h3 | h3
      · have e2 : 2 * (2 ^ j * d) = 2 ^ (j + 1) * d := by rw [Nat.pow_succ, Nat.mul_comm (2 ^ j) 2, Nat.mul_assoc]
        rw [e2] at h2
        refine sfl_spec hk hd f (j + 1) _ ?_ (by omega) h2 i (by omega) hik
        rw [hy, pow_two_succ, ← Nat.mul_mod]
      · obtain rfl : i = j := by omega
        intro h4
        rw [← hy] at h4
        rw [beq_iff.2 h4] at h1
        cases h1
theorem sfail_spec {a n : Nat} (hn : 2 < n) (hb : n < 2 ^ 40) (h : sfail a n = true) : ¬ Pass a n := by
  intro hp
  unfold sfail at h
  rw [Bool.and_eq_true] at h
  obtain ⟨h1, h2⟩ := h
  obtain ⟨k, hk⟩ := odd_spec 40 (n - 1) (by omega)
  have hd := odd_is 40 (n - 1) (by omega) (by omega)
  obtain ⟨d, hdd⟩ : ∃ d, d = odd_ 40 (n - 1) := ⟨_, rfl⟩
  rw [← hdd] at h1 h2 hk hd
  rw [pm_eq] at h1 h2
  rcases hp k d hk hd with h3 | ⟨i, h3, h4⟩
  · rw [beq_iff.2 h3] at h1
    cases h1
  · have e : d = 2 ^ 0 * d := by simp
    exact sfl_spec hk (by omega) 40 0 _ (by rw [← e]) (Nat.zero_le _) (by rw [← e]; exact h2) i (Nat.zero_le _) h3 h4
theorem wfail_spec {a n : Nat} (hn : 2 < n) (h : wfail a n = true) : ¬ One n a (n - 1) := by
  intro ho
  unfold wfail at h
  rw [pm_eq, beq_iff.2 (by unfold One at ho; rw [ho, Nat.mod_eq_of_lt (by omega)])] at h
  cases h
theorem fails_spec {n : Nat} (hn : 2 < n) (hb : n < 2 ^ 40) (ht : Thru4 n) : fails n = false := by
  rw [Bool.eq_false_iff]
  intro h
  have ho : n % 2 = 1 := by have := ht.odd; omega
  unfold fails at h
  simp only [Bool.or_eq_true, beq_iff] at h
  rcases h with ((((((((((h | h) | h) | h) | h) | h) | h) | h) | h) | h) | h) | h
  · exact ht.odd h
  · exact ht.three h
  · exact ht.five h
  · exact ht.seven h
  · exact wfail_spec hn h (ht.p2.one hn ho)
  · exact wfail_spec hn h (ht.p3.one hn ho)
  · exact wfail_spec hn h (ht.p5.one hn ho)
  · exact wfail_spec hn h (ht.p7.one hn ho)
  · exact sfail_spec hn hb h ht.p2
  · exact sfail_spec hn hb h ht.p3
  · exact sfail_spec hn hb h ht.p5
  · exact sfail_spec hn hb h ht.p7

/-- All of 2^d numbers from lo on. -/
def rg (t : Nat → Bool) : Nat → Nat → Bool
  | 0, lo => t lo
  | d + 1, lo => rg t d lo && rg t d (lo + 2 ^ d)
theorem rg_spec {t : Nat → Bool} : ∀ (d lo : Nat), rg t d lo = true → ∀ i, lo ≤ i → i < lo + 2 ^ d → t i = true
  | 0, lo, h, i, h1, h2 => by
    obtain rfl : i = lo := by simp at h2; omega
    exact h
  | d + 1, lo, h, i, h1, h2 => by
    unfold rg at h
    rw [Bool.and_eq_true] at h
    rcases Nat.lt_or_ge i (lo + 2 ^ d) with h3 | h3
    · exact rg_spec d lo h.1 i h1 h3
    · exact rg_spec d (lo + 2 ^ d) h.2 i h3 (by rw [Nat.pow_succ] at h2; omega)
/-- A divisor is found by a greatest common divisor. -/
def gd (c p : Nat) : Bool := Nat.ble 2 (Nat.gcd p c) && Nat.ble (Nat.gcd p c + 1) p
theorem gd_spec {c p : Nat} (h : gd c p = true) : ¬ Pr p := by
  unfold gd at h
  rw [Bool.and_eq_true] at h
  have h1 := Nat.le_of_ble_eq_true h.1
  have h2 := Nat.le_of_ble_eq_true h.2
  intro hp
  rcases hp.2 _ (Nat.gcd_dvd_left p c) with h3 | h3 <;> omega
def comp (p : Nat) : Bool := gd 166589903787325219380851695350896256250980509594874862046961683989710 p || gd 36571765172040598844188468431865239 p || gd 135279120641869620956459853694931695 p || gd 1309219421506885440313137828987783677 p || gd 74337741111880118021176283441 p || gd 16137160443118396219519316344231 p || gd 316773187163046517 p
theorem comp_spec {p : Nat} (h : comp p = true) : ¬ Pr p := by
  unfold comp at h
  simp only [Bool.or_eq_true] at h
  rcases h with (((((h | h) | h) | h) | h) | h) | h <;> exact gd_spec h
/-- p (m + j l) fails, for all j. -/
def lp (p N l : Nat) : Nat → Nat → Bool
  | 0, m => Nat.ble (N + 1) (p * m)
  | f + 1, m => bif Nat.ble (N + 1) (p * m) then true else fails (p * m) && lp p N l f (m + l)
theorem lp_spec {p N l : Nat} : ∀ (f m : Nat), lp p N l f m = true → ∀ j, p * (m + j * l) ≤ N → fails (p * (m + j * l)) = true
  | 0, m, h, j, hj => by
    have h1 := Nat.le_of_ble_eq_true h
    have h2 : p * m ≤ p * (m + j * l) := Nat.mul_le_mul_left p (Nat.le_add_right _ _)
    omega
  | f + 1, m, h, j, hj => by
    unfold lp at h
    by_cases h1 : N + 1 ≤ p * m
    · have h2 : p * m ≤ p * (m + j * l) := Nat.mul_le_mul_left p (Nat.le_add_right _ _)
      omega
    · have e : Nat.ble (N + 1) (p * m) = false := by rw [Bool.eq_false_iff]; intro h2; exact h1 (Nat.le_of_ble_eq_true h2)
      rw [e, cond_false, Bool.and_eq_true] at h
      cases j with
      | zero => rw [Nat.zero_mul, Nat.add_zero]; exact h.1
      | succ j =>
        have e2 : m + (j + 1) * l = m + l + j * l := by rw [Nat.add_mul, Nat.one_mul]; omega
        rw [e2] at hj ⊢
        exact lp_spec f (m + l) h.2 j hj
/-- The bound. -/
def bd : Nat := 1000000000
/-- Table 1: the numbers with a prime p from 1000 to 31622. -/
def t1 (i : Nat) : Bool := comp (2 * i + 1) || Nat.ble 31623 (2 * i + 1) || Nat.ble (2 * i + 1) 1000 || lp (2 * i + 1) bd (lam (2 * i + 1)) (bd / (2 * i + 1)) (1 + lam (2 * i + 1))
theorem t1_spec {i p m : Nat} (h : t1 i = true) (hi : p = 2 * i + 1) (hp : Pr p) (h1 : 1000 < p) (h2 : p < 31623) (hm : 1 < m) (hl : lam p ∣ m - 1) (hb : p * m ≤ bd) : fails (p * m) = true := by
  unfold t1 at h
  rw [← hi] at h
  simp only [Bool.or_eq_true] at h
  rcases h with ((h | h) | h) | h
  · exact absurd hp (comp_spec h)
  · have := Nat.le_of_ble_eq_true h; omega
  · have := Nat.le_of_ble_eq_true h; omega
  · obtain ⟨k, hk⟩ := hl
    have hk0 : k ≠ 0 := fun e => by rw [e, Nat.mul_zero] at hk; omega
    obtain ⟨j, rfl⟩ : ∃ j, k = j + 1 := ⟨k - 1, by omega⟩
    have em : m = 1 + lam p + j * lam p := by rw [Nat.mul_comm, Nat.add_mul, Nat.one_mul] at hk; omega
    rw [em] at hb ⊢
    exact lp_spec _ _ h j hb
end Go.Proofs.YtefcdclmabdmbaaGreatDoor

namespace Go.Proofs.YtefcdclmabdmbaaGreatDoor

theorem n_split {p m : Nat} (hp : 0 < p) (hm : 0 < m) : p * m - 1 = (p - 1) * m + (m - 1) := by
  obtain ⟨q, rfl⟩ : ∃ q, p = q + 1 := ⟨p - 1, by omega⟩
  rw [Nat.add_sub_cancel, Nat.add_mul, Nat.one_mul]
  omega
theorem All.sub {p e f : Nat} (h : All p e) (k : All p (e + f)) : All p f := ⟨h.1.sub k.1, h.2.1.sub k.2.1, h.2.2.1.sub k.2.2.1, h.2.2.2.sub k.2.2.2⟩
theorem All.mul {p e : Nat} (h : All p e) (k : Nat) : All p (e * k) := ⟨h.1.mul k, h.2.1.mul k, h.2.2.1.mul k, h.2.2.2.mul k⟩
theorem Pr.all {p : Nat} (h : Pr p) (h7 : 7 < p) : All p (p - 1) := by
  have hn : ∀ a, 0 < a → a < p → ¬ p ∣ a := fun a h0 h1 hd => by have := Nat.le_of_dvd h0 hd; omega
  exact ⟨fermat_one h (hn 2 (by omega) (by omega)), fermat_one h (hn 3 (by omega) (by omega)), fermat_one h (hn 5 (by omega) (by omega)), fermat_one h (hn 7 (by omega) (by omega))⟩
/-- The cofactor. -/
theorem All.cof {p m : Nat} (hp : Pr p) (h7 : 7 < p) (hm : 0 < m) (h : All p (p * m - 1)) : All p (m - 1) := by
  rw [n_split (by omega) hm] at h
  exact ((hp.all h7).mul m).sub h

/-- No square. -/
def wf (p : Nat) : Bool := comp p || Nat.ble p 10 || Nat.ble 1000 p || (Nat.beq (pm 2 (p * (p - 1)) (p * p)) 1 && !(Nat.beq (pm 2 (p - 1) (p * p)) 1))
theorem wf_spec {p n : Nat} (h : wf p = true) (hp : Pr p) (h1 : 10 < p) (h2 : p < 1000) (hn : 0 < n) (hd : p * p ∣ n) (ho : One n 2 (n - 1)) : False := by
  unfold wf at h
  simp only [Bool.or_eq_true, Bool.and_eq_true] at h
  rcases h with ((h | h) | h) | ⟨h, h3⟩
  · exact comp_spec h hp
  · have := Nat.le_of_ble_eq_true h; omega
  · have := Nat.le_of_ble_eq_true h; omega
  · have hpp : 1 < p * p := by have := Nat.mul_le_mul (show 2 ≤ p by omega) (show 2 ≤ p by omega); omega
    have h4 := beq_iff.1 h
    rw [pm_eq] at h4 h3
    have o1 : One (p * p) 2 (p * (p - 1)) := by unfold One; rw [h4, Nat.mod_eq_of_lt hpp]
    have o2 : One (p * p) 2 (n - 1) := One.of_dvd hd ho
    have o3 := One.gcd _ _ o1 o2
    have hcop : Nat.Coprime (Nat.gcd (p * (p - 1)) (n - 1)) p := by
      refine (hp.cop fun h5 => ?_).symm
      have h6 : p ∣ n - 1 := Nat.dvd_trans h5 (Nat.gcd_dvd_right _ _)
      have h7 : p ∣ n := Nat.dvd_trans (Nat.dvd_mul_right p p) hd
      have h8 : p ∣ 1 := by
        have := Nat.dvd_sub h7 h6
        rwa [show n - (n - 1) = 1 by omega] at this
      have := Nat.le_of_dvd (by omega) h8
      omega
    have h9 := hcop.dvd_of_dvd_mul_left (Nat.gcd_dvd_left (p * (p - 1)) (n - 1))
    have o4 := o3.dvd h9
    unfold One at o4
    rw [beq_iff.2 (by rw [o4, Nat.mod_eq_of_lt hpp])] at h3
    cases h3

/-- The inverse. -/
def inv_ (l : Nat) : Nat → Nat → Nat → Nat → Nat → Nat
  | 0, _, _, _, _ => 0
  | f + 1, r0, r1, s0, s1 => bif Nat.beq r1 0 then s0 else inv_ l f r1 (r0 % r1) s1 ((s0 + (l - (r0 / r1) % l) * s1) % l)
/-- The numbers with the primes q and r. -/
def pairL (q r l t : Nat) : Bool := Nat.beq ((q * r * t) % l) (1 % l) && lp (q * r) bd l (bd / (q * r)) (t % l)
def pair (q r : Nat) : Bool := !(Nat.beq (Nat.gcd (q * r) (Nat.lcm (lam q) (lam r))) 1) || pairL q r (Nat.lcm (lam q) (lam r)) (inv_ (Nat.lcm (lam q) (lam r)) 60 ((q * r) % Nat.lcm (lam q) (lam r)) (Nat.lcm (lam q) (lam r)) 1 0)
theorem one_mod {l x : Nat} (hx : 0 < x) (h : l ∣ x - 1) : x % l = 1 % l := by
  obtain ⟨c, hc⟩ := h
  rw [show x = 1 + l * c by omega, Nat.add_mul_mod_self_left]
theorem pairL_spec {q r l t0 t : Nat} (h : pairL q r l t0 = true) (h1 : (q * r * t) % l = 1 % l) (hb : q * r * t ≤ bd) : fails (q * r * t) = true := by
  unfold pairL at h
  rw [Bool.and_eq_true] at h
  have h2 := beq_iff.1 h.1
  have h3 : t % l = t0 % l := by
    have e1 : (t * (q * r * t0)) % l = t % l := by rw [Nat.mul_mod, h2, ← Nat.mul_mod, Nat.mul_one]
    have e2 : (t0 * (q * r * t)) % l = t0 % l := by rw [Nat.mul_mod, h1, ← Nat.mul_mod, Nat.mul_one]
    rw [← e1, ← e2]
    congr 1
    rw [Nat.mul_left_comm t, Nat.mul_left_comm t0, Nat.mul_comm t t0]
  have e : t = t0 % l + t / l * l := by
    have := Nat.mod_add_div t l
    rw [Nat.mul_comm] at this
    omega
  rw [e] at hb ⊢
  exact lp_spec _ _ h.2 _ hb
theorem pair_spec {q r t : Nat} (h : pair q r = true) (h0 : 0 < q * r * t) (hq : lam q ∣ q * r * t - 1) (hr : lam r ∣ q * r * t - 1) (hb : q * r * t ≤ bd) : fails (q * r * t) = true := by
  have hl : Nat.lcm (lam q) (lam r) ∣ q * r * t - 1 := Nat.lcm_dvd hq hr
  unfold pair at h
  rw [Bool.or_eq_true] at h
  rcases h with h | h
  · exfalso
    have hg : Nat.gcd (q * r) (Nat.lcm (lam q) (lam r)) = 1 := by
      have h1 : Nat.gcd (q * r) (Nat.lcm (lam q) (lam r)) ∣ q * r * t := Nat.dvd_trans (Nat.gcd_dvd_left _ _) (Nat.dvd_mul_right _ _)
      have h2 : Nat.gcd (q * r) (Nat.lcm (lam q) (lam r)) ∣ q * r * t - 1 := Nat.dvd_trans (Nat.gcd_dvd_right _ _) hl
      have h3 := Nat.dvd_sub h1 h2
      rw [show q * r * t - (q * r * t - 1) = 1 by omega] at h3
      exact Nat.dvd_one.1 h3
    rw [beq_iff.2 hg] at h
    cases h
  · exact pairL_spec h (one_mod h0 hl) hb
def tB (q r : Nat) : Bool := Nat.ble r 10 || Nat.ble q r || comp r || pair q r
def tB2 (q : Nat) : Bool := Nat.ble q 100 || Nat.ble 1000 q || comp q || rg (tB q) 10 0
theorem tB2_spec {q r t : Nat} (h : tB2 q = true) (hq : Pr q) (h1 : 100 < q) (h2 : q < 1000) (hr : Pr r) (h3 : 10 < r) (h4 : r < q) (h0 : 0 < q * r * t) (h5 : lam q ∣ q * r * t - 1) (h6 : lam r ∣ q * r * t - 1) (hb : q * r * t ≤ bd) : fails (q * r * t) = true := by
  unfold tB2 at h
  simp only [Bool.or_eq_true] at h
  rcases h with ((h | h) | h) | h
  · have := Nat.le_of_ble_eq_true h; omega
  · have := Nat.le_of_ble_eq_true h; omega
  · exact absurd hq (comp_spec h)
  · have k := rg_spec 10 0 h r (Nat.zero_le _) (by omega)
    unfold tB at k
    simp only [Bool.or_eq_true] at k
    rcases k with ((k | k) | k) | k
    · have := Nat.le_of_ble_eq_true k; omega
    · have := Nat.le_of_ble_eq_true k; omega
    · exact absurd hr (comp_spec k)
    · exact pair_spec k h0 h5 h6 hb

/-- The product of the numbers up to 31622. -/
def pr_ : Nat → Nat → Nat
  | 0, lo => bif Nat.ble lo 31622 then lo else 1
  | d + 1, lo => pr_ d lo * pr_ d (lo + 2 ^ d)
theorem pr_no {p : Nat} (hp : Pr p) (h : 31622 < p) : ∀ d lo, 0 < lo → ¬ p ∣ pr_ d lo
  | 0, lo, h0, hd => by
    unfold pr_ at hd
    by_cases h1 : lo ≤ 31622
    · rw [Nat.ble_eq_true_of_le h1, cond_true] at hd
      have := Nat.le_of_dvd h0 hd; omega
    · have e : Nat.ble lo 31622 = false := by rw [Bool.eq_false_iff]; intro h2; exact h1 (Nat.le_of_ble_eq_true h2)
      rw [e, cond_false] at hd
      have := Nat.le_of_dvd (by omega) hd; omega
  | d + 1, lo, h0, hd => by
    unfold pr_ at hd
    rcases hp.mul hd with h1 | h1
    · exact pr_no hp h d lo h0 h1
    · exact pr_no hp h d _ (Nat.lt_of_lt_of_le h0 (Nat.le_add_right _ _)) h1
/-- What a number shares with K is taken out. -/
def strip (K : Nat) : Nat → Nat → Nat
  | 0, G => G
  | f + 1, G => bif Nat.beq (Nat.gcd G K) 1 then G else strip K f (G / Nat.gcd G K)
theorem strip_spec {K p : Nat} (hp : Pr p) (hK : ¬ p ∣ K) : ∀ f G, p ∣ G → p ∣ strip K f G
  | 0, G, h => h
  | f + 1, G, h => by
    unfold strip
    by_cases h1 : Nat.gcd G K = 1
    · rw [beq_iff.2 h1, cond_true]; exact h
    · have e : Nat.beq (Nat.gcd G K) 1 = false := by rw [Bool.eq_false_iff]; intro h2; exact h1 (beq_iff.1 h2)
      rw [e, cond_false]
      refine strip_spec hp hK f _ ?_
      have h2 : Nat.gcd G K * (G / Nat.gcd G K) = G := Nat.mul_div_cancel' (Nat.gcd_dvd_left G K)
      rw [← h2] at h
      rcases hp.mul h with h3 | h3
      · exact absurd (Nat.dvd_trans h3 (Nat.gcd_dvd_right G K)) hK
      · exact h3
def gcd4 (e : Nat) : Nat := Nat.gcd (Nat.gcd (2 ^ e - 1) (3 ^ e - 1)) (Nat.gcd (5 ^ e - 1) (7 ^ e - 1))
theorem One.dvd_sub {p x e : Nat} (h : One p x e) : p ∣ x ^ e - 1 := Nat.dvd_of_mod_eq_zero (Nat.sub_mod_eq_zero_of_mod_eq h)
theorem gcd4_spec {p e : Nat} (h : All p e) : p ∣ gcd4 e := Nat.dvd_gcd (Nat.dvd_gcd h.1.dvd_sub h.2.1.dvd_sub) (Nat.dvd_gcd h.2.2.1.dvd_sub h.2.2.2.dvd_sub)
/-- The large primes of R, one number after the other. -/
def lpP (R s : Nat) : Nat → Nat → Bool
  | 0, P => Nat.ble (bd + 1) (P * s)
  | f + 1, P => bif Nat.ble (bd + 1) (P * s) then true else (!(Nat.beq (R % P) 0) || fails (P * s)) && lpP R s f (P + 1)
theorem lpP_spec {R s P : Nat} (hR : P ∣ R) (hb : P * s ≤ bd) : ∀ f P0, P0 ≤ P → lpP R s f P0 = true → fails (P * s) = true
  | 0, P0, h0, h => by
    have h1 := Nat.le_of_ble_eq_true h
    have := Nat.mul_le_mul_right s h0
    omega
  | f + 1, P0, h0, h => by
    unfold lpP at h
    have h1 := Nat.mul_le_mul_right s h0
    have e : Nat.ble (bd + 1) (P0 * s) = false := by rw [Bool.eq_false_iff]; intro h2; have := Nat.le_of_ble_eq_true h2; omega
    rw [e, cond_false, Bool.and_eq_true, Bool.or_eq_true] at h
    rcases Nat.lt_or_ge P0 P with h3 | h3
    · exact lpP_spec hR hb f (P0 + 1) h3 h.2
    · obtain rfl : P0 = P := by omega
      rcases h.1 with h4 | h4
      · rw [beq_iff.2 (Nat.mod_eq_zero_of_dvd hR)] at h4; cases h4
      · exact h4
def tAR (K s R : Nat) : Bool := Nat.beq R 1 || (Nat.beq (Nat.gcd R K) 1 && Nat.ble 1 R && Nat.ble (R + 1) 1000014129 && (Nat.ble (bd + 1) (R * s) || fails (R * s))) || lpP R s (bd / s) 31623
def tA (K i : Nat) : Bool := Nat.beq ((2 * i + 1) % 3) 0 || Nat.beq ((2 * i + 1) % 5) 0 || Nat.beq ((2 * i + 1) % 7) 0 || Nat.ble (2 * i + 1) 10 || Nat.ble 31623 (2 * i + 1) || tAR K (2 * i + 1) (strip K 40 (gcd4 (2 * i)))
/-- The large prime is all of R. -/
theorem large_all {K R P : Nat} (hK2 : ∀ f, Pr f → f ≤ 31622 → f ∣ K) (hg : Nat.gcd R K = 1) (h0 : 1 ≤ R) (hb : R < 1000014129) (hP : P ∣ R) (h1 : 31622 < P) : P = R := by
  obtain ⟨k, hk⟩ := hP
  by_cases hk1 : k = 1
  · rw [hk, hk1, Nat.mul_one]
  · exfalso
    have hk0 : k ≠ 0 := fun e => by rw [e, Nat.mul_zero] at hk; omega
    obtain ⟨f, hf, hfk⟩ := pr_dvd k (by omega)
    have hfR : f ∣ R := Nat.dvd_trans hfk ⟨P, by rw [hk, Nat.mul_comm]⟩
    rcases Nat.lt_or_ge 31622 f with h2 | h2
    · have h3 := Nat.le_of_dvd (by omega) hfk
      have h4 := Nat.mul_le_mul (show 31623 ≤ P from h1) (show 31623 ≤ k by omega)
      omega
    · have h3 := Nat.dvd_gcd hfR (hK2 f hf h2)
      rw [hg] at h3
      have := Nat.le_of_dvd (by omega) h3
      have := hf.1
      omega
theorem pr_has : ∀ (d lo f : Nat), lo ≤ f → f < lo + 2 ^ d → f ≤ 31622 → f ∣ pr_ d lo
  | 0, lo, f, h1, h2, h3 => by
    obtain rfl : f = lo := by simp at h2; omega
    unfold pr_
    rw [Nat.ble_eq_true_of_le h3, cond_true]
    exact Nat.dvd_refl f
  | d + 1, lo, f, h1, h2, h3 => by
    unfold pr_
    rcases Nat.lt_or_ge f (lo + 2 ^ d) with h4 | h4
    · exact Nat.dvd_trans (pr_has d lo f h1 h4 h3) (Nat.dvd_mul_right _ _)
    · exact Nat.dvd_trans (pr_has d (lo + 2 ^ d) f h4 (by rw [Nat.pow_succ] at h2; omega) h3) (Nat.dvd_mul_left _ _)
theorem tA_spec {K i s P : Nat} (h : tA K i = true) (hi : s = 2 * i + 1) (hP : Pr P) (hK : ¬ P ∣ K) (hK2 : ∀ f, Pr f → f ≤ 31622 → f ∣ K) (h1 : 31622 < P) (h3 : s % 3 ≠ 0) (h5 : s % 5 ≠ 0) (h7 : s % 7 ≠ 0) (h10 : 10 < s) (hb : P * s ≤ bd) (ha : All P (s - 1)) : fails (P * s) = true := by
  unfold tA at h
  rw [← hi] at h
  simp only [Bool.or_eq_true, beq_iff] at h
  have hs : s ≤ 31622 := by
    have := Nat.mul_le_mul_right s (show 31623 ≤ P from h1)
    unfold bd at hb
    omega
  rcases h with ((((h | h) | h) | h) | h) | h
  · exact absurd h h3
  · exact absurd h h5
  · exact absurd h h7
  · have := Nat.le_of_ble_eq_true h; omega
  · have := Nat.le_of_ble_eq_true h; omega
  · have hR : P ∣ strip K 40 (gcd4 (2 * i)) := strip_spec hP hK _ _ (gcd4_spec (by rw [show 2 * i = s - 1 by omega]; exact ha))
    obtain ⟨R, hRd⟩ : ∃ R, R = strip K 40 (gcd4 (2 * i)) := ⟨_, rfl⟩
    rw [← hRd] at hR h
    unfold tAR at h
    simp only [Bool.or_eq_true, Bool.and_eq_true, beq_iff] at h
    rcases h with (h | ⟨⟨⟨k1, k2⟩, k3⟩, k4⟩) | h
    · rw [h] at hR
      have := Nat.le_of_dvd (by omega) hR
      omega
    · have e := large_all hK2 k1 (Nat.le_of_ble_eq_true k2) (by have := Nat.le_of_ble_eq_true k3; omega) hR h1
      rw [← e] at k4
      rcases k4 with k4 | k4
      · have := Nat.le_of_ble_eq_true k4; omega
      · exact k4
    · exact lpP_spec hR hb _ _ h1 h

/-- The products of small primes. -/
def tD (n : Nat) : Bool := Nat.ble n 100 || fails n
def dfs : List Nat → Nat → Bool
  | [], _ => true
  | p :: L, acc => Nat.ble (bd + 1) (acc * p) || ((tD (acc * p) && dfs L (acc * p)) && dfs L acc)
theorem dfs_spec : ∀ (L : List Nat) (acc x : Nat), L.Pairwise (· < ·) → (∀ p ∈ L, Pr p) → dfs L acc = true → 1 < x → (∀ p, Pr p → ¬ p * p ∣ x) → (∀ p, Pr p → p ∣ x → p ∈ L) → acc * x ≤ bd → tD (acc * x) = true
  | [], acc, x, _, _, _, hx, _, hall, _ => by
    obtain ⟨p, hp, hpx⟩ := pr_dvd x hx
    cases hall p hp hpx
  | p :: L, acc, x, hL, hPr, h, hx, hsq, hall, hb => by
    rw [List.pairwise_cons] at hL
    have hp := hPr p (by simp)
    have hp2 := hp.1
    unfold dfs at h
    rw [Bool.or_eq_true] at h
    by_cases hpx : p ∣ x
    · obtain ⟨y, rfl⟩ := hpx
      have hy0 : 0 < y := Nat.pos_of_ne_zero fun e => by subst e; omega
      have h1 : acc * p ≤ acc * (p * y) := Nat.mul_le_mul_left acc (Nat.le_mul_of_pos_right p hy0)
      rcases h with h | h
      · have := Nat.le_of_ble_eq_true h; omega
      · rw [Bool.and_eq_true, Bool.and_eq_true] at h
        by_cases hy : y = 1
        · rw [hy, Nat.mul_one]; exact h.1.1
        · rw [← Nat.mul_assoc] at hb ⊢
          refine dfs_spec L (acc * p) y hL.2 (fun q hq => hPr q (by simp [hq])) h.1.2 (by omega) (fun q hq hd => hsq q hq (Nat.dvd_trans hd (Nat.dvd_mul_left y p))) (fun q hq hd => ?_) hb
          rcases List.mem_cons.1 (hall q hq (Nat.dvd_trans hd (Nat.dvd_mul_left y p))) with e | e
          · subst e
            exact absurd (Nat.mul_dvd_mul_left q hd) (hsq q hq)
          · exact e
    · have hne : ∀ q, Pr q → q ∣ x → q ∈ L := fun q hq hd => by
        rcases List.mem_cons.1 (hall q hq hd) with e | e
        · subst e; exact absurd hd hpx
        · exact e
      rcases h with h | h
      · exfalso
        have h1 := Nat.le_of_ble_eq_true h
        obtain ⟨q, hq, hqx⟩ := pr_dvd x hx
        have h2 := hL.1 q (hne q hq hqx)
        have h3 := Nat.le_of_dvd (by omega) hqx
        have := Nat.mul_le_mul_left acc (show p ≤ x by omega)
        omega
      · rw [Bool.and_eq_true] at h
        exact dfs_spec L acc x hL.2 (fun q hq => hPr q (by simp [hq])) h.2 hx hsq hne hb
def smalls : List Nat := [11, 13, 17, 19, 23, 29, 31, 37, 41, 43, 47, 53, 59, 61, 67, 71, 73, 79, 83, 89, 97]
end Go.Proofs.YtefcdclmabdmbaaGreatDoor
