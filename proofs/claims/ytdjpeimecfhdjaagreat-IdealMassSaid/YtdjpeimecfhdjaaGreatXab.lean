/- Plain numbers: primes, powers, the little theorem, the strong test. No program in sight. Plain numbers: what the strong test says of the primes in a number. No program in sight. Plain numbers: small programs that the kernel runs, and what their answers say. No program in sight. Plain numbers: what the kernel looks through, and what follows of it. No program in sight. -/
import Derived.Lib.Hide
namespace Go.Proofs.YtdjpeimecfhdjaaGreat
def Pr (p : Nat) : Prop := 2 ≤ p ∧ ∀ d, d ∣ p → d = 1 ∨ d = p
theorem Pr.cop {p a : Nat} (h : Pr p) (ha : ¬ p ∣ a) : Nat.Coprime p a := by
 rcases h.2 _ (Nat.gcd_dvd_left p a) with e | e
 ·exact e
 ·exact absurd (e ▸ Nat.gcd_dvd_right p a) ha
theorem Pr.mul {p a b : Nat} (h : Pr p) (hab : p ∣ a * b) : p ∣ a ∨ p ∣ b := by
 by_cases ha : p ∣ a
 ·exact .inl ha
 ·exact .inr (Nat.Coprime.dvd_of_dvd_mul_left (h.cop ha) hab)
def One (p x e : Nat) : Prop := x ^ e % p = 1 % p
theorem One.zero (p x : Nat) : One p x 0 := by unfold One; rw [Nat.pow_zero]
theorem One.add {p x e f : Nat} (h : One p x e) (k : One p x f) : One p x (e + f) := by
 unfold One at *
 rw [Nat.pow_add, Nat.mul_mod, h, k, ← Nat.mul_mod]
theorem One.mul {p x e : Nat} (h : One p x e) : ∀ k, One p x (e * k)
 | 0 => One.zero p x
 | k + 1 => (One.mul h k).add h
theorem One.dvd {p x e f : Nat} (h : One p x e) (hd : e ∣ f) : One p x f := by
 obtain ⟨k, rfl⟩ := hd
 exact h.mul k
def psg (f : Nat → Nat) : Nat → Nat
 | 0 => 0
 | n + 1 => psg f n + f n
theorem psg_shift (f : Nat → Nat) : ∀ n, psg f (n + 1) = f 0 + psg (fun k => f (k + 1)) n
 | 0 => by simp [psg]
 | n + 1 => by
  show psg f (n + 1) + f (n + 1) = f 0 + (psg (fun k => f (k + 1)) n + f (n + 1))
  rw [psg_shift f n]; omega
theorem psg_add (f g : Nat → Nat) : ∀ n, psg (fun k => f k + g k) n = psg f n + psg g n
 | 0 => rfl
 | n + 1 => by
  show psg (fun k => f k + g k) n + (f n + g n) = psg f n + f n + (psg g n + g n)
  rw [psg_add f g n]; omega
theorem psg_mul (c : Nat) (f : Nat → Nat) : ∀ n, psg (fun k => c * f k) n = c * psg f n
 | 0 => by simp [psg]
 | n + 1 => by
  show psg (fun k => c * f k) n + c * f n = c * (psg f n + f n)
  rw [psg_mul c f n, Nat.mul_add]
theorem psg_congr {f g : Nat → Nat} : ∀ n, (∀ k, k < n → f k = g k) → psg f n = psg g n
 | 0, _ => rfl
 | n + 1, h => by
  show psg f n + f n = psg g n + g n
  rw [psg_congr n (fun k hk => h k (by omega)), h n (by omega)]
theorem psg_dvd {p : Nat} {f : Nat → Nat} : ∀ n, (∀ k, k < n → p ∣ f k) → p ∣ psg f n
 | 0, _ => Nat.dvd_zero p
 | n + 1, h => Nat.dvd_add (psg_dvd n (fun k hk => h k (by omega))) (h n (by omega))
def ch : Nat → Nat → Nat
 | _, 0 => 1
 | 0, _ + 1 => 0
 | n + 1, k + 1 => ch n k + ch n (k + 1)
theorem ch_zero (n : Nat) : ch n 0 = 1 := by cases n <;> rfl
theorem ch_succ (n k : Nat) : ch (n + 1) (k + 1) = ch n k + ch n (k + 1) := rfl
theorem ch_gt : ∀ n k : Nat, n < k → ch n k = 0
 | 0, 0, h => by omega
 | 0, k + 1, _ => rfl
 | n + 1, 0, h => by omega
 | n + 1, k + 1, h => by rw [ch_succ, ch_gt n k (by omega), ch_gt n (k + 1) (by omega)]
theorem ch_self : ∀ n : Nat, ch n n = 1
 | 0 => rfl
 | n + 1 => by rw [ch_succ, ch_self n, ch_gt n (n + 1) (by omega)]
theorem ch_mul : ∀ n k : Nat, (k + 1) * ch (n + 1) (k + 1) = (n + 1) * ch n k
 | 0, 0 => rfl
 | 0, k + 1 => by rw [ch_gt 1 (k + 1 + 1) (by omega), ch_gt 0 (k + 1) (by omega), Nat.mul_zero, Nat.mul_zero]
 | n + 1, 0 => by
  have h := ch_mul n 0
  rw [ch_succ, ch_zero]
  rw [ch_zero] at h
  omega
 | n + 1, k + 1 => by
  have h1 := ch_mul n k
  have h2 := ch_mul n (k + 1)
  rw [ch_succ (n + 1) (k + 1), Nat.mul_add, h2]
  have e : (k + 1 + 1) * ch (n + 1) (k + 1) = (n + 1) * ch n k + ch (n + 1) (k + 1) := by rw [Nat.add_mul, h1, Nat.one_mul]
  rw [e, ch_succ n k, Nat.add_mul (n + 1) 1, Nat.mul_add, Nat.one_mul]
  omega
theorem binom (a : Nat) : ∀ n, (a + 1) ^ n = psg (fun k => ch n k * a ^ k) (n + 1)
 | 0 => by simp [psg, ch]
 | n + 1 => by
  have ih := binom a n
  rw [psg_shift]
  have e1 : psg (fun k => ch (n + 1) (k + 1) * a ^ (k + 1)) (n + 1) = psg (fun k => a * (ch n k * a ^ k)) (n + 1) + psg (fun k => ch n (k + 1) * a ^ (k + 1)) (n + 1) := by
   rw [← psg_add]
   refine psg_congr _ fun k _ => ?_
   rw [ch_succ, Nat.add_mul, Nat.pow_succ]
   congr 1
   rw [Nat.mul_comm a, Nat.mul_assoc]
  have e2 : ch n 0 * a ^ 0 + psg (fun k => ch n (k + 1) * a ^ (k + 1)) (n + 1) = (a + 1) ^ n := by
   have h := psg_shift (fun k => ch n k * a ^ k) (n + 1)
   rw [← h]
   show psg (fun k => ch n k * a ^ k) (n + 1) + ch n (n + 1) * a ^ (n + 1) = _
   rw [ch_gt n (n + 1) (by omega), Nat.zero_mul, Nat.add_zero, ← ih]
  rw [ch_zero] at e2 ⊢
  rw [e1, psg_mul, ← ih, Nat.pow_succ, Nat.mul_add, Nat.mul_one, Nat.mul_comm ((a + 1) ^ n) a]
  omega
theorem Pr.ch {p k : Nat} (h : Pr p) (h0 : 0 < k) (hk : k < p) : p ∣ Go.Proofs.YtdjpeimecfhdjaaGreat.ch p k := by
 obtain ⟨q, rfl⟩ : ∃ q, p = q + 1 := ⟨p - 1, by omega⟩
 obtain ⟨j, rfl⟩ : ∃ j, k = j + 1 := ⟨k - 1, by omega⟩
 have h1 := ch_mul q j
 rcases h.mul (show q + 1 ∣ (j + 1) * Go.Proofs.YtdjpeimecfhdjaaGreat.ch (q + 1) (j + 1) by rw [h1]; exact Nat.dvd_mul_right _ _) with h2 | h2
 ·have := Nat.le_of_dvd (by omega) h2
  omega
 ·exact h2
theorem fermat {p : Nat} (h : Pr p) : ∀ a : Nat, a ^ p % p = a % p
 | 0 => by
  have := h.1
  rw [Nat.zero_pow (by omega)]
 | a + 1 => by
  have h2 := h.1
  obtain ⟨q, hq⟩ : ∃ q, p = q + 1 := ⟨p - 1, by omega⟩
  have e := binom a p
  rw [psg_shift] at e
  have e2 : psg (fun k => ch p (k + 1) * a ^ (k + 1)) p = psg (fun k => ch p (k + 1) * a ^ (k + 1)) q + ch p p * a ^ p := by
   conv => lhs; rw [hq]
   show psg (fun k => ch (q + 1) (k + 1) * a ^ (k + 1)) q + ch (q + 1) (q + 1) * a ^ (q + 1) = _
   rw [hq]
  have hd : p ∣ psg (fun k => ch p (k + 1) * a ^ (k + 1)) q := psg_dvd q fun k hk => Nat.dvd_trans (h.ch (by omega) (by omega)) (Nat.dvd_mul_right _ _)
  obtain ⟨c, hc⟩ := hd
  rw [e2, hc, ch_self, ch_zero, Nat.pow_zero, Nat.one_mul, Nat.one_mul] at e
  rw [e, show 1 + (p * c + a ^ p) = (1 + a ^ p) + p * c by omega, Nat.add_mul_mod_self_left, Nat.add_mod, fermat h a, ← Nat.add_mod, Nat.add_comm]
theorem fermat_one {p a : Nat} (h : Pr p) (ha : ¬ p ∣ a) : One p a (p - 1) := by
 have h2 := h.1
 have h1 := fermat h a
 obtain ⟨q, rfl⟩ : ∃ q, p = q + 1 := ⟨p - 1, by omega⟩
 have h3 : q + 1 ∣ a ^ (q + 1) - a := Nat.dvd_of_mod_eq_zero (Nat.sub_mod_eq_zero_of_mod_eq h1)
 have e : a ^ (q + 1) - a = a * (a ^ q - 1) := by rw [Nat.pow_succ, Nat.mul_sub, Nat.mul_one, Nat.mul_comm]
 rw [e] at h3
 rcases h.mul h3 with h4 | h4
 ·exact absurd h4 ha
 ·have hpos : 1 ≤ a ^ q := Nat.one_le_pow _ _ (Nat.pos_of_ne_zero fun e0 => ha (e0 ▸ Nat.dvd_zero _))
  obtain ⟨c, hc⟩ := h4
  show a ^ q % (q + 1) = 1 % (q + 1)
  rw [show a ^ q = 1 + (q + 1) * c by omega, Nat.add_mul_mod_self_left]
end Go.Proofs.YtdjpeimecfhdjaaGreat

namespace Go.Proofs.YtdjpeimecfhdjaaGreat
def Pass (a n : Nat) : Prop := ∀ k d, n - 1 = 2 ^ k * d → d % 2 = 1 → (a ^ d % n = 1 ∨ ∃ i, i < k ∧ a ^ (2 ^ i * d) % n = n - 1)
theorem pow_two_succ (a i d : Nat) : a ^ (2 ^ (i + 1) * d) = a ^ (2 ^ i * d) * a ^ (2 ^ i * d) := by
 rw [← Nat.pow_add]
 congr 1
 rw [Nat.pow_succ]
 have : 2 ^ i * 2 * d = 2 ^ i * d * 2 := by rw [Nat.mul_assoc, Nat.mul_comm 2 d, ← Nat.mul_assoc]
 omega
theorem Pr.root {n y : Nat} (h : Pr n) (hy : y * y % n = 1) : y % n = 1 ∨ y % n = n - 1 := by
 have h2 := h.1
 have hlt : y % n < n := Nat.mod_lt _ (by omega)
 obtain ⟨z, hz⟩ : ∃ z, z = y % n := ⟨_, rfl⟩
 have hzz : z * z % n = 1 := by rw [hz, ← Nat.mul_mod]; exact hy
 rw [← hz] at hlt ⊢
 have hz0 : 1 ≤ z := by
  rcases Nat.eq_zero_or_pos z with e | e
  ·rw [e] at hzz; simp at hzz
  ·exact e
 have hd : n ∣ (z - 1) * (z + 1) := by
  have e : (z - 1) * (z + 1) = z * z - 1 := by
   obtain ⟨q, rfl⟩ : ∃ q, z = q + 1 := ⟨z - 1, by omega⟩
   rw [Nat.add_sub_cancel, Nat.mul_add, Nat.add_mul, Nat.mul_add, Nat.one_mul, Nat.mul_one]
   omega
  rw [e]
  have h1 : z * z % n = 1 % n := by rw [hzz, Nat.mod_eq_of_lt (by omega)]
  exact Nat.dvd_of_mod_eq_zero (Nat.sub_mod_eq_zero_of_mod_eq h1)
 rcases h.mul hd with h3 | h3
 ·left
  rcases Nat.eq_zero_or_pos (z - 1) with e | e
  ·omega
  ·have := Nat.le_of_dvd e h3; omega
 ·right
  have := Nat.le_of_dvd (by omega) h3
  omega
theorem pass_prime {a n : Nat} (h : Pr n) (ha : ¬ n ∣ a) : Pass a n := by
 intro k d hk hd
 have h2 := h.1
 have key : ∀ i, a ^ (2 ^ i * d) % n = 1 → (a ^ d % n = 1 ∨ ∃ j, j < i ∧ a ^ (2 ^ j * d) % n = n - 1) := by
  intro i
  induction i with
  | zero => intro h1; left; rw [Nat.pow_zero, Nat.one_mul] at h1; exact h1
  | succ i ih =>
   intro h1
   rw [pow_two_succ] at h1
   rcases h.root h1 with h3 | h3
   ·rcases ih h3 with h4 | ⟨j, h4, h5⟩
    ·exact .inl h4
    ·exact .inr ⟨j, by omega, h5⟩
   ·exact .inr ⟨i, by omega, h3⟩
 refine key k ?_
 have h1 := fermat_one h ha
 unfold One at h1
 rw [hk] at h1
 rw [h1, Nat.mod_eq_of_lt (by omega)]
theorem minus_sq {n x : Nat} (h1 : 1 < n) (hx : x % n = n - 1) : x * x % n = 1 := by
 rw [Nat.mul_mod, hx]
 obtain ⟨m, rfl⟩ : ∃ m, n = m + 2 := ⟨n - 2, by omega⟩
 rw [show m + 2 - 1 = m + 1 by omega]
 have e : (m + 1) * (m + 1) = 1 + (m + 2) * m := by rw [Nat.add_mul, Nat.mul_add, Nat.add_mul]; omega
 rw [e, Nat.add_mul_mod_self_left, Nat.mod_eq_of_lt (by omega)]
theorem two_pow_odd : ∀ n : Nat, 0 < n → ∃ k d, n = 2 ^ k * d ∧ d % 2 = 1 := by
 intro n
 induction n using Nat.strongRecOn with
 | ind n ih =>
  intro hn
  by_cases h : n % 2 = 1
  ·exact ⟨0, n, by simp, h⟩
  ·obtain ⟨k, d, h1, h2⟩ := ih (n / 2) (by omega) (by omega)
   refine ⟨k + 1, d, ?_, h2⟩
   have : n = 2 * (n / 2) := by omega
   rw [this, h1, Nat.pow_succ, ← Nat.mul_assoc, Nat.mul_comm 2 (2 ^ k)]
theorem Pass.one {a n : Nat} (h : Pass a n) (hn : 2 < n) (ho : n % 2 = 1) : One n a (n - 1) := by
 obtain ⟨k, d, h1, h2⟩ := two_pow_odd (n - 1) (by omega)
 rcases h k d h1 h2 with h3 | ⟨i, h3, h4⟩
 ·have : One n a d := by unfold One; rw [h3, Nat.mod_eq_of_lt (by omega)]
  exact this.dvd ⟨2 ^ k, by rw [h1, Nat.mul_comm]⟩
 ·have h5 : One n a (2 ^ (i + 1) * d) := by
   unfold One
   rw [pow_two_succ, minus_sq (by omega) h4, Nat.mod_eq_of_lt (by omega)]
  refine h5.dvd ⟨2 ^ (k - (i + 1)), ?_⟩
  rw [h1, show k = (i + 1) + (k - (i + 1)) by omega, Nat.pow_add, show i + 1 + (k - (i + 1)) - (i + 1) = k - (i + 1) by omega, Nat.mul_assoc, Nat.mul_comm _ d, Nat.mul_assoc]
end Go.Proofs.YtdjpeimecfhdjaaGreat

namespace Go.Proofs.YtdjpeimecfhdjaaGreat
theorem beq_iff {a b : Nat} : Nat.beq a b = true ↔ a = b := by rw [Nat.beq_eq]
theorem pm_pieces (a n M x y z : Nat) : (((a ^ x % n) ^ M * a ^ y % n) ^ M * a ^ z) % n = a ^ (x * (M * M) + (y * M + z)) % n := by
 have h2 : a ^ (x * (M * M) + (y * M + z)) = ((a ^ x) ^ M * a ^ y) ^ M * a ^ z := by
  rw [Nat.pow_add, Nat.pow_add, Nat.mul_pow, ← Nat.pow_mul, ← Nat.pow_mul, ← Nat.pow_mul, Nat.mul_assoc]
 have h3 : (a ^ x % n) ^ M * a ^ y % n = (a ^ x) ^ M * a ^ y % n := by rw [Nat.mul_mod, ← Nat.pow_mod, ← Nat.mul_mod]
 rw [h2, h3, Nat.mul_mod, ← Nat.pow_mod, ← Nat.mul_mod]
def pmM (M a e n : Nat) : Nat := (((a ^ (e / (M * M)) % n) ^ M * a ^ (e / M % M) % n) ^ M * a ^ (e % M)) % n
def pmR (M a e n : Nat) : Nat := Nat.mod (Nat.mul (Nat.pow (Nat.mod (Nat.mul (Nat.pow (Nat.mod (Nat.pow a (Nat.div e (Nat.mul M M))) n) M) (Nat.pow a (Nat.mod (Nat.div e M) M))) n) M) (Nat.pow a (Nat.mod e M))) n
def pm (a e n : Nat) : Nat := pmR 1024 a e n
theorem pmM_eq (M a e n : Nat) : pmM M a e n = a ^ e % n := by
 have h : e / (M * M) * (M * M) + (e / M % M * M + e % M) = e := by
  have h1 := Nat.div_add_mod e M
  have h2 := Nat.div_add_mod (e / M) M
  rw [← Nat.div_div_eq_div_mul]
  have h3 : e / M / M * (M * M) = M * (M * (e / M / M)) := by rw [← Nat.mul_assoc, Nat.mul_comm (e / M / M * M), Nat.mul_comm (e / M / M) M]
  rw [Nat.mul_comm (e / M % M) M, h3, ← Nat.add_assoc, ← Nat.mul_add, h2, h1]
 unfold pmM
 rw [pm_pieces, h]
theorem pmR_eq (M a e n : Nat) : pmR M a e n = a ^ e % n := (show pmR M a e n = pmM M a e n from rfl).trans (pmM_eq M a e n)
theorem pm_eq (a e n : Nat) : pm a e n = a ^ e % n := pmR_eq _ a e n
def all1 (p e : Nat) : Bool := Nat.beq (pm 2 e p) (1 % p) && Nat.beq (pm 3 e p) (1 % p) && Nat.beq (pm 5 e p) (1 % p) && Nat.beq (pm 7 e p) (1 % p)
def red (p : Nat) : Nat → Nat → Nat → Nat → Nat
 | 0, _, _, _ => 1
 | f + 1, l, c, r =>
  bif Nat.beq c 1 then l
  else bif Nat.ble (c + 1) (r * r) then (bif Nat.beq (l % c) 0 && all1 p (l / c) then l / c else l)
  else bif Nat.beq (c % r) 0 then (bif Nat.beq (l % r) 0 && all1 p (l / r) then red p f (l / r) (c / r) r else red p f l (c / r) r)
  else red p f l c (r + 1)
theorem pr_of_no {c r : Nat} (hc : 1 < c) (hno : ∀ d, 2 ≤ d → d < r → ¬ d ∣ c) (hr : c < r * r) : Pr c := by
 refine ⟨hc, fun d hd => ?_⟩
 apply Classical.byContradiction
 intro h
 have hd0 : d ≠ 0 := fun e => by subst e; have := Nat.eq_zero_of_zero_dvd hd; omega
 have h1 : d ≠ 1 := fun e => h (.inl e)
 have h2 : d ≠ c := fun e => h (.inr e)
 obtain ⟨k, hk⟩ := hd
 have hk1 : k ≠ 1 := fun e => h2 (by rw [hk, e, Nat.mul_one])
 have hk0 : k ≠ 0 := fun e => by rw [e, Nat.mul_zero] at hk; omega
 have a1 : r ≤ d := Nat.le_of_not_lt fun hlt => hno d (by omega) hlt ⟨k, hk⟩
 have a2 : r ≤ k := Nat.le_of_not_lt fun hlt => hno k (by omega) hlt ⟨d, by rw [hk, Nat.mul_comm]⟩
 have := Nat.mul_le_mul a1 a2
 omega
theorem pr_least {c r : Nat} (hr2 : 2 ≤ r) (hno : ∀ d, 2 ≤ d → d < r → ¬ d ∣ c) (hr : r ∣ c) : Pr r := by
 refine ⟨hr2, fun d hd => ?_⟩
 have hle := Nat.le_of_dvd (by omega) hd
 apply Classical.byContradiction
 intro h
 have hd0 : d ≠ 0 := fun e => by subst e; have := Nat.eq_zero_of_zero_dvd hd; omega
 exact hno d (by have : d ≠ 1 := fun e => h (.inl e); omega) (by have : d ≠ r := fun e => h (.inr e); omega) (Nat.dvd_trans hd hr)
def lam (p : Nat) : Nat := red p 400 (p - 1) (p - 1) 2
end Go.Proofs.YtdjpeimecfhdjaaGreat

namespace Go.Proofs.YtdjpeimecfhdjaaGreat
def odd_ : Nat → Nat → Nat
 | 0, m => m
 | f + 1, m => bif Nat.beq (m % 2) 0 then odd_ f (m / 2) else m
def sfl (n : Nat) : Nat → Nat → Nat → Bool
 | 0, _, _ => false
 | f + 1, y, e => bif Nat.beq e (n - 1) then true else !(Nat.beq y (n - 1)) && sfl n f (y * y % n) (2 * e)
def sfail (a n : Nat) : Bool := !(Nat.beq (pm a (odd_ 40 (n - 1)) n) 1) && sfl n 40 (pm a (odd_ 40 (n - 1)) n) (odd_ 40 (n - 1))
def wfail (a n : Nat) : Bool := !(Nat.beq (pm a (n - 1) n) 1)
def fails (n : Nat) : Bool :=
 Nat.beq (n % 2) 0 || Nat.beq (n % 3) 0 || Nat.beq (n % 5) 0 || Nat.beq (n % 7) 0 || wfail 2 n || wfail 3 n || wfail 5 n || wfail 7 n || sfail 2 n || sfail 3 n || sfail 5 n || sfail 7 n
structure Thru4 (n : Nat) : Prop where
 odd : n % 2 ≠ 0
 three : n % 3 ≠ 0
 five : n % 5 ≠ 0
 seven : n % 7 ≠ 0
 p2 : Pass 2 n
 p3 : Pass 3 n
 p5 : Pass 5 n
 p7 : Pass 7 n
theorem odd_spec : ∀ f m : Nat, 0 < m → ∃ k, m = 2 ^ k * odd_ f m
 | 0, m, _ => ⟨0, by simp [odd_]⟩
 | f + 1, m, hm => by
  unfold odd_
  by_cases h : m % 2 = 0
  ·rw [beq_iff.2 h, cond_true]
   obtain ⟨k, hk⟩ := odd_spec f (m / 2) (by omega)
   refine ⟨k + 1, ?_⟩
   rw [Nat.pow_succ, Nat.mul_assoc, Nat.mul_comm 2, ← Nat.mul_assoc, ← hk]
   omega
  ·have e : Nat.beq (m % 2) 0 = false := by rw [Bool.eq_false_iff]; intro h2; exact h (beq_iff.1 h2)
   rw [e, cond_false]
   exact ⟨0, by simp⟩
theorem odd_is : ∀ f m : Nat, 0 < m → m < 2 ^ f → odd_ f m % 2 = 1
 | 0, m, h0, h => by simp at h; omega
 | f + 1, m, h0, h => by
  unfold odd_
  by_cases h2 : m % 2 = 0
  ·rw [beq_iff.2 h2, cond_true]
   exact odd_is f (m / 2) (by omega) (by rw [Nat.pow_succ] at h; omega)
  ·have e : Nat.beq (m % 2) 0 = false := by rw [Bool.eq_false_iff]; intro h3; exact h2 (beq_iff.1 h3)
   rw [e, cond_false]
   omega
theorem sfl_spec {a n d k : Nat} (hk : n - 1 = 2 ^ k * d) (hd : 0 < d) : ∀ (f j : Nat) (y : Nat), y = a ^ (2 ^ j * d) % n → j ≤ k → sfl n f y (2 ^ j * d) = true → ∀ i, j ≤ i → i < k → a ^ (2 ^ i * d) % n ≠ n - 1
 | 0, _, _, _, _, h, _, _, _ => by simp [sfl] at h
 | f + 1, j, y, hy, hjk, h, i, hji, hik => by
  unfold sfl at h
  by_cases he : 2 ^ j * d = n - 1
  ·rw [hk] at he
   have h1 := Nat.eq_of_mul_eq_mul_right hd he
   have : j = k := (Nat.pow_right_inj (by omega)).1 h1
   omega
  ·have e : Nat.beq (2 ^ j * d) (n - 1) = false := by rw [Bool.eq_false_iff]; intro h3; exact he (beq_iff.1 h3)
   rw [e, cond_false, Bool.and_eq_true] at h
   obtain ⟨h1, h2⟩ := h
   have hjk' : j ≠ k := fun e => he (by rw [hk, e])
   rcases Nat.lt_or_ge j i with h3 | h3
   ·have e2 : 2 * (2 ^ j * d) = 2 ^ (j + 1) * d := by rw [Nat.pow_succ, Nat.mul_comm (2 ^ j) 2, Nat.mul_assoc]
    rw [e2] at h2
    refine sfl_spec hk hd f (j + 1) _ ?_ (by omega) h2 i (by omega) hik
    rw [hy, pow_two_succ, ← Nat.mul_mod]
   ·obtain rfl : i = j := by omega
    intro h4
    rw [← hy] at h4
    rw [beq_iff.2 h4] at h1
    cases h1
theorem sfail_spec {a n : Nat} (hn : 2 < n) (hb : n < 2 ^ 40) (h : sfail a n = true) : ¬ Pass a n := by
 intro hp
 unfold sfail at h
 rw [Bool.and_eq_true] at h
 obtain ⟨h1, h2⟩ := h
 obtain ⟨k, hk⟩ := odd_spec 40 (n - 1) (by omega)
 have hd := odd_is 40 (n - 1) (by omega) (by omega)
 obtain ⟨d, hdd⟩ : ∃ d, d = odd_ 40 (n - 1) := ⟨_, rfl⟩
 rw [← hdd] at h1 h2 hk hd
 rw [pm_eq] at h1 h2
 rcases hp k d hk hd with h3 | ⟨i, h3, h4⟩
 ·rw [beq_iff.2 h3] at h1
  cases h1
 ·have e : d = 2 ^ 0 * d := by simp
  exact sfl_spec hk (by omega) 40 0 _ (by rw [← e]) (Nat.zero_le _) (by rw [← e]; exact h2) i (Nat.zero_le _) h3 h4
theorem wfail_spec {a n : Nat} (hn : 2 < n) (h : wfail a n = true) : ¬ One n a (n - 1) := by
 intro ho
 unfold wfail at h
 rw [pm_eq, beq_iff.2 (by unfold One at ho; rw [ho, Nat.mod_eq_of_lt (by omega)])] at h
 cases h
theorem fails_spec {n : Nat} (hn : 2 < n) (hb : n < 2 ^ 40) (ht : Thru4 n) : fails n = false := by
 rw [Bool.eq_false_iff]
 intro h
 have ho : n % 2 = 1 := by have := ht.odd; omega
 unfold fails at h
 simp only [Bool.or_eq_true, beq_iff] at h
 rcases h with ((((((((((h | h) | h) | h) | h) | h) | h) | h) | h) | h) | h) | h
 ·exact ht.odd h
 ·exact ht.three h
 ·exact ht.five h
 ·exact ht.seven h
 ·exact wfail_spec hn h (ht.p2.one hn ho)
 ·exact wfail_spec hn h (ht.p3.one hn ho)
 ·exact wfail_spec hn h (ht.p5.one hn ho)
 ·exact wfail_spec hn h (ht.p7.one hn ho)
 ·exact sfail_spec hn hb h ht.p2
 ·exact sfail_spec hn hb h ht.p3
 ·exact sfail_spec hn hb h ht.p5
 ·exact sfail_spec hn hb h ht.p7
def rg (t : Nat → Bool) : Nat → Nat → Bool
 | 0, lo => t lo
 | d + 1, lo => rg t d lo && rg t d (lo + 2 ^ d)
theorem rg_spec {t : Nat → Bool} : ∀ (d lo : Nat), rg t d lo = true → ∀ i, lo ≤ i → i < lo + 2 ^ d → t i = true
 | 0, lo, h, i, h1, h2 => by
  obtain rfl : i = lo := by simp at h2; omega
  exact h
 | d + 1, lo, h, i, h1, h2 => by
  unfold rg at h
  rw [Bool.and_eq_true] at h
  rcases Nat.lt_or_ge i (lo + 2 ^ d) with h3 | h3
  ·exact rg_spec d lo h.1 i h1 h3
  ·exact rg_spec d (lo + 2 ^ d) h.2 i h3 (by rw [Nat.pow_succ] at h2; omega)
def gd (c p : Nat) : Bool := Nat.ble 2 (Nat.gcd p c) && Nat.ble (Nat.gcd p c + 1) p
def comp (p : Nat) : Bool := gd 166589903787325219380851695350896256250980509594874862046961683989710 p || gd 36571765172040598844188468431865239 p || gd 135279120641869620956459853694931695 p || gd 1309219421506885440313137828987783677 p || gd 74337741111880118021176283441 p || gd 16137160443118396219519316344231 p || gd 316773187163046517 p
def lp (p N l : Nat) : Nat → Nat → Bool
 | 0, m => Nat.ble (N + 1) (p * m)
 | f + 1, m => bif Nat.ble (N + 1) (p * m) then true else fails (p * m) && lp p N l f (m + l)
def bd : Nat := 1000000000
def t1 (i : Nat) : Bool := comp (2 * i + 1) || Nat.ble 31623 (2 * i + 1) || Nat.ble (2 * i + 1) 1000 || lp (2 * i + 1) bd (lam (2 * i + 1)) (bd / (2 * i + 1)) (1 + lam (2 * i + 1))
end Go.Proofs.YtdjpeimecfhdjaaGreat
