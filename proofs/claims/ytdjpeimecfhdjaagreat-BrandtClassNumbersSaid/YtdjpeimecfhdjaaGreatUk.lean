/- (pruned) -/
import Derived.Lib.Hide
import Derived.Test.YtdjpeimecfhdjaaGreatSa
namespace Go.Proofs.YtdjpeimecfhdjaaGreat
def Pr (p : Nat) : Prop := 2 ≤ p ∧ ∀ d, d ∣ p → d = 1 ∨ d = p
theorem Pr.cop {p a : Nat} (h : Pr p) (ha : ¬ p ∣ a) : Nat.Coprime p a := by
 rcases h.2 _ (Nat.gcd_dvd_left p a) with e | e
 ·exact e
 ·exact absurd (e ▸ Nat.gcd_dvd_right p a) ha
theorem Pr.mul {p a b : Nat} (h : Pr p) (hab : p ∣ a * b) : p ∣ a ∨ p ∣ b := by
 by_cases ha : p ∣ a
 ·exact .inl ha
 ·exact .inr (Nat.Coprime.dvd_of_dvd_mul_left (h.cop ha) hab)
def One (p x e : Nat) : Prop := x ^ e % p = 1 % p
theorem One.zero (p x : Nat) : One p x 0 := by unfold One; rw [Nat.pow_zero]
theorem One.add {p x e f : Nat} (h : One p x e) (k : One p x f) : One p x (e + f) := by
 unfold One at *
 rw [Nat.pow_add, Nat.mul_mod, h, k, ← Nat.mul_mod]
theorem One.mul {p x e : Nat} (h : One p x e) : ∀ k, One p x (e * k)
 | 0 => One.zero p x
 | k + 1 => (One.mul h k).add h
theorem One.dvd {p x e f : Nat} (h : One p x e) (hd : e ∣ f) : One p x f := by
 obtain ⟨k, rfl⟩ := hd
 exact h.mul k
def psg (f : Nat → Nat) : Nat → Nat
 | 0 => 0
 | n + 1 => psg f n + f n
theorem psg_shift (f : Nat → Nat) : ∀ n, psg f (n + 1) = f 0 + psg (fun k => f (k + 1)) n
 | 0 => by simp [psg]
 | n + 1 => by
  show psg f (n + 1) + f (n + 1) = f 0 + (psg (fun k => f (k + 1)) n + f (n + 1))
  rw [psg_shift f n]; omega
theorem psg_add (f g : Nat → Nat) : ∀ n, psg (fun k => f k + g k) n = psg f n + psg g n
 | 0 => rfl
 | n + 1 => by
  show psg (fun k => f k + g k) n + (f n + g n) = psg f n + f n + (psg g n + g n)
  rw [psg_add f g n]; omega
theorem psg_mul (c : Nat) (f : Nat → Nat) : ∀ n, psg (fun k => c * f k) n = c * psg f n
 | 0 => by simp [psg]
 | n + 1 => by
  show psg (fun k => c * f k) n + c * f n = c * (psg f n + f n)
  rw [psg_mul c f n, Nat.mul_add]
theorem psg_congr {f g : Nat → Nat} : ∀ n, (∀ k, k < n → f k = g k) → psg f n = psg g n
 | 0, _ => rfl
 | n + 1, h => by
  show psg f n + f n = psg g n + g n
  rw [psg_congr n (fun k hk => h k (by omega)), h n (by omega)]
theorem psg_dvd {p : Nat} {f : Nat → Nat} : ∀ n, (∀ k, k < n → p ∣ f k) → p ∣ psg f n
 | 0, _ => Nat.dvd_zero p
 | n + 1, h => Nat.dvd_add (psg_dvd n (fun k hk => h k (by omega))) (h n (by omega))
def ch : Nat → Nat → Nat
 | _, 0 => 1
 | 0, _ + 1 => 0
 | n + 1, k + 1 => ch n k + ch n (k + 1)
theorem ch_zero (n : Nat) : ch n 0 = 1 := by cases n <;> rfl
theorem ch_succ (n k : Nat) : ch (n + 1) (k + 1) = ch n k + ch n (k + 1) := rfl
theorem ch_gt : ∀ n k : Nat, n < k → ch n k = 0
 | 0, 0, h => by omega
 | 0, k + 1, _ => rfl
 | n + 1, 0, h => by omega
 | n + 1, k + 1, h => by rw [ch_succ, ch_gt n k (by omega), ch_gt n (k + 1) (by omega)]
theorem ch_self : ∀ n : Nat, ch n n = 1
 | 0 => rfl
 | n + 1 => by rw [ch_succ, ch_self n, ch_gt n (n + 1) (by omega)]
theorem ch_mul : ∀ n k : Nat, (k + 1) * ch (n + 1) (k + 1) = (n + 1) * ch n k
 | 0, 0 => rfl
 | 0, k + 1 => by rw [ch_gt 1 (k + 1 + 1) (by omega), ch_gt 0 (k + 1) (by omega), Nat.mul_zero, Nat.mul_zero]
 | n + 1, 0 => by
  have h := ch_mul n 0
  rw [ch_succ, ch_zero]
  rw [ch_zero] at h
  omega
 | n + 1, k + 1 => by
  have h1 := ch_mul n k
  have h2 := ch_mul n (k + 1)
  rw [ch_succ (n + 1) (k + 1), Nat.mul_add, h2]
  have e : (k + 1 + 1) * ch (n + 1) (k + 1) = (n + 1) * ch n k + ch (n + 1) (k + 1) := by rw [Nat.add_mul, h1, Nat.one_mul]
  rw [e, ch_succ n k, Nat.add_mul (n + 1) 1, Nat.mul_add, Nat.one_mul]
  omega
theorem binom (a : Nat) : ∀ n, (a + 1) ^ n = psg (fun k => ch n k * a ^ k) (n + 1)
 | 0 => by simp [psg, ch]
 | n + 1 => by
  have ih := binom a n
  rw [psg_shift]
  have e1 : psg (fun k => ch (n + 1) (k + 1) * a ^ (k + 1)) (n + 1) = psg (fun k => a * (ch n k * a ^ k)) (n + 1) + psg (fun k => ch n (k + 1) * a ^ (k + 1)) (n + 1) := by
   rw [← psg_add]
   refine psg_congr _ fun k _ => ?_
   rw [ch_succ, Nat.add_mul, Nat.pow_succ]
   congr 1
   rw [Nat.mul_comm a, Nat.mul_assoc]
  have e2 : ch n 0 * a ^ 0 + psg (fun k => ch n (k + 1) * a ^ (k + 1)) (n + 1) = (a + 1) ^ n := by
   have h := psg_shift (fun k => ch n k * a ^ k) (n + 1)
   rw [← h]
   show psg (fun k => ch n k * a ^ k) (n + 1) + ch n (n + 1) * a ^ (n + 1) = _
   rw [ch_gt n (n + 1) (by omega), Nat.zero_mul, Nat.add_zero, ← ih]
  rw [ch_zero] at e2 ⊢
  rw [e1, psg_mul, ← ih, Nat.pow_succ, Nat.mul_add, Nat.mul_one, Nat.mul_comm ((a + 1) ^ n) a]
  omega
theorem Pr.ch {p k : Nat} (h : Pr p) (h0 : 0 < k) (hk : k < p) : p ∣ Go.Proofs.YtdjpeimecfhdjaaGreat.ch p k := by
 obtain ⟨q, rfl⟩ : ∃ q, p = q + 1 := ⟨p - 1, by omega⟩
 obtain ⟨j, rfl⟩ : ∃ j, k = j + 1 := ⟨k - 1, by omega⟩
 have h1 := ch_mul q j
 rcases h.mul (show q + 1 ∣ (j + 1) * Go.Proofs.YtdjpeimecfhdjaaGreat.ch (q + 1) (j + 1) by rw [h1]; exact Nat.dvd_mul_right _ _) with h2 | h2
 ·have := Nat.le_of_dvd (by omega) h2
  omega
 ·exact h2
theorem fermat {p : Nat} (h : Pr p) : ∀ a : Nat, a ^ p % p = a % p
 | 0 => by
  have := h.1
  rw [Nat.zero_pow (by omega)]
 | a + 1 => by
  have h2 := h.1
  obtain ⟨q, hq⟩ : ∃ q, p = q + 1 := ⟨p - 1, by omega⟩
  have e := binom a p
  rw [psg_shift] at e
  have e2 : psg (fun k => ch p (k + 1) * a ^ (k + 1)) p = psg (fun k => ch p (k + 1) * a ^ (k + 1)) q + ch p p * a ^ p := by
   conv => lhs; rw [hq]
   show psg (fun k => ch (q + 1) (k + 1) * a ^ (k + 1)) q + ch (q + 1) (q + 1) * a ^ (q + 1) = _
   rw [hq]
  have hd : p ∣ psg (fun k => ch p (k + 1) * a ^ (k + 1)) q := psg_dvd q fun k hk => Nat.dvd_trans (h.ch (by omega) (by omega)) (Nat.dvd_mul_right _ _)
  obtain ⟨c, hc⟩ := hd
  rw [e2, hc, ch_self, ch_zero, Nat.pow_zero, Nat.one_mul, Nat.one_mul] at e
  rw [e, show 1 + (p * c + a ^ p) = (1 + a ^ p) + p * c by omega, Nat.add_mul_mod_self_left, Nat.add_mod, fermat h a, ← Nat.add_mod, Nat.add_comm]
theorem fermat_one {p a : Nat} (h : Pr p) (ha : ¬ p ∣ a) : One p a (p - 1) := by
 have h2 := h.1
 have h1 := fermat h a
 obtain ⟨q, rfl⟩ : ∃ q, p = q + 1 := ⟨p - 1, by omega⟩
 have h3 : q + 1 ∣ a ^ (q + 1) - a := Nat.dvd_of_mod_eq_zero (Nat.sub_mod_eq_zero_of_mod_eq h1)
 have e : a ^ (q + 1) - a = a * (a ^ q - 1) := by rw [Nat.pow_succ, Nat.mul_sub, Nat.mul_one, Nat.mul_comm]
 rw [e] at h3
 rcases h.mul h3 with h4 | h4
 ·exact absurd h4 ha
 ·have hpos : 1 ≤ a ^ q := Nat.one_le_pow _ _ (Nat.pos_of_ne_zero fun e0 => ha (e0 ▸ Nat.dvd_zero _))
  obtain ⟨c, hc⟩ := h4
  show a ^ q % (q + 1) = 1 % (q + 1)
  rw [show a ^ q = 1 + (q + 1) * c by omega, Nat.add_mul_mod_self_left]
end Go.Proofs.YtdjpeimecfhdjaaGreat
namespace Go.Proofs.YtdjpeimecfhdjaaGreat
def Pass (a n : Nat) : Prop := ∀ k d, n - 1 = 2 ^ k * d → d % 2 = 1 → (a ^ d % n = 1 ∨ ∃ i, i < k ∧ a ^ (2 ^ i * d) % n = n - 1)
theorem pow_two_succ (a i d : Nat) : a ^ (2 ^ (i + 1) * d) = a ^ (2 ^ i * d) * a ^ (2 ^ i * d) := by
 rw [← Nat.pow_add]
 congr 1
 rw [Nat.pow_succ]
 have : 2 ^ i * 2 * d = 2 ^ i * d * 2 := by rw [Nat.mul_assoc, Nat.mul_comm 2 d, ← Nat.mul_assoc]
 omega
theorem Pr.root {n y : Nat} (h : Pr n) (hy : y * y % n = 1) : y % n = 1 ∨ y % n = n - 1 := by
 have h2 := h.1
 have hlt : y % n < n := Nat.mod_lt _ (by omega)
 obtain ⟨z, hz⟩ : ∃ z, z = y % n := ⟨_, rfl⟩
 have hzz : z * z % n = 1 := by rw [hz, ← Nat.mul_mod]; exact hy
 rw [← hz] at hlt ⊢
 have hz0 : 1 ≤ z := by
  rcases Nat.eq_zero_or_pos z with e | e
  ·rw [e] at hzz; simp at hzz
  ·exact e
 have hd : n ∣ (z - 1) * (z + 1) := by
  have e : (z - 1) * (z + 1) = z * z - 1 := by
   obtain ⟨q, rfl⟩ : ∃ q, z = q + 1 := ⟨z - 1, by omega⟩
   rw [Nat.add_sub_cancel, Nat.mul_add, Nat.add_mul, Nat.mul_add, Nat.one_mul, Nat.mul_one]
   omega
  rw [e]
  have h1 : z * z % n = 1 % n := by rw [hzz, Nat.mod_eq_of_lt (by omega)]
  exact Nat.dvd_of_mod_eq_zero (Nat.sub_mod_eq_zero_of_mod_eq h1)
 rcases h.mul hd with h3 | h3
 ·left
  rcases Nat.eq_zero_or_pos (z - 1) with e | e
  ·omega
  ·have := Nat.le_of_dvd e h3; omega
 ·right
  have := Nat.le_of_dvd (by omega) h3
  omega
theorem pass_prime {a n : Nat} (h : Pr n) (ha : ¬ n ∣ a) : Pass a n := by
 intro k d hk hd
 have h2 := h.1
 have key : ∀ i, a ^ (2 ^ i * d) % n = 1 → (a ^ d % n = 1 ∨ ∃ j, j < i ∧ a ^ (2 ^ j * d) % n = n - 1) := by
  intro i
  induction i with
  | zero => intro h1; left; rw [Nat.pow_zero, Nat.one_mul] at h1; exact h1
  | succ i ih =>
   intro h1
   rw [pow_two_succ] at h1
   rcases h.root h1 with h3 | h3
   ·rcases ih h3 with h4 | ⟨j, h4, h5⟩
    ·exact .inl h4
    ·exact .inr ⟨j, by omega, h5⟩
   ·exact .inr ⟨i, by omega, h3⟩
 refine key k ?_
 have h1 := fermat_one h ha
 unfold One at h1
 rw [hk] at h1
 rw [h1, Nat.mod_eq_of_lt (by omega)]
theorem minus_sq {n x : Nat} (h1 : 1 < n) (hx : x % n = n - 1) : x * x % n = 1 := by
 rw [Nat.mul_mod, hx]
 obtain ⟨m, rfl⟩ : ∃ m, n = m + 2 := ⟨n - 2, by omega⟩
 rw [show m + 2 - 1 = m + 1 by omega]
 have e : (m + 1) * (m + 1) = 1 + (m + 2) * m := by rw [Nat.add_mul, Nat.mul_add, Nat.add_mul]; omega
 rw [e, Nat.add_mul_mod_self_left, Nat.mod_eq_of_lt (by omega)]
theorem two_pow_odd : ∀ n : Nat, 0 < n → ∃ k d, n = 2 ^ k * d ∧ d % 2 = 1 := by
 intro n
 induction n using Nat.strongRecOn with
 | ind n ih =>
  intro hn
  by_cases h : n % 2 = 1
  ·exact ⟨0, n, by simp, h⟩
  ·obtain ⟨k, d, h1, h2⟩ := ih (n / 2) (by omega) (by omega)
   refine ⟨k + 1, d, ?_, h2⟩
   have : n = 2 * (n / 2) := by omega
   rw [this, h1, Nat.pow_succ, ← Nat.mul_assoc, Nat.mul_comm 2 (2 ^ k)]
theorem Pass.one {a n : Nat} (h : Pass a n) (hn : 2 < n) (ho : n % 2 = 1) : One n a (n - 1) := by
 obtain ⟨k, d, h1, h2⟩ := two_pow_odd (n - 1) (by omega)
 rcases h k d h1 h2 with h3 | ⟨i, h3, h4⟩
 ·have : One n a d := by unfold One; rw [h3, Nat.mod_eq_of_lt (by omega)]
  exact this.dvd ⟨2 ^ k, by rw [h1, Nat.mul_comm]⟩
 ·have h5 : One n a (2 ^ (i + 1) * d) := by
   unfold One
   rw [pow_two_succ, minus_sq (by omega) h4, Nat.mod_eq_of_lt (by omega)]
  refine h5.dvd ⟨2 ^ (k - (i + 1)), ?_⟩
  rw [h1, show k = (i + 1) + (k - (i + 1)) by omega, Nat.pow_add, show i + 1 + (k - (i + 1)) - (i + 1) = k - (i + 1) by omega, Nat.mul_assoc, Nat.mul_comm _ d, Nat.mul_assoc]
end Go.Proofs.YtdjpeimecfhdjaaGreat
namespace Go.Proofs.YtdjpeimecfhdjaaGreat
theorem beq_iff {a b : Nat} : Nat.beq a b = true ↔ a = b := by rw [Nat.beq_eq]
theorem pm_pieces (a n M x y z : Nat) : (((a ^ x % n) ^ M * a ^ y % n) ^ M * a ^ z) % n = a ^ (x * (M * M) + (y * M + z)) % n := by
 have h2 : a ^ (x * (M * M) + (y * M + z)) = ((a ^ x) ^ M * a ^ y) ^ M * a ^ z := by
  rw [Nat.pow_add, Nat.pow_add, Nat.mul_pow, ← Nat.pow_mul, ← Nat.pow_mul, ← Nat.pow_mul, Nat.mul_assoc]
 have h3 : (a ^ x % n) ^ M * a ^ y % n = (a ^ x) ^ M * a ^ y % n := by rw [Nat.mul_mod, ← Nat.pow_mod, ← Nat.mul_mod]
 rw [h2, h3, Nat.mul_mod, ← Nat.pow_mod, ← Nat.mul_mod]
def pmM (M a e n : Nat) : Nat := (((a ^ (e / (M * M)) % n) ^ M * a ^ (e / M % M) % n) ^ M * a ^ (e % M)) % n
def pmR (M a e n : Nat) : Nat := Nat.mod (Nat.mul (Nat.pow (Nat.mod (Nat.mul (Nat.pow (Nat.mod (Nat.pow a (Nat.div e (Nat.mul M M))) n) M) (Nat.pow a (Nat.mod (Nat.div e M) M))) n) M) (Nat.pow a (Nat.mod e M))) n
def pm (a e n : Nat) : Nat := pmR 1024 a e n
theorem pmM_eq (M a e n : Nat) : pmM M a e n = a ^ e % n := by
 have h : e / (M * M) * (M * M) + (e / M % M * M + e % M) = e := by
  have h1 := Nat.div_add_mod e M
  have h2 := Nat.div_add_mod (e / M) M
  rw [← Nat.div_div_eq_div_mul]
  have h3 : e / M / M * (M * M) = M * (M * (e / M / M)) := by rw [← Nat.mul_assoc, Nat.mul_comm (e / M / M * M), Nat.mul_comm (e / M / M) M]
  rw [Nat.mul_comm (e / M % M) M, h3, ← Nat.add_assoc, ← Nat.mul_add, h2, h1]
 unfold pmM
 rw [pm_pieces, h]
theorem pmR_eq (M a e n : Nat) : pmR M a e n = a ^ e % n := (show pmR M a e n = pmM M a e n from rfl).trans (pmM_eq M a e n)
theorem pm_eq (a e n : Nat) : pm a e n = a ^ e % n := pmR_eq _ a e n
def all1 (p e : Nat) : Bool := Nat.beq (pm 2 e p) (1 % p) && Nat.beq (pm 3 e p) (1 % p) && Nat.beq (pm 5 e p) (1 % p) && Nat.beq (pm 7 e p) (1 % p)
def red (p : Nat) : Nat → Nat → Nat → Nat → Nat
 | 0, _, _, _ => 1
 | f + 1, l, c, r =>
  bif Nat.beq c 1 then l
  else bif Nat.ble (c + 1) (r * r) then (bif Nat.beq (l % c) 0 && all1 p (l / c) then l / c else l)
  else bif Nat.beq (c % r) 0 then (bif Nat.beq (l % r) 0 && all1 p (l / r) then red p f (l / r) (c / r) r else red p f l (c / r) r)
  else red p f l c (r + 1)
def lam (p : Nat) : Nat := red p 400 (p - 1) (p - 1) 2
end Go.Proofs.YtdjpeimecfhdjaaGreat
namespace Go.Proofs.YtdjpeimecfhdjaaGreat
def odd_ : Nat → Nat → Nat
 | 0, m => m
 | f + 1, m => bif Nat.beq (m % 2) 0 then odd_ f (m / 2) else m
def sfl (n : Nat) : Nat → Nat → Nat → Bool
 | 0, _, _ => false
 | f + 1, y, e => bif Nat.beq e (n - 1) then true else !(Nat.beq y (n - 1)) && sfl n f (y * y % n) (2 * e)
def sfail (a n : Nat) : Bool := !(Nat.beq (pm a (odd_ 40 (n - 1)) n) 1) && sfl n 40 (pm a (odd_ 40 (n - 1)) n) (odd_ 40 (n - 1))
def wfail (a n : Nat) : Bool := !(Nat.beq (pm a (n - 1) n) 1)
def fails (n : Nat) : Bool :=
 Nat.beq (n % 2) 0 || Nat.beq (n % 3) 0 || Nat.beq (n % 5) 0 || Nat.beq (n % 7) 0 || wfail 2 n || wfail 3 n || wfail 5 n || wfail 7 n || sfail 2 n || sfail 3 n || sfail 5 n || sfail 7 n
structure Thru4 (n : Nat) : Prop where
 odd : n % 2 ≠ 0
 three : n % 3 ≠ 0
 five : n % 5 ≠ 0
 seven : n % 7 ≠ 0
 p2 : Pass 2 n
 p3 : Pass 3 n
 p5 : Pass 5 n
 p7 : Pass 7 n
theorem odd_spec : ∀ f m : Nat, 0 < m → ∃ k, m = 2 ^ k * odd_ f m
 | 0, m, _ => ⟨0, by simp [odd_]⟩
 | f + 1, m, hm => by
  unfold odd_
  by_cases h : m % 2 = 0
  ·rw [beq_iff.2 h, cond_true]
   obtain ⟨k, hk⟩ := odd_spec f (m / 2) (by omega)
   refine ⟨k + 1, ?_⟩
   rw [Nat.pow_succ, Nat.mul_assoc, Nat.mul_comm 2, ← Nat.mul_assoc, ← hk]
   omega
  ·have e : Nat.beq (m % 2) 0 = false := by rw [Bool.eq_false_iff]; intro h2; exact h (beq_iff.1 h2)
   rw [e, cond_false]
   exact ⟨0, by simp⟩
theorem odd_is : ∀ f m : Nat, 0 < m → m < 2 ^ f → odd_ f m % 2 = 1
 | 0, m, h0, h => by simp at h; omega
 | f + 1, m, h0, h => by
  unfold odd_
  by_cases h2 : m % 2 = 0
  ·rw [beq_iff.2 h2, cond_true]
   exact odd_is f (m / 2) (by omega) (by rw [Nat.pow_succ] at h; omega)
  ·have e : Nat.beq (m % 2) 0 = false := by rw [Bool.eq_false_iff]; intro h3; exact h2 (beq_iff.1 h3)
   rw [e, cond_false]
   omega
theorem sfl_spec {a n d k : Nat} (hk : n - 1 = 2 ^ k * d) (hd : 0 < d) : ∀ (f j : Nat) (y : Nat), y = a ^ (2 ^ j * d) % n → j ≤ k → sfl n f y (2 ^ j * d) = true → ∀ i, j ≤ i → i < k → a ^ (2 ^ i * d) % n ≠ n - 1
 | 0, _, _, _, _, h, _, _, _ => by simp [sfl] at h
 | f + 1, j, y, hy, hjk, h, i, hji, hik => by
  unfold sfl at h
  by_cases he : 2 ^ j * d = n - 1
  ·rw [hk] at he
   have h1 := Nat.eq_of_mul_eq_mul_right hd he
   have : j = k := (Nat.pow_right_inj (by omega)).1 h1
   omega
  ·have e : Nat.beq (2 ^ j * d) (n - 1) = false := by rw [Bool.eq_false_iff]; intro h3; exact he (beq_iff.1 h3)
   rw [e, cond_false, Bool.and_eq_true] at h
   obtain ⟨h1, h2⟩ := h
   have hjk' : j ≠ k := fun e => he (by rw [hk, e])
   rcases Nat.lt_or_ge j i with h3 | h3
   ·have e2 : 2 * (2 ^ j * d) = 2 ^ (j + 1) * d := by rw [Nat.pow_succ, Nat.mul_comm (2 ^ j) 2, Nat.mul_assoc]
    rw [e2] at h2
    refine sfl_spec hk hd f (j + 1) _ ?_ (by omega) h2 i (by omega) hik
    rw [hy, pow_two_succ, ← Nat.mul_mod]
   ·obtain rfl : i = j := by omega
    intro h4
    rw [← hy] at h4
    rw [beq_iff.2 h4] at h1
    cases h1
theorem sfail_spec {a n : Nat} (hn : 2 < n) (hb : n < 2 ^ 40) (h : sfail a n = true) : ¬ Pass a n := by
 intro hp
 unfold sfail at h
 rw [Bool.and_eq_true] at h
 obtain ⟨h1, h2⟩ := h
 obtain ⟨k, hk⟩ := odd_spec 40 (n - 1) (by omega)
 have hd := odd_is 40 (n - 1) (by omega) (by omega)
 obtain ⟨d, hdd⟩ : ∃ d, d = odd_ 40 (n - 1) := ⟨_, rfl⟩
 rw [← hdd] at h1 h2 hk hd
 rw [pm_eq] at h1 h2
 rcases hp k d hk hd with h3 | ⟨i, h3, h4⟩
 ·rw [beq_iff.2 h3] at h1
  cases h1
 ·have e : d = 2 ^ 0 * d := by simp
  exact sfl_spec hk (by omega) 40 0 _ (by rw [← e]) (Nat.zero_le _) (by rw [← e]; exact h2) i (Nat.zero_le _) h3 h4
theorem wfail_spec {a n : Nat} (hn : 2 < n) (h : wfail a n = true) : ¬ One n a (n - 1) := by
 intro ho
 unfold wfail at h
 rw [pm_eq, beq_iff.2 (by unfold One at ho; rw [ho, Nat.mod_eq_of_lt (by omega)])] at h
 cases h
theorem fails_spec {n : Nat} (hn : 2 < n) (hb : n < 2 ^ 40) (ht : Thru4 n) : fails n = false := by
 rw [Bool.eq_false_iff]
 intro h
 have ho : n % 2 = 1 := by have := ht.odd; omega
 unfold fails at h
 simp only [Bool.or_eq_true, beq_iff] at h
 rcases h with ((((((((((h | h) | h) | h) | h) | h) | h) | h) | h) | h) | h) | h
 ·exact ht.odd h
 ·exact ht.three h
 ·exact ht.five h
 ·exact ht.seven h
 ·exact wfail_spec hn h (ht.p2.one hn ho)
 ·exact wfail_spec hn h (ht.p3.one hn ho)
 ·exact wfail_spec hn h (ht.p5.one hn ho)
 ·exact wfail_spec hn h (ht.p7.one hn ho)
 ·exact sfail_spec hn hb h ht.p2
 ·exact sfail_spec hn hb h ht.p3
 ·exact sfail_spec hn hb h ht.p5
 ·exact sfail_spec hn hb h ht.p7
def rg (t : Nat → Bool) : Nat → Nat → Bool
 | 0, lo => t lo
 | d + 1, lo => rg t d lo && rg t d (lo + 2 ^ d)
theorem rg_spec {t : Nat → Bool} : ∀ (d lo : Nat), rg t d lo = true → ∀ i, lo ≤ i → i < lo + 2 ^ d → t i = true
 | 0, lo, h, i, h1, h2 => by
  obtain rfl : i = lo := by simp at h2; omega
  exact h
 | d + 1, lo, h, i, h1, h2 => by
  unfold rg at h
  rw [Bool.and_eq_true] at h
  rcases Nat.lt_or_ge i (lo + 2 ^ d) with h3 | h3
  ·exact rg_spec d lo h.1 i h1 h3
  ·exact rg_spec d (lo + 2 ^ d) h.2 i h3 (by rw [Nat.pow_succ] at h2; omega)
def gd (c p : Nat) : Bool := Nat.ble 2 (Nat.gcd p c) && Nat.ble (Nat.gcd p c + 1) p
def comp (p : Nat) : Bool := gd 166589903787325219380851695350896256250980509594874862046961683989710 p || gd 36571765172040598844188468431865239 p || gd 135279120641869620956459853694931695 p || gd 1309219421506885440313137828987783677 p || gd 74337741111880118021176283441 p || gd 16137160443118396219519316344231 p || gd 316773187163046517 p
def lp (p N l : Nat) : Nat → Nat → Bool
 | 0, m => Nat.ble (N + 1) (p * m)
 | f + 1, m => bif Nat.ble (N + 1) (p * m) then true else fails (p * m) && lp p N l f (m + l)
def bd : Nat := 1000000000
def t1 (i : Nat) : Bool := comp (2 * i + 1) || Nat.ble 31623 (2 * i + 1) || Nat.ble (2 * i + 1) 1000 || lp (2 * i + 1) bd (lam (2 * i + 1)) (bd / (2 * i + 1)) (1 + lam (2 * i + 1))
end Go.Proofs.YtdjpeimecfhdjaaGreat
namespace Go.Proofs.YtdjpeimecfhdjaaGreat
theorem pr_trial {n : Nat} (hn : 2 ≤ n) (h : ∀ d, 2 ≤ d → d * d ≤ n → n % d ≠ 0) : Pr n := by
 refine ⟨hn, fun d hd => ?_⟩
 apply Classical.byContradiction
 intro hno
 have h1 : d ≠ 1 := fun e => hno (.inl e)
 have h2 : d ≠ n := fun e => hno (.inr e)
 have h0 : d ≠ 0 := fun e => by subst e; have := Nat.eq_zero_of_zero_dvd hd; omega
 obtain ⟨k, hk⟩ := hd
 have k1 : k ≠ 1 := fun e => h2 (by rw [hk, e, Nat.mul_one])
 have k0 : k ≠ 0 := fun e => by rw [e, Nat.mul_zero] at hk; omega
 rcases Nat.le_total d k with hle | hle
 ·refine h d (by omega) ?_ (Nat.mod_eq_zero_of_dvd ⟨k, hk⟩)
  rw [hk]; exact Nat.mul_le_mul_left d hle
 ·refine h k (by omega) ?_ (Nat.mod_eq_zero_of_dvd ⟨d, by rw [hk, Nat.mul_comm]⟩)
  rw [hk, Nat.mul_comm]; exact Nat.mul_le_mul_left k hle |> fun h => by rw [Nat.mul_comm d k]; exact h
theorem trial_of_pr {n : Nat} (h : Pr n) : ∀ d, 2 ≤ d → d * d ≤ n → n % d ≠ 0 := fun d h1 h2 h3 => by
 rcases h.2 d (Nat.dvd_of_mod_eq_zero h3) with e | e
 ·omega
 ·subst e
  have := Nat.mul_le_mul_right d h1
  omega
def isTr (n : Nat) : Bool := (List.range 30).all fun d => Nat.ble n ((d + 2) * (d + 2) - 1) || !(Nat.beq (n % (d + 2)) 0)
theorem tabS0 : rg (fun n => Nat.ble n 10 || fails n || isTr n) 10 0 = true := by decide +kernel
theorem pr_of_thru1 {n : Nat} (hn : 10 < n) (hb : n ≤ 1000) (ht : Thru4 n) : Pr n := by
 have h := rg_spec 10 0 tabS0 n (Nat.zero_le _) (by omega)
 have hfail : fails n = false := fails_spec (by omega) (by omega) ht
 simp only [hfail, Bool.or_false, Bool.or_eq_true] at h
 rcases h with h | h
 ·have := Nat.le_of_ble_eq_true h; omega
 ·refine pr_trial (by omega) fun d h1 h2 h3 => ?_
  have hd : d < 32 := by
   rcases Nat.lt_or_ge d 32 with h4 | h4
   ·exact h4
   ·have := Nat.mul_le_mul h4 h4; omega
  have h5 := List.all_eq_true.mp h (d - 2) (List.mem_range.mpr (by omega))
  rw [show d - 2 + 2 = d by omega] at h5
  rcases Bool.or_eq_true _ _ ▸ h5 with h6 | h6
  ·have h7 := Nat.le_of_ble_eq_true h6
   have := Nat.mul_le_mul h1 h1
   omega
  ·rw [h3] at h6
   exact absurd h6 (by decide)
end Go.Proofs.YtdjpeimecfhdjaaGreat
namespace Go.Proofs.YtdjpeimecfhdjaaGreat
open Go.RowKit
set_option maxHeartbeats 1000000 in
theorem imod_any {w : World} {a m : Nat} (hm : 0 < m) (hm2 : m ≤ 1000000000) (ha : a ≤ 1000000000) : Calls Tryz.prog 215 #[.int .i64 (a : Nat), .int .i64 (m : Nat)] w fun e w' => e = .returned (.int .i64 ((a % m : Nat) : Int)) ∧ w = w' := by
 obtain ⟨r, hr⟩ : ∃ r, r = a % m := ⟨_, rfl⟩
 have hrl : r < m := by rw [hr]; exact Nat.mod_lt _ hm
 have hmod : (a : Int).tmod (m : Int) = (r : Int) := by rw [hr]; rfl
 have hmod2 : (a : Int) % (m : Int) = (r : Int) := by rw [hr]; rfl
 have h9 : ((m : Int) == 0) = false := beq_eq_false_iff_ne.2 (by omega)
 have h8 : ¬ ((m : Int) = 0) := by omega
 have h7 : ¬ (m = 0) := by omega
 have h6 : decide ((r : Int) < 0) = false := decide_eq_false (by omega)
 have h0 : (0 : Int) ≤ (r : Int) := by omega
 have h5 : (0 : Int) ≤ (a : Int) := by omega
 rw [← hr]
 clear hr
 go_enter Tryz.func215, Tryz.ntmps215
 go_wp2
 go_ret
 exact ⟨rfl, rfl⟩
theorem half_pow (o x k n : Nat) (h : k % 2 = 1) : (o * x ^ k) % n = ((o * x % n) * (x * x % n) ^ (k / 2)) % n := by
 have e : k = 2 * (k / 2) + 1 := by omega
 conv => lhs; rw [e, Nat.pow_succ, Nat.pow_mul, Nat.pow_two]
 rw [Nat.mul_mod (o * x % n), ← Nat.pow_mod, Nat.mod_mod, ← Nat.mul_mod]
 congr 1
 rw [Nat.mul_comm ((x * x) ^ (k / 2)) x, ← Nat.mul_assoc]
theorem half_pow2 (o x k n : Nat) (h : ¬ k % 2 = 1) : (o * x ^ k) % n = (o * (x * x % n) ^ (k / 2)) % n := by
 have e : k = 2 * (k / 2) := by omega
 conv => lhs; rw [e, Nat.pow_mul, Nat.pow_two]
 rw [Nat.mul_mod o ((x * x % n) ^ (k / 2)), ← Nat.pow_mod, ← Nat.mul_mod]
set_option maxHeartbeats 4000000 in
set_option maxRecDepth 100000 in
theorem ipower_any {w : World} {a e m : Nat} (hm : 0 < m) (hm2 : m ≤ 1000000000) (ha : a ≤ 1000000000) (he : e ≤ 1000000000) : Calls Tryz.prog 196 #[.int .i64 (a : Nat), .int .i64 (e : Nat), .int .i64 (m : Nat)] w fun en w' => en = .returned (.int .i64 ((a ^ e % m : Nat) : Int)) ∧ w = w' := by
 have h9 : ((m : Int) == 0) = false := beq_eq_false_iff_ne.2 (by omega)
 have h8 : ¬ ((m : Int) = 0) := by omega
 have h7 : ¬ (m = 0) := by omega
 obtain ⟨o0, ho0⟩ : ∃ r, r = 1 % m := ⟨_, rfl⟩
 have hmod : (1 : Int).tmod (m : Int) = (o0 : Int) := by rw [ho0]; rfl
 have hmod2 : (1 : Int) % (m : Int) = (o0 : Int) := by rw [ho0]; rfl
 have HO0 := Lib.hid ho0
 clear ho0
 go_enter Tryz.func196, Tryz.ntmps196
 go_wp2_with (go_at_call 215; refine (imod_any hm hm2 ha).mono ?_; rintro en w' ⟨rfl, rfl⟩)
 go_loop [0, 1, 7] (fun xv kv ov => ∃ x k o : Nat, xv = .int .i64 (x : Nat) ∧ kv = .int .i64 (k : Nat) ∧ ov = .int .i64 (o : Nat) ∧ x ≤ m ∧ o < m ∧ k ≤ e ∧ Hid ((o * x ^ k) % m = a ^ e % m)) (fun _ kv _ => (intOf kv).toNat)
 case atStart => exact ⟨a % m, e, o0, rfl, rfl, rfl, Nat.le_of_lt (Nat.mod_lt _ hm), by rw [HO0.out]; exact Nat.mod_lt _ hm, Nat.le_refl _, Lib.hid (by rw [HO0.out, Nat.mul_mod, Nat.mod_mod, ← Nat.pow_mod, ← Nat.mul_mod, Nat.one_mul])⟩
 case round =>
  clear hmod hmod2 HO0
  obtain ⟨x, k, o, rfl, rfl, rfl, hx, ho, hk, HI⟩ := hrel
  by_cases hk0 : 0 < k
  ·have z0 : decide ((0 : Int) < (k : Int)) = true := decide_eq_true (by omega)
   have hP := Nat.mul_le_mul (Nat.le_trans hx hm2) (Nat.le_trans hx hm2)
   have hQ := Nat.mul_le_mul (Nat.le_trans (Nat.le_of_lt ho) hm2) (Nat.le_trans hx hm2)
   obtain ⟨P, hPe⟩ : ∃ P, P = x * x := ⟨_, rfl⟩
   obtain ⟨Q, hQe⟩ : ∃ Q, Q = o * x := ⟨_, rfl⟩
   obtain ⟨x', hx'⟩ : ∃ y, y = P % m := ⟨_, rfl⟩
   obtain ⟨o', ho'⟩ : ∃ y, y = Q % m := ⟨_, rfl⟩
   obtain ⟨k', hk'⟩ : ∃ y, y = k / 2 := ⟨_, rfl⟩
   rw [← hPe] at hP
   rw [← hQe] at hQ
   have e1 : IntKind.i64.wrap ((x : Int) * (x : Int)) = (P : Int) := by rw [← Int.natCast_mul, ← hPe]; exact IntWalk.i64_in _ (by omega)
   have e2 : IntKind.i64.wrap ((o : Int) * (x : Int)) = (Q : Int) := by rw [← Int.natCast_mul, ← hQe]; exact IntWalk.i64_in _ (by omega)
   have e3 : (x : Int) * (x : Int) = (P : Int) := by rw [hPe, Int.natCast_mul]
   have e4 : (o : Int) * (x : Int) = (Q : Int) := by rw [hQe, Int.natCast_mul]
   have m1 : (P : Int).tmod (m : Int) = (x' : Int) := by rw [hx']; rfl
   have m2 : (P : Int) % (m : Int) = (x' : Int) := by rw [hx']; rfl
   have m3 : (Q : Int).tmod (m : Int) = (o' : Int) := by rw [ho']; rfl
   have m4 : (Q : Int) % (m : Int) = (o' : Int) := by rw [ho']; rfl
   have m5 : (k : Int).tdiv 2 = (k' : Int) := by rw [hk']; rfl
   have m6 : (k : Int) / 2 = (k' : Int) := by rw [hk']; rfl
   have hx2 : x' ≤ m := by rw [hx']; exact Nat.le_of_lt (Nat.mod_lt _ hm)
   have ho2 : o' < m := by rw [ho']; exact Nat.mod_lt _ hm
   have hkk : k' < k := by omega
   by_cases hodd : k % 2 = 1
   ·have z1 : ((k : Int) % 2 == 1) = true := by simp; omega
    have z2 : ((k : Int).tmod 2 == 1) = true := by simp [Int.tmod_eq_emod_of_nonneg]; omega
    have HN := Lib.hid (show (o' * x' ^ k') % m = a ^ e % m by rw [← HI.out, half_pow o x k m hodd, ho', hx', hk', hQe, hPe])
    clear hPe hQe hx' ho' hk' hodd
    go_wp2_with fail
    go_round
    case rel => exact ⟨x', k', o', rfl, rfl, rfl, hx2, ho2, by omega, HN⟩
    case measure => simp [intOf]; omega
   ·have z1 : ((k : Int) % 2 == 1) = false := beq_eq_false_iff_ne.2 (by omega)
    have z2 : ((k : Int).tmod 2 == 1) = false := beq_eq_false_iff_ne.2 (by rw [Int.tmod_eq_emod_of_nonneg (by omega)]; omega)
    have HN := Lib.hid (show (o * x' ^ k') % m = a ^ e % m by rw [← HI.out, half_pow2 o x k m hodd, hx', hk', hPe])
    clear hPe hQe hx' ho' hk' hodd
    go_wp2_with fail
    go_round
    case rel => exact ⟨x', k', o, rfl, rfl, rfl, hx2, ho, by omega, HN⟩
    case measure => simp [intOf]; omega
  ·obtain rfl : k = 0 := by omega
   have HN := Lib.hid (show o = a ^ e % m by rw [← HI.out, Nat.pow_zero, Nat.mul_one, Nat.mod_eq_of_lt ho])
   go_wp2_with fail
   go_ret
   exact ⟨congrArg (fun z : Nat => Ending.returned (.int .i64 (z : Int))) HN.out, rfl⟩
def PowR (w : World) (a e m : Nat) (en : Ending) (w' : World) : Prop := ∃ r : Nat, r = a ^ e % m ∧ en = .returned (.int .i64 (r : Nat)) ∧ w = w'
theorem ipower_r {w : World} {a e m : Nat} (hm : 0 < m) (hm2 : m ≤ 1000000000) (ha : a ≤ 1000000000) (he : e ≤ 1000000000) : Calls Tryz.prog 196 #[.int .i64 (a : Nat), .int .i64 (e : Nat), .int .i64 (m : Nat)] w (PowR w a e m) :=
 (ipower_any hm hm2 ha he).mono fun _ _ ⟨h1, h2⟩ => ⟨_, rfl, h1, h2⟩
def ValR (w : World) (n : Nat) (e : Ending) (w' : World) : Prop := ∃ k d : Nat, n = 2 ^ k * d ∧ d % 2 = 1 ∧ e = .returned (.tuple #[.int .i64 (k : Nat), .int .i64 (d : Nat)]) ∧ w = w'
theorem pow_two_big {j d n : Nat} (h : n = 2 ^ j * d) (hd : 0 < d) (hn : n ≤ 1000000000) : j < 30 := by
 rcases Nat.lt_or_ge j 30 with h1 | h1
 ·exact h1
 ·have h2 : 2 ^ 30 ≤ 2 ^ j := Nat.pow_le_pow_right (by omega) h1
  have h3 := Nat.mul_le_mul h2 hd
  omega
set_option maxHeartbeats 2000000 in
set_option maxRecDepth 100000 in
theorem valuation_two {w : World} {n : Nat} (h0 : 0 < n) (hn : n ≤ 1000000000) : Calls Tryz.prog 195 #[.int .i64 (n : Nat), .int .i64 2] w (ValR w n) := by
 go_enter Tryz.func195, Tryz.ntmps195
 go_wp2_with fail
 go_loop [0, 6] (fun dv jv => ∃ j d : Nat, dv = .int .i64 (d : Nat) ∧ jv = .int .i64 (j : Nat) ∧ 0 < d ∧ d ≤ n ∧ j < 30 ∧ Hid (n = 2 ^ j * d)) (fun dv _ => (intOf dv).toNat)
 case atStart => exact ⟨0, n, rfl, rfl, h0, Nat.le_refl _, by omega, Lib.hid (by simp)⟩
 case round =>
  obtain ⟨j, d, rfl, rfl, hd0, hdn, hj, HI⟩ := hrel
  obtain ⟨d', hd'⟩ : ∃ y, y = d / 2 := ⟨_, rfl⟩
  have m5 : (d : Int).tdiv 2 = (d' : Int) := by rw [hd']; rfl
  have m6 : (d : Int) / 2 = (d' : Int) := by rw [hd']; rfl
  by_cases hodd : d % 2 = 0
  ·have z1 : ((d : Int) % 2 == 0) = true := by simp; omega
   have z2 : ((d : Int).tmod 2 == 0) = true := by rw [Int.tmod_eq_emod_of_nonneg (by omega)]; exact z1
   have hN : n = 2 ^ (j + 1) * d' := by rw [HI.out, Nat.pow_succ, Nat.mul_assoc, show 2 * d' = d by omega]
   have hj2 := pow_two_big hN (by omega) hn
   have HN := Lib.hid hN
   have hdd : d' < d ∧ 0 < d' := by omega
   clear hd' hodd hN
   go_wp2_with fail
   go_round
   case rel => exact ⟨j + 1, d', rfl, by go_num, by omega, by omega, hj2, HN⟩
   case measure => simp [intOf]; omega
  ·have z1 : ((d : Int) % 2 == 0) = false := beq_eq_false_iff_ne.2 (by omega)
   have z2 : ((d : Int).tmod 2 == 0) = false := beq_eq_false_iff_ne.2 (by rw [Int.tmod_eq_emod_of_nonneg (by omega)]; omega)
   have HO := Lib.hid (show d % 2 = 1 by omega)
   clear hd' hodd
   go_wp2_with fail
   go_ret2
   exact ⟨j, d, HI.out, HO.out, rfl, rfl⟩
theorem two_unique {k d k' d' : Nat} (h : 2 ^ k * d = 2 ^ k' * d') (hd : d % 2 = 1) (hd' : d' % 2 = 1) : k = k' ∧ d = d' := by
 have key : ∀ k k' d d' : Nat, k ≤ k' → 2 ^ k * d = 2 ^ k' * d' → d % 2 = 1 → k = k' := fun k k' d d' hle h hd => by
  obtain ⟨j, rfl⟩ : ∃ j, k' = k + j := ⟨k' - k, by omega⟩
  rw [Nat.pow_add, Nat.mul_assoc] at h
  have h1 := Nat.eq_of_mul_eq_mul_left (Nat.pow_pos (by omega)) h
  cases j with
  | zero => rfl
  | succ j =>
   rw [Nat.pow_succ, Nat.mul_comm (2 ^ j) 2, Nat.mul_assoc] at h1
   omega
 have e : k = k' := by
  rcases Nat.le_total k k' with h1 | h1
  ·exact key k k' d d' h1 h hd
  ·exact (key k' k d' d h1 h.symm hd').symm
 subst e
 exact ⟨rfl, Nat.eq_of_mul_eq_mul_left (Nat.pow_pos (by omega)) h⟩
theorem pass_at {a n k d : Nat} (hk : n - 1 = 2 ^ k * d) (hd : d % 2 = 1) (h : a ^ d % n = 1 ∨ ∃ i, i < k ∧ a ^ (2 ^ i * d) % n = n - 1) : Pass a n := fun k' d' hk' hd' => by
 obtain ⟨rfl, rfl⟩ := two_unique (hk.symm.trans hk') hd hd'
 exact h
def WitR (w : World) (a n : Nat) (e : Ending) (w' : World) : Prop := ∃ b : Bool, (b = true → ¬ Pass a n) ∧ (b = false → Pass a n) ∧ e = .returned (.bool b) ∧ w = w'
theorem witR_no {w : World} {a n : Nat} (h : Pass a n) : WitR w a n (.returned (.bool false)) w := ⟨false, fun h => (by cases h), fun _ => h, rfl, rfl⟩
theorem witR_yes {w : World} {a n : Nat} (h : ¬ Pass a n) : WitR w a n (.returned (.bool true)) w := ⟨true, fun _ => h, fun h => (by cases h), rfl, rfl⟩
set_option maxHeartbeats 4000000 in
set_option maxRecDepth 100000 in
theorem witness_any {w : World} {a n : Nat} (ha : a ≤ 10) (h2 : 2 < n) (hn : n ≤ 1000000000) (ho : n % 2 = 1) : Calls Tryz.prog 134 #[.int .i64 (a : Nat), .int .i64 (n : Nat)] w (WitR w a n) := by
 obtain ⟨N, hN⟩ : ∃ N, N = n - 1 := ⟨_, rfl⟩
 have HN := Lib.hid hN
 have eN : IntKind.i64.wrap ((n : Int) - 1) = (N : Int) := by rw [IntWalk.i64_in _ (by omega)]; omega
 have eN2 : (n : Int) - 1 = (N : Int) := by omega
 have h9 : ((n : Int) == 0) = false := beq_eq_false_iff_ne.2 (by omega)
 have h8 : ¬ ((n : Int) = 0) := by omega
 have h7 : ¬ (n = 0) := by omega
 have hN0 : 0 < N ∧ N ≤ 1000000000 := by omega
 have HO := Lib.hid ho
 clear hN ho
 go_enter Tryz.func134, Tryz.ntmps134
 go_upto_region 3 with (first | (go_at_call 195; refine (valuation_two hN0.1 hN0.2).mono ?_; rintro en w' ⟨k, d, hk, hd, rfl, rfl⟩; have HK := Lib.hid hk; have HD := Lib.hid hd; have hdl : d ≤ N := (by rw [hk]; exact Nat.le_mul_of_pos_left d (Nat.pow_pos (by omega))); have hk30 := pow_two_big hk (by omega) hN0.2; have hk1 : 0 < k := (by have h5 := HN.out; have h6 := HO.out; rcases Nat.eq_zero_or_pos k with e | e; (rw [e, Nat.pow_zero, Nat.one_mul] at hk; omega); exact e); clear hk hd) | (go_at_call 196; refine (ipower_r (by omega) hn (by omega) (by omega)).mono ?_; rintro en w' ⟨x0, hx00, rfl, rfl⟩; have HX00 := Lib.hid hx00; clear hx00))
 have hx0 := HX00.out
 have hx0n : x0 < n := by rw [hx0]; exact Nat.mod_lt _ (by omega)
 clear HX00
 by_cases h1 : x0 = 1
 ·have z1 : ((x0 : Int) == 1) = true := by simp [h1]
  have HP := Lib.hid (pass_at (by rw [← HN.out]; exact HK.out) HD.out (.inl (by rw [← hx0]; exact h1)))
  clear h1 hx0
  go_wp2_with fail
  go_ret
  exact witR_no HP.out
 ·have z1 : ((x0 : Int) == 1) = false := beq_eq_false_iff_ne.2 (by omega)
  by_cases h2' : x0 = N
  ·have z2 : ((x0 : Int) == (N : Int)) = true := by simp [h2']
   have HP := Lib.hid (pass_at (a := a) (by rw [← HN.out]; exact HK.out) HD.out (.inr ⟨0, hk1, by rw [Nat.pow_zero, Nat.one_mul, ← hx0, h2', HN.out]⟩))
   clear h1 hx0 h2'
   go_wp2_with fail
   go_ret
   exact witR_no HP.out
  ·have z2 : ((x0 : Int) == (N : Int)) = false := beq_eq_false_iff_ne.2 (by omega)
   have HX1 := Lib.hid (show a ^ d % n ≠ 1 by rw [← hx0]; exact h1)
   have HX2 := Lib.hid (show a ^ d % n ≠ n - 1 by rw [← hx0, ← HN.out]; exact h2')
   obtain ⟨k', hk'⟩ : ∃ j, k = j + 1 := ⟨k - 1, by omega⟩
   have ek : IntKind.i64.wrap ((k : Int) - 1) = (k' : Int) := by rw [IntWalk.i64_in _ (by omega)]; omega
   have ek2 : (k : Int) - 1 = (k' : Int) := by omega
   have HK' := Lib.hid hk'
   have HX0 := Lib.hid hx0
   have HJ0 := Lib.hid (show ∀ j, j ≤ 0 → a ^ (2 ^ j * d) % n ≠ n - 1 from fun j hj => by
    obtain rfl : j = 0 := by omega
    rw [Nat.pow_zero, Nat.one_mul]
    exact HX2.out)
   clear h1 h2' hx0 hk'
   go_wp2_with fail
   clear z1 z2
   go_loop [7, 28] (fun xv iv => ∃ x i : Nat, xv = .int .i64 (x : Nat) ∧ iv = .int .i64 (i : Nat) ∧ i ≤ k' ∧ x < n ∧ Hid (x = a ^ (2 ^ i * d) % n) ∧ Hid (∀ j, j ≤ i → a ^ (2 ^ j * d) % n ≠ n - 1)) (fun _ iv => k' - (intOf iv).toNat)
   case atStart => exact ⟨x0, 0, rfl, rfl, Nat.zero_le _, hx0n, Lib.hid (by rw [HX0.out, Nat.pow_zero, Nat.one_mul]), HJ0⟩
   case round =>
    obtain ⟨x, i, rfl, rfl, hik, hxn, HX, HJ⟩ := hrel
    by_cases hlt : i < k'
    ·have hP := Nat.mul_le_mul (Nat.le_trans (Nat.le_of_lt hxn) hn) (Nat.le_trans (Nat.le_of_lt hxn) hn)
     obtain ⟨P, hPe⟩ : ∃ P, P = x * x := ⟨_, rfl⟩
     obtain ⟨x', hx'⟩ : ∃ y, y = P % n := ⟨_, rfl⟩
     rw [← hPe] at hP
     have e1 : IntKind.i64.wrap ((x : Int) * (x : Int)) = (P : Int) := by rw [← Int.natCast_mul, ← hPe]; exact IntWalk.i64_in _ (by omega)
     have e3 : (x : Int) * (x : Int) = (P : Int) := by rw [hPe, Int.natCast_mul]
     have m1 : (P : Int).tmod (n : Int) = (x' : Int) := by rw [hx']; rfl
     have m2 : (P : Int) % (n : Int) = (x' : Int) := by rw [hx']; rfl
     have hx2 : x' < n := by rw [hx']; exact Nat.mod_lt _ (by omega)
     have HX' := Lib.hid (show x' = a ^ (2 ^ (i + 1) * d) % n by rw [pow_two_succ, Nat.mul_mod, ← HX.out, ← hPe]; exact hx')
     have hlt' : (i : Int) < (k' : Int) := by omega
     clear hPe hx'
     by_cases hxN : x' = N
     ·have z2 : ((x' : Int) == (N : Int)) = true := by simp [hxN]
      have HP := Lib.hid (pass_at (a := a) (by rw [← HN.out]; exact HK.out) HD.out (.inr ⟨i + 1, by have := HK'.out; omega, by rw [← HX'.out, hxN, HN.out]⟩))
      clear hxN
      go_wp2_with fail
      go_ret
      exact witR_no HP.out
     ·have z2 : ((x' : Int) == (N : Int)) = false := beq_eq_false_iff_ne.2 (by omega)
      have HJ' := Lib.hid (show ∀ j, j ≤ i + 1 → a ^ (2 ^ j * d) % n ≠ n - 1 from fun j hj => by
       rcases Nat.lt_or_ge i j with h3 | h3
       ·obtain rfl : j = i + 1 := by omega
        rw [← HX'.out, ← HN.out]; exact hxN
       ·exact HJ.out j h3)
      clear hxN
      go_wp2_with fail
      go_round
      case rel => exact ⟨x', i + 1, rfl, by go_num, by omega, hx2, HX', HJ'⟩
      case measure => simp [intOf]; omega
    ·obtain rfl : i = k' := by omega
     have HF := Lib.hid (show ¬ Pass a n from fun hp => by
      rcases hp k d (by rw [← HN.out]; exact HK.out) HD.out with h3 | ⟨j, h3, h4⟩
      ·exact HX1.out h3
      ·exact HJ.out j (by have := HK'.out; omega) h4)
     go_wp2_with fail
     go_ret
     exact witR_yes HF.out
end Go.Proofs.YtdjpeimecfhdjaaGreat
namespace Go.Proofs.YtdjpeimecfhdjaaGreat
open Go.RowKit
open Classical in
noncomputable def primeI (x : Int) : Bool := decide (2 ≤ x ∧ x ≤ 1000000000 ∧ Pr x.toNat)
open Classical in
theorem primeI_yes {x : Int} : primeI x = true ↔ (2 ≤ x ∧ x ≤ 1000000000 ∧ Pr x.toNat) := by unfold primeI; exact decide_eq_true_iff
open Classical in
theorem primeI_iff {x : Int} : primeI x = false ↔ ¬ (2 ≤ x ∧ x ≤ 1000000000 ∧ Pr x.toNat) := by unfold primeI; exact decide_eq_false_iff_not
theorem primeI_true {n : Nat} (h1 : 2 ≤ n) (h2 : n ≤ 1000000000) (h : Pr n) : primeI (n : Int) = true := by
 exact primeI_yes.2 ⟨by omega, by omega, by rw [Int.toNat_natCast]; exact h⟩
theorem primeI_no {n : Nat} (h : ¬ Pr n) : primeI (n : Int) = false := by
 refine primeI_iff.2 ?_
 rintro ⟨_, _, h3⟩
 rw [Int.toNat_natCast] at h3
 exact h h3
theorem primeI_out {x : Int} (h : x < 2 ∨ 1000000000 < x) : primeI x = false := by
 refine primeI_iff.2 ?_
 rintro ⟨h1, h2, _⟩
 omega
def PrmR (w : World) (x : Int) (e : Ending) (w' : World) : Prop := e = .returned (.bool (primeI x)) ∧ w = w'
theorem prmR_of {w : World} {x : Int} {b : Bool} (h : primeI x = b) : PrmR w x (.returned (.bool b)) w := ⟨by rw [h], rfl⟩
theorem pr_lit {p : Nat} (h : 2 ≤ p ∧ ∀ d, d < p → 2 ≤ d → p % d ≠ 0) : Pr p := pr_trial h.1 fun d h1 h2 h3 => h.2 d (by have := Nat.mul_le_mul_right d h1; omega) h1 h3
theorem pr_2 : Pr 2 := pr_lit (by decide)
theorem pr_3 : Pr 3 := pr_lit (by decide)
theorem pr_5 : Pr 5 := pr_lit (by decide)
theorem pr_7 : Pr 7 := pr_lit (by decide)
theorem ix_0 (w : World) : (Instr.index 108 (.agg #[.int .i64 2, .int .i64 3, .int .i64 5, .int .i64 7]) (.int .i64 0)).run Tryz.prog w = .ok (.int .i64 2) w := by kernel_rfl
theorem ix_1 (w : World) : (Instr.index 108 (.agg #[.int .i64 2, .int .i64 3, .int .i64 5, .int .i64 7]) (.int .i64 1)).run Tryz.prog w = .ok (.int .i64 3) w := by kernel_rfl
theorem ix_2 (w : World) : (Instr.index 108 (.agg #[.int .i64 2, .int .i64 3, .int .i64 5, .int .i64 7]) (.int .i64 2)).run Tryz.prog w = .ok (.int .i64 5) w := by kernel_rfl
theorem ix_3 (w : World) : (Instr.index 108 (.agg #[.int .i64 2, .int .i64 3, .int .i64 5, .int .i64 7]) (.int .i64 3)).run Tryz.prog w = .ok (.int .i64 7) w := by kernel_rfl
set_option maxHeartbeats 8000000 in
set_option maxRecDepth 100000 in
theorem IsPrime_any {w : World} (x : Int) (hx : x ≤ 1000) : Calls Tryz.prog 78 #[.int .i64 x] w (PrmR w x) := by
 by_cases hlo : x < 2
 ·have z1 : decide (x < 2) = true := decide_eq_true hlo
  have HP := Lib.hid (primeI_out (.inl hlo))
  go_enter Tryz.func78, Tryz.ntmps78
  go_wp2_with fail
  go_ret
  exact prmR_of HP.out
 ·by_cases hhi : 1000000000 < x
  ·have z1 : decide (x < 2) = false := decide_eq_false hlo
   have z2 : decide (1000000000 < x) = true := decide_eq_true hhi
   have HP := Lib.hid (primeI_out (.inr hhi))
   go_enter Tryz.func78, Tryz.ntmps78
   go_wp2_with fail
   go_ret
   exact prmR_of HP.out
  ·obtain ⟨n, rfl⟩ : ∃ n : Nat, x = n := ⟨x.toNat, by omega⟩
   have z1 : decide ((n : Int) < 2) = false := decide_eq_false hlo
   have z2 : decide (1000000000 < (n : Int)) = false := decide_eq_false hhi
   have h1 : 2 ≤ n := by omega
   have h2 : n ≤ 1000000000 := by omega
   have h1000 : n ≤ 1000 := by omega
   clear hlo hhi
   go_enter Tryz.func78, Tryz.ntmps78
   go_wp2_with fail
   have x0 := ix_0 w
   have x1 := ix_1 w
   have x2 := ix_2 w
   have x3 := ix_3 w
   clear z1 z2
   go_loop [12] (fun iv => ∃ k : Nat, k ≤ 4 ∧ iv = .int .i64 (k : Nat) ∧ Hid (∀ b ∈ [2, 3, 5, 7].take k, n ≠ b ∧ n % b ≠ 0 ∧ Pass b n)) (fun iv => 4 - (intOf iv).toNat)
   case atStart => exact ⟨0, by omega, rfl, Lib.hid (fun b hb => by simp at hb)⟩
   case round =>
   obtain ⟨k, hk, rfl, HI⟩ := hrel
   obtain rfl | rfl | rfl | rfl | rfl : k = 0 ∨ k = 1 ∨ k = 2 ∨ k = 3 ∨ k = 4 := by omega
   ·-- 2
    by_cases he : n = 2
    ·have z1 : ((n : Int) == 2) = true := by simp [he]
     have HP := Lib.hid (show primeI (n : Int) = true from primeI_true h1 h2 (by rw [he]; exact pr_2))
     clear he 
     go_wp2_with fail
     go_ret
     exact prmR_of HP.out
    ·have z1 : ((n : Int) == 2) = false := beq_eq_false_iff_ne.2 (by omega)
     by_cases hm : n % 2 = 0
     ·have z2 : ((n : Int) % 2 == 0) = true := by simp; omega
      have z3 : ((n : Int).tmod 2 == 0) = true := by rw [Int.tmod_eq_emod_of_nonneg (by omega)]; exact z2
      have HP := Lib.hid (show primeI (n : Int) = false from primeI_no (fun h => by rcases h.2 2 (Nat.dvd_of_mod_eq_zero hm) with e | e <;> omega))
      clear he hm 
      go_wp2_with fail
      go_ret
      exact prmR_of HP.out
     ·have z2 : ((n : Int) % 2 == 0) = false := beq_eq_false_iff_ne.2 (by omega)
      have z3 : ((n : Int).tmod 2 == 0) = false := beq_eq_false_iff_ne.2 (by rw [Int.tmod_eq_emod_of_nonneg (by omega)]; omega)
      have hna : 2 < n := by omega
      have HW := Lib.hid (fun w => @witness_any w 2 n (by omega) (by omega) h2 (by omega))
      have HNE := Lib.hid (And.intro he hm)
      clear he hm 
      go_wp2_with fail
      refine (HW.out _).mono ?_
      rintro en w' ⟨b, hb1, hb2, rfl, rfl⟩
      cases b
      ·have HN := Lib.hid (show ∀ b ∈ [2, 3, 5, 7].take 1, n ≠ b ∧ n % b ≠ 0 ∧ Pass b n from fun b hb => by
        have hb' : b ∈ [2, 3, 5, 7].take 0 ∨ b = 2 := by simp at hb ⊢; omega
        rcases hb' with hb' | rfl
        ·exact HI.out b hb'
        ·exact ⟨HNE.out.1, HNE.out.2, hb2 rfl⟩)
       clear hb1 hb2
       go_wp2_with fail
       go_round
       case rel => exact ⟨1, by omega, by go_num, HN⟩
       case measure => simp [intOf]
      ·have HP := Lib.hid (show primeI (n : Int) = false from primeI_no (fun h => hb1 rfl (pass_prime h (fun hd => by have := Nat.le_of_dvd (by omega) hd; omega))))
       clear hb1 hb2
       go_wp2_with fail
       go_ret
       exact prmR_of HP.out
   ·-- 3
    obtain ⟨p21, p22, p23⟩ := HI.out 2 (by simp)
    by_cases he : n = 3
    ·have z1 : ((n : Int) == 3) = true := by simp [he]
     have HP := Lib.hid (show primeI (n : Int) = true from primeI_true h1 h2 (by rw [he]; exact pr_3))
     clear he p21 p22 p23
     go_wp2_with fail
     go_ret
     exact prmR_of HP.out
    ·have z1 : ((n : Int) == 3) = false := beq_eq_false_iff_ne.2 (by omega)
     by_cases hm : n % 3 = 0
     ·have z2 : ((n : Int) % 3 == 0) = true := by simp; omega
      have z3 : ((n : Int).tmod 3 == 0) = true := by rw [Int.tmod_eq_emod_of_nonneg (by omega)]; exact z2
      have HP := Lib.hid (show primeI (n : Int) = false from primeI_no (fun h => by rcases h.2 3 (Nat.dvd_of_mod_eq_zero hm) with e | e <;> omega))
      clear he hm p21 p22 p23
      go_wp2_with fail
      go_ret
      exact prmR_of HP.out
     ·have z2 : ((n : Int) % 3 == 0) = false := beq_eq_false_iff_ne.2 (by omega)
      have z3 : ((n : Int).tmod 3 == 0) = false := beq_eq_false_iff_ne.2 (by rw [Int.tmod_eq_emod_of_nonneg (by omega)]; omega)
      have hna : 3 < n := by omega
      have HW := Lib.hid (fun w => @witness_any w 3 n (by omega) (by omega) h2 (by omega))
      have HNE := Lib.hid (And.intro he hm)
      clear he hm p21 p22 p23
      go_wp2_with fail
      refine (HW.out _).mono ?_
      rintro en w' ⟨b, hb1, hb2, rfl, rfl⟩
      cases b
      ·have HN := Lib.hid (show ∀ b ∈ [2, 3, 5, 7].take 2, n ≠ b ∧ n % b ≠ 0 ∧ Pass b n from fun b hb => by
        have hb' : b ∈ [2, 3, 5, 7].take 1 ∨ b = 3 := by simp at hb ⊢; omega
        rcases hb' with hb' | rfl
        ·exact HI.out b hb'
        ·exact ⟨HNE.out.1, HNE.out.2, hb2 rfl⟩)
       clear hb1 hb2
       go_wp2_with fail
       go_round
       case rel => exact ⟨2, by omega, by go_num, HN⟩
       case measure => simp [intOf]
      ·have HP := Lib.hid (show primeI (n : Int) = false from primeI_no (fun h => hb1 rfl (pass_prime h (fun hd => by have := Nat.le_of_dvd (by omega) hd; omega))))
       clear hb1 hb2
       go_wp2_with fail
       go_ret
       exact prmR_of HP.out
   ·-- 5
    obtain ⟨p21, p22, p23⟩ := HI.out 2 (by simp)
    obtain ⟨p31, p32, p33⟩ := HI.out 3 (by simp)
    by_cases he : n = 5
    ·have z1 : ((n : Int) == 5) = true := by simp [he]
     have HP := Lib.hid (show primeI (n : Int) = true from primeI_true h1 h2 (by rw [he]; exact pr_5))
     clear he p21 p22 p23 p31 p32 p33
     go_wp2_with fail
     go_ret
     exact prmR_of HP.out
    ·have z1 : ((n : Int) == 5) = false := beq_eq_false_iff_ne.2 (by omega)
     by_cases hm : n % 5 = 0
     ·have z2 : ((n : Int) % 5 == 0) = true := by simp; omega
      have z3 : ((n : Int).tmod 5 == 0) = true := by rw [Int.tmod_eq_emod_of_nonneg (by omega)]; exact z2
      have HP := Lib.hid (show primeI (n : Int) = false from primeI_no (fun h => by rcases h.2 5 (Nat.dvd_of_mod_eq_zero hm) with e | e <;> omega))
      clear he hm p21 p22 p23 p31 p32 p33
      go_wp2_with fail
      go_ret
      exact prmR_of HP.out
     ·have z2 : ((n : Int) % 5 == 0) = false := beq_eq_false_iff_ne.2 (by omega)
      have z3 : ((n : Int).tmod 5 == 0) = false := beq_eq_false_iff_ne.2 (by rw [Int.tmod_eq_emod_of_nonneg (by omega)]; omega)
      have hna : 5 < n := by omega
      have HW := Lib.hid (fun w => @witness_any w 5 n (by omega) (by omega) h2 (by omega))
      have HNE := Lib.hid (And.intro he hm)
      clear he hm p21 p22 p23 p31 p32 p33
      go_wp2_with fail
      refine (HW.out _).mono ?_
      rintro en w' ⟨b, hb1, hb2, rfl, rfl⟩
      cases b
      ·have HN := Lib.hid (show ∀ b ∈ [2, 3, 5, 7].take 3, n ≠ b ∧ n % b ≠ 0 ∧ Pass b n from fun b hb => by
        have hb' : b ∈ [2, 3, 5, 7].take 2 ∨ b = 5 := by simp at hb ⊢; omega
        rcases hb' with hb' | rfl
        ·exact HI.out b hb'
        ·exact ⟨HNE.out.1, HNE.out.2, hb2 rfl⟩)
       clear hb1 hb2
       go_wp2_with fail
       go_round
       case rel => exact ⟨3, by omega, by go_num, HN⟩
       case measure => simp [intOf]
      ·have HP := Lib.hid (show primeI (n : Int) = false from primeI_no (fun h => hb1 rfl (pass_prime h (fun hd => by have := Nat.le_of_dvd (by omega) hd; omega))))
       clear hb1 hb2
       go_wp2_with fail
       go_ret
       exact prmR_of HP.out
   ·-- 7
    obtain ⟨p21, p22, p23⟩ := HI.out 2 (by simp)
    obtain ⟨p31, p32, p33⟩ := HI.out 3 (by simp)
    obtain ⟨p51, p52, p53⟩ := HI.out 5 (by simp)
    by_cases he : n = 7
    ·have z1 : ((n : Int) == 7) = true := by simp [he]
     have HP := Lib.hid (show primeI (n : Int) = true from primeI_true h1 h2 (by rw [he]; exact pr_7))
     clear he p21 p22 p23 p31 p32 p33 p51 p52 p53
     go_wp2_with fail
     go_ret
     exact prmR_of HP.out
    ·have z1 : ((n : Int) == 7) = false := beq_eq_false_iff_ne.2 (by omega)
     by_cases hm : n % 7 = 0
     ·have z2 : ((n : Int) % 7 == 0) = true := by simp; omega
      have z3 : ((n : Int).tmod 7 == 0) = true := by rw [Int.tmod_eq_emod_of_nonneg (by omega)]; exact z2
      have HP := Lib.hid (show primeI (n : Int) = false from primeI_no (fun h => by rcases h.2 7 (Nat.dvd_of_mod_eq_zero hm) with e | e <;> omega))
      clear he hm p21 p22 p23 p31 p32 p33 p51 p52 p53
      go_wp2_with fail
      go_ret
      exact prmR_of HP.out
     ·have z2 : ((n : Int) % 7 == 0) = false := beq_eq_false_iff_ne.2 (by omega)
      have z3 : ((n : Int).tmod 7 == 0) = false := beq_eq_false_iff_ne.2 (by rw [Int.tmod_eq_emod_of_nonneg (by omega)]; omega)
      have hna : 7 < n := by omega
      have HW := Lib.hid (fun w => @witness_any w 7 n (by omega) (by omega) h2 (by omega))
      have HNE := Lib.hid (And.intro he hm)
      clear he hm p21 p22 p23 p31 p32 p33 p51 p52 p53
      go_wp2_with fail
      refine (HW.out _).mono ?_
      rintro en w' ⟨b, hb1, hb2, rfl, rfl⟩
      cases b
      ·have HN := Lib.hid (show ∀ b ∈ [2, 3, 5, 7].take 4, n ≠ b ∧ n % b ≠ 0 ∧ Pass b n from fun b hb => by
        have hb' : b ∈ [2, 3, 5, 7].take 3 ∨ b = 7 := by simp at hb ⊢; omega
        rcases hb' with hb' | rfl
        ·exact HI.out b hb'
        ·exact ⟨HNE.out.1, HNE.out.2, hb2 rfl⟩)
       clear hb1 hb2
       go_wp2_with fail
       go_round
       case rel => exact ⟨4, by omega, by go_num, HN⟩
       case measure => simp [intOf]
      ·have HP := Lib.hid (show primeI (n : Int) = false from primeI_no (fun h => hb1 rfl (pass_prime h (fun hd => by have := Nat.le_of_dvd (by omega) hd; omega))))
       clear hb1 hb2
       go_wp2_with fail
       go_ret
       exact prmR_of HP.out
   ·have HP := Lib.hid (show primeI (n : Int) = true from by
     obtain ⟨a1, a2, a3⟩ := HI.out 2 (by simp)
     obtain ⟨b1, b2, b3⟩ := HI.out 3 (by simp)
     obtain ⟨c1, c2, c3⟩ := HI.out 5 (by simp)
     obtain ⟨d1, d2, d3⟩ := HI.out 7 (by simp)
     exact primeI_true h1 h2 (pr_of_thru1 (by omega) h1000 ⟨a2, b2, c2, d2, a3, b3, c3, d3⟩))
    go_wp2_with fail
    go_ret
    exact prmR_of HP.out
end Go.Proofs.YtdjpeimecfhdjaaGreat
