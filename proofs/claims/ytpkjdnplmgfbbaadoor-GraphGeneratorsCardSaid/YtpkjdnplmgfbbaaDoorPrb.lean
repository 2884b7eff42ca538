/- Plain numbers: what the strong test says of the primes in a number. No program in sight. -/
import Derived.Test.YtpkjdnplmgfbbaaDoorPra
namespace Go.Proofs.YtpkjdnplmgfbbaaDoor

/-- A number passes the strong test. -/
def Pass (a n : Nat) : Prop := ∀ k d, n - 1 = 2 ^ k * d → d % 2 = 1 → (a ^ d % n = 1 ∨ ∃ i, i < k ∧ a ^ (2 ^ i * d) % n = n - 1)
theorem pow_two_succ (a i d : Nat) : a ^ (2 ^ (i + 1) * d) = a ^ (2 ^ i * d) * a ^ (2 ^ i * d) := by
  rw [← Nat.pow_add]
  congr 1
  rw [Nat.pow_succ]
  have : 2 ^ i * 2 * d = 2 ^ i * d * 2 := by rw [Nat.mul_assoc, Nat.mul_comm 2 d, ← Nat.mul_assoc]
  omega
/-- A root of 1 modulo a prime is 1 or -1. -/
theorem Pr.root {n y : Nat} (h : Pr n) (hy : y * y % n = 1) : y % n = 1 ∨ y % n = n - 1 := by
  have h2 := h.1
  have hlt : y % n < n := Nat.mod_lt _ (by omega)
  obtain ⟨z, hz⟩ : ∃ z, z = y % n := ⟨_, rfl⟩
  have hzz : z * z % n = 1 := by rw [hz, ← Nat.mul_mod]; exact hy
  rw [← hz] at hlt ⊢
  have hz0 : 1 ≤ z := by
    rcases Nat.eq_zero_or_pos z with e | e
    · rw [e] at hzz; simp at hzz
    · exact e
  have hd : n ∣ (z - 1) * (z + 1) := by
    have e : (z - 1) * (z + 1) = z * z - 1 := by
      obtain ⟨q, rfl⟩ : ∃ q, z = q + 1 := ⟨z - 1, by omega⟩
      rw [Nat.add_sub_cancel, Nat.mul_add, Nat.add_mul, Nat.mul_add, Nat.one_mul, Nat.mul_one]
      omega
    rw [e]
    have h1 : z * z % n = 1 % n := by rw [hzz, Nat.mod_eq_of_lt (by omega)]
    exact Nat.dvd_of_mod_eq_zero (Nat.sub_mod_eq_zero_of_mod_eq h1)
  rcases h.mul hd with h3 | h3
  · left
    rcases Nat.eq_zero_or_pos (z - 1) with e | e
    · omega
    · have := Nat.le_of_dvd e h3; omega
  · right
    have := Nat.le_of_dvd (by omega) h3
    omega
/-- A prime passes. -/
theorem pass_prime {a n : Nat} (h : Pr n) (ha : ¬ n ∣ a) : Pass a n := by
  intro k d hk hd
  have h2 := h.1
  have key : ∀ i, a ^ (2 ^ i * d) % n = 1 → (a ^ d % n = 1 ∨ ∃ j, j < i ∧ a ^ (2 ^ j * d) % n = n - 1) := by
    intro i
    induction i with
    | zero => intro h1; left; rw [Nat.pow_zero, Nat.one_mul] at h1; exact h1
    | succ i ih =>
      intro h1
      rw [pow_two_succ] at h1
      rcases h.root h1 with h3 | h3
      · rcases ih h3 with h4 | ⟨j, h4, h5⟩
        · exact .inl h4
        · exact .inr ⟨j, by omega, h5⟩
      · exact .inr ⟨i, by omega, h3⟩
  refine key k ?_
  have h1 := fermat_one h ha
  unfold One at h1
  rw [hk] at h1
  rw [h1, Nat.mod_eq_of_lt (by omega)]

theorem minus_sq {n x : Nat} (h1 : 1 < n) (hx : x % n = n - 1) : x * x % n = 1 := by
  rw [Nat.mul_mod, hx]
  obtain ⟨m, rfl⟩ : ∃ m, n = m + 2 := ⟨n - 2, by omega⟩
  rw [show m + 2 - 1 = m + 1 by omega]
  have e : (m + 1) * (m + 1) = 1 + (m + 2) * m := by rw [Nat.add_mul, Nat.mul_add, Nat.add_mul]; omega
  rw [e, Nat.add_mul_mod_self_left, Nat.mod_eq_of_lt (by omega)]
theorem two_pow_odd : ∀ n : Nat, 0 < n → ∃ k d, n = 2 ^ k * d ∧ d % 2 = 1 := by
  intro n
  induction n using Nat.strongRecOn with
  | ind n ih =>
    intro hn
    by_cases h : n % 2 = 1
    · exact ⟨0, n, by simp, h⟩
    · obtain ⟨k, d, h1, h2⟩ := ih (n / 2) (by omega) (by omega)
      refine ⟨k + 1, d, ?_, h2⟩
      have : n = 2 * (n / 2) := by omega
      rw [this, h1, Nat.pow_succ, ← Nat.mul_assoc, Nat.mul_comm 2 (2 ^ k)]
/-- What passes, passes the weak test. -/
theorem Pass.one {a n : Nat} (h : Pass a n) (hn : 2 < n) (ho : n % 2 = 1) : One n a (n - 1) := by
  obtain ⟨k, d, h1, h2⟩ := two_pow_odd (n - 1) (by omega)
  rcases h k d h1 h2 with h3 | ⟨i, h3, h4⟩
  · have : One n a d := by unfold One; rw [h3, Nat.mod_eq_of_lt (by omega)]
    exact this.dvd ⟨2 ^ k, by rw [h1, Nat.mul_comm]⟩
  · have h5 : One n a (2 ^ (i + 1) * d) := by
      unfold One
      rw [pow_two_succ, minus_sq (by omega) h4, Nat.mod_eq_of_lt (by omega)]
    refine h5.dvd ⟨2 ^ (k - (i + 1)), ?_⟩
    rw [h1, show k = (i + 1) + (k - (i + 1)) by omega, Nat.pow_add, show i + 1 + (k - (i + 1)) - (i + 1) = k - (i + 1) by omega, Nat.mul_assoc, Nat.mul_comm _ d, Nat.mul_assoc]

/-- The sign of a base modulo a prime: how often 2 divides its order. -/
def Sig (a p s : Nat) : Prop := ∀ k u, p - 1 = 2 ^ k * u → u % 2 = 1 → One p a (2 ^ s * u) ∧ (s = 0 ∨ ¬ One p a (2 ^ (s - 1) * u))
theorem odd_cop {d k : Nat} (h : d % 2 = 1) : Nat.Coprime d (2 ^ k) := by
  refine Nat.Coprime.pow_right k ?_
  have h1 := Nat.gcd_dvd_right d 2
  have h2 := Nat.gcd_dvd_left d 2
  have h3 := Nat.le_of_dvd (by omega) h1
  have h4 : Nat.gcd d 2 ≠ 0 := fun e => by rw [e] at h1; have := Nat.eq_zero_of_zero_dvd h1; omega
  have h5 : Nat.gcd d 2 ≠ 2 := fun e => by rw [e] at h2; have := Nat.mod_eq_zero_of_dvd h2; omega
  show Nat.gcd d 2 = 1
  omega
theorem gcd_bound {d u i s : Nat} (hd : d % 2 = 1) : Nat.gcd (2 ^ i * d) (2 ^ s * u) ∣ 2 ^ i * u := by
  have h1 : Nat.gcd (2 ^ i * d) (2 ^ s * u) ∣ 2 ^ i * u * d := Nat.dvd_trans (Nat.gcd_dvd_left _ _) ⟨u, by rw [Nat.mul_assoc, Nat.mul_assoc, Nat.mul_comm d u]⟩
  have h2 : Nat.gcd (2 ^ i * d) (2 ^ s * u) ∣ 2 ^ i * u * 2 ^ s := Nat.dvd_trans (Nat.gcd_dvd_right _ _) ⟨2 ^ i, by rw [Nat.mul_comm (2 ^ i) u, Nat.mul_assoc u, Nat.mul_comm (2 ^ i) (2 ^ s), ← Nat.mul_assoc u, Nat.mul_comm u (2 ^ s)]⟩
  have h3 := Nat.dvd_gcd h1 h2
  rw [Nat.gcd_mul_left, show Nat.gcd d (2 ^ s) = 1 from odd_cop hd, Nat.mul_one] at h3
  exact h3
theorem Sig.unique {a p s s' : Nat} (hp : 2 < p) (h : Sig a p s) (h' : Sig a p s') : s = s' := by
  obtain ⟨k, u, h1, h2⟩ := two_pow_odd (p - 1) (by omega)
  obtain ⟨a1, a2⟩ := h k u h1 h2
  obtain ⟨b1, b2⟩ := h' k u h1 h2
  have up : ∀ i j, i ≤ j → One p a (2 ^ i * u) → One p a (2 ^ j * u) := fun i j hij ho => ho.dvd ⟨2 ^ (j - i), by
    rw [show j = i + (j - i) by omega, Nat.pow_add, show i + (j - i) - i = j - i by omega, Nat.mul_assoc, Nat.mul_comm _ u, Nat.mul_assoc]⟩
  rcases Nat.lt_trichotomy s s' with h3 | h3 | h3
  · rcases b2 with h4 | h4
    · omega
    · exact absurd (up s (s' - 1) (by omega) a1) h4
  · exact h3
  · rcases a2 with h4 | h4
    · omega
    · exact absurd (up s' (s - 1) (by omega) b1) h4
/-- All primes in a number that passes have the same sign. -/
theorem Pass.sig {a n : Nat} (h : Pass a n) (hn : 2 < n) : ∃ s, ∀ p, Pr p → p ∣ n → 2 < p → ¬ p ∣ a → Sig a p s := by
  obtain ⟨k, d, h1, h2⟩ := two_pow_odd (n - 1) (by omega)
  rcases h k d h1 h2 with h3 | ⟨i, h3, h4⟩
  · refine ⟨0, fun p hp hpn h2p hpa K u hK hu => ⟨?_, .inl rfl⟩⟩
    have o1 : One p a d := One.of_dvd hpn (by unfold One; rw [h3, Nat.mod_eq_of_lt (by omega)])
    have o2 := fermat_one hp hpa
    rw [hK] at o2
    have o3 := One.gcd _ _ (show One p a (2 ^ 0 * d) by rw [Nat.pow_zero, Nat.one_mul]; exact o1) o2
    exact o3.dvd (gcd_bound h2)
  · refine ⟨i + 1, fun p hp hpn h2p hpa K u hK hu => ?_⟩
    have hm : a ^ (2 ^ i * d) % p = p - 1 := by
      have e := congrArg (· % p) h4
      simp only [Nat.mod_mod_of_dvd _ hpn] at e
      rw [e]
      obtain ⟨c, rfl⟩ := hpn
      have hc : c ≠ 0 := fun e => by subst e; omega
      obtain ⟨c', rfl⟩ : ∃ c', c = c' + 1 := ⟨c - 1, by omega⟩
      rw [show p * (c' + 1) - 1 = (p - 1) + p * c' by rw [Nat.mul_add]; omega, Nat.add_mul_mod_self_left, Nat.mod_eq_of_lt (by omega)]
    have o1 : One p a (2 ^ (i + 1) * d) := by unfold One; rw [pow_two_succ, minus_sq (by omega) hm, Nat.mod_eq_of_lt (by omega)]
    have o2 := fermat_one hp hpa
    rw [hK] at o2
    refine ⟨(One.gcd _ _ o1 o2).dvd (gcd_bound h2), .inr fun o3 => ?_⟩
    rw [Nat.add_sub_cancel] at o3
    -- 1 = (-1)^u
    have o4 := o3.mul d
    unfold One at o4
    have e1 : 2 ^ i * u * d = 2 ^ i * d * u := by rw [Nat.mul_assoc, Nat.mul_comm u d, ← Nat.mul_assoc]
    rw [e1, Nat.pow_mul, Nat.pow_mod, hm] at o4
    obtain ⟨v, rfl⟩ : ∃ v, u = 2 * v + 1 := ⟨u / 2, by omega⟩
    rw [Nat.pow_succ, Nat.pow_mul, Nat.mul_mod, Nat.pow_mod, Nat.pow_two, minus_sq (by omega) (Nat.mod_eq_of_lt (by omega)), Nat.one_pow] at o4
    rw [← Nat.mul_mod, Nat.one_mul, Nat.mod_eq_of_lt (by omega), Nat.mod_eq_of_lt (by omega)] at o4
    omega
end Go.Proofs.YtpkjdnplmgfbbaaDoor
