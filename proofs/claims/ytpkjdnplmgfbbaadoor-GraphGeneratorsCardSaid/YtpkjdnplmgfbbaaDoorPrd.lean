/- Plain numbers: what the kernel looks through, and what follows of it. No program in sight. -/
import Derived.Test.YtpkjdnplmgfbbaaDoorPrc
namespace Go.Proofs.YtpkjdnplmgfbbaaDoor

/-- Fails the strong test to the base a (n - 1 = 2^k d; y is the power to e = 2^j d). -/
def odd_ : Nat → Nat → Nat
  | 0, m => m
  | f + 1, m => bif Nat.beq (m % 2) 0 then odd_ f (m / 2) else m
def sfl (n : Nat) : Nat → Nat → Nat → Bool
  | 0, _, _ => false
  | f + 1, y, e => bif Nat.beq e (n - 1) then true else !(Nat.beq y (n - 1)) && sfl n f (y * y % n) (2 * e)
def sfail (a n : Nat) : Bool := !(Nat.beq (pm a (odd_ 40 (n - 1)) n) 1) && sfl n 40 (pm a (odd_ 40 (n - 1)) n) (odd_ 40 (n - 1))
def wfail (a n : Nat) : Bool := !(Nat.beq (pm a (n - 1) n) 1)
/-- The number is divided by 2, 3, 5 or 7, or fails a test. -/
def fails (n : Nat) : Bool :=
  Nat.beq (n % 2) 0 || Nat.beq (n % 3) 0 || Nat.beq (n % 5) 0 || Nat.beq (n % 7) 0 || wfail 2 n || wfail 3 n || wfail 5 n || wfail 7 n || sfail 2 n || sfail 3 n || sfail 5 n || sfail 7 n
/-- What the program's test lets through. -/
structure Thru4 (n : Nat) : Prop where
  odd : n % 2 ≠ 0
  three : n % 3 ≠ 0
  five : n % 5 ≠ 0
  seven : n % 7 ≠ 0
  p2 : Pass 2 n
  p3 : Pass 3 n
  p5 : Pass 5 n
  p7 : Pass 7 n
theorem odd_spec : ∀ f m : Nat, 0 < m → ∃ k, m = 2 ^ k * odd_ f m
  | 0, m, _ => ⟨0, by simp [odd_]⟩
  | f + 1, m, hm => by
    unfold odd_
    by_cases h : m % 2 = 0
    · rw [beq_iff.2 h, cond_true]
      obtain ⟨k, hk⟩ := odd_spec f (m / 2) (by omega)
      refine ⟨k + 1, ?_⟩
      rw [Nat.pow_succ, Nat.mul_assoc, Nat.mul_comm 2, ← Nat.mul_assoc, ← hk]
      omega
    · have e : Nat.beq (m % 2) 0 = false := by rw [Bool.eq_false_iff]; intro h2; exact h (beq_iff.1 h2)
      rw [e, cond_false]
      exact ⟨0, by simp⟩
theorem odd_is : ∀ f m : Nat, 0 < m → m < 2 ^ f → odd_ f m % 2 = 1
  | 0, m, h0, h => by simp at h; omega
  | f + 1, m, h0, h => by
    unfold odd_
    by_cases h2 : m % 2 = 0
    · rw [beq_iff.2 h2, cond_true]
      exact odd_is f (m / 2) (by omega) (by rw [Nat.pow_succ] at h; omega)
    · have e : Nat.beq (m % 2) 0 = false := by rw [Bool.eq_false_iff]; intro h3; exact h2 (beq_iff.1 h3)
      rw [e, cond_false]
      omega
theorem sfl_spec {a n d k : Nat} (hk : n - 1 = 2 ^ k * d) (hd : 0 < d) : ∀ (f j : Nat) (y : Nat), y = a ^ (2 ^ j * d) % n → j ≤ k → sfl n f y (2 ^ j * d) = true → ∀ i, j ≤ i → i < k → a ^ (2 ^ i * d) % n ≠ n - 1
  | 0, _, _, _, _, h, _, _, _ => by simp [sfl] at h
  | f + 1, j, y, hy, hjk, h, i, hji, hik => by
    unfold sfl at h
    by_cases he : 2 ^ j * d = n - 1
    · rw [hk] at he
      have h1 := Nat.eq_of_mul_eq_mul_right hd he
      have : j = k := (Nat.pow_right_inj (by omega)).1 h1
      omega
    · have e : Nat.beq (2 ^ j * d) (n - 1) = false := by rw [Bool.eq_false_iff]; intro h3; exact he (beq_iff.1 h3)
      rw [e, cond_false, Bool.and_eq_true] at h
      obtain ⟨h1, h2⟩ := h
      have hjk' : j ≠ k := fun e => he (by rw [hk, e])
      rcases Nat.lt_or_ge j i with h3 | h3
      · have e2 : 2 * (2 ^ j * d) = 2 ^ (j + 1) * d := by rw [Nat.pow_succ, Nat.mul_comm (2 ^ j) 2, Nat.mul_assoc]
        rw [e2] at h2
        refine sfl_spec hk hd f (j + 1) _ ?_ (by omega) h2 i (by omega) hik
        rw [hy, pow_two_succ, ← Nat.mul_mod]
      · obtain rfl : i = j := by omega
        intro h4
        rw [← hy] at h4
        rw [beq_iff.2 h4] at h1
        cases h1
theorem sfail_spec {a n : Nat} (hn : 2 < n) (hb : n < 2 ^ 40) (h : sfail a n = true) : ¬ Pass a n := by
  intro hp
  unfold sfail at h
  rw [Bool.and_eq_true] at h
  obtain ⟨h1, h2⟩ := h
  obtain ⟨k, hk⟩ := odd_spec 40 (n - 1) (by omega)
  have hd := odd_is 40 (n - 1) (by omega) (by omega)
  obtain ⟨d, hdd⟩ : ∃ d, d = odd_ 40 (n - 1) := ⟨_, rfl⟩
  rw [← hdd] at h1 h2 hk hd
  rw [pm_eq] at h1 h2
  rcases hp k d hk hd with h3 | ⟨i, h3, h4⟩
  · rw [beq_iff.2 h3] at h1
    cases h1
  · have e : d = 2 ^ 0 * d := by simp
    exact sfl_spec hk (by omega) 40 0 _ (by rw [← e]) (Nat.zero_le _) (by rw [← e]; exact h2) i (Nat.zero_le _) h3 h4
theorem wfail_spec {a n : Nat} (hn : 2 < n) (h : wfail a n = true) : ¬ One n a (n - 1) := by
  intro ho
  unfold wfail at h
  rw [pm_eq, beq_iff.2 (by unfold One at ho; rw [ho, Nat.mod_eq_of_lt (by omega)])] at h
  cases h
theorem fails_spec {n : Nat} (hn : 2 < n) (hb : n < 2 ^ 40) (ht : Thru4 n) : fails n = false := by
  rw [Bool.eq_false_iff]
  intro h
  have ho : n % 2 = 1 := by have := ht.odd; omega
  unfold fails at h
  simp only [Bool.or_eq_true, beq_iff] at h
  rcases h with ((((((((((h | h) | h) | h) | h) | h) | h) | h) | h) | h) | h) | h
  · exact ht.odd h
  · exact ht.three h
  · exact ht.five h
  · exact ht.seven h
  · exact wfail_spec hn h (ht.p2.one hn ho)
  · exact wfail_spec hn h (ht.p3.one hn ho)
  · exact wfail_spec hn h (ht.p5.one hn ho)
  · exact wfail_spec hn h (ht.p7.one hn ho)
  · exact sfail_spec hn hb h ht.p2
  · exact sfail_spec hn hb h ht.p3
  · exact sfail_spec hn hb h ht.p5
  · exact sfail_spec hn hb h ht.p7

/-- All of 2^d numbers from lo on. -/
def rg (t : Nat → Bool) : Nat → Nat → Bool
  | 0, lo => t lo
  | d + 1, lo => rg t d lo && rg t d (lo + 2 ^ d)
theorem rg_spec {t : Nat → Bool} : ∀ (d lo : Nat), rg t d lo = true → ∀ i, lo ≤ i → i < lo + 2 ^ d → t i = true
  | 0, lo, h, i, h1, h2 => by
    obtain rfl : i = lo := by simp at h2; omega
    exact h
  | d + 1, lo, h, i, h1, h2 => by
    unfold rg at h
    rw [Bool.and_eq_true] at h
    rcases Nat.lt_or_ge i (lo + 2 ^ d) with h3 | h3
    · exact rg_spec d lo h.1 i h1 h3
    · exact rg_spec d (lo + 2 ^ d) h.2 i h3 (by rw [Nat.pow_succ] at h2; omega)
/-- A divisor is found by a greatest common divisor. -/
def gd (c p : Nat) : Bool := Nat.ble 2 (Nat.gcd p c) && Nat.ble (Nat.gcd p c + 1) p
theorem gd_spec {c p : Nat} (h : gd c p = true) : ¬ Pr p := by
  unfold gd at h
  rw [Bool.and_eq_true] at h
  have h1 := Nat.le_of_ble_eq_true h.1
  have h2 := Nat.le_of_ble_eq_true h.2
  intro hp
  rcases hp.2 _ (Nat.gcd_dvd_left p c) with h3 | h3 <;> omega
def comp (p : Nat) : Bool := gd 166589903787325219380851695350896256250980509594874862046961683989710 p || gd 36571765172040598844188468431865239 p || gd 135279120641869620956459853694931695 p || gd 1309219421506885440313137828987783677 p || gd 74337741111880118021176283441 p || gd 16137160443118396219519316344231 p || gd 316773187163046517 p
theorem comp_spec {p : Nat} (h : comp p = true) : ¬ Pr p := by
  unfold comp at h
  simp only [Bool.or_eq_true] at h
  rcases h with (((((h | h) | h) | h) | h) | h) | h <;> exact gd_spec h
/-- p (m + j l) fails, for all j. -/
def lp (p N l : Nat) : Nat → Nat → Bool
  | 0, m => Nat.ble (N + 1) (p * m)
  | f + 1, m => bif Nat.ble (N + 1) (p * m) then true else fails (p * m) && lp p N l f (m + l)
theorem lp_spec {p N l : Nat} : ∀ (f m : Nat), lp p N l f m = true → ∀ j, p * (m + j * l) ≤ N → fails (p * (m + j * l)) = true
  | 0, m, h, j, hj => by
    have h1 := Nat.le_of_ble_eq_true h
    have h2 : p * m ≤ p * (m + j * l) := Nat.mul_le_mul_left p (Nat.le_add_right _ _)
    omega
  | f + 1, m, h, j, hj => by
    unfold lp at h
    by_cases h1 : N + 1 ≤ p * m
    · have h2 : p * m ≤ p * (m + j * l) := Nat.mul_le_mul_left p (Nat.le_add_right _ _)
      omega
    · have e : Nat.ble (N + 1) (p * m) = false := by rw [Bool.eq_false_iff]; intro h2; exact h1 (Nat.le_of_ble_eq_true h2)
      rw [e, cond_false, Bool.and_eq_true] at h
      cases j with
      | zero => rw [Nat.zero_mul, Nat.add_zero]; exact h.1
      | succ j =>
        have e2 : m + (j + 1) * l = m + l + j * l := by rw [Nat.add_mul, Nat.one_mul]; omega
        rw [e2] at hj ⊢
        exact lp_spec f (m + l) h.2 j hj
/-- The bound. -/
def bd : Nat := 1000000000
/-- Table 1: the numbers with a prime p from 1000 to 31622. -/
def t1 (i : Nat) : Bool := comp (2 * i + 1) || Nat.ble 31623 (2 * i + 1) || Nat.ble (2 * i + 1) 1000 || lp (2 * i + 1) bd (lam (2 * i + 1)) (bd / (2 * i + 1)) (1 + lam (2 * i + 1))
theorem t1_spec {i p m : Nat} (h : t1 i = true) (hi : p = 2 * i + 1) (hp : Pr p) (h1 : 1000 < p) (h2 : p < 31623) (hm : 1 < m) (hl : lam p ∣ m - 1) (hb : p * m ≤ bd) : fails (p * m) = true := by
  unfold t1 at h
  rw [← hi] at h
  simp only [Bool.or_eq_true] at h
  rcases h with ((h | h) | h) | h
  · exact absurd hp (comp_spec h)
  · have := Nat.le_of_ble_eq_true h; omega
  · have := Nat.le_of_ble_eq_true h; omega
  · obtain ⟨k, hk⟩ := hl
    have hk0 : k ≠ 0 := fun e => by rw [e, Nat.mul_zero] at hk; omega
    obtain ⟨j, rfl⟩ : ∃ j, k = j + 1 := ⟨k - 1, by omega⟩
    have em : m = 1 + lam p + j * lam p := by rw [Nat.mul_comm, Nat.add_mul, Nat.one_mul] at hk; omega
    rw [em] at hb ⊢
    exact lp_spec _ _ h j hb
end Go.Proofs.YtpkjdnplmgfbbaaDoor
