/- Plain: the primes of a number, in order; which numbers are squarefree. -/
import Derived.Test.YtdjpeimecfhdjaaGreatXan
import Derived.Test.YtdjpeimecfhdjaaGreatXac
namespace Go.Proofs.YtdjpeimecfhdjaaGreat
open Go.RowKit
open Classical in
noncomputable def prsF (n : Nat) : Nat → Nat → List Nat
 | _, 0 => []
 | p, k + 1 => if Pr p ∧ p ∣ n then p :: prsF n (p + 1) k else prsF n (p + 1) k
open Classical in
theorem prsF_yes {n p k : Nat} (h : Pr p ∧ p ∣ n) : prsF n p (k + 1) = p :: prsF n (p + 1) k := by
 show (if _ then _ else _) = _
 rw [if_pos h]
open Classical in
theorem prsF_no {n p k : Nat} (h : ¬ (Pr p ∧ p ∣ n)) : prsF n p (k + 1) = prsF n (p + 1) k := by
 show (if _ then _ else _) = _
 rw [if_neg h]
theorem prsF_in : ∀ (k n p : Nat), ∀ x ∈ prsF n p k, Pr x ∧ x ∣ n ∧ p ≤ x ∧ x < p + k
 | 0, _, _, x, h => by cases h
 | k + 1, n, p, x, h => by
  by_cases hp : Pr p ∧ p ∣ n
  ·rw [prsF_yes hp] at h
   rcases List.mem_cons.1 h with rfl | h
   ·exact ⟨hp.1, hp.2, Nat.le_refl _, by omega⟩
   ·have := prsF_in k n (p + 1) x h
    exact ⟨this.1, this.2.1, by omega, by omega⟩
  ·rw [prsF_no hp] at h
   have := prsF_in k n (p + 1) x h
   exact ⟨this.1, this.2.1, by omega, by omega⟩
theorem prsF_congr {n m : Nat} : ∀ (k p : Nat), (∀ q, p ≤ q → Pr q → (q ∣ n ↔ q ∣ m)) → prsF n p k = prsF m p k
 | 0, _, _ => rfl
 | k + 1, p, h => by
  have ih := prsF_congr k (p + 1) fun q h1 => h q (by omega)
  by_cases hp : Pr p ∧ p ∣ n
  ·rw [prsF_yes hp, prsF_yes ⟨hp.1, (h p (Nat.le_refl _) hp.1).1 hp.2⟩, ih]
  ·rw [prsF_no hp, prsF_no (fun h2 => hp ⟨h2.1, (h p (Nat.le_refl _) h2.1).2 h2.2⟩), ih]
theorem prsF_none {n : Nat} : ∀ (k p : Nat), (∀ q, p ≤ q → q < p + k → Pr q → ¬ q ∣ n) → prsF n p k = []
 | 0, _, _ => rfl
 | k + 1, p, h => by
  rw [prsF_no (fun h2 => h p (Nat.le_refl _) (by omega) h2.1 h2.2)]
  exact prsF_none k (p + 1) fun q h1 h2 => h q (by omega) (by omega)
theorem prsF_one {n : Nat} (hn : Pr n) : ∀ (k p : Nat), p ≤ n → n < p + k → 2 ≤ p → prsF n p k = [n]
 | 0, _, h1, h2, _ => by omega
 | k + 1, p, h1, h2, h3 => by
  by_cases hp : p = n
  ·subst hp
   rw [prsF_yes ⟨hn, Nat.dvd_refl _⟩, prsF_none]
   intro q h4 h5 h6 h7
   have := Nat.le_of_dvd (by omega) h7
   omega
  ·rw [prsF_no (fun h => by rcases hn.2 p h.2 with e | e <;> omega)]
   exact prsF_one hn k (p + 1) (by omega) (by omega) (by omega)
theorem vaF_fst1 {f n p : Nat} (hd : n % p = 0) (h1 : (vaF (f + 1) n p).1 ≤ 1) (hf : 0 < f) : (vaF (f + 1) n p).1 = 1 ∧ (vaF (f + 1) n p).2 = n / p ∧ n / p % p ≠ 0 := by
 obtain ⟨g, rfl⟩ : ∃ g, f = g + 1 := ⟨f - 1, by omega⟩
 have e : vaF (g + 1 + 1) n p = ((vaF (g + 1) (n / p) p).1 + 1, (vaF (g + 1) (n / p) p).2) := by
  show (if _ then _ else _) = _
  rw [if_pos hd]
 rw [e] at h1 ⊢
 by_cases h2 : n / p % p = 0
 ·have e2 : vaF (g + 1) (n / p) p = ((vaF g (n / p / p) p).1 + 1, (vaF g (n / p / p) p).2) := by
   show (if _ then _ else _) = _
   rw [if_pos h2]
  rw [e2] at h1
  dsimp only at h1
  omega
 ·have e2 : vaF (g + 1) (n / p) p = (0, n / p) := by
   show (if _ then _ else _) = _
   rw [if_neg h2]
  rw [e2]
  exact ⟨rfl, rfl, h2⟩
theorem fcG_prs : ∀ (f p n k : Nat), 2 ≤ p → 0 < n → n < f + p → n < p + k → (∀ q, 2 ≤ q → q < p → ¬ q ∣ n) → (fcG f p n).all okP = true → (fcG f p n).map (·.1) = prsF n p k
 | 0, p, n, k, hp, hn, hf, hk, hno, _ => by
  have h1 : n = 1 := by
   rcases Nat.lt_or_ge n 2 with h | h
   ·omega
   ·exact absurd (Nat.dvd_refl n) (hno n h (by omega))
  subst h1
  rw [prsF_none]
  ·rfl
  ·intro q h2 _ _ h3
   have := Nat.le_of_dvd (by omega) h3
   omega
 | f + 1, p, n, k, hp, hn, hf, hk, hno, hok => by
  by_cases hpp : p * p ≤ n
  ·have hlt : p < n := Nat.lt_of_lt_of_le (by have := Nat.mul_le_mul_right p hp; omega) hpp
   obtain ⟨k, rfl⟩ : ∃ j, k = j + 1 := ⟨k - 1, by omega⟩
   by_cases hm : n % p = 0
   ·have hpr : Pr p := pr_least hp hno (Nat.dvd_of_mod_eq_zero hm)
    rw [fcG_yes hpp hm] at hok ⊢
    rw [List.all_cons, Bool.and_eq_true] at hok
    obtain ⟨m, rfl⟩ : ∃ m, n = m + 2 := ⟨n - 2, by omega⟩
    obtain ⟨v1, v2, v3⟩ := vaF_fst1 hm (of_decide_eq_true hok.1) (by omega)
    rw [v2] at hok ⊢
    rw [List.map_cons, prsF_yes ⟨hpr, Nat.dvd_of_mod_eq_zero hm⟩]
    have hdv := Nat.dvd_of_mod_eq_zero hm
    have hq0 : 0 < (m + 2) / p := Nat.div_pos (by omega) (by omega)
    have hql : (m + 2) / p ≤ m + 1 := by have := Nat.div_lt_self (n := m + 2) (by omega) hp; omega
    have hmul : p * ((m + 2) / p) = m + 2 := Nat.mul_div_cancel' hdv
    have hsub : ∀ q, q ∣ (m + 2) / p → q ∣ m + 2 := fun q h => by rw [← hmul]; exact Nat.dvd_trans h ⟨p, Nat.mul_comm _ _⟩
    rw [fcG_prs f (p + 1) ((m + 2) / p) k (by omega) hq0 (by omega) (by omega) (fun q h1 h2 h3 => by
     rcases Nat.lt_or_ge q p with h4 | h4
     ·exact hno q h1 h4 (hsub q h3)
     ·obtain rfl : q = p := by omega
      exact v3 (Nat.mod_eq_zero_of_dvd h3)) hok.2]
    congr 1
    refine prsF_congr _ _ fun q h1 h2 => ⟨hsub q, fun h3 => ?_⟩
    rw [← hmul] at h3
    rcases h2.mul h3 with h4 | h4
    ·have := Nat.le_of_dvd (by omega) h4
     omega
    ·exact h4
   ·rw [fcG_no hpp hm] at hok ⊢
    rw [prsF_no (fun h => hm (Nat.mod_eq_zero_of_dvd h.2))]
    exact fcG_prs f (p + 1) n k (by omega) hn (by omega) (by omega) (fun q h1 h2 h3 => by
     rcases Nat.lt_or_ge q p with h4 | h4
     ·exact hno q h1 h4 h3
     ·obtain rfl : q = p := by omega
      exact hm (Nat.mod_eq_zero_of_dvd h3)) hok
  ·rw [fcG_end hpp]
   by_cases h1 : 1 < n
   ·rw [if_pos h1]
    have hpr : Pr n := pr_of_no h1 hno (by omega)
    have hpn : p ≤ n := Nat.le_of_not_lt fun h => hno n h1 h (Nat.dvd_refl _)
    rw [prsF_one hpr k p hpn hk hp]
    rfl
   ·rw [if_neg h1]
    obtain rfl : n = 1 := by omega
    rw [prsF_none]
    ·rfl
    ·intro q h2 _ _ h3
     have := Nat.le_of_dvd (by omega) h3
     omega
theorem prL_prs {n k : Nat} (hn : 0 < n) (hk : n < 2 + k) (hok : (fcL n).all okP = true) : prL n = prsF n 2 k :=
 fcG_prs (n + 2) 2 n k (Nat.le_refl _) hn (by omega) hk (fun q h1 h2 => by omega) hok
theorem nbeq {a b : Nat} : (!(Nat.beq a b)) = true ↔ a ≠ b := by
 cases h : Nat.beq a b
 ·exact ⟨fun _ => Nat.ne_of_beq_eq_false h, fun _ => rfl⟩
 ·exact ⟨fun h2 => (nomatch h2), fun h2 => absurd (Nat.eq_of_beq_eq_true h) h2⟩
def sqN (n : Nat) : Bool := (List.range 43).all fun d => Nat.blt n ((d + 2) * (d + 2)) || !(Nat.beq (n % ((d + 2) * (d + 2))) 0)
theorem sqN_iff {n : Nat} (hn : n ≤ 2000) : sqN n = true ↔ ∀ d, 2 ≤ d → d * d ≤ n → n % (d * d) ≠ 0 := by
 unfold sqN
 rw [List.all_eq_true]
 constructor
 ·intro h d h1 h2 h3
  have h4 : d < 45 := Nat.lt_of_not_le fun h => by
   have := Nat.mul_le_mul h h
   omega
  have := h (d - 2) (List.mem_range.2 (by omega))
  rw [show d - 2 + 2 = d by omega, Bool.or_eq_true, nbeq] at this
  rcases this with h5 | h5
  ·have := Nat.le_of_ble_eq_true h5
   omega
  ·exact h5 h3
 ·intro h d _
  rw [Bool.or_eq_true, nbeq]
  rcases Nat.lt_or_ge n ((d + 2) * (d + 2)) with h1 | h1
  ·exact .inl (Nat.ble_eq_true_of_le h1)
  ·exact .inr (h (d + 2) (by omega) h1)
def mfT (n : Nat) : Bool := ((fcL n).all okP == sqN n) && Nat.ble (msD (prL n) (prL n).length) 2000 && Nat.ble (msL (prL n) 1 (prL n).length) 20000
theorem mfT0 : (List.range 500).all (fun n => mfT (n + 1)) = true := by decide +kernel
theorem mfT1 : (List.range 500).all (fun n => mfT (n + 501)) = true := by decide +kernel
theorem mfT2 : (List.range 500).all (fun n => mfT (n + 1001)) = true := by decide +kernel
theorem mfT3 : (List.range 500).all (fun n => mfT (n + 1501)) = true := by decide +kernel
theorem mfT_ok {n : Nat} (h1 : 1 ≤ n) (h2 : n ≤ 2000) : mfT n = true := by
 have e0 := List.all_eq_true.1 mfT0
 have e1 := List.all_eq_true.1 mfT1
 have e2 := List.all_eq_true.1 mfT2
 have e3 := List.all_eq_true.1 mfT3
 rcases Nat.lt_or_ge n 501 with h | h
 ·have := e0 (n - 1) (List.mem_range.2 (by omega)); rwa [show n - 1 + 1 = n by omega] at this
 rcases Nat.lt_or_ge n 1001 with h | h
 ·have := e1 (n - 501) (List.mem_range.2 (by omega)); rwa [show n - 501 + 501 = n by omega] at this
 rcases Nat.lt_or_ge n 1501 with h | h
 ·have := e2 (n - 1001) (List.mem_range.2 (by omega)); rwa [show n - 1001 + 1001 = n by omega] at this
 ·have := e3 (n - 1501) (List.mem_range.2 (by omega)); rwa [show n - 1501 + 1501 = n by omega] at this
theorem fcL_sq {n : Nat} (h1 : 1 ≤ n) (h2 : n ≤ 2000) : (fcL n).all okP = sqN n := by
 have := mfT_ok h1 h2
 unfold mfT at this
 rw [Bool.and_eq_true, Bool.and_eq_true, beq_iff_eq] at this
 exact this.1.1
end Go.Proofs.YtdjpeimecfhdjaaGreat
