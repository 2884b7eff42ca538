/- Plain numbers: up to 10^9 what passes the strong test to the bases 2, 3, 5 and 7 is a prime; trial division. No program in sight. -/
import Derived.Test.YtpkjdnplmgfbbaaDoorPrf
import Derived.Test.YtpkjdnplmgfbbaaDoorPrg
import Derived.Test.YtpkjdnplmgfbbaaDoorPrh
namespace Go.Proofs.YtpkjdnplmgfbbaaDoor

theorem Pr.small {p : Nat} (h : Pr p) (h10 : p ≤ 10) : p = 2 ∨ p = 3 ∨ p = 5 ∨ p = 7 := by
  have h2 := h.1
  have no : ∀ d, d ∣ p → d = 1 ∨ d = p := h.2
  by_cases e : p % 2 = 0
  · rcases no 2 (Nat.dvd_of_mod_eq_zero e) with e1 | e1 <;> omega
  · by_cases e3 : p % 3 = 0
    · rcases no 3 (Nat.dvd_of_mod_eq_zero e3) with e1 | e1 <;> omega
    · omega
/-- Trial division. -/
theorem pr_trial {n : Nat} (hn : 2 ≤ n) (h : ∀ d, 2 ≤ d → d * d ≤ n → n % d ≠ 0) : Pr n := by
  refine ⟨hn, fun d hd => ?_⟩
  apply Classical.byContradiction
  intro hno
  have h1 : d ≠ 1 := fun e => hno (.inl e)
  have h2 : d ≠ n := fun e => hno (.inr e)
  have h0 : d ≠ 0 := fun e => by subst e; have := Nat.eq_zero_of_zero_dvd hd; omega
  obtain ⟨k, hk⟩ := hd
  have k1 : k ≠ 1 := fun e => h2 (by rw [hk, e, Nat.mul_one])
  have k0 : k ≠ 0 := fun e => by rw [e, Nat.mul_zero] at hk; omega
  rcases Nat.le_total d k with hle | hle
  · refine h d (by omega) ?_ (Nat.mod_eq_zero_of_dvd ⟨k, hk⟩)
    rw [hk]; exact Nat.mul_le_mul_left d hle
  · refine h k (by omega) ?_ (Nat.mod_eq_zero_of_dvd ⟨d, by rw [hk, Nat.mul_comm]⟩)
    rw [hk, Nat.mul_comm]; exact Nat.mul_le_mul_left k hle |> fun h => by rw [Nat.mul_comm d k]; exact h
theorem trial_of_pr {n : Nat} (h : Pr n) : ∀ d, 2 ≤ d → d * d ≤ n → n % d ≠ 0 := fun d h1 h2 h3 => by
  rcases h.2 d (Nat.dvd_of_mod_eq_zero h3) with e | e
  · omega
  · subst e
    have := Nat.mul_le_mul_right d h1
    omega
theorem thru_of_pr {n : Nat} (h : Pr n) (hn : 10 < n) : Thru4 n := by
  have no : ∀ a, 0 < a → a < 10 → ¬ n ∣ a := fun a h0 h1 hd => by have := Nat.le_of_dvd h0 hd; omega
  have nm : ∀ a, 1 < a → a < 10 → n % a ≠ 0 := fun a h0 h1 hd => by
    rcases h.2 a (Nat.dvd_of_mod_eq_zero hd) with e | e <;> omega
  exact ⟨nm 2 (by omega) (by omega), nm 3 (by omega) (by omega), nm 5 (by omega) (by omega), nm 7 (by omega) (by omega), pass_prime h (no 2 (by omega) (by omega)), pass_prime h (no 3 (by omega) (by omega)), pass_prime h (no 5 (by omega) (by omega)), pass_prime h (no 7 (by omega) (by omega))⟩
/-- What passes is a prime. -/
theorem pr_of_thru {n : Nat} (hn : 10 < n) (hb : n ≤ bd) (ht : Thru4 n) : Pr n := by
  apply Classical.byContradiction
  intro hnp
  have hb' : n ≤ 1000000000 := hb
  have ho : n % 2 = 1 := by have := ht.odd; omega
  have hfail : fails n = false := fails_spec (by omega) (by omega) ht
  have hAll : All n (n - 1) := ⟨ht.p2.one (by omega) ho, ht.p3.one (by omega) ho, ht.p5.one (by omega) ho, ht.p7.one (by omega) ho⟩
  have hne : ∀ a, n % a ≠ 0 → ∀ p, p ∣ n → ¬ a ∣ p := fun a ha p hp hap => ha (Nat.mod_eq_zero_of_dvd (Nat.dvd_trans hap hp))
  have h10 : ∀ p, Pr p → p ∣ n → 10 < p := fun p hp hpn => by
    rcases Nat.lt_or_ge 10 p with h | h
    · exact h
    · rcases hp.small h with rfl | rfl | rfl | rfl
      · exact absurd (Nat.mod_eq_zero_of_dvd hpn) ht.odd
      · exact absurd (Nat.mod_eq_zero_of_dvd hpn) ht.three
      · exact absurd (Nat.mod_eq_zero_of_dvd hpn) ht.five
      · exact absurd (Nat.mod_eq_zero_of_dvd hpn) ht.seven
  have hodd : ∀ d, d ∣ n → d % 2 = 1 := fun d hd => by
    have : d % 2 ≠ 0 := fun e => hne 2 ht.odd d hd (Nat.dvd_of_mod_eq_zero e)
    omega
  have hAp : ∀ p, p ∣ n → All p (n - 1) := fun p hpn => ⟨One.of_dvd hpn hAll.1, One.of_dvd hpn hAll.2.1, One.of_dvd hpn hAll.2.2.1, One.of_dvd hpn hAll.2.2.2⟩
  have hcof : ∀ p m, Pr p → n = p * m → 1 < m := fun p m hp hm => by
    rcases Nat.lt_or_ge 1 m with h | h
    · exact h
    · have h1 : m = 0 ∨ m = 1 := by omega
      rcases h1 with e | e
      · rw [e, Nat.mul_zero] at hm; omega
      · rw [e, Nat.mul_one] at hm
        exact absurd (hm ▸ hp) hnp
  -- no prime from 1001 to 31622
  have s1 : ∀ p, Pr p → p ∣ n → 1000 < p → 31622 < p := fun p hp hpn h1 => by
    rcases Nat.lt_or_ge 31622 p with h2 | h2
    · exact h2
    · exfalso
      obtain ⟨m, hm⟩ := hpn
      have h3 := hodd p ⟨m, hm⟩
      have hm1 := hcof p m hp hm
      have hl := lam_spec hp (by omega) (All.cof hp (by omega) (by omega) (hm ▸ hAp p ⟨m, hm⟩))
      have := t1_spec (tabF (i := p / 2) (by omega) (by omega)) (by omega) hp h1 (by omega) hm1 hl (hm ▸ hb)
      rw [← hm, hfail] at this
      cases this
  -- no greater one
  have s2 : ∀ p, Pr p → p ∣ n → p < 1000 := fun p hp hpn => by
    rcases Nat.lt_or_ge p 1000 with h1 | h1
    · exact h1
    · exfalso
      have h3 := hodd p hpn
      have h2 := s1 p hp hpn (by omega)
      obtain ⟨m, hm⟩ := hpn
      have hm1 := hcof p m hp hm
      have hmn : m ∣ n := ⟨p, by rw [hm, Nat.mul_comm]⟩
      have h4 := hodd m hmn
      have hm10 : 10 < m := by
        obtain ⟨q, hq, hqm⟩ := pr_dvd m (by omega)
        have h5 := h10 q hq (Nat.dvd_trans hqm hmn)
        have := Nat.le_of_dvd (by omega) hqm
        omega
      have hml : m ≤ 31622 := by
        have := Nat.mul_le_mul_right m (show 31623 ≤ p from h2)
        omega
      have := tA_spec (tabA (i := m / 2) (by omega)) (s := m) (by omega) hp (pr_no hp h2 15 1 (by omega)) (fun f hf hfl => pr_has 15 1 f (by have := hf.1; omega) (by omega) hfl) h2
        (fun e => hne 3 ht.three m hmn (Nat.dvd_of_mod_eq_zero e)) (fun e => hne 5 ht.five m hmn (Nat.dvd_of_mod_eq_zero e)) (fun e => hne 7 ht.seven m hmn (Nat.dvd_of_mod_eq_zero e)) hm10 (hm ▸ hb) (All.cof hp (by omega) (by omega) (hm ▸ hAp p ⟨m, hm⟩))
      rw [← hm, hfail] at this
      cases this
  have hsq : ∀ p, Pr p → ¬ p * p ∣ n := fun p hp hd => by
    have hpn := Nat.dvd_trans (Nat.dvd_mul_right p p) hd
    have h1 := s2 p hp hpn
    exact wf_spec (tabW (by omega)) hp (h10 p hp hpn) h1 (by omega) hd hAll.1
  by_cases hbig : ∃ q, Pr q ∧ q ∣ n ∧ 100 < q
  · obtain ⟨q, hq, hqn, hq100⟩ := hbig
    have hqn' := hqn
    obtain ⟨m, hm⟩ := hqn
    have hm1 := hcof q m hq hm
    obtain ⟨r, hr, hrm⟩ := pr_dvd m (by omega)
    obtain ⟨t, ht'⟩ := hrm
    have hmn : m ∣ n := ⟨q, by rw [hm, Nat.mul_comm]⟩
    have hrn : r ∣ n := Nat.dvd_trans ⟨t, ht'⟩ hmn
    have hrq : r ≠ q := fun e => hsq q hq ⟨t, by rw [hm, ht', e, Nat.mul_assoc]⟩
    have e1 : n = q * r * t := by rw [hm, ht', Nat.mul_assoc]
    have e2 : n = r * q * t := by rw [e1, Nat.mul_comm q r]
    have l1 := lam_spec hq (by omega) (hAp q hqn')
    have l2 := lam_spec hr (by have := h10 r hr hrn; omega) (hAp r hrn)
    rcases Nat.lt_or_ge r q with h1 | h1
    · have := tB2_spec (t := t) (show tB2 q = true from tabG (by omega) (by have := s2 q hq hqn'; omega)) hq hq100 (s2 q hq hqn') hr (h10 r hr hrn) h1 (by rw [← e1]; omega) (by rw [← e1]; exact l1) (by rw [← e1]; exact l2) (by rw [← e1]; exact hb)
      rw [← e1, hfail] at this
      cases this
    · have := tB2_spec (t := t) (show tB2 r = true from tabG (by omega) (by have := s2 r hr hrn; omega)) hr (by omega) (s2 r hr hrn) hq (h10 q hq hqn') (by omega) (by rw [← e2]; omega) (by rw [← e2]; exact l2) (by rw [← e2]; exact l1) (by rw [← e2]; exact hb)
      rw [← e2, hfail] at this
      cases this
  · have := dfs_spec smalls 1 n smalls_up smalls_pr tabD (by omega) hsq (fun p hp hpn => smalls_all hp (h10 p hp hpn) (by
      rcases Nat.lt_or_ge 100 p with h1 | h1
      · exact absurd ⟨p, hp, hpn, h1⟩ hbig
      · omega)) (by rw [Nat.one_mul]; exact hb)
    rw [Nat.one_mul] at this
    unfold tD at this
    rw [hfail, Bool.or_false] at this
    have h1 := Nat.le_of_ble_eq_true this
    obtain ⟨p, hp, m, hm⟩ := pr_dvd n (by omega)
    have h2 := h10 p hp ⟨m, hm⟩
    have hm1 := hcof p m hp hm
    obtain ⟨q, hq, hqm⟩ := pr_dvd m (by omega)
    have h3 := h10 q hq (Nat.dvd_trans hqm ⟨p, by rw [hm, Nat.mul_comm]⟩)
    have h4 := Nat.le_of_dvd (by omega) hqm
    have := Nat.mul_le_mul (show 11 ≤ p from h2) (show 11 ≤ m by omega)
    omega
end Go.Proofs.YtpkjdnplmgfbbaaDoor
