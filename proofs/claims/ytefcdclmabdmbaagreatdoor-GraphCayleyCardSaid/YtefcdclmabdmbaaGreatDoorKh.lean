/- Plain numbers: up to 10^9 what passes the strong test to the bases 2, 3, 5 and 7 is a prime; trial division. No program in sight. integer.mod, power, valuation, witness, IsPrime. integer.IsPrime, the reference's IsPrime. integer.gcd, inverse, Inverse, jacobi, Legendre. -/
import Derived.Test.YtefcdclmabdmbaaGreatDoorJc
import Derived.Test.YtefcdclmabdmbaaGreatDoorJd
import Derived.Test.YtefcdclmabdmbaaGreatDoorJe
import Derived.Test.YtefcdclmabdmbaaGreatDoorKa
import Derived.IntWalk
namespace Go.Proofs.YtefcdclmabdmbaaGreatDoor

theorem Pr.small {p : Nat} (h : Pr p) (h10 : p ≤ 10) : p = 2 ∨ p = 3 ∨ p = 5 ∨ p = 7 := by
  have h2 := h.1
  have no : ∀ d, d ∣ p → d = 1 ∨ d = p := h.2
  by_cases e : p % 2 = 0
  · rcases no 2 (Nat.dvd_of_mod_eq_zero e) with e1 | e1 <;> omega
  · by_cases e3 : p % 3 = 0
    · rcases no 3 (Nat.dvd_of_mod_eq_zero e3) with e1 | e1 <;> omega
    · omega
/-- Trial division. -/
theorem pr_trial {n : Nat} (hn : 2 ≤ n) (h : ∀ d, 2 ≤ d → d * d ≤ n → n % d ≠ 0) : Pr n := by
  refine ⟨hn, fun d hd => ?_⟩
  apply Classical.byContradiction
  intro hno
  have h1 : d ≠ 1 := fun e => hno (.inl e)
  have h2 : d ≠ n := fun e => hno (.inr e)
  have h0 : d ≠ 0 := fun e => by subst e; have := Nat.eq_zero_of_zero_dvd hd; omega
  obtain ⟨k, hk⟩ := hd
  have k1 : k ≠ 1 := fun e => h2 (by rw [hk, e, Nat.mul_one])
  have k0 : k ≠ 0 := fun e => by rw [e, Nat.mul_zero] at hk; omega
  rcases Nat.le_total d k with hle | hle
  · refine h d (by omega) ?_ (Nat.mod_eq_zero_of_dvd ⟨k, hk⟩)
    rw [hk]; exact Nat.mul_le_mul_left d hle
  · refine h k (by omega) ?_ (Nat.mod_eq_zero_of_dvd ⟨d, by rw [hk, Nat.mul_comm]⟩)
    rw [hk, Nat.mul_comm]; exact Nat.mul_le_mul_left k hle |> fun h => by rw [Nat.mul_comm d k]; exact h
/-- What passes is a prime. -/
theorem pr_of_thru {n : Nat} (hn : 10 < n) (hb : n ≤ bd) (ht : Thru4 n) : Pr n := by
  apply Classical.byContradiction
  intro hnp
  have hb' : n ≤ 1000000000 := hb
  have ho : n % 2 = 1 := by have := ht.odd; omega
  have hfail : fails n = false := fails_spec (by omega) (by omega) ht
  have hAll : All n (n - 1) := ⟨ht.p2.one (by omega) ho, ht.p3.one (by omega) ho, ht.p5.one (by omega) ho, ht.p7.one (by omega) ho⟩
  have hne : ∀ a, n % a ≠ 0 → ∀ p, p ∣ n → ¬ a ∣ p := fun a ha p hp hap => ha (Nat.mod_eq_zero_of_dvd (Nat.dvd_trans hap hp))
  have h10 : ∀ p, Pr p → p ∣ n → 10 < p := fun p hp hpn => by
    rcases Nat.lt_or_ge 10 p with h | h
    · exact h
    · rcases hp.small h with rfl | rfl | rfl | rfl
      · exact absurd (Nat.mod_eq_zero_of_dvd hpn) ht.odd
      · exact absurd (Nat.mod_eq_zero_of_dvd hpn) ht.three
      · exact absurd (Nat.mod_eq_zero_of_dvd hpn) ht.five
      · exact absurd (Nat.mod_eq_zero_of_dvd hpn) ht.seven
  have hodd : ∀ d, d ∣ n → d % 2 = 1 := fun d hd => by
    have : d % 2 ≠ 0 := fun e => hne 2 ht.odd d hd (Nat.dvd_of_mod_eq_zero e)
    omega
  have hAp : ∀ p, p ∣ n → All p (n - 1) := fun p hpn => ⟨One.of_dvd hpn hAll.1, One.of_dvd hpn hAll.2.1, One.of_dvd hpn hAll.2.2.1, One.of_dvd hpn hAll.2.2.2⟩
  have hcof : ∀ p m, Pr p → n = p * m → 1 < m := fun p m hp hm => by
    rcases Nat.lt_or_ge 1 m with h | h
    · exact h
    · have h1 : m = 0 ∨ m = 1 := by omega
      rcases h1 with e | e
      · rw [e, Nat.mul_zero] at hm; omega
      · rw [e, Nat.mul_one] at hm
        exact absurd (hm ▸ hp) hnp
  -- no prime from 1001 to 31622
  have s1 : ∀ p, Pr p → p ∣ n → 1000 < p → 31622 < p := fun p hp hpn h1 => by
    rcases Nat.lt_or_ge 31622 p with h2 | h2
    · exact h2
    · exfalso
      obtain ⟨m, hm⟩ := hpn
      have h3 := hodd p ⟨m, hm⟩
      have hm1 := hcof p m hp hm
      have hl := lam_spec hp (by omega) (All.cof hp (by omega) (by omega) (hm ▸ hAp p ⟨m, hm⟩))
      have := t1_spec (tabF (i := p / 2) (by omega) (by omega)) (by omega) hp h1 (by omega) hm1 hl (hm ▸ hb)
      rw [← hm, hfail] at this
      cases this
  -- no greater one
  have s2 : ∀ p, Pr p → p ∣ n → p < 1000 := fun p hp hpn => by
    rcases Nat.lt_or_ge p 1000 with h1 | h1
    · exact h1
    · exfalso
      have h3 := hodd p hpn
      have h2 := s1 p hp hpn (by omega)
      obtain ⟨m, hm⟩ := hpn
      have hm1 := hcof p m hp hm
      have hmn : m ∣ n := ⟨p, by rw [hm, Nat.mul_comm]⟩
      have h4 := hodd m hmn
      have hm10 : 10 < m := by
        obtain ⟨q, hq, hqm⟩ := pr_dvd m (by omega)
        have h5 := h10 q hq (Nat.dvd_trans hqm hmn)
        have := Nat.le_of_dvd (by omega) hqm
        omega
      have hml : m ≤ 31622 := by
        have := Nat.mul_le_mul_right m (show 31623 ≤ p from h2)
        omega
      have := tA_spec (tabA (i := m / 2) (by omega)) (s := m) (by omega) hp (pr_no hp h2 15 1 (by omega)) (fun f hf hfl => pr_has 15 1 f (by have := hf.1; omega) (by omega) hfl) h2
        (fun e => hne 3 ht.three m hmn (Nat.dvd_of_mod_eq_zero e)) (fun e => hne 5 ht.five m hmn (Nat.dvd_of_mod_eq_zero e)) (fun e => hne 7 ht.seven m hmn (Nat.dvd_of_mod_eq_zero e)) hm10 (hm ▸ hb) (All.cof hp (by omega) (by omega) (hm ▸ hAp p ⟨m, hm⟩))
      rw [← hm, hfail] at this
      cases this
  have hsq : ∀ p, Pr p → ¬ p * p ∣ n := fun p hp hd => by
    have hpn := Nat.dvd_trans (Nat.dvd_mul_right p p) hd
    have h1 := s2 p hp hpn
    exact wf_spec (tabW (by omega)) hp (h10 p hp hpn) h1 (by omega) hd hAll.1
  by_cases hbig : ∃ q, Pr q ∧ q ∣ n ∧ 100 < q
  · obtain ⟨q, hq, hqn, hq100⟩ := hbig
    have hqn' := hqn
    obtain ⟨m, hm⟩ := hqn
    have hm1 := hcof q m hq hm
    obtain ⟨r, hr, hrm⟩ := pr_dvd m (by omega)
    obtain ⟨t, ht'⟩ := hrm
    have hmn : m ∣ n := ⟨q, by rw [hm, Nat.mul_comm]⟩
    have hrn : r ∣ n := Nat.dvd_trans ⟨t, ht'⟩ hmn
    have hrq : r ≠ q := fun e => hsq q hq ⟨t, by rw [hm, ht', e, Nat.mul_assoc]⟩
    have e1 : n = q * r * t := by rw [hm, ht', Nat.mul_assoc]
    have e2 : n = r * q * t := by rw [e1, Nat.mul_comm q r]
    have l1 := lam_spec hq (by omega) (hAp q hqn')
    have l2 := lam_spec hr (by have := h10 r hr hrn; omega) (hAp r hrn)
    rcases Nat.lt_or_ge r q with h1 | h1
    · have := tB2_spec (t := t) (show tB2 q = true from tabG (by omega) (by have := s2 q hq hqn'; omega)) hq hq100 (s2 q hq hqn') hr (h10 r hr hrn) h1 (by rw [← e1]; omega) (by rw [← e1]; exact l1) (by rw [← e1]; exact l2) (by rw [← e1]; exact hb)
      rw [← e1, hfail] at this
      cases this
    · have := tB2_spec (t := t) (show tB2 r = true from tabG (by omega) (by have := s2 r hr hrn; omega)) hr (by omega) (s2 r hr hrn) hq (h10 q hq hqn') (by omega) (by rw [← e2]; omega) (by rw [← e2]; exact l2) (by rw [← e2]; exact l1) (by rw [← e2]; exact hb)
      rw [← e2, hfail] at this
      cases this
  · have := dfs_spec smalls 1 n smalls_up smalls_pr tabD (by omega) hsq (fun p hp hpn => smalls_all hp (h10 p hp hpn) (by
      rcases Nat.lt_or_ge 100 p with h1 | h1
      · exact absurd ⟨p, hp, hpn, h1⟩ hbig
      · omega)) (by rw [Nat.one_mul]; exact hb)
    rw [Nat.one_mul] at this
    unfold tD at this
    rw [hfail, Bool.or_false] at this
    have h1 := Nat.le_of_ble_eq_true this
    obtain ⟨p, hp, m, hm⟩ := pr_dvd n (by omega)
    have h2 := h10 p hp ⟨m, hm⟩
    have hm1 := hcof p m hp hm
    obtain ⟨q, hq, hqm⟩ := pr_dvd m (by omega)
    have h3 := h10 q hq (Nat.dvd_trans hqm ⟨p, by rw [hm, Nat.mul_comm]⟩)
    have h4 := Nat.le_of_dvd (by omega) hqm
    have := Nat.mul_le_mul (show 11 ≤ p from h2) (show 11 ≤ m by omega)
    omega
end Go.Proofs.YtefcdclmabdmbaaGreatDoor

namespace Go.Proofs.YtefcdclmabdmbaaGreatDoor
open Go.RowKit

set_option maxHeartbeats 1000000 in
theorem imod_any {w : World} {a m : Nat} (hm : 0 < m) (hm2 : m ≤ 1000000000) (ha : a ≤ 1000000000) : Calls Tryz.prog 186 #[.int .i64 (a : Nat), .int .i64 (m : Nat)] w fun e w' => e = .returned (.int .i64 ((a % m : Nat) : Int)) ∧ w = w' := by
  obtain ⟨r, hr⟩ : ∃ r, r = a % m := ⟨_, rfl⟩
  have hrl : r < m := by rw [hr]; exact Nat.mod_lt _ hm
  have hmod : (a : Int).tmod (m : Int) = (r : Int) := by rw [hr]; rfl
  have hmod2 : (a : Int) % (m : Int) = (r : Int) := by rw [hr]; rfl
  have h9 : ((m : Int) == 0) = false := beq_eq_false_iff_ne.2 (by omega)
  have h8 : ¬ ((m : Int) = 0) := by omega
  have h7 : ¬ (m = 0) := by omega
  have h6 : decide ((r : Int) < 0) = false := decide_eq_false (by omega)
  have h0 : (0 : Int) ≤ (r : Int) := by omega
  have h5 : (0 : Int) ≤ (a : Int) := by omega
  rw [← hr]
  clear hr
  go_enter Tryz.func186, Tryz.ntmps186
  go_wp2
  go_ret
  exact ⟨rfl, rfl⟩

theorem half_pow (o x k n : Nat) (h : k % 2 = 1) : (o * x ^ k) % n = ((o * x % n) * (x * x % n) ^ (k / 2)) % n := by
  have e : k = 2 * (k / 2) + 1 := by omega
  conv => lhs; rw [e, Nat.pow_succ, Nat.pow_mul, Nat.pow_two]
  rw [Nat.mul_mod (o * x % n), ← Nat.pow_mod, Nat.mod_mod, ← Nat.mul_mod]
  congr 1
  rw [Nat.mul_comm ((x * x) ^ (k / 2)) x, ← Nat.mul_assoc]
theorem half_pow2 (o x k n : Nat) (h : ¬ k % 2 = 1) : (o * x ^ k) % n = (o * (x * x % n) ^ (k / 2)) % n := by
  have e : k = 2 * (k / 2) := by omega
  conv => lhs; rw [e, Nat.pow_mul, Nat.pow_two]
  rw [Nat.mul_mod o ((x * x % n) ^ (k / 2)), ← Nat.pow_mod, ← Nat.mul_mod]

set_option maxHeartbeats 4000000 in
set_option maxRecDepth 100000 in
theorem ipower_any {w : World} {a e m : Nat} (hm : 0 < m) (hm2 : m ≤ 1000000000) (ha : a ≤ 1000000000) (he : e ≤ 1000000000) : Calls Tryz.prog 206 #[.int .i64 (a : Nat), .int .i64 (e : Nat), .int .i64 (m : Nat)] w fun en w' => en = .returned (.int .i64 ((a ^ e % m : Nat) : Int)) ∧ w = w' := by
  have h9 : ((m : Int) == 0) = false := beq_eq_false_iff_ne.2 (by omega)
  have h8 : ¬ ((m : Int) = 0) := by omega
  have h7 : ¬ (m = 0) := by omega
  obtain ⟨o0, ho0⟩ : ∃ r, r = 1 % m := ⟨_, rfl⟩
  have hmod : (1 : Int).tmod (m : Int) = (o0 : Int) := by rw [ho0]; rfl
  have hmod2 : (1 : Int) % (m : Int) = (o0 : Int) := by rw [ho0]; rfl
  have HO0 := Lib.hid ho0
  clear ho0
  go_enter Tryz.func206, Tryz.ntmps206
  go_wp2_with (go_at_call 186; refine (imod_any hm hm2 ha).mono ?_; rintro en w' ⟨rfl, rfl⟩)
  go_loop [0, 1, 7] (fun xv kv ov => ∃ x k o : Nat, xv = .int .i64 (x : Nat) ∧ kv = .int .i64 (k : Nat) ∧ ov = .int .i64 (o : Nat) ∧ x ≤ m ∧ o < m ∧ k ≤ e ∧ Hid ((o * x ^ k) % m = a ^ e % m)) (fun _ kv _ => (intOf kv).toNat)
  case atStart => exact ⟨a % m, e, o0, rfl, rfl, rfl, Nat.le_of_lt (Nat.mod_lt _ hm), by rw [HO0.out]; exact Nat.mod_lt _ hm, Nat.le_refl _, Lib.hid (by rw [HO0.out, Nat.mul_mod, Nat.mod_mod, ← Nat.pow_mod, ← Nat.mul_mod, Nat.one_mul])⟩
  case round =>
    clear hmod hmod2 HO0
    obtain ⟨x, k, o, rfl, rfl, rfl, hx, ho, hk, HI⟩ := hrel
    by_cases hk0 : 0 < k
    · have z0 : decide ((0 : Int) < (k : Int)) = true := decide_eq_true (by omega)
      have hP := Nat.mul_le_mul (Nat.le_trans hx hm2) (Nat.le_trans hx hm2)
      have hQ := Nat.mul_le_mul (Nat.le_trans (Nat.le_of_lt ho) hm2) (Nat.le_trans hx hm2)
      obtain ⟨P, hPe⟩ : ∃ P, P = x * x := ⟨_, rfl⟩
      obtain ⟨Q, hQe⟩ : ∃ Q, Q = o * x := ⟨_, rfl⟩
      obtain ⟨x', hx'⟩ : ∃ y, y = P % m := ⟨_, rfl⟩
      obtain ⟨o', ho'⟩ : ∃ y, y = Q % m := ⟨_, rfl⟩
      obtain ⟨k', hk'⟩ : ∃ y, y = k / 2 := ⟨_, rfl⟩
      rw [← hPe] at hP
      rw [← hQe] at hQ
      have e1 : IntKind.i64.wrap ((x : Int) * (x : Int)) = (P : Int) := by rw [← Int.natCast_mul, ← hPe]; exact IntWalk.i64_in _ (by omega)
      have e2 : IntKind.i64.wrap ((o : Int) * (x : Int)) = (Q : Int) := by rw [← Int.natCast_mul, ← hQe]; exact IntWalk.i64_in _ (by omega)
      have e3 : (x : Int) * (x : Int) = (P : Int) := by rw [hPe, Int.natCast_mul]
      have e4 : (o : Int) * (x : Int) = (Q : Int) := by rw [hQe, Int.natCast_mul]
      have m1 : (P : Int).tmod (m : Int) = (x' : Int) := by rw [hx']; rfl
      have m2 : (P : Int) % (m : Int) = (x' : Int) := by rw [hx']; rfl
      have m3 : (Q : Int).tmod (m : Int) = (o' : Int) := by rw [ho']; rfl
      have m4 : (Q : Int) % (m : Int) = (o' : Int) := by rw [ho']; rfl
      have m5 : (k : Int).tdiv 2 = (k' : Int) := by rw [hk']; rfl
      have m6 : (k : Int) / 2 = (k' : Int) := by rw [hk']; rfl
      have hx2 : x' ≤ m := by rw [hx']; exact Nat.le_of_lt (Nat.mod_lt _ hm)
      have ho2 : o' < m := by rw [ho']; exact Nat.mod_lt _ hm
      have hkk : k' < k := by omega
      by_cases hodd : k % 2 = 1
      · have z1 : ((k : Int) % 2 == 1) = true := by simp; omega
        have z2 : ((k : Int).tmod 2 == 1) = true := by simp [Int.tmod_eq_emod_of_nonneg]; omega
        have HN := Lib.hid (show (o' * x' ^ k') % m = a ^ e % m by rw [← HI.out, half_pow o x k m hodd, ho', hx', hk', hQe, hPe])
        clear hPe hQe hx' ho' hk' hodd
        go_wp2_with fail
        go_round
        case rel => exact ⟨x', k', o', rfl, rfl, rfl, hx2, ho2, by omega, HN⟩
        case measure => simp [intOf]; omega
      · have z1 : ((k : Int) % 2 == 1) = false := beq_eq_false_iff_ne.2 (by omega)
        have z2 : ((k : Int).tmod 2 == 1) = false := beq_eq_false_iff_ne.2 (by rw [Int.tmod_eq_emod_of_nonneg (by omega)]; omega)
        have HN := Lib.hid (show (o * x' ^ k') % m = a ^ e % m by rw [← HI.out, half_pow2 o x k m hodd, hx', hk', hPe])
        clear hPe hQe hx' ho' hk' hodd
        go_wp2_with fail
        go_round
        case rel => exact ⟨x', k', o, rfl, rfl, rfl, hx2, ho, by omega, HN⟩
        case measure => simp [intOf]; omega
    · obtain rfl : k = 0 := by omega
      have HN := Lib.hid (show o = a ^ e % m by rw [← HI.out, Nat.pow_zero, Nat.mul_one, Nat.mod_eq_of_lt ho])
      go_wp2_with fail
      go_ret
      exact ⟨congrArg (fun z : Nat => Ending.returned (.int .i64 (z : Int))) HN.out, rfl⟩

def PowR (w : World) (a e m : Nat) (en : Ending) (w' : World) : Prop := ∃ r : Nat, r = a ^ e % m ∧ en = .returned (.int .i64 (r : Nat)) ∧ w = w'
theorem ipower_r {w : World} {a e m : Nat} (hm : 0 < m) (hm2 : m ≤ 1000000000) (ha : a ≤ 1000000000) (he : e ≤ 1000000000) : Calls Tryz.prog 206 #[.int .i64 (a : Nat), .int .i64 (e : Nat), .int .i64 (m : Nat)] w (PowR w a e m) :=
  (ipower_any hm hm2 ha he).mono fun _ _ ⟨h1, h2⟩ => ⟨_, rfl, h1, h2⟩
/-- How often 2 divides a number, and the rest. -/
def ValR (w : World) (n : Nat) (e : Ending) (w' : World) : Prop := ∃ k d : Nat, n = 2 ^ k * d ∧ d % 2 = 1 ∧ e = .returned (.tuple #[.int .i64 (k : Nat), .int .i64 (d : Nat)]) ∧ w = w'
theorem pow_two_big {j d n : Nat} (h : n = 2 ^ j * d) (hd : 0 < d) (hn : n ≤ 1000000000) : j < 30 := by
  rcases Nat.lt_or_ge j 30 with h1 | h1
  · exact h1
  · have h2 : 2 ^ 30 ≤ 2 ^ j := Nat.pow_le_pow_right (by omega) h1
    have h3 := Nat.mul_le_mul h2 hd
    omega
set_option maxHeartbeats 2000000 in
set_option maxRecDepth 100000 in
theorem valuation_two {w : World} {n : Nat} (h0 : 0 < n) (hn : n ≤ 1000000000) : Calls Tryz.prog 205 #[.int .i64 (n : Nat), .int .i64 2] w (ValR w n) := by
  go_enter Tryz.func205, Tryz.ntmps205
  go_wp2_with fail
  go_loop [0, 6] (fun dv jv => ∃ j d : Nat, dv = .int .i64 (d : Nat) ∧ jv = .int .i64 (j : Nat) ∧ 0 < d ∧ d ≤ n ∧ j < 30 ∧ Hid (n = 2 ^ j * d)) (fun dv _ => (intOf dv).toNat)
  case atStart => exact ⟨0, n, rfl, rfl, h0, Nat.le_refl _, by omega, Lib.hid (by simp)⟩
  case round =>
    obtain ⟨j, d, rfl, rfl, hd0, hdn, hj, HI⟩ := hrel
    obtain ⟨d', hd'⟩ : ∃ y, y = d / 2 := ⟨_, rfl⟩
    have m5 : (d : Int).tdiv 2 = (d' : Int) := by rw [hd']; rfl
    have m6 : (d : Int) / 2 = (d' : Int) := by rw [hd']; rfl
    by_cases hodd : d % 2 = 0
    · have z1 : ((d : Int) % 2 == 0) = true := by simp; omega
      have z2 : ((d : Int).tmod 2 == 0) = true := by rw [Int.tmod_eq_emod_of_nonneg (by omega)]; exact z1
      have hN : n = 2 ^ (j + 1) * d' := by rw [HI.out, Nat.pow_succ, Nat.mul_assoc, show 2 * d' = d by omega]
      have hj2 := pow_two_big hN (by omega) hn
      have HN := Lib.hid hN
      have hdd : d' < d ∧ 0 < d' := by omega
      clear hd' hodd hN
      go_wp2_with fail
      go_round
      case rel => exact ⟨j + 1, d', rfl, by go_num, by omega, by omega, hj2, HN⟩
      case measure => simp [intOf]; omega
    · have z1 : ((d : Int) % 2 == 0) = false := beq_eq_false_iff_ne.2 (by omega)
      have z2 : ((d : Int).tmod 2 == 0) = false := beq_eq_false_iff_ne.2 (by rw [Int.tmod_eq_emod_of_nonneg (by omega)]; omega)
      have HO := Lib.hid (show d % 2 = 1 by omega)
      clear hd' hodd
      go_wp2_with fail
      go_ret2
      exact ⟨j, d, HI.out, HO.out, rfl, rfl⟩

theorem two_unique {k d k' d' : Nat} (h : 2 ^ k * d = 2 ^ k' * d') (hd : d % 2 = 1) (hd' : d' % 2 = 1) : k = k' ∧ d = d' := by
  have key : ∀ k k' d d' : Nat, k ≤ k' → 2 ^ k * d = 2 ^ k' * d' → d % 2 = 1 → k = k' := fun k k' d d' hle h hd => by
    obtain ⟨j, rfl⟩ : ∃ j, k' = k + j := ⟨k' - k, by omega⟩
    rw [Nat.pow_add, Nat.mul_assoc] at h
    have h1 := Nat.eq_of_mul_eq_mul_left (Nat.pow_pos (by omega)) h
    cases j with
    | zero => rfl
    | succ j =>
      rw [Nat.pow_succ, Nat.mul_comm (2 ^ j) 2, Nat.mul_assoc] at h1
      omega
  have e : k = k' := by
    rcases Nat.le_total k k' with h1 | h1
    · exact key k k' d d' h1 h hd
    · exact (key k' k d' d h1 h.symm hd').symm
  subst e
  exact ⟨rfl, Nat.eq_of_mul_eq_mul_left (Nat.pow_pos (by omega)) h⟩
theorem pass_at {a n k d : Nat} (hk : n - 1 = 2 ^ k * d) (hd : d % 2 = 1) (h : a ^ d % n = 1 ∨ ∃ i, i < k ∧ a ^ (2 ^ i * d) % n = n - 1) : Pass a n := fun k' d' hk' hd' => by
  obtain ⟨rfl, rfl⟩ := two_unique (hk.symm.trans hk') hd hd'
  exact h
/-- Whether a number is a witness. -/
def WitR (w : World) (a n : Nat) (e : Ending) (w' : World) : Prop := ∃ b : Bool, (b = true → ¬ Pass a n) ∧ (b = false → Pass a n) ∧ e = .returned (.bool b) ∧ w = w'
theorem witR_no {w : World} {a n : Nat} (h : Pass a n) : WitR w a n (.returned (.bool false)) w := ⟨false, fun h => (by cases h), fun _ => h, rfl, rfl⟩
theorem witR_yes {w : World} {a n : Nat} (h : ¬ Pass a n) : WitR w a n (.returned (.bool true)) w := ⟨true, fun _ => h, fun h => (by cases h), rfl, rfl⟩
set_option maxHeartbeats 4000000 in
set_option maxRecDepth 100000 in
theorem witness_any {w : World} {a n : Nat} (ha : a ≤ 10) (h2 : 2 < n) (hn : n ≤ 1000000000) (ho : n % 2 = 1) : Calls Tryz.prog 152 #[.int .i64 (a : Nat), .int .i64 (n : Nat)] w (WitR w a n) := by
  obtain ⟨N, hN⟩ : ∃ N, N = n - 1 := ⟨_, rfl⟩
  have HN := Lib.hid hN
  have eN : IntKind.i64.wrap ((n : Int) - 1) = (N : Int) := by rw [IntWalk.i64_in _ (by omega)]; omega
  have eN2 : (n : Int) - 1 = (N : Int) := by omega
  have h9 : ((n : Int) == 0) = false := beq_eq_false_iff_ne.2 (by omega)
  have h8 : ¬ ((n : Int) = 0) := by omega
  have h7 : ¬ (n = 0) := by omega
  have hN0 : 0 < N ∧ N ≤ 1000000000 := by omega
  have HO := Lib.hid ho
  clear hN ho
  go_enter Tryz.func152, Tryz.ntmps152
  go_upto_region 3 with (first | (go_at_call 205; refine (valuation_two hN0.1 hN0.2).mono ?_; rintro en w' ⟨k, d, hk, hd, rfl, rfl⟩; have HK := Lib.hid hk; have HD := Lib.hid hd; have hdl : d ≤ N := (by rw [hk]; exact Nat.le_mul_of_pos_left d (Nat.pow_pos (by omega))); have hk30 := pow_two_big hk (by omega) hN0.2; have hk1 : 0 < k := (by have h5 := HN.out; have h6 := HO.out; rcases Nat.eq_zero_or_pos k with e | e; (rw [e, Nat.pow_zero, Nat.one_mul] at hk; omega); exact e); clear hk hd) | (go_at_call 206; refine (ipower_r (by omega) hn (by omega) (by omega)).mono ?_; rintro en w' ⟨x0, hx00, rfl, rfl⟩; have HX00 := Lib.hid hx00; clear hx00))
  have hx0 := HX00.out
  have hx0n : x0 < n := by rw [hx0]; exact Nat.mod_lt _ (by omega)
  clear HX00
  by_cases h1 : x0 = 1
  · have z1 : ((x0 : Int) == 1) = true := by simp [h1]
    have HP := Lib.hid (pass_at (by rw [← HN.out]; exact HK.out) HD.out (.inl (by rw [← hx0]; exact h1)))
    clear h1 hx0
    go_wp2_with fail
    go_ret
    exact witR_no HP.out
  · have z1 : ((x0 : Int) == 1) = false := beq_eq_false_iff_ne.2 (by omega)
    by_cases h2' : x0 = N
    · have z2 : ((x0 : Int) == (N : Int)) = true := by simp [h2']
      have HP := Lib.hid (pass_at (a := a) (by rw [← HN.out]; exact HK.out) HD.out (.inr ⟨0, hk1, by rw [Nat.pow_zero, Nat.one_mul, ← hx0, h2', HN.out]⟩))
      clear h1 hx0 h2'
      go_wp2_with fail
      go_ret
      exact witR_no HP.out
    · have z2 : ((x0 : Int) == (N : Int)) = false := beq_eq_false_iff_ne.2 (by omega)
      have HX1 := Lib.hid (show a ^ d % n ≠ 1 by rw [← hx0]; exact h1)
      have HX2 := Lib.hid (show a ^ d % n ≠ n - 1 by rw [← hx0, ← HN.out]; exact h2')
      obtain ⟨k', hk'⟩ : ∃ j, k = j + 1 := ⟨k - 1, by omega⟩
      have ek : IntKind.i64.wrap ((k : Int) - 1) = (k' : Int) := by rw [IntWalk.i64_in _ (by omega)]; omega
      have ek2 : (k : Int) - 1 = (k' : Int) := by omega
      have HK' := Lib.hid hk'
      have HX0 := Lib.hid hx0
      have HJ0 := Lib.hid (show ∀ j, j ≤ 0 → a ^ (2 ^ j * d) % n ≠ n - 1 from fun j hj => by
        obtain rfl : j = 0 := by omega
        rw [Nat.pow_zero, Nat.one_mul]
        exact HX2.out)
      clear h1 h2' hx0 hk'
      go_wp2_with fail
      clear z1 z2
      go_loop [7, 28] (fun xv iv => ∃ x i : Nat, xv = .int .i64 (x : Nat) ∧ iv = .int .i64 (i : Nat) ∧ i ≤ k' ∧ x < n ∧ Hid (x = a ^ (2 ^ i * d) % n) ∧ Hid (∀ j, j ≤ i → a ^ (2 ^ j * d) % n ≠ n - 1)) (fun _ iv => k' - (intOf iv).toNat)
      case atStart => exact ⟨x0, 0, rfl, rfl, Nat.zero_le _, hx0n, Lib.hid (by rw [HX0.out, Nat.pow_zero, Nat.one_mul]), HJ0⟩
      case round =>
        obtain ⟨x, i, rfl, rfl, hik, hxn, HX, HJ⟩ := hrel
        by_cases hlt : i < k'
        · have hP := Nat.mul_le_mul (Nat.le_trans (Nat.le_of_lt hxn) hn) (Nat.le_trans (Nat.le_of_lt hxn) hn)
          obtain ⟨P, hPe⟩ : ∃ P, P = x * x := ⟨_, rfl⟩
          obtain ⟨x', hx'⟩ : ∃ y, y = P % n := ⟨_, rfl⟩
          rw [← hPe] at hP
          have e1 : IntKind.i64.wrap ((x : Int) * (x : Int)) = (P : Int) := by rw [← Int.natCast_mul, ← hPe]; exact IntWalk.i64_in _ (by omega)
          have e3 : (x : Int) * (x : Int) = (P : Int) := by rw [hPe, Int.natCast_mul]
          have m1 : (P : Int).tmod (n : Int) = (x' : Int) := by rw [hx']; rfl
          have m2 : (P : Int) % (n : Int) = (x' : Int) := by rw [hx']; rfl
          have hx2 : x' < n := by rw [hx']; exact Nat.mod_lt _ (by omega)
          have HX' := Lib.hid (show x' = a ^ (2 ^ (i + 1) * d) % n by rw [pow_two_succ, Nat.mul_mod, ← HX.out, ← hPe]; exact hx')
          have hlt' : (i : Int) < (k' : Int) := by omega
          clear hPe hx'
          by_cases hxN : x' = N
          · have z2 : ((x' : Int) == (N : Int)) = true := by simp [hxN]
            have HP := Lib.hid (pass_at (a := a) (by rw [← HN.out]; exact HK.out) HD.out (.inr ⟨i + 1, by have := HK'.out; omega, by rw [← HX'.out, hxN, HN.out]⟩))
            clear hxN
            go_wp2_with fail
            go_ret
            exact witR_no HP.out
          · have z2 : ((x' : Int) == (N : Int)) = false := beq_eq_false_iff_ne.2 (by omega)
            have HJ' := Lib.hid (show ∀ j, j ≤ i + 1 → a ^ (2 ^ j * d) % n ≠ n - 1 from fun j hj => by
              rcases Nat.lt_or_ge i j with h3 | h3
              · obtain rfl : j = i + 1 := by omega
                rw [← HX'.out, ← HN.out]; exact hxN
              · exact HJ.out j h3)
            clear hxN
            go_wp2_with fail
            go_round
            case rel => exact ⟨x', i + 1, rfl, by go_num, by omega, hx2, HX', HJ'⟩
            case measure => simp [intOf]; omega
        · obtain rfl : i = k' := by omega
          have HF := Lib.hid (show ¬ Pass a n from fun hp => by
            rcases hp k d (by rw [← HN.out]; exact HK.out) HD.out with h3 | ⟨j, h3, h4⟩
            · exact HX1.out h3
            · exact HJ.out j (by have := HK'.out; omega) h4)
          go_wp2_with fail
          go_ret
          exact witR_yes HF.out
end Go.Proofs.YtefcdclmabdmbaaGreatDoor

namespace Go.Proofs.YtefcdclmabdmbaaGreatDoor
open Go.RowKit

open Classical in
noncomputable def primeI (x : Int) : Bool := decide (2 ≤ x ∧ x ≤ 1000000000 ∧ Pr x.toNat)
open Classical in
theorem primeI_yes {x : Int} : primeI x = true ↔ (2 ≤ x ∧ x ≤ 1000000000 ∧ Pr x.toNat) := by unfold primeI; exact decide_eq_true_iff
open Classical in
theorem primeI_iff {x : Int} : primeI x = false ↔ ¬ (2 ≤ x ∧ x ≤ 1000000000 ∧ Pr x.toNat) := by unfold primeI; exact decide_eq_false_iff_not
theorem primeI_true {n : Nat} (h1 : 2 ≤ n) (h2 : n ≤ 1000000000) (h : Pr n) : primeI (n : Int) = true := by
  exact primeI_yes.2 ⟨by omega, by omega, by rw [Int.toNat_natCast]; exact h⟩
theorem primeI_no {n : Nat} (h : ¬ Pr n) : primeI (n : Int) = false := by
  refine primeI_iff.2 ?_
  rintro ⟨_, _, h3⟩
  rw [Int.toNat_natCast] at h3
  exact h h3
theorem primeI_out {x : Int} (h : x < 2 ∨ 1000000000 < x) : primeI x = false := by
  refine primeI_iff.2 ?_
  rintro ⟨h1, h2, _⟩
  omega
def PrmR (w : World) (x : Int) (e : Ending) (w' : World) : Prop := e = .returned (.bool (primeI x)) ∧ w = w'
theorem prmR_of {w : World} {x : Int} {b : Bool} (h : primeI x = b) : PrmR w x (.returned (.bool b)) w := ⟨by rw [h], rfl⟩
theorem pr_lit {p : Nat} (h : 2 ≤ p ∧ ∀ d, d < p → 2 ≤ d → p % d ≠ 0) : Pr p := pr_trial h.1 fun d h1 h2 h3 => h.2 d (by have := Nat.mul_le_mul_right d h1; omega) h1 h3
theorem pr_2 : Pr 2 := pr_lit (by decide)
theorem pr_3 : Pr 3 := pr_lit (by decide)
theorem pr_5 : Pr 5 := pr_lit (by decide)
theorem pr_7 : Pr 7 := pr_lit (by decide)

theorem ix_0 (w : World) : (Instr.index 104 (.agg #[.int .i64 2, .int .i64 3, .int .i64 5, .int .i64 7]) (.int .i64 0)).run Tryz.prog w = .ok (.int .i64 2) w := by kernel_rfl
theorem ix_1 (w : World) : (Instr.index 104 (.agg #[.int .i64 2, .int .i64 3, .int .i64 5, .int .i64 7]) (.int .i64 1)).run Tryz.prog w = .ok (.int .i64 3) w := by kernel_rfl
theorem ix_2 (w : World) : (Instr.index 104 (.agg #[.int .i64 2, .int .i64 3, .int .i64 5, .int .i64 7]) (.int .i64 2)).run Tryz.prog w = .ok (.int .i64 5) w := by kernel_rfl
theorem ix_3 (w : World) : (Instr.index 104 (.agg #[.int .i64 2, .int .i64 3, .int .i64 5, .int .i64 7]) (.int .i64 3)).run Tryz.prog w = .ok (.int .i64 7) w := by kernel_rfl
set_option maxHeartbeats 8000000 in
set_option maxRecDepth 100000 in
theorem IsPrime_any {w : World} (x : Int) : Calls Tryz.prog 104 #[.int .i64 x] w (PrmR w x) := by
  by_cases hlo : x < 2
  · have z1 : decide (x < 2) = true := decide_eq_true hlo
    have HP := Lib.hid (primeI_out (.inl hlo))
    go_enter Tryz.func104, Tryz.ntmps104
    go_wp2_with fail
    go_ret
    exact prmR_of HP.out
  · by_cases hhi : 1000000000 < x
    · have z1 : decide (x < 2) = false := decide_eq_false hlo
      have z2 : decide (1000000000 < x) = true := decide_eq_true hhi
      have HP := Lib.hid (primeI_out (.inr hhi))
      go_enter Tryz.func104, Tryz.ntmps104
      go_wp2_with fail
      go_ret
      exact prmR_of HP.out
    · obtain ⟨n, rfl⟩ : ∃ n : Nat, x = n := ⟨x.toNat, by omega⟩
      have z1 : decide ((n : Int) < 2) = false := decide_eq_false hlo
      have z2 : decide (1000000000 < (n : Int)) = false := decide_eq_false hhi
      have h1 : 2 ≤ n := by omega
      have h2 : n ≤ 1000000000 := by omega
      clear hlo hhi
      go_enter Tryz.func104, Tryz.ntmps104
      go_wp2_with fail
      have x0 := ix_0 w
      have x1 := ix_1 w
      have x2 := ix_2 w
      have x3 := ix_3 w
      clear z1 z2
      go_loop [12] (fun iv => ∃ k : Nat, k ≤ 4 ∧ iv = .int .i64 (k : Nat) ∧ Hid (∀ b ∈ [2, 3, 5, 7].take k, n ≠ b ∧ n % b ≠ 0 ∧ Pass b n)) (fun iv => 4 - (intOf iv).toNat)
      case atStart => exact ⟨0, by omega, rfl, Lib.hid (fun b hb => by simp at hb)⟩
      case round =>
      obtain ⟨k, hk, rfl, HI⟩ := hrel
      obtain rfl | rfl | rfl | rfl | rfl : k = 0 ∨ k = 1 ∨ k = 2 ∨ k = 3 ∨ k = 4 := by omega
      · -- 2
        by_cases he : n = 2
        · have z1 : ((n : Int) == 2) = true := by simp [he]
          have HP := Lib.hid (show primeI (n : Int) = true from primeI_true h1 h2 (by rw [he]; exact pr_2))
          clear he 
          go_wp2_with fail
          go_ret
          exact prmR_of HP.out
        · have z1 : ((n : Int) == 2) = false := beq_eq_false_iff_ne.2 (by omega)
          by_cases hm : n % 2 = 0
          · have z2 : ((n : Int) % 2 == 0) = true := by simp; omega
            have z3 : ((n : Int).tmod 2 == 0) = true := by rw [Int.tmod_eq_emod_of_nonneg (by omega)]; exact z2
            have HP := Lib.hid (show primeI (n : Int) = false from primeI_no (fun h => by rcases h.2 2 (Nat.dvd_of_mod_eq_zero hm) with e | e <;> omega))
            clear he hm 
            go_wp2_with fail
            go_ret
            exact prmR_of HP.out
          · have z2 : ((n : Int) % 2 == 0) = false := beq_eq_false_iff_ne.2 (by omega)
            have z3 : ((n : Int).tmod 2 == 0) = false := beq_eq_false_iff_ne.2 (by rw [Int.tmod_eq_emod_of_nonneg (by omega)]; omega)
            have hna : 2 < n := by omega
            have HW := Lib.hid (fun w => @witness_any w 2 n (by omega) (by omega) h2 (by omega))
            have HNE := Lib.hid (And.intro he hm)
            clear he hm 
            go_wp2_with fail
            refine (HW.out _).mono ?_
            rintro en w' ⟨b, hb1, hb2, rfl, rfl⟩
            cases b
            · have HN := Lib.hid (show ∀ b ∈ [2, 3, 5, 7].take 1, n ≠ b ∧ n % b ≠ 0 ∧ Pass b n from fun b hb => by
                have hb' : b ∈ [2, 3, 5, 7].take 0 ∨ b = 2 := by simp at hb ⊢; omega
                rcases hb' with hb' | rfl
                · exact HI.out b hb'
                · exact ⟨HNE.out.1, HNE.out.2, hb2 rfl⟩)
              clear hb1 hb2
              go_wp2_with fail
              go_round
              case rel => exact ⟨1, by omega, by go_num, HN⟩
              case measure => simp [intOf]
            · have HP := Lib.hid (show primeI (n : Int) = false from primeI_no (fun h => hb1 rfl (pass_prime h (fun hd => by have := Nat.le_of_dvd (by omega) hd; omega))))
              clear hb1 hb2
              go_wp2_with fail
              go_ret
              exact prmR_of HP.out
      · -- 3
        obtain ⟨p21, p22, p23⟩ := HI.out 2 (by simp)
        by_cases he : n = 3
        · have z1 : ((n : Int) == 3) = true := by simp [he]
          have HP := Lib.hid (show primeI (n : Int) = true from primeI_true h1 h2 (by rw [he]; exact pr_3))
          clear he p21 p22 p23
          go_wp2_with fail
          go_ret
          exact prmR_of HP.out
        · have z1 : ((n : Int) == 3) = false := beq_eq_false_iff_ne.2 (by omega)
          by_cases hm : n % 3 = 0
          · have z2 : ((n : Int) % 3 == 0) = true := by simp; omega
            have z3 : ((n : Int).tmod 3 == 0) = true := by rw [Int.tmod_eq_emod_of_nonneg (by omega)]; exact z2
            have HP := Lib.hid (show primeI (n : Int) = false from primeI_no (fun h => by rcases h.2 3 (Nat.dvd_of_mod_eq_zero hm) with e | e <;> omega))
            clear he hm p21 p22 p23
            go_wp2_with fail
            go_ret
            exact prmR_of HP.out
          · have z2 : ((n : Int) % 3 == 0) = false := beq_eq_false_iff_ne.2 (by omega)
            have z3 : ((n : Int).tmod 3 == 0) = false := beq_eq_false_iff_ne.2 (by rw [Int.tmod_eq_emod_of_nonneg (by omega)]; omega)
            have hna : 3 < n := by omega
            have HW := Lib.hid (fun w => @witness_any w 3 n (by omega) (by omega) h2 (by omega))
            have HNE := Lib.hid (And.intro he hm)
            clear he hm p21 p22 p23
            go_wp2_with fail
            refine (HW.out _).mono ?_
            rintro en w' ⟨b, hb1, hb2, rfl, rfl⟩
            cases b
            · have HN := Lib.hid (show ∀ b ∈ [2, 3, 5, 7].take 2, n ≠ b ∧ n % b ≠ 0 ∧ Pass b n from fun b hb => by
                have hb' : b ∈ [2, 3, 5, 7].take 1 ∨ b = 3 := by simp at hb ⊢; omega
                rcases hb' with hb' | rfl
                · exact HI.out b hb'
                · exact ⟨HNE.out.1, HNE.out.2, hb2 rfl⟩)
              clear hb1 hb2
              go_wp2_with fail
              go_round
              case rel => exact ⟨2, by omega, by go_num, HN⟩
              case measure => simp [intOf]
            · have HP := Lib.hid (show primeI (n : Int) = false from primeI_no (fun h => hb1 rfl (pass_prime h (fun hd => by have := Nat.le_of_dvd (by omega) hd; omega))))
              clear hb1 hb2
              go_wp2_with fail
              go_ret
              exact prmR_of HP.out
      · -- 5
        obtain ⟨p21, p22, p23⟩ := HI.out 2 (by simp)
        obtain ⟨p31, p32, p33⟩ := HI.out 3 (by simp)
        by_cases he : n = 5
        · have z1 : ((n : Int) == 5) = true := by simp [he]
          have HP := Lib.hid (show primeI (n : Int) = true from primeI_true h1 h2 (by rw [he]; exact pr_5))
          clear he p21 p22 p23 p31 p32 p33
          go_wp2_with fail
          go_ret
          exact prmR_of HP.out
        · have z1 : ((n : Int) == 5) = false := beq_eq_false_iff_ne.2 (by omega)
          by_cases hm : n % 5 = 0
          · have z2 : ((n : Int) % 5 == 0) = true := by simp; omega
            have z3 : ((n : Int).tmod 5 == 0) = true := by rw [Int.tmod_eq_emod_of_nonneg (by omega)]; exact z2
            have HP := Lib.hid (show primeI (n : Int) = false from primeI_no (fun h => by rcases h.2 5 (Nat.dvd_of_mod_eq_zero hm) with e | e <;> omega))
            clear he hm p21 p22 p23 p31 p32 p33
            go_wp2_with fail
            go_ret
            exact prmR_of HP.out
          · have z2 : ((n : Int) % 5 == 0) = false := beq_eq_false_iff_ne.2 (by omega)
            have z3 : ((n : Int).tmod 5 == 0) = false := beq_eq_false_iff_ne.2 (by rw [Int.tmod_eq_emod_of_nonneg (by omega)]; omega)
            have hna : 5 < n := by omega
            have HW := Lib.hid (fun w => @witness_any w 5 n (by omega) (by omega) h2 (by omega))
            have HNE := Lib.hid (And.intro he hm)
            clear he hm p21 p22 p23 p31 p32 p33
            go_wp2_with fail
            refine (HW.out _).mono ?_
            rintro en w' ⟨b, hb1, hb2, rfl, rfl⟩
            cases b
            · have HN := Lib.hid (show ∀ b ∈ [2, 3, 5, 7].take 3, n ≠ b ∧ n % b ≠ 0 ∧ Pass b n from fun b hb => by
                have hb' : b ∈ [2, 3, 5, 7].take 2 ∨ b = 5 := by simp at hb ⊢; omega
                rcases hb' with hb' | rfl
                · exact HI.out b hb'
                · exact ⟨HNE.out.1, HNE.out.2, hb2 rfl⟩)
              clear hb1 hb2
              go_wp2_with fail
              go_round
              case rel => exact ⟨3, by omega, by go_num, HN⟩
              case measure => simp [intOf]
            · have HP := Lib.hid (show primeI (n : Int) = false from primeI_no (fun h => hb1 rfl (pass_prime h (fun hd => by have := Nat.le_of_dvd (by omega) hd; omega))))
              clear hb1 hb2
              go_wp2_with fail
              go_ret
              exact prmR_of HP.out
      · -- 7
        obtain ⟨p21, p22, p23⟩ := HI.out 2 (by simp)
        obtain ⟨p31, p32, p33⟩ := HI.out 3 (by simp)
        obtain ⟨p51, p52, p53⟩ := HI.out 5 (by simp)
        by_cases he : n = 7
        · have z1 : ((n : Int) == 7) = true := by simp [he]
          have HP := Lib.hid (show primeI (n : Int) = true from primeI_true h1 h2 (by rw [he]; exact pr_7))
          clear he p21 p22 p23 p31 p32 p33 p51 p52 p53
          go_wp2_with fail
          go_ret
          exact prmR_of HP.out
        · have z1 : ((n : Int) == 7) = false := beq_eq_false_iff_ne.2 (by omega)
          by_cases hm : n % 7 = 0
          · have z2 : ((n : Int) % 7 == 0) = true := by simp; omega
            have z3 : ((n : Int).tmod 7 == 0) = true := by rw [Int.tmod_eq_emod_of_nonneg (by omega)]; exact z2
            have HP := Lib.hid (show primeI (n : Int) = false from primeI_no (fun h => by rcases h.2 7 (Nat.dvd_of_mod_eq_zero hm) with e | e <;> omega))
            clear he hm p21 p22 p23 p31 p32 p33 p51 p52 p53
            go_wp2_with fail
            go_ret
            exact prmR_of HP.out
          · have z2 : ((n : Int) % 7 == 0) = false := beq_eq_false_iff_ne.2 (by omega)
            have z3 : ((n : Int).tmod 7 == 0) = false := beq_eq_false_iff_ne.2 (by rw [Int.tmod_eq_emod_of_nonneg (by omega)]; omega)
            have hna : 7 < n := by omega
            have HW := Lib.hid (fun w => @witness_any w 7 n (by omega) (by omega) h2 (by omega))
            have HNE := Lib.hid (And.intro he hm)
            clear he hm p21 p22 p23 p31 p32 p33 p51 p52 p53
            go_wp2_with fail
            refine (HW.out _).mono ?_
            rintro en w' ⟨b, hb1, hb2, rfl, rfl⟩
            cases b
            · have HN := Lib.hid (show ∀ b ∈ [2, 3, 5, 7].take 4, n ≠ b ∧ n % b ≠ 0 ∧ Pass b n from fun b hb => by
                have hb' : b ∈ [2, 3, 5, 7].take 3 ∨ b = 7 := by simp at hb ⊢; omega
                rcases hb' with hb' | rfl
                · exact HI.out b hb'
                · exact ⟨HNE.out.1, HNE.out.2, hb2 rfl⟩)
              clear hb1 hb2
              go_wp2_with fail
              go_round
              case rel => exact ⟨4, by omega, by go_num, HN⟩
              case measure => simp [intOf]
            · have HP := Lib.hid (show primeI (n : Int) = false from primeI_no (fun h => hb1 rfl (pass_prime h (fun hd => by have := Nat.le_of_dvd (by omega) hd; omega))))
              clear hb1 hb2
              go_wp2_with fail
              go_ret
              exact prmR_of HP.out
      · have HP := Lib.hid (show primeI (n : Int) = true from by
          obtain ⟨a1, a2, a3⟩ := HI.out 2 (by simp)
          obtain ⟨b1, b2, b3⟩ := HI.out 3 (by simp)
          obtain ⟨c1, c2, c3⟩ := HI.out 5 (by simp)
          obtain ⟨d1, d2, d3⟩ := HI.out 7 (by simp)
          exact primeI_true h1 h2 (pr_of_thru (by omega) h2 ⟨a2, b2, c2, d2, a3, b3, c3, d3⟩))
        go_wp2_with fail
        go_ret
        exact prmR_of HP.out
end Go.Proofs.YtefcdclmabdmbaaGreatDoor

namespace Go.Proofs.YtefcdclmabdmbaaGreatDoor
open Go.RowKit

/-- How often 2 divides a number other than 0. -/
def v2F : Nat → Nat → Nat
  | 0, _ => 0
  | f + 1, a => if a % 2 = 0 then v2F f (a / 2) + 1 else 0
def v2 (a : Nat) : Nat := v2F a a
def od (a : Nat) : Nat := a / 2 ^ v2 a
theorem v2F_spec : ∀ (f a : Nat), 0 < a → a ≤ f → ∃ d, a = 2 ^ v2F f a * d ∧ d % 2 = 1
  | 0, a, h0, h => by omega
  | f + 1, a, h0, h => by
    rw [v2F]
    split
    · obtain ⟨d, h1, h2⟩ := v2F_spec f (a / 2) (by omega) (by omega)
      refine ⟨d, ?_, h2⟩
      rw [Nat.pow_succ]
      generalize 2 ^ v2F f (a / 2) = q at *
      have : a = 2 * (a / 2) := by omega
      rw [this, h1]
      grind
    · exact ⟨a, by simp, by omega⟩
theorem v2_of {a k d : Nat} (h0 : 0 < a) (h : a = 2 ^ k * d) (hd : d % 2 = 1) : v2 a = k ∧ od a = d := by
  obtain ⟨d', h1, h2⟩ := v2F_spec a a h0 (Nat.le_refl _)
  have h3 := two_unique (k := v2 a) (d := d') (k' := k) (d' := d) (by rw [← h]; exact h1.symm) h2 hd
  refine ⟨h3.1, ?_⟩
  unfold od
  rw [h3.1]
  conv => lhs; lhs; rw [h]
  exact Nat.mul_div_cancel_left _ (Nat.two_pow_pos k)
/-- A sign. -/
def sgJ (a n : Nat) : Int := (if v2 a % 2 = 1 ∧ (n % 8 = 3 ∨ n % 8 = 5) then -1 else 1) * (if od a % 4 = 3 ∧ n % 4 = 3 then -1 else 1)
def jacF : Nat → Nat → Nat → Int
  | 0, _, _ => 0
  | f + 1, a, n => if a = 0 then (if n = 1 then 1 else 0) else sgJ a n * jacF f (n % od a) (od a)
/-- The Jacobi symbol of a residue. -/
def jac (a n : Nat) : Int := jacF (a + 1) a n
theorem od_le {a : Nat} : od a ≤ a := Nat.div_le_self _ _
theorem od_pos {a : Nat} (h : 0 < a) : 0 < od a := by
  obtain ⟨d, h1, h2⟩ := v2F_spec a a h (Nat.le_refl _)
  have := (v2_of h h1 h2).2
  omega
theorem jacF_enough : ∀ (f g a n : Nat), a < f → a < g → jacF f a n = jacF g a n
  | 0, _, _, _, h, _ => by omega
  | _, 0, _, _, _, h => by omega
  | f + 1, g + 1, a, n, h, h' => by
    rw [jacF, jacF]
    split
    · rfl
    · have h1 := Nat.mod_lt n (od_pos (a := a) (by omega))
      have h2 := od_le (a := a)
      rw [jacF_enough f g _ _ (by omega) (by omega)]
theorem jac_step {a n : Nat} (h : 0 < a) : jac a n = sgJ a n * jac (n % od a) (od a) := by
  have h1 := Nat.mod_lt n (od_pos h)
  have h2 := od_le (a := a)
  unfold jac
  rw [jacF, if_neg (by omega), jacF_enough a (n % od a + 1) _ _ (by omega) (by omega)]
/-- The residue of any number. -/
theorem emod_of (x : Int) {m : Int} (hm : 0 < m) : x % m = if x.tmod m < 0 then x.tmod m + m else x.tmod m := by
  rcases show 0 ≤ x ∨ x < 0 by omega with h | h
  · rw [Int.tmod_eq_emod_of_nonneg h, if_neg (by have := Int.emod_nonneg x (show m ≠ 0 by omega); omega)]
  · have h1 : (-x).tmod m = (-x) % m := Int.tmod_eq_emod_of_nonneg (by omega)
    rw [Int.neg_tmod] at h1
    have h2 := Int.emod_nonneg (-x) (show m ≠ 0 by omega)
    have h3 := Int.emod_lt_of_pos (-x) hm
    have h4 := Int.emod_nonneg x (show m ≠ 0 by omega)
    have h5 := Int.emod_lt_of_pos x hm
    have h6 : (x % m + (-x) % m) % m = 0 := by rw [← Int.add_emod, show x + -x = 0 by omega]; rfl
    have h7 : x % m + (-x) % m = 0 ∨ x % m + (-x) % m = m := by
      rcases show x % m + (-x) % m < m ∨ m ≤ x % m + (-x) % m by omega with h8 | h8
      · rw [Int.emod_eq_of_lt (by omega) h8] at h6
        exact .inl h6
      · have h9 : (x % m + (-x) % m - m) % m = 0 := by rw [Int.sub_emod, h6, Int.emod_self]; rfl
        rw [Int.emod_eq_of_lt (by omega) (by omega)] at h9
        omega
    split <;> omega
set_option maxHeartbeats 1000000 in
theorem imodI_any {w : World} {a : Int} {m : Nat} (hm : 0 < m) (hm2 : m ≤ 1000000000) : Calls Tryz.prog 186 #[.int .i64 a, .int .i64 (m : Nat)] w fun e w' => e = .returned (.int .i64 (a % (m : Int))) ∧ w = w' := by
  have he := emod_of a (m := (m : Int)) (by omega)
  have hl : -(m : Int) ≤ a.tmod m ∧ a.tmod m < m := by
    have h4 := Int.emod_nonneg a (show (m : Int) ≠ 0 by omega)
    have h5 := Int.emod_lt_of_pos a (show (0 : Int) < m by omega)
    generalize a.tmod (m : Int) = r at *
    generalize a % (m : Int) = q at *
    split at he <;> omega
  have HE := Lib.hid he
  have h9 : ((m : Int) == 0) = false := beq_eq_false_iff_ne.2 (by omega)
  have h10 : ((m : Int) == -1) = false := beq_eq_false_iff_ne.2 (by omega)
  have h8 : ¬ ((m : Int) = 0) := by omega
  have h7 : ¬ (m = 0) := by omega
  have hw0 : IntKind.i64.wrap (a.tmod m) = a.tmod m := IntWalk.i64_in _ (by omega)
  have hw1 : IntKind.i64.wrap (a.tmod m + m) = a.tmod m + m := IntWalk.i64_in _ (by omega)
  clear he
  by_cases h : a.tmod (m : Int) < 0
  · have hd : decide (a.tmod (m : Int) < 0) = true := decide_eq_true h
    have HE2 := Lib.hid (show a % (m : Int) = a.tmod m + m by rw [HE.out, if_pos h])
    clear hl
    go_enter Tryz.func186, Tryz.ntmps186
    go_wp2_with fail
    go_ret
    exact ⟨by rw [HE2.out]; rfl, rfl⟩
  · have hd : decide (a.tmod (m : Int) < 0) = false := decide_eq_false h
    have HE2 := Lib.hid (show a % (m : Int) = a.tmod m by rw [HE.out, if_neg h])
    clear hl
    go_enter Tryz.func186, Tryz.ntmps186
    go_wp2_with fail
    go_ret
    exact ⟨by rw [HE2.out]; rfl, rfl⟩

set_option maxRecDepth 100000 in
set_option maxHeartbeats 4000000 in
theorem jacobi_any {w : World} {a : Int} {n : Nat} (hn0 : 0 < n) (hn : n ≤ 1000000000) : Calls Tryz.prog 183 #[.int .i64 a, .int .i64 (n : Nat)] w fun e w' => e = .returned (.int .i64 (jac (a % (n : Int)).toNat n)) ∧ w = w' := by
  obtain ⟨x0, hx0⟩ : ∃ x : Nat, a % (n : Int) = (x : Int) := ⟨(a % (n : Int)).toNat, by have := Int.emod_nonneg a (show (n : Int) ≠ 0 by omega); omega⟩
  have hxl : x0 < n := by have := Int.emod_lt_of_pos a (show (0 : Int) < n by omega); omega
  have HM := Lib.hid (fun w => imodI_any (w := w) (a := a) hn0 hn)
  rw [hx0] at HM
  rw [hx0, Int.toNat_natCast]
  clear hx0
  obtain ⟨R, hR⟩ : ∃ R, jac x0 n = R := ⟨_, rfl⟩
  rw [hR]
  have HR0 := Lib.hid (show (1 : Int) * jac x0 n = R by rw [Int.one_mul]; exact hR)
  clear hR
  go_enter Tryz.func183, Tryz.ntmps183
  go_wp2_with (go_at_call 186; go_must (refine (HM.out _).mono ?_); rintro e w1 ⟨rfl, rfl⟩)
  go_loopw [0, 1, 5] (fun av nv sv wr => ∃ (x m : Nat) (s : Int), av = .int .i64 (x : Nat) ∧ nv = .int .i64 (m : Nat) ∧ sv = .int .i64 s ∧ (s = 1 ∨ s = -1) ∧ 0 < m ∧ m ≤ 1000000000 ∧ x ≤ 1000000000 ∧ Hid (s * jac x m = R) ∧ w = wr) (fun av _ _ _ => (intOf av).toNat)
  case atStart => exact ⟨x0, n, 1, rfl, rfl, rfl, .inl rfl, hn0, hn, by omega, HR0, rfl⟩
  case round =>
    clear HR0 hn0 hn hxl HM
    obtain ⟨x, m, s, rfl, rfl, rfl, hs, hm0, hm, hx, HR, rfl⟩ := hrel
    by_cases hx0 : x = 0
    · subst hx0
      by_cases hm1 : m = 1
      · subst hm1
        have HE := Lib.hid (show R = s by rw [← HR.out]; unfold jac; simp [jacF])
        clear HR
        go_wp2_with fail
        go_ret
        exact ⟨by rw [HE.out]; rfl, rfl⟩
      · have HE := Lib.hid (show R = 0 by rw [← HR.out]; unfold jac; simp [jacF, hm1])
        have z0 : ((m : Int) == 1) = false := by rw [beq_eq_false_iff_ne]; omega
        have z1 : ((m : Int) != 1) = true := by rw [bne_iff_ne]; omega
        clear HR hm1
        go_wp2_with fail
        go_ret
        exact ⟨by rw [HE.out]; rfl, rfl⟩
    · have hx0 : 0 < x := by omega
      have y0 : ((x : Int) == 0) = false := by rw [beq_eq_false_iff_ne]; omega
      have y1 : ((x : Int) != 0) = true := by rw [bne_iff_ne]; omega
      obtain ⟨d, hdx, hd2⟩ := v2F_spec x x hx0 (Nat.le_refl _)
      obtain ⟨k, hk⟩ : ∃ k, v2F x x = k := ⟨_, rfl⟩
      rw [hk] at hdx
      have hv := v2_of hx0 hdx hd2
      have HV1 := Lib.hid hv.2
      have HV2 := Lib.hid hv.1
      have hd0 : 0 < d := by omega
      have hdx2 : d ≤ x := by rw [← hv.2]; exact od_le
      have hk30 := pow_two_big hdx hd0 hx
      have hmd := Nat.mod_lt m hd0
      have HVAL := Lib.hid ((valuation_two (w := w) hx0 hx).mono (R' := fun e w' => e = .returned (.tuple #[.int .i64 (k : Nat), .int .i64 (d : Nat)]) ∧ w = w') fun e w' ⟨k', d', h1, h2, h3, h4⟩ => by
        obtain ⟨e1, e2⟩ := two_unique (hdx.symm.trans h1) hd2 h2
        subst e1 e2
        exact ⟨h3, h4⟩)
      have hws : IntKind.i64.wrap (-s) = -s := IntWalk.i64_in _ (by omega)
      have h8 := hm0
      have hmz : ((m : Int) % (d : Int)) = ((m % d : Nat) : Int) := by rw [Int.natCast_emod]
      have hdz : ((d : Int) == 0) = false := by rw [beq_eq_false_iff_ne]; omega
      have hdn : ¬ (d = 0) := by omega
      clear hk hv hdx
      rcases (show k % 2 ≠ 1 ∨ (k % 2 = 1 ∧ m % 8 = 3) ∨ (k % 2 = 1 ∧ m % 8 = 5) ∨ (k % 2 = 1 ∧ m % 8 ≠ 3 ∧ m % 8 ≠ 5) by omega) with h2k | h2k | h2k | h2k <;> rcases (show d % 4 ≠ 3 ∨ (d % 4 = 3 ∧ m % 4 = 3) ∨ (d % 4 = 3 ∧ m % 4 ≠ 3) by omega) with h4 | h4 | h4
      · skip
        have z1 : ((k : Int) % 2 == 1) = false := by rw [beq_eq_false_iff_ne]; omega
        have z4 : ((d : Int) % 4 == 3) = false := by rw [beq_eq_false_iff_ne]; omega
        have HS := Lib.hid (show s * jac (m % d) d = R by have h1 := HR.out; rw [jac_step hx0, HV1.out] at h1; unfold sgJ at h1; rw [HV2.out, HV1.out, if_neg (by omega), if_neg (by omega)] at h1; grind)
        clear h8 h4 h2k HR
        go_wp2_with (go_at_call 205; go_must (refine HVAL.out.mono ?_); rintro e w2 ⟨rfl, rfl⟩)
        exact ⟨⟨m % d, d, s, by go_num, rfl, by go_num, by omega, hd0, by omega, by omega, HS, trivial⟩, by simp only [intOf]; omega⟩
      · skip
        have z1 : ((k : Int) % 2 == 1) = false := by rw [beq_eq_false_iff_ne]; omega
        have z4 : ((d : Int) % 4 == 3) = true := by rw [beq_iff_eq]; omega
        have z5 : ((m : Int) % 4 == 3) = true := by rw [beq_iff_eq]; omega
        have HS := Lib.hid (show (-s) * jac (m % d) d = R by have h1 := HR.out; rw [jac_step hx0, HV1.out] at h1; unfold sgJ at h1; rw [HV2.out, HV1.out, if_neg (by omega), if_pos (by omega)] at h1; grind)
        clear h8 h4 h2k HR
        go_wp2_with (go_at_call 205; go_must (refine HVAL.out.mono ?_); rintro e w2 ⟨rfl, rfl⟩)
        exact ⟨⟨m % d, d, (-s), by go_num, rfl, by go_num, by omega, hd0, by omega, by omega, HS, trivial⟩, by simp only [intOf]; omega⟩
      · skip
        have z1 : ((k : Int) % 2 == 1) = false := by rw [beq_eq_false_iff_ne]; omega
        have z4 : ((d : Int) % 4 == 3) = true := by rw [beq_iff_eq]; omega
        have z5 : ((m : Int) % 4 == 3) = false := by rw [beq_eq_false_iff_ne]; omega
        have HS := Lib.hid (show s * jac (m % d) d = R by have h1 := HR.out; rw [jac_step hx0, HV1.out] at h1; unfold sgJ at h1; rw [HV2.out, HV1.out, if_neg (by omega), if_neg (by omega)] at h1; grind)
        clear h8 h4 h2k HR
        go_wp2_with (go_at_call 205; go_must (refine HVAL.out.mono ?_); rintro e w2 ⟨rfl, rfl⟩)
        exact ⟨⟨m % d, d, s, by go_num, rfl, by go_num, by omega, hd0, by omega, by omega, HS, trivial⟩, by simp only [intOf]; omega⟩
      · skip
        have z1 : ((k : Int) % 2 == 1) = true := by rw [beq_iff_eq]; omega
        have z2 : ((m : Int) % 8 == 3) = true := by rw [beq_iff_eq]; omega
        have z4 : ((d : Int) % 4 == 3) = false := by rw [beq_eq_false_iff_ne]; omega
        have HS := Lib.hid (show (-s) * jac (m % d) d = R by have h1 := HR.out; rw [jac_step hx0, HV1.out] at h1; unfold sgJ at h1; rw [HV2.out, HV1.out, if_pos (by omega), if_neg (by omega)] at h1; grind)
        clear h8 h4 h2k HR
        go_wp2_with (go_at_call 205; go_must (refine HVAL.out.mono ?_); rintro e w2 ⟨rfl, rfl⟩)
        exact ⟨⟨m % d, d, (-s), by go_num, rfl, by go_num, by omega, hd0, by omega, by omega, HS, trivial⟩, by simp only [intOf]; omega⟩
      · skip
        have z1 : ((k : Int) % 2 == 1) = true := by rw [beq_iff_eq]; omega
        have z2 : ((m : Int) % 8 == 3) = true := by rw [beq_iff_eq]; omega
        have z4 : ((d : Int) % 4 == 3) = true := by rw [beq_iff_eq]; omega
        have z5 : ((m : Int) % 4 == 3) = true := by rw [beq_iff_eq]; omega
        have HS := Lib.hid (show s * jac (m % d) d = R by have h1 := HR.out; rw [jac_step hx0, HV1.out] at h1; unfold sgJ at h1; rw [HV2.out, HV1.out, if_pos (by omega), if_pos (by omega)] at h1; grind)
        clear h8 h4 h2k HR
        go_wp2_with (go_at_call 205; go_must (refine HVAL.out.mono ?_); rintro e w2 ⟨rfl, rfl⟩)
        exact ⟨⟨m % d, d, s, by go_num, rfl, by go_num, by omega, hd0, by omega, by omega, HS, trivial⟩, by simp only [intOf]; omega⟩
      · skip
        have z1 : ((k : Int) % 2 == 1) = true := by rw [beq_iff_eq]; omega
        have z2 : ((m : Int) % 8 == 3) = true := by rw [beq_iff_eq]; omega
        have z4 : ((d : Int) % 4 == 3) = true := by rw [beq_iff_eq]; omega
        have z5 : ((m : Int) % 4 == 3) = false := by rw [beq_eq_false_iff_ne]; omega
        have HS := Lib.hid (show (-s) * jac (m % d) d = R by have h1 := HR.out; rw [jac_step hx0, HV1.out] at h1; unfold sgJ at h1; rw [HV2.out, HV1.out, if_pos (by omega), if_neg (by omega)] at h1; grind)
        clear h8 h4 h2k HR
        go_wp2_with (go_at_call 205; go_must (refine HVAL.out.mono ?_); rintro e w2 ⟨rfl, rfl⟩)
        exact ⟨⟨m % d, d, (-s), by go_num, rfl, by go_num, by omega, hd0, by omega, by omega, HS, trivial⟩, by simp only [intOf]; omega⟩
      · skip
        have z1 : ((k : Int) % 2 == 1) = true := by rw [beq_iff_eq]; omega
        have z2 : ((m : Int) % 8 == 3) = false := by rw [beq_eq_false_iff_ne]; omega
        have z3 : ((m : Int) % 8 == 5) = true := by rw [beq_iff_eq]; omega
        have z4 : ((d : Int) % 4 == 3) = false := by rw [beq_eq_false_iff_ne]; omega
        have HS := Lib.hid (show (-s) * jac (m % d) d = R by have h1 := HR.out; rw [jac_step hx0, HV1.out] at h1; unfold sgJ at h1; rw [HV2.out, HV1.out, if_pos (by omega), if_neg (by omega)] at h1; grind)
        clear h8 h4 h2k HR
        go_wp2_with (go_at_call 205; go_must (refine HVAL.out.mono ?_); rintro e w2 ⟨rfl, rfl⟩)
        exact ⟨⟨m % d, d, (-s), by go_num, rfl, by go_num, by omega, hd0, by omega, by omega, HS, trivial⟩, by simp only [intOf]; omega⟩
      · skip
        have z1 : ((k : Int) % 2 == 1) = true := by rw [beq_iff_eq]; omega
        have z2 : ((m : Int) % 8 == 3) = false := by rw [beq_eq_false_iff_ne]; omega
        have z3 : ((m : Int) % 8 == 5) = true := by rw [beq_iff_eq]; omega
        have z4 : ((d : Int) % 4 == 3) = true := by rw [beq_iff_eq]; omega
        have z5 : ((m : Int) % 4 == 3) = true := by rw [beq_iff_eq]; omega
        have HS := Lib.hid (show s * jac (m % d) d = R by have h1 := HR.out; rw [jac_step hx0, HV1.out] at h1; unfold sgJ at h1; rw [HV2.out, HV1.out, if_pos (by omega), if_pos (by omega)] at h1; grind)
        clear h8 h4 h2k HR
        go_wp2_with (go_at_call 205; go_must (refine HVAL.out.mono ?_); rintro e w2 ⟨rfl, rfl⟩)
        exact ⟨⟨m % d, d, s, by go_num, rfl, by go_num, by omega, hd0, by omega, by omega, HS, trivial⟩, by simp only [intOf]; omega⟩
      · skip
        have z1 : ((k : Int) % 2 == 1) = true := by rw [beq_iff_eq]; omega
        have z2 : ((m : Int) % 8 == 3) = false := by rw [beq_eq_false_iff_ne]; omega
        have z3 : ((m : Int) % 8 == 5) = true := by rw [beq_iff_eq]; omega
        have z4 : ((d : Int) % 4 == 3) = true := by rw [beq_iff_eq]; omega
        have z5 : ((m : Int) % 4 == 3) = false := by rw [beq_eq_false_iff_ne]; omega
        have HS := Lib.hid (show (-s) * jac (m % d) d = R by have h1 := HR.out; rw [jac_step hx0, HV1.out] at h1; unfold sgJ at h1; rw [HV2.out, HV1.out, if_pos (by omega), if_neg (by omega)] at h1; grind)
        clear h8 h4 h2k HR
        go_wp2_with (go_at_call 205; go_must (refine HVAL.out.mono ?_); rintro e w2 ⟨rfl, rfl⟩)
        exact ⟨⟨m % d, d, (-s), by go_num, rfl, by go_num, by omega, hd0, by omega, by omega, HS, trivial⟩, by simp only [intOf]; omega⟩
      · skip
        have z1 : ((k : Int) % 2 == 1) = true := by rw [beq_iff_eq]; omega
        have z2 : ((m : Int) % 8 == 3) = false := by rw [beq_eq_false_iff_ne]; omega
        have z3 : ((m : Int) % 8 == 5) = false := by rw [beq_eq_false_iff_ne]; omega
        have z4 : ((d : Int) % 4 == 3) = false := by rw [beq_eq_false_iff_ne]; omega
        have HS := Lib.hid (show s * jac (m % d) d = R by have h1 := HR.out; rw [jac_step hx0, HV1.out] at h1; unfold sgJ at h1; rw [HV2.out, HV1.out, if_neg (by omega), if_neg (by omega)] at h1; grind)
        clear h8 h4 h2k HR
        go_wp2_with (go_at_call 205; go_must (refine HVAL.out.mono ?_); rintro e w2 ⟨rfl, rfl⟩)
        exact ⟨⟨m % d, d, s, by go_num, rfl, by go_num, by omega, hd0, by omega, by omega, HS, trivial⟩, by simp only [intOf]; omega⟩
      · skip
        have z1 : ((k : Int) % 2 == 1) = true := by rw [beq_iff_eq]; omega
        have z2 : ((m : Int) % 8 == 3) = false := by rw [beq_eq_false_iff_ne]; omega
        have z3 : ((m : Int) % 8 == 5) = false := by rw [beq_eq_false_iff_ne]; omega
        have z4 : ((d : Int) % 4 == 3) = true := by rw [beq_iff_eq]; omega
        have z5 : ((m : Int) % 4 == 3) = true := by rw [beq_iff_eq]; omega
        have HS := Lib.hid (show (-s) * jac (m % d) d = R by have h1 := HR.out; rw [jac_step hx0, HV1.out] at h1; unfold sgJ at h1; rw [HV2.out, HV1.out, if_neg (by omega), if_pos (by omega)] at h1; grind)
        clear h8 h4 h2k HR
        go_wp2_with (go_at_call 205; go_must (refine HVAL.out.mono ?_); rintro e w2 ⟨rfl, rfl⟩)
        exact ⟨⟨m % d, d, (-s), by go_num, rfl, by go_num, by omega, hd0, by omega, by omega, HS, trivial⟩, by simp only [intOf]; omega⟩
      · skip
        have z1 : ((k : Int) % 2 == 1) = true := by rw [beq_iff_eq]; omega
        have z2 : ((m : Int) % 8 == 3) = false := by rw [beq_eq_false_iff_ne]; omega
        have z3 : ((m : Int) % 8 == 5) = false := by rw [beq_eq_false_iff_ne]; omega
        have z4 : ((d : Int) % 4 == 3) = true := by rw [beq_iff_eq]; omega
        have z5 : ((m : Int) % 4 == 3) = false := by rw [beq_eq_false_iff_ne]; omega
        have HS := Lib.hid (show s * jac (m % d) d = R by have h1 := HR.out; rw [jac_step hx0, HV1.out] at h1; unfold sgJ at h1; rw [HV2.out, HV1.out, if_neg (by omega), if_neg (by omega)] at h1; grind)
        clear h8 h4 h2k HR
        go_wp2_with (go_at_call 205; go_must (refine HVAL.out.mono ?_); rintro e w2 ⟨rfl, rfl⟩)
        exact ⟨⟨m % d, d, s, by go_num, rfl, by go_num, by omega, hd0, by omega, by omega, HS, trivial⟩, by simp only [intOf]; omega⟩

set_option maxHeartbeats 1000000 in
theorem igcd_any {a b : Nat} {w : World} (ha : a ≤ 1000000000) (hb : b ≤ 1000000000) :
    Calls Tryz.prog 185 #[.int .i64 (a : Nat), .int .i64 (b : Nat)] w fun e w' => e = .returned (.int .i64 (Nat.gcd a b : Nat)) ∧ Below w.heap.size w w' := by
  go_enter Tryz.func185, Tryz.ntmps185
  go_wp2_with fail
  go_loopw [0, 1] (fun av bv wr => ∃ x y : Nat, av = .int .i64 x ∧ bv = .int .i64 y ∧ x ≤ 1000000000 ∧ y ≤ 1000000000 ∧ Hid (Nat.gcd x y = Nat.gcd a b) ∧ Below w.heap.size w wr) (fun _ bv _ => (intOf bv).toNat)
  case atStart => exact ⟨a, b, rfl, rfl, ha, hb, Lib.hid rfl, Below.refl _ _⟩
  case round =>
    clear ha hb
    obtain ⟨x, y, rfl, rfl, hx, hy, HG, hbr⟩ := hrel
    by_cases h0 : 0 < y
    · have HS := Lib.hid (show Nat.gcd y (x % y) = Nat.gcd a b by rw [← HG.out, Nat.gcd_comm x y, Nat.gcd_rec y x, Nat.gcd_comm])
      have hlt := Nat.mod_lt x h0
      have y0 : ((y : Int) == 0) = false := by simp; omega
      have y1 : ((y : Int) != 0) = true := by simp; omega
      go_wp2_with fail
      go_quiet (fail)
      go_wp2_with fail
      exact ⟨⟨y, x % y, rfl, by rw [Int.natCast_emod], hy, by omega, HS, below_drewN' hbr _⟩, by simp [intOf]; omega⟩
    · obtain rfl : y = 0 := by omega
      have HE := Lib.hid (show Nat.gcd a b = x by rw [← HG.out, Nat.gcd_zero_right])
      have hmx : max (x : Int) (-(x : Int)) = x := by omega
      have hw : IntKind.i64.wrap (-(x : Int)) = -(x : Int) := IntWalk.i64_in _ (by omega)
      go_wp2_with fail
      go_ret
      exact ⟨by rw [HE.out]; rfl, hbr⟩

/-- The steps of the inverse: the last x. -/
def invF : Nat → Int → Int → Int → Int → Option Int
  | 0, _, _, _, _ => none
  | f + 1, a, b, x, y => if b = 0 then some x else if 0 ≤ a ∧ a ≤ 1000000000 ∧ 0 ≤ b ∧ b ≤ 1000000000 ∧ -1000000000 ≤ x ∧ x ≤ 1000000000 ∧ -1000000000 ≤ y ∧ y ≤ 1000000000 ∧ -1000000000000000000 ≤ a / b * y ∧ a / b * y ≤ 1000000000000000000 then invF f b (a - a / b * b) y (x - a / b * y) else none
theorem invF_step {f : Nat} {a b x y r : Int} (h : invF f a b x y = some r) (hb : b ≠ 0) : ∃ f', (0 ≤ a ∧ a ≤ 1000000000 ∧ 0 ≤ b ∧ b ≤ 1000000000 ∧ -1000000000 ≤ x ∧ x ≤ 1000000000 ∧ -1000000000 ≤ y ∧ y ≤ 1000000000 ∧ -1000000000000000000 ≤ a / b * y ∧ a / b * y ≤ 1000000000000000000) ∧ invF f' b (a - a / b * b) y (x - a / b * y) = some r := by
  cases f with
  | zero => cases h
  | succ f =>
    rw [invF, if_neg hb] at h
    split at h
    · rename_i h1; exact ⟨f, h1, h⟩
    · cases h
theorem invF_stop {f : Nat} {a x y r : Int} (h : invF f a 0 x y = some r) : r = x := by
  cases f with
  | zero => cases h
  | succ f => rw [invF, if_pos rfl] at h; injection h with h; exact h.symm
set_option maxRecDepth 100000 in
set_option maxHeartbeats 2000000 in
theorem iinverse_any {w : World} {a r : Int} {m f : Nat} (hm0 : 0 < m) (hm : m ≤ 1000000000) (h : invF f (a % (m : Int)) m 1 0 = some r) : Calls Tryz.prog 187 #[.int .i64 a, .int .i64 (m : Nat)] w fun e w' => e = .returned (.int .i64 (r % (m : Int))) ∧ w = w' := by
  have HM := Lib.hid (fun w a => imodI_any (w := w) (a := a) hm0 hm)
  have HI := Lib.hid h
  clear h
  generalize hx0 : a % (m : Int) = x0 at *
  have HX := Lib.hid hx0
  clear hx0
  go_enter Tryz.func187, Tryz.ntmps187
  go_wp2_with (go_at_call 186; go_must (refine (HM.out _ _).mono ?_); rintro e w1 ⟨rfl, rfl⟩; rw [HX.out])
  go_loopw [5, 6, 7, 8] (fun xv yv av bv wr => ∃ (f : Nat) (x y A B : Int), xv = .int .i64 x ∧ yv = .int .i64 y ∧ av = .int .i64 A ∧ bv = .int .i64 B ∧ Hid (invF f A B x y = some r) ∧ w = wr) (fun _ _ _ bv _ => (intOf bv).toNat)
  case atStart => exact ⟨f, 1, 0, x0, m, rfl, rfl, rfl, rfl, HI, rfl⟩
  case round =>
    clear HI HX
    obtain ⟨f, x, y, A, B, rfl, rfl, rfl, rfl, HI, rfl⟩ := hrel
    by_cases hB : B = 0
    · subst hB
      have HE := Lib.hid (invF_stop HI.out)
      clear HI
      go_wp2_with (go_at_call 186; go_must (refine (HM.out _ _).mono ?_); rintro e w1 ⟨rfl, rfl⟩)
      go_ret
      exact ⟨by rw [HE.out]; rfl, rfl⟩
    · obtain ⟨f', ⟨h1, h2, h3, h4, h5, h6, h7, h8, h9, h10⟩, hn⟩ := invF_step HI.out hB
      have HN := Lib.hid hn
      have y0 : (B == 0) = false := by rw [beq_eq_false_iff_ne]; exact hB
      have y1 : (B != 0) = true := by rw [bne_iff_ne]; exact hB
      have y2 : (B == -1) = false := by rw [beq_eq_false_iff_ne]; omega
      have hq : A.tdiv B = A / B := Int.tdiv_eq_ediv_of_nonneg h1
      have hq0 : 0 ≤ A / B := Int.ediv_nonneg h1 h3
      have hqB : A / B * B ≤ A := Int.ediv_mul_le A hB
      have hqB2 : 0 ≤ A / B * B := Int.mul_nonneg hq0 h3
      have hqA : A / B ≤ A := Int.ediv_le_self B h1
      have hlt := Int.lt_ediv_add_one_mul_self A (show 0 < B by omega)
      have hr : A - A / B * B < B := by rw [Int.add_mul] at hlt; omega
      generalize hqq : A / B = q at *
      have HQ := Lib.hid hqq
      clear hqq hn
      have w0 : IntKind.i64.wrap q = q := IntWalk.i64_in _ (by omega)
      have w1 : IntKind.i64.wrap (q * B) = q * B := IntWalk.i64_in _ (by omega)
      have w2 : IntKind.i64.wrap (A - q * B) = A - q * B := IntWalk.i64_in _ (by omega)
      have w3 : IntKind.i64.wrap (q * y) = q * y := IntWalk.i64_in _ (by omega)
      have w4 : IntKind.i64.wrap (x - q * y) = x - q * y := IntWalk.i64_in _ (by omega)
      clear HI
      go_wp2_with fail
      exact ⟨⟨f', y, x - q * y, B, A - q * B, rfl, rfl, rfl, rfl, HN, trivial⟩, by simp only [intOf]; omega⟩

theorem imodulus_yes {w : World} {m : Nat} (hm0 : 0 < m) (hm : m ≤ 1000000000) : Calls Tryz.prog 184 #[.int .i64 (m : Nat)] w fun e w' => e = .returned (.bool true) ∧ w = w' := by
  have z1 : decide ((1 : Int) ≤ (m : Int)) = true := decide_eq_true (by omega)
  have z2 : decide ((m : Int) ≤ 1000000000) = true := decide_eq_true (by omega)
  have z3 : 0 < m := hm0
  have z4 : 1 ≤ m := hm0
  go_enter Tryz.func184, Tryz.ntmps184
  go_wp2_with fail
  go_ret
  exact ⟨rfl, rfl⟩
set_option maxRecDepth 100000 in
set_option maxHeartbeats 2000000 in
theorem iInverse_any {w : World} {a r : Int} {m f : Nat} (hm0 : 0 < m) (hm : m ≤ 1000000000) (hc : Nat.gcd (a % (m : Int)).toNat m = 1) (h : invF f (a % (m : Int)) m 1 0 = some r) : Calls Tryz.prog 135 #[.int .i64 a, .int .i64 (m : Nat)] w fun e w' => e = .returned (.tuple #[.int .i64 (r % (m : Int)), .int .i64 0]) ∧ Below w.heap.size w w' := by
  have HV := Lib.hid (fun w => iinverse_any (w := w) hm0 hm h)
  have HM := Lib.hid (fun w => imodI_any (w := w) (a := a) hm0 hm)
  have HMo := Lib.hid (fun w => imodulus_yes (w := w) hm0 hm)
  obtain ⟨x0, hx0⟩ : ∃ x : Nat, a % (m : Int) = (x : Int) := ⟨(a % (m : Int)).toNat, by have := Int.emod_nonneg a (show (m : Int) ≠ 0 by omega); omega⟩
  have hxl : x0 < m := by have := Int.emod_lt_of_pos a (show (0 : Int) < m by omega); omega
  rw [hx0, Int.toNat_natCast] at hc
  rw [hx0] at HM
  have HG := Lib.hid (fun w => igcd_any (a := x0) (b := m) (w := w) (by omega) hm)
  rw [hc] at HG
  clear h hc hx0
  go_enter Tryz.func135, Tryz.ntmps135
  go_wp2_with (first
    | (go_at_call 184; go_must (refine (HMo.out _).mono ?_); rintro e w1 ⟨rfl, rfl⟩)
    | (go_at_call 186; go_must (refine (HM.out _).mono ?_); rintro e w2 ⟨rfl, rfl⟩)
    | (go_at_call 185; go_must (refine (HG.out _).mono ?_); rintro e w3 ⟨rfl, hb3⟩)
    | (go_at_call 187; go_must (refine (HV.out _).mono ?_); rintro e w4 ⟨rfl, rfl⟩))
  go_ret2
  exact ⟨rfl, hb3⟩
set_option maxRecDepth 100000 in
theorem Legendre_any {w : World} {a : Int} {p : Nat} (hp : primeI (p : Int) = true) (h2 : p ≠ 2) : Calls Tryz.prog 134 #[.int .i64 a, .int .i64 (p : Nat)] w fun e w' => e = .returned (.tuple #[.int .i64 (jac (a % (p : Int)).toNat p), .int .i64 0]) ∧ w = w' := by
  obtain ⟨h3, h4, _⟩ := primeI_yes.1 hp
  have HP := Lib.hid (fun w => IsPrime_any (w := w) (p : Int))
  have HT := Lib.hid hp
  have HJ := Lib.hid (fun w => jacobi_any (w := w) (a := a) (n := p) (by omega) (by omega))
  have z1 : ((p : Int) == 2) = false := by rw [beq_eq_false_iff_ne]; omega
  have z2 : ¬ (p = 2) := h2
  clear hp
  go_enter Tryz.func134, Tryz.ntmps134
  go_wp2_with (first
    | (go_at_call 104; go_must (refine (HP.out _).mono ?_); rintro e w1 ⟨rfl, rfl⟩; rw [HT.out])
    | (go_at_call 183; go_must (refine (HJ.out _).mono ?_); rintro e w2 ⟨rfl, rfl⟩))
  go_ret2
  exact ⟨rfl, rfl⟩
end Go.Proofs.YtefcdclmabdmbaaGreatDoor
