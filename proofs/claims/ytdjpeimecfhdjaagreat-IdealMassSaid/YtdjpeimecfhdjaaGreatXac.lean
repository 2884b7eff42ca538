/- Primes: what passes the strong tests up to 1000 is a prime (a small table). integer.mod, power, valuation, witness, IsPrime. integer.IsPrime, the reference's IsPrime. -/
import Derived.Test.YtdjpeimecfhdjaaGreatXab
import Derived.Test.YtdjpeimecfhdjaaGreatXa
namespace Go.Proofs.YtdjpeimecfhdjaaGreat
theorem pr_trial {n : Nat} (hn : 2 ≤ n) (h : ∀ d, 2 ≤ d → d * d ≤ n → n % d ≠ 0) : Pr n := by
 refine ⟨hn, fun d hd => ?_⟩
 apply Classical.byContradiction
 intro hno
 have h1 : d ≠ 1 := fun e => hno (.inl e)
 have h2 : d ≠ n := fun e => hno (.inr e)
 have h0 : d ≠ 0 := fun e => by subst e; have := Nat.eq_zero_of_zero_dvd hd; omega
 obtain ⟨k, hk⟩ := hd
 have k1 : k ≠ 1 := fun e => h2 (by rw [hk, e, Nat.mul_one])
 have k0 : k ≠ 0 := fun e => by rw [e, Nat.mul_zero] at hk; omega
 rcases Nat.le_total d k with hle | hle
 ·refine h d (by omega) ?_ (Nat.mod_eq_zero_of_dvd ⟨k, hk⟩)
  rw [hk]; exact Nat.mul_le_mul_left d hle
 ·refine h k (by omega) ?_ (Nat.mod_eq_zero_of_dvd ⟨d, by rw [hk, Nat.mul_comm]⟩)
  rw [hk, Nat.mul_comm]; exact Nat.mul_le_mul_left k hle |> fun h => by rw [Nat.mul_comm d k]; exact h
def isTr (n : Nat) : Bool := (List.range 30).all fun d => Nat.ble n ((d + 2) * (d + 2) - 1) || !(Nat.beq (n % (d + 2)) 0)
theorem tabS0 : rg (fun n => Nat.ble n 10 || fails n || isTr n) 10 0 = true := by decide +kernel
theorem pr_of_thru1 {n : Nat} (hn : 10 < n) (hb : n ≤ 1000) (ht : Thru4 n) : Pr n := by
 have h := rg_spec 10 0 tabS0 n (Nat.zero_le _) (by omega)
 have hfail : fails n = false := fails_spec (by omega) (by omega) ht
 simp only [hfail, Bool.or_false, Bool.or_eq_true] at h
 rcases h with h | h
 ·have := Nat.le_of_ble_eq_true h; omega
 ·refine pr_trial (by omega) fun d h1 h2 h3 => ?_
  have hd : d < 32 := by
   rcases Nat.lt_or_ge d 32 with h4 | h4
   ·exact h4
   ·have := Nat.mul_le_mul h4 h4; omega
  have h5 := List.all_eq_true.mp h (d - 2) (List.mem_range.mpr (by omega))
  rw [show d - 2 + 2 = d by omega] at h5
  rcases Bool.or_eq_true _ _ ▸ h5 with h6 | h6
  ·have h7 := Nat.le_of_ble_eq_true h6
   have := Nat.mul_le_mul h1 h1
   omega
  ·rw [h3] at h6
   exact absurd h6 (by decide)
end Go.Proofs.YtdjpeimecfhdjaaGreat

namespace Go.Proofs.YtdjpeimecfhdjaaGreat
open Go.RowKit
set_option maxHeartbeats 1000000 in
theorem imod_any {w : World} {a m : Nat} (hm : 0 < m) (hm2 : m ≤ 1000000000) (ha : a ≤ 1000000000) : Calls Tryz.prog 215 #[.int .i64 (a : Nat), .int .i64 (m : Nat)] w fun e w' => e = .returned (.int .i64 ((a % m : Nat) : Int)) ∧ w = w' := by
 obtain ⟨r, hr⟩ : ∃ r, r = a % m := ⟨_, rfl⟩
 have hrl : r < m := by rw [hr]; exact Nat.mod_lt _ hm
 have hmod : (a : Int).tmod (m : Int) = (r : Int) := by rw [hr]; rfl
 have hmod2 : (a : Int) % (m : Int) = (r : Int) := by rw [hr]; rfl
 have h9 : ((m : Int) == 0) = false := beq_eq_false_iff_ne.2 (by omega)
 have h8 : ¬ ((m : Int) = 0) := by omega
 have h7 : ¬ (m = 0) := by omega
 have h6 : decide ((r : Int) < 0) = false := decide_eq_false (by omega)
 have h0 : (0 : Int) ≤ (r : Int) := by omega
 have h5 : (0 : Int) ≤ (a : Int) := by omega
 rw [← hr]
 clear hr
 go_enter Tryz.func215, Tryz.ntmps215
 go_wp2
 go_ret
 exact ⟨rfl, rfl⟩
theorem half_pow (o x k n : Nat) (h : k % 2 = 1) : (o * x ^ k) % n = ((o * x % n) * (x * x % n) ^ (k / 2)) % n := by
 have e : k = 2 * (k / 2) + 1 := by omega
 conv => lhs; rw [e, Nat.pow_succ, Nat.pow_mul, Nat.pow_two]
 rw [Nat.mul_mod (o * x % n), ← Nat.pow_mod, Nat.mod_mod, ← Nat.mul_mod]
 congr 1
 rw [Nat.mul_comm ((x * x) ^ (k / 2)) x, ← Nat.mul_assoc]
theorem half_pow2 (o x k n : Nat) (h : ¬ k % 2 = 1) : (o * x ^ k) % n = (o * (x * x % n) ^ (k / 2)) % n := by
 have e : k = 2 * (k / 2) := by omega
 conv => lhs; rw [e, Nat.pow_mul, Nat.pow_two]
 rw [Nat.mul_mod o ((x * x % n) ^ (k / 2)), ← Nat.pow_mod, ← Nat.mul_mod]
set_option maxHeartbeats 4000000 in
set_option maxRecDepth 100000 in
theorem ipower_any {w : World} {a e m : Nat} (hm : 0 < m) (hm2 : m ≤ 1000000000) (ha : a ≤ 1000000000) (he : e ≤ 1000000000) : Calls Tryz.prog 196 #[.int .i64 (a : Nat), .int .i64 (e : Nat), .int .i64 (m : Nat)] w fun en w' => en = .returned (.int .i64 ((a ^ e % m : Nat) : Int)) ∧ w = w' := by
 have h9 : ((m : Int) == 0) = false := beq_eq_false_iff_ne.2 (by omega)
 have h8 : ¬ ((m : Int) = 0) := by omega
 have h7 : ¬ (m = 0) := by omega
 obtain ⟨o0, ho0⟩ : ∃ r, r = 1 % m := ⟨_, rfl⟩
 have hmod : (1 : Int).tmod (m : Int) = (o0 : Int) := by rw [ho0]; rfl
 have hmod2 : (1 : Int) % (m : Int) = (o0 : Int) := by rw [ho0]; rfl
 have HO0 := Lib.hid ho0
 clear ho0
 go_enter Tryz.func196, Tryz.ntmps196
 go_wp2_with (go_at_call 215; refine (imod_any hm hm2 ha).mono ?_; rintro en w' ⟨rfl, rfl⟩)
 go_loop [0, 1, 7] (fun xv kv ov => ∃ x k o : Nat, xv = .int .i64 (x : Nat) ∧ kv = .int .i64 (k : Nat) ∧ ov = .int .i64 (o : Nat) ∧ x ≤ m ∧ o < m ∧ k ≤ e ∧ Hid ((o * x ^ k) % m = a ^ e % m)) (fun _ kv _ => (intOf kv).toNat)
 case atStart => exact ⟨a % m, e, o0, rfl, rfl, rfl, Nat.le_of_lt (Nat.mod_lt _ hm), by rw [HO0.out]; exact Nat.mod_lt _ hm, Nat.le_refl _, Lib.hid (by rw [HO0.out, Nat.mul_mod, Nat.mod_mod, ← Nat.pow_mod, ← Nat.mul_mod, Nat.one_mul])⟩
 case round =>
  clear hmod hmod2 HO0
  obtain ⟨x, k, o, rfl, rfl, rfl, hx, ho, hk, HI⟩ := hrel
  by_cases hk0 : 0 < k
  ·have z0 : decide ((0 : Int) < (k : Int)) = true := decide_eq_true (by omega)
   have hP := Nat.mul_le_mul (Nat.le_trans hx hm2) (Nat.le_trans hx hm2)
   have hQ := Nat.mul_le_mul (Nat.le_trans (Nat.le_of_lt ho) hm2) (Nat.le_trans hx hm2)
   obtain ⟨P, hPe⟩ : ∃ P, P = x * x := ⟨_, rfl⟩
   obtain ⟨Q, hQe⟩ : ∃ Q, Q = o * x := ⟨_, rfl⟩
   obtain ⟨x', hx'⟩ : ∃ y, y = P % m := ⟨_, rfl⟩
   obtain ⟨o', ho'⟩ : ∃ y, y = Q % m := ⟨_, rfl⟩
   obtain ⟨k', hk'⟩ : ∃ y, y = k / 2 := ⟨_, rfl⟩
   rw [← hPe] at hP
   rw [← hQe] at hQ
   have e1 : IntKind.i64.wrap ((x : Int) * (x : Int)) = (P : Int) := by rw [← Int.natCast_mul, ← hPe]; exact IntWalk.i64_in _ (by omega)
   have e2 : IntKind.i64.wrap ((o : Int) * (x : Int)) = (Q : Int) := by rw [← Int.natCast_mul, ← hQe]; exact IntWalk.i64_in _ (by omega)
   have e3 : (x : Int) * (x : Int) = (P : Int) := by rw [hPe, Int.natCast_mul]
   have e4 : (o : Int) * (x : Int) = (Q : Int) := by rw [hQe, Int.natCast_mul]
   have m1 : (P : Int).tmod (m : Int) = (x' : Int) := by rw [hx']; rfl
   have m2 : (P : Int) % (m : Int) = (x' : Int) := by rw [hx']; rfl
   have m3 : (Q : Int).tmod (m : Int) = (o' : Int) := by rw [ho']; rfl
   have m4 : (Q : Int) % (m : Int) = (o' : Int) := by rw [ho']; rfl
   have m5 : (k : Int).tdiv 2 = (k' : Int) := by rw [hk']; rfl
   have m6 : (k : Int) / 2 = (k' : Int) := by rw [hk']; rfl
   have hx2 : x' ≤ m := by rw [hx']; exact Nat.le_of_lt (Nat.mod_lt _ hm)
   have ho2 : o' < m := by rw [ho']; exact Nat.mod_lt _ hm
   have hkk : k' < k := by omega
   by_cases hodd : k % 2 = 1
   ·have z1 : ((k : Int) % 2 == 1) = true := by simp; omega
    have z2 : ((k : Int).tmod 2 == 1) = true := by simp [Int.tmod_eq_emod_of_nonneg]; omega
    have HN := Lib.hid (show (o' * x' ^ k') % m = a ^ e % m by rw [← HI.out, half_pow o x k m hodd, ho', hx', hk', hQe, hPe])
    clear hPe hQe hx' ho' hk' hodd
    go_wp2_with fail
    go_round
    case rel => exact ⟨x', k', o', rfl, rfl, rfl, hx2, ho2, by omega, HN⟩
    case measure => simp [intOf]; omega
   ·have z1 : ((k : Int) % 2 == 1) = false := beq_eq_false_iff_ne.2 (by omega)
    have z2 : ((k : Int).tmod 2 == 1) = false := beq_eq_false_iff_ne.2 (by rw [Int.tmod_eq_emod_of_nonneg (by omega)]; omega)
    have HN := Lib.hid (show (o * x' ^ k') % m = a ^ e % m by rw [← HI.out, half_pow2 o x k m hodd, hx', hk', hPe])
    clear hPe hQe hx' ho' hk' hodd
    go_wp2_with fail
    go_round
    case rel => exact ⟨x', k', o, rfl, rfl, rfl, hx2, ho, by omega, HN⟩
    case measure => simp [intOf]; omega
  ·obtain rfl : k = 0 := by omega
   have HN := Lib.hid (show o = a ^ e % m by rw [← HI.out, Nat.pow_zero, Nat.mul_one, Nat.mod_eq_of_lt ho])
   go_wp2_with fail
   go_ret
   exact ⟨congrArg (fun z : Nat => Ending.returned (.int .i64 (z : Int))) HN.out, rfl⟩
def PowR (w : World) (a e m : Nat) (en : Ending) (w' : World) : Prop := ∃ r : Nat, r = a ^ e % m ∧ en = .returned (.int .i64 (r : Nat)) ∧ w = w'
theorem ipower_r {w : World} {a e m : Nat} (hm : 0 < m) (hm2 : m ≤ 1000000000) (ha : a ≤ 1000000000) (he : e ≤ 1000000000) : Calls Tryz.prog 196 #[.int .i64 (a : Nat), .int .i64 (e : Nat), .int .i64 (m : Nat)] w (PowR w a e m) :=
 (ipower_any hm hm2 ha he).mono fun _ _ ⟨h1, h2⟩ => ⟨_, rfl, h1, h2⟩
def ValR (w : World) (n : Nat) (e : Ending) (w' : World) : Prop := ∃ k d : Nat, n = 2 ^ k * d ∧ d % 2 = 1 ∧ e = .returned (.tuple #[.int .i64 (k : Nat), .int .i64 (d : Nat)]) ∧ w = w'
theorem pow_two_big {j d n : Nat} (h : n = 2 ^ j * d) (hd : 0 < d) (hn : n ≤ 1000000000) : j < 30 := by
 rcases Nat.lt_or_ge j 30 with h1 | h1
 ·exact h1
 ·have h2 : 2 ^ 30 ≤ 2 ^ j := Nat.pow_le_pow_right (by omega) h1
  have h3 := Nat.mul_le_mul h2 hd
  omega
set_option maxHeartbeats 2000000 in
set_option maxRecDepth 100000 in
theorem valuation_two {w : World} {n : Nat} (h0 : 0 < n) (hn : n ≤ 1000000000) : Calls Tryz.prog 195 #[.int .i64 (n : Nat), .int .i64 2] w (ValR w n) := by
 go_enter Tryz.func195, Tryz.ntmps195
 go_wp2_with fail
 go_loop [0, 6] (fun dv jv => ∃ j d : Nat, dv = .int .i64 (d : Nat) ∧ jv = .int .i64 (j : Nat) ∧ 0 < d ∧ d ≤ n ∧ j < 30 ∧ Hid (n = 2 ^ j * d)) (fun dv _ => (intOf dv).toNat)
 case atStart => exact ⟨0, n, rfl, rfl, h0, Nat.le_refl _, by omega, Lib.hid (by simp)⟩
 case round =>
  obtain ⟨j, d, rfl, rfl, hd0, hdn, hj, HI⟩ := hrel
  obtain ⟨d', hd'⟩ : ∃ y, y = d / 2 := ⟨_, rfl⟩
  have m5 : (d : Int).tdiv 2 = (d' : Int) := by rw [hd']; rfl
  have m6 : (d : Int) / 2 = (d' : Int) := by rw [hd']; rfl
  by_cases hodd : d % 2 = 0
  ·have z1 : ((d : Int) % 2 == 0) = true := by simp; omega
   have z2 : ((d : Int).tmod 2 == 0) = true := by rw [Int.tmod_eq_emod_of_nonneg (by omega)]; exact z1
   have hN : n = 2 ^ (j + 1) * d' := by rw [HI.out, Nat.pow_succ, Nat.mul_assoc, show 2 * d' = d by omega]
   have hj2 := pow_two_big hN (by omega) hn
   have HN := Lib.hid hN
   have hdd : d' < d ∧ 0 < d' := by omega
   clear hd' hodd hN
   go_wp2_with fail
   go_round
   case rel => exact ⟨j + 1, d', rfl, by go_num, by omega, by omega, hj2, HN⟩
   case measure => simp [intOf]; omega
  ·have z1 : ((d : Int) % 2 == 0) = false := beq_eq_false_iff_ne.2 (by omega)
   have z2 : ((d : Int).tmod 2 == 0) = false := beq_eq_false_iff_ne.2 (by rw [Int.tmod_eq_emod_of_nonneg (by omega)]; omega)
   have HO := Lib.hid (show d % 2 = 1 by omega)
   clear hd' hodd
   go_wp2_with fail
   go_ret2
   exact ⟨j, d, HI.out, HO.out, rfl, rfl⟩
theorem two_unique {k d k' d' : Nat} (h : 2 ^ k * d = 2 ^ k' * d') (hd : d % 2 = 1) (hd' : d' % 2 = 1) : k = k' ∧ d = d' := by
 have key : ∀ k k' d d' : Nat, k ≤ k' → 2 ^ k * d = 2 ^ k' * d' → d % 2 = 1 → k = k' := fun k k' d d' hle h hd => by
  obtain ⟨j, rfl⟩ : ∃ j, k' = k + j := ⟨k' - k, by omega⟩
  rw [Nat.pow_add, Nat.mul_assoc] at h
  have h1 := Nat.eq_of_mul_eq_mul_left (Nat.pow_pos (by omega)) h
  cases j with
  | zero => rfl
  | succ j =>
   rw [Nat.pow_succ, Nat.mul_comm (2 ^ j) 2, Nat.mul_assoc] at h1
   omega
 have e : k = k' := by
  rcases Nat.le_total k k' with h1 | h1
  ·exact key k k' d d' h1 h hd
  ·exact (key k' k d' d h1 h.symm hd').symm
 subst e
 exact ⟨rfl, Nat.eq_of_mul_eq_mul_left (Nat.pow_pos (by omega)) h⟩
theorem pass_at {a n k d : Nat} (hk : n - 1 = 2 ^ k * d) (hd : d % 2 = 1) (h : a ^ d % n = 1 ∨ ∃ i, i < k ∧ a ^ (2 ^ i * d) % n = n - 1) : Pass a n := fun k' d' hk' hd' => by
 obtain ⟨rfl, rfl⟩ := two_unique (hk.symm.trans hk') hd hd'
 exact h
def WitR (w : World) (a n : Nat) (e : Ending) (w' : World) : Prop := ∃ b : Bool, (b = true → ¬ Pass a n) ∧ (b = false → Pass a n) ∧ e = .returned (.bool b) ∧ w = w'
theorem witR_no {w : World} {a n : Nat} (h : Pass a n) : WitR w a n (.returned (.bool false)) w := ⟨false, fun h => (by cases h), fun _ => h, rfl, rfl⟩
theorem witR_yes {w : World} {a n : Nat} (h : ¬ Pass a n) : WitR w a n (.returned (.bool true)) w := ⟨true, fun _ => h, fun h => (by cases h), rfl, rfl⟩
set_option maxHeartbeats 4000000 in
set_option maxRecDepth 100000 in
theorem witness_any {w : World} {a n : Nat} (ha : a ≤ 10) (h2 : 2 < n) (hn : n ≤ 1000000000) (ho : n % 2 = 1) : Calls Tryz.prog 134 #[.int .i64 (a : Nat), .int .i64 (n : Nat)] w (WitR w a n) := by
 obtain ⟨N, hN⟩ : ∃ N, N = n - 1 := ⟨_, rfl⟩
 have HN := Lib.hid hN
 have eN : IntKind.i64.wrap ((n : Int) - 1) = (N : Int) := by rw [IntWalk.i64_in _ (by omega)]; omega
 have eN2 : (n : Int) - 1 = (N : Int) := by omega
 have h9 : ((n : Int) == 0) = false := beq_eq_false_iff_ne.2 (by omega)
 have h8 : ¬ ((n : Int) = 0) := by omega
 have h7 : ¬ (n = 0) := by omega
 have hN0 : 0 < N ∧ N ≤ 1000000000 := by omega
 have HO := Lib.hid ho
 clear hN ho
 go_enter Tryz.func134, Tryz.ntmps134
 go_upto_region 3 with (first | (go_at_call 195; refine (valuation_two hN0.1 hN0.2).mono ?_; rintro en w' ⟨k, d, hk, hd, rfl, rfl⟩; have HK := Lib.hid hk; have HD := Lib.hid hd; have hdl : d ≤ N := (by rw [hk]; exact Nat.le_mul_of_pos_left d (Nat.pow_pos (by omega))); have hk30 := pow_two_big hk (by omega) hN0.2; have hk1 : 0 < k := (by have h5 := HN.out; have h6 := HO.out; rcases Nat.eq_zero_or_pos k with e | e; (rw [e, Nat.pow_zero, Nat.one_mul] at hk; omega); exact e); clear hk hd) | (go_at_call 196; refine (ipower_r (by omega) hn (by omega) (by omega)).mono ?_; rintro en w' ⟨x0, hx00, rfl, rfl⟩; have HX00 := Lib.hid hx00; clear hx00))
 have hx0 := HX00.out
 have hx0n : x0 < n := by rw [hx0]; exact Nat.mod_lt _ (by omega)
 clear HX00
 by_cases h1 : x0 = 1
 ·have z1 : ((x0 : Int) == 1) = true := by simp [h1]
  have HP := Lib.hid (pass_at (by rw [← HN.out]; exact HK.out) HD.out (.inl (by rw [← hx0]; exact h1)))
  clear h1 hx0
  go_wp2_with fail
  go_ret
  exact witR_no HP.out
 ·have z1 : ((x0 : Int) == 1) = false := beq_eq_false_iff_ne.2 (by omega)
  by_cases h2' : x0 = N
  ·have z2 : ((x0 : Int) == (N : Int)) = true := by simp [h2']
   have HP := Lib.hid (pass_at (a := a) (by rw [← HN.out]; exact HK.out) HD.out (.inr ⟨0, hk1, by rw [Nat.pow_zero, Nat.one_mul, ← hx0, h2', HN.out]⟩))
   clear h1 hx0 h2'
   go_wp2_with fail
   go_ret
   exact witR_no HP.out
  ·have z2 : ((x0 : Int) == (N : Int)) = false := beq_eq_false_iff_ne.2 (by omega)
   have HX1 := Lib.hid (show a ^ d % n ≠ 1 by rw [← hx0]; exact h1)
   have HX2 := Lib.hid (show a ^ d % n ≠ n - 1 by rw [← hx0, ← HN.out]; exact h2')
   obtain ⟨k', hk'⟩ : ∃ j, k = j + 1 := ⟨k - 1, by omega⟩
   have ek : IntKind.i64.wrap ((k : Int) - 1) = (k' : Int) := by rw [IntWalk.i64_in _ (by omega)]; omega
   have ek2 : (k : Int) - 1 = (k' : Int) := by omega
   have HK' := Lib.hid hk'
   have HX0 := Lib.hid hx0
   have HJ0 := Lib.hid (show ∀ j, j ≤ 0 → a ^ (2 ^ j * d) % n ≠ n - 1 from fun j hj => by
    obtain rfl : j = 0 := by omega
    rw [Nat.pow_zero, Nat.one_mul]
    exact HX2.out)
   clear h1 h2' hx0 hk'
   go_wp2_with fail
   clear z1 z2
   go_loop [7, 28] (fun xv iv => ∃ x i : Nat, xv = .int .i64 (x : Nat) ∧ iv = .int .i64 (i : Nat) ∧ i ≤ k' ∧ x < n ∧ Hid (x = a ^ (2 ^ i * d) % n) ∧ Hid (∀ j, j ≤ i → a ^ (2 ^ j * d) % n ≠ n - 1)) (fun _ iv => k' - (intOf iv).toNat)
   case atStart => exact ⟨x0, 0, rfl, rfl, Nat.zero_le _, hx0n, Lib.hid (by rw [HX0.out, Nat.pow_zero, Nat.one_mul]), HJ0⟩
   case round =>
    obtain ⟨x, i, rfl, rfl, hik, hxn, HX, HJ⟩ := hrel
    by_cases hlt : i < k'
    ·have hP := Nat.mul_le_mul (Nat.le_trans (Nat.le_of_lt hxn) hn) (Nat.le_trans (Nat.le_of_lt hxn) hn)
     obtain ⟨P, hPe⟩ : ∃ P, P = x * x := ⟨_, rfl⟩
     obtain ⟨x', hx'⟩ : ∃ y, y = P % n := ⟨_, rfl⟩
     rw [← hPe] at hP
     have e1 : IntKind.i64.wrap ((x : Int) * (x : Int)) = (P : Int) := by rw [← Int.natCast_mul, ← hPe]; exact IntWalk.i64_in _ (by omega)
     have e3 : (x : Int) * (x : Int) = (P : Int) := by rw [hPe, Int.natCast_mul]
     have m1 : (P : Int).tmod (n : Int) = (x' : Int) := by rw [hx']; rfl
     have m2 : (P : Int) % (n : Int) = (x' : Int) := by rw [hx']; rfl
     have hx2 : x' < n := by rw [hx']; exact Nat.mod_lt _ (by omega)
     have HX' := Lib.hid (show x' = a ^ (2 ^ (i + 1) * d) % n by rw [pow_two_succ, Nat.mul_mod, ← HX.out, ← hPe]; exact hx')
     have hlt' : (i : Int) < (k' : Int) := by omega
     clear hPe hx'
     by_cases hxN : x' = N
     ·have z2 : ((x' : Int) == (N : Int)) = true := by simp [hxN]
      have HP := Lib.hid (pass_at (a := a) (by rw [← HN.out]; exact HK.out) HD.out (.inr ⟨i + 1, by have := HK'.out; omega, by rw [← HX'.out, hxN, HN.out]⟩))
      clear hxN
      go_wp2_with fail
      go_ret
      exact witR_no HP.out
     ·have z2 : ((x' : Int) == (N : Int)) = false := beq_eq_false_iff_ne.2 (by omega)
      have HJ' := Lib.hid (show ∀ j, j ≤ i + 1 → a ^ (2 ^ j * d) % n ≠ n - 1 from fun j hj => by
       rcases Nat.lt_or_ge i j with h3 | h3
       ·obtain rfl : j = i + 1 := by omega
        rw [← HX'.out, ← HN.out]; exact hxN
       ·exact HJ.out j h3)
      clear hxN
      go_wp2_with fail
      go_round
      case rel => exact ⟨x', i + 1, rfl, by go_num, by omega, hx2, HX', HJ'⟩
      case measure => simp [intOf]; omega
    ·obtain rfl : i = k' := by omega
     have HF := Lib.hid (show ¬ Pass a n from fun hp => by
      rcases hp k d (by rw [← HN.out]; exact HK.out) HD.out with h3 | ⟨j, h3, h4⟩
      ·exact HX1.out h3
      ·exact HJ.out j (by have := HK'.out; omega) h4)
     go_wp2_with fail
     go_ret
     exact witR_yes HF.out
end Go.Proofs.YtdjpeimecfhdjaaGreat

namespace Go.Proofs.YtdjpeimecfhdjaaGreat
open Go.RowKit
open Classical in
noncomputable def primeI (x : Int) : Bool := decide (2 ≤ x ∧ x ≤ 1000000000 ∧ Pr x.toNat)
open Classical in
theorem primeI_yes {x : Int} : primeI x = true ↔ (2 ≤ x ∧ x ≤ 1000000000 ∧ Pr x.toNat) := by unfold primeI; exact decide_eq_true_iff
open Classical in
theorem primeI_iff {x : Int} : primeI x = false ↔ ¬ (2 ≤ x ∧ x ≤ 1000000000 ∧ Pr x.toNat) := by unfold primeI; exact decide_eq_false_iff_not
theorem primeI_true {n : Nat} (h1 : 2 ≤ n) (h2 : n ≤ 1000000000) (h : Pr n) : primeI (n : Int) = true := by
 exact primeI_yes.2 ⟨by omega, by omega, by rw [Int.toNat_natCast]; exact h⟩
theorem primeI_no {n : Nat} (h : ¬ Pr n) : primeI (n : Int) = false := by
 refine primeI_iff.2 ?_
 rintro ⟨_, _, h3⟩
 rw [Int.toNat_natCast] at h3
 exact h h3
theorem primeI_out {x : Int} (h : x < 2 ∨ 1000000000 < x) : primeI x = false := by
 refine primeI_iff.2 ?_
 rintro ⟨h1, h2, _⟩
 omega
def PrmR (w : World) (x : Int) (e : Ending) (w' : World) : Prop := e = .returned (.bool (primeI x)) ∧ w = w'
theorem prmR_of {w : World} {x : Int} {b : Bool} (h : primeI x = b) : PrmR w x (.returned (.bool b)) w := ⟨by rw [h], rfl⟩
theorem pr_lit {p : Nat} (h : 2 ≤ p ∧ ∀ d, d < p → 2 ≤ d → p % d ≠ 0) : Pr p := pr_trial h.1 fun d h1 h2 h3 => h.2 d (by have := Nat.mul_le_mul_right d h1; omega) h1 h3
theorem pr_2 : Pr 2 := pr_lit (by decide)
theorem pr_3 : Pr 3 := pr_lit (by decide)
theorem pr_5 : Pr 5 := pr_lit (by decide)
theorem pr_7 : Pr 7 := pr_lit (by decide)
theorem ix_0 (w : World) : (Instr.index 108 (.agg #[.int .i64 2, .int .i64 3, .int .i64 5, .int .i64 7]) (.int .i64 0)).run Tryz.prog w = .ok (.int .i64 2) w := by kernel_rfl
theorem ix_1 (w : World) : (Instr.index 108 (.agg #[.int .i64 2, .int .i64 3, .int .i64 5, .int .i64 7]) (.int .i64 1)).run Tryz.prog w = .ok (.int .i64 3) w := by kernel_rfl
theorem ix_2 (w : World) : (Instr.index 108 (.agg #[.int .i64 2, .int .i64 3, .int .i64 5, .int .i64 7]) (.int .i64 2)).run Tryz.prog w = .ok (.int .i64 5) w := by kernel_rfl
theorem ix_3 (w : World) : (Instr.index 108 (.agg #[.int .i64 2, .int .i64 3, .int .i64 5, .int .i64 7]) (.int .i64 3)).run Tryz.prog w = .ok (.int .i64 7) w := by kernel_rfl
set_option maxHeartbeats 8000000 in
set_option maxRecDepth 100000 in
theorem IsPrime_any {w : World} (x : Int) (hx : x ≤ 1000) : Calls Tryz.prog 78 #[.int .i64 x] w (PrmR w x) := by
 by_cases hlo : x < 2
 ·have z1 : decide (x < 2) = true := decide_eq_true hlo
  have HP := Lib.hid (primeI_out (.inl hlo))
  go_enter Tryz.func78, Tryz.ntmps78
  go_wp2_with fail
  go_ret
  exact prmR_of HP.out
 ·by_cases hhi : 1000000000 < x
  ·have z1 : decide (x < 2) = false := decide_eq_false hlo
   have z2 : decide (1000000000 < x) = true := decide_eq_true hhi
   have HP := Lib.hid (primeI_out (.inr hhi))
   go_enter Tryz.func78, Tryz.ntmps78
   go_wp2_with fail
   go_ret
   exact prmR_of HP.out
  ·obtain ⟨n, rfl⟩ : ∃ n : Nat, x = n := ⟨x.toNat, by omega⟩
   have z1 : decide ((n : Int) < 2) = false := decide_eq_false hlo
   have z2 : decide (1000000000 < (n : Int)) = false := decide_eq_false hhi
   have h1 : 2 ≤ n := by omega
   have h2 : n ≤ 1000000000 := by omega
   have h1000 : n ≤ 1000 := by omega
   clear hlo hhi
   go_enter Tryz.func78, Tryz.ntmps78
   go_wp2_with fail
   have x0 := ix_0 w
   have x1 := ix_1 w
   have x2 := ix_2 w
   have x3 := ix_3 w
   clear z1 z2
   go_loop [12] (fun iv => ∃ k : Nat, k ≤ 4 ∧ iv = .int .i64 (k : Nat) ∧ Hid (∀ b ∈ [2, 3, 5, 7].take k, n ≠ b ∧ n % b ≠ 0 ∧ Pass b n)) (fun iv => 4 - (intOf iv).toNat)
   case atStart => exact ⟨0, by omega, rfl, Lib.hid (fun b hb => by simp at hb)⟩
   case round =>
   obtain ⟨k, hk, rfl, HI⟩ := hrel
   obtain rfl | rfl | rfl | rfl | rfl : k = 0 ∨ k = 1 ∨ k = 2 ∨ k = 3 ∨ k = 4 := by omega
   ·-- 2
    by_cases he : n = 2
    ·have z1 : ((n : Int) == 2) = true := by simp [he]
     have HP := Lib.hid (show primeI (n : Int) = true from primeI_true h1 h2 (by rw [he]; exact pr_2))
     clear he 
     go_wp2_with fail
     go_ret
     exact prmR_of HP.out
    ·have z1 : ((n : Int) == 2) = false := beq_eq_false_iff_ne.2 (by omega)
     by_cases hm : n % 2 = 0
     ·have z2 : ((n : Int) % 2 == 0) = true := by simp; omega
      have z3 : ((n : Int).tmod 2 == 0) = true := by rw [Int.tmod_eq_emod_of_nonneg (by omega)]; exact z2
      have HP := Lib.hid (show primeI (n : Int) = false from primeI_no (fun h => by rcases h.2 2 (Nat.dvd_of_mod_eq_zero hm) with e | e <;> omega))
      clear he hm 
      go_wp2_with fail
      go_ret
      exact prmR_of HP.out
     ·have z2 : ((n : Int) % 2 == 0) = false := beq_eq_false_iff_ne.2 (by omega)
      have z3 : ((n : Int).tmod 2 == 0) = false := beq_eq_false_iff_ne.2 (by rw [Int.tmod_eq_emod_of_nonneg (by omega)]; omega)
      have hna : 2 < n := by omega
      have HW := Lib.hid (fun w => @witness_any w 2 n (by omega) (by omega) h2 (by omega))
      have HNE := Lib.hid (And.intro he hm)
      clear he hm 
      go_wp2_with fail
      refine (HW.out _).mono ?_
      rintro en w' ⟨b, hb1, hb2, rfl, rfl⟩
      cases b
      ·have HN := Lib.hid (show ∀ b ∈ [2, 3, 5, 7].take 1, n ≠ b ∧ n % b ≠ 0 ∧ Pass b n from fun b hb => by
        have hb' : b ∈ [2, 3, 5, 7].take 0 ∨ b = 2 := by simp at hb ⊢; omega
        rcases hb' with hb' | rfl
        ·exact HI.out b hb'
        ·exact ⟨HNE.out.1, HNE.out.2, hb2 rfl⟩)
       clear hb1 hb2
       go_wp2_with fail
       go_round
       case rel => exact ⟨1, by omega, by go_num, HN⟩
       case measure => simp [intOf]
      ·have HP := Lib.hid (show primeI (n : Int) = false from primeI_no (fun h => hb1 rfl (pass_prime h (fun hd => by have := Nat.le_of_dvd (by omega) hd; omega))))
       clear hb1 hb2
       go_wp2_with fail
       go_ret
       exact prmR_of HP.out
   ·-- 3
    obtain ⟨p21, p22, p23⟩ := HI.out 2 (by simp)
    by_cases he : n = 3
    ·have z1 : ((n : Int) == 3) = true := by simp [he]
     have HP := Lib.hid (show primeI (n : Int) = true from primeI_true h1 h2 (by rw [he]; exact pr_3))
     clear he p21 p22 p23
     go_wp2_with fail
     go_ret
     exact prmR_of HP.out
    ·have z1 : ((n : Int) == 3) = false := beq_eq_false_iff_ne.2 (by omega)
     by_cases hm : n % 3 = 0
     ·have z2 : ((n : Int) % 3 == 0) = true := by simp; omega
      have z3 : ((n : Int).tmod 3 == 0) = true := by rw [Int.tmod_eq_emod_of_nonneg (by omega)]; exact z2
      have HP := Lib.hid (show primeI (n : Int) = false from primeI_no (fun h => by rcases h.2 3 (Nat.dvd_of_mod_eq_zero hm) with e | e <;> omega))
      clear he hm p21 p22 p23
      go_wp2_with fail
      go_ret
      exact prmR_of HP.out
     ·have z2 : ((n : Int) % 3 == 0) = false := beq_eq_false_iff_ne.2 (by omega)
      have z3 : ((n : Int).tmod 3 == 0) = false := beq_eq_false_iff_ne.2 (by rw [Int.tmod_eq_emod_of_nonneg (by omega)]; omega)
      have hna : 3 < n := by omega
      have HW := Lib.hid (fun w => @witness_any w 3 n (by omega) (by omega) h2 (by omega))
      have HNE := Lib.hid (And.intro he hm)
      clear he hm p21 p22 p23
      go_wp2_with fail
      refine (HW.out _).mono ?_
      rintro en w' ⟨b, hb1, hb2, rfl, rfl⟩
      cases b
      ·have HN := Lib.hid (show ∀ b ∈ [2, 3, 5, 7].take 2, n ≠ b ∧ n % b ≠ 0 ∧ Pass b n from fun b hb => by
        have hb' : b ∈ [2, 3, 5, 7].take 1 ∨ b = 3 := by simp at hb ⊢; omega
        rcases hb' with hb' | rfl
        ·exact HI.out b hb'
        ·exact ⟨HNE.out.1, HNE.out.2, hb2 rfl⟩)
       clear hb1 hb2
       go_wp2_with fail
       go_round
       case rel => exact ⟨2, by omega, by go_num, HN⟩
       case measure => simp [intOf]
      ·have HP := Lib.hid (show primeI (n : Int) = false from primeI_no (fun h => hb1 rfl (pass_prime h (fun hd => by have := Nat.le_of_dvd (by omega) hd; omega))))
       clear hb1 hb2
       go_wp2_with fail
       go_ret
       exact prmR_of HP.out
   ·-- 5
    obtain ⟨p21, p22, p23⟩ := HI.out 2 (by simp)
    obtain ⟨p31, p32, p33⟩ := HI.out 3 (by simp)
    by_cases he : n = 5
    ·have z1 : ((n : Int) == 5) = true := by simp [he]
     have HP := Lib.hid (show primeI (n : Int) = true from primeI_true h1 h2 (by rw [he]; exact pr_5))
     clear he p21 p22 p23 p31 p32 p33
     go_wp2_with fail
     go_ret
     exact prmR_of HP.out
    ·have z1 : ((n : Int) == 5) = false := beq_eq_false_iff_ne.2 (by omega)
     by_cases hm : n % 5 = 0
     ·have z2 : ((n : Int) % 5 == 0) = true := by simp; omega
      have z3 : ((n : Int).tmod 5 == 0) = true := by rw [Int.tmod_eq_emod_of_nonneg (by omega)]; exact z2
      have HP := Lib.hid (show primeI (n : Int) = false from primeI_no (fun h => by rcases h.2 5 (Nat.dvd_of_mod_eq_zero hm) with e | e <;> omega))
      clear he hm p21 p22 p23 p31 p32 p33
      go_wp2_with fail
      go_ret
      exact prmR_of HP.out
     ·have z2 : ((n : Int) % 5 == 0) = false := beq_eq_false_iff_ne.2 (by omega)
      have z3 : ((n : Int).tmod 5 == 0) = false := beq_eq_false_iff_ne.2 (by rw [Int.tmod_eq_emod_of_nonneg (by omega)]; omega)
      have hna : 5 < n := by omega
      have HW := Lib.hid (fun w => @witness_any w 5 n (by omega) (by omega) h2 (by omega))
      have HNE := Lib.hid (And.intro he hm)
      clear he hm p21 p22 p23 p31 p32 p33
      go_wp2_with fail
      refine (HW.out _).mono ?_
      rintro en w' ⟨b, hb1, hb2, rfl, rfl⟩
      cases b
      ·have HN := Lib.hid (show ∀ b ∈ [2, 3, 5, 7].take 3, n ≠ b ∧ n % b ≠ 0 ∧ Pass b n from fun b hb => by
        have hb' : b ∈ [2, 3, 5, 7].take 2 ∨ b = 5 := by simp at hb ⊢; omega
        rcases hb' with hb' | rfl
        ·exact HI.out b hb'
        ·exact ⟨HNE.out.1, HNE.out.2, hb2 rfl⟩)
       clear hb1 hb2
       go_wp2_with fail
       go_round
       case rel => exact ⟨3, by omega, by go_num, HN⟩
       case measure => simp [intOf]
      ·have HP := Lib.hid (show primeI (n : Int) = false from primeI_no (fun h => hb1 rfl (pass_prime h (fun hd => by have := Nat.le_of_dvd (by omega) hd; omega))))
       clear hb1 hb2
       go_wp2_with fail
       go_ret
       exact prmR_of HP.out
   ·-- 7
    obtain ⟨p21, p22, p23⟩ := HI.out 2 (by simp)
    obtain ⟨p31, p32, p33⟩ := HI.out 3 (by simp)
    obtain ⟨p51, p52, p53⟩ := HI.out 5 (by simp)
    by_cases he : n = 7
    ·have z1 : ((n : Int) == 7) = true := by simp [he]
     have HP := Lib.hid (show primeI (n : Int) = true from primeI_true h1 h2 (by rw [he]; exact pr_7))
     clear he p21 p22 p23 p31 p32 p33 p51 p52 p53
     go_wp2_with fail
     go_ret
     exact prmR_of HP.out
    ·have z1 : ((n : Int) == 7) = false := beq_eq_false_iff_ne.2 (by omega)
     by_cases hm : n % 7 = 0
     ·have z2 : ((n : Int) % 7 == 0) = true := by simp; omega
      have z3 : ((n : Int).tmod 7 == 0) = true := by rw [Int.tmod_eq_emod_of_nonneg (by omega)]; exact z2
      have HP := Lib.hid (show primeI (n : Int) = false from primeI_no (fun h => by rcases h.2 7 (Nat.dvd_of_mod_eq_zero hm) with e | e <;> omega))
      clear he hm p21 p22 p23 p31 p32 p33 p51 p52 p53
      go_wp2_with fail
      go_ret
      exact prmR_of HP.out
     ·have z2 : ((n : Int) % 7 == 0) = false := beq_eq_false_iff_ne.2 (by omega)
      have z3 : ((n : Int).tmod 7 == 0) = false := beq_eq_false_iff_ne.2 (by rw [Int.tmod_eq_emod_of_nonneg (by omega)]; omega)
      have hna : 7 < n := by omega
      have HW := Lib.hid (fun w => @witness_any w 7 n (by omega) (by omega) h2 (by omega))
      have HNE := Lib.hid (And.intro he hm)
      clear he hm p21 p22 p23 p31 p32 p33 p51 p52 p53
      go_wp2_with fail
      refine (HW.out _).mono ?_
      rintro en w' ⟨b, hb1, hb2, rfl, rfl⟩
      cases b
      ·have HN := Lib.hid (show ∀ b ∈ [2, 3, 5, 7].take 4, n ≠ b ∧ n % b ≠ 0 ∧ Pass b n from fun b hb => by
        have hb' : b ∈ [2, 3, 5, 7].take 3 ∨ b = 7 := by simp at hb ⊢; omega
        rcases hb' with hb' | rfl
        ·exact HI.out b hb'
        ·exact ⟨HNE.out.1, HNE.out.2, hb2 rfl⟩)
       clear hb1 hb2
       go_wp2_with fail
       go_round
       case rel => exact ⟨4, by omega, by go_num, HN⟩
       case measure => simp [intOf]
      ·have HP := Lib.hid (show primeI (n : Int) = false from primeI_no (fun h => hb1 rfl (pass_prime h (fun hd => by have := Nat.le_of_dvd (by omega) hd; omega))))
       clear hb1 hb2
       go_wp2_with fail
       go_ret
       exact prmR_of HP.out
   ·have HP := Lib.hid (show primeI (n : Int) = true from by
     obtain ⟨a1, a2, a3⟩ := HI.out 2 (by simp)
     obtain ⟨b1, b2, b3⟩ := HI.out 3 (by simp)
     obtain ⟨c1, c2, c3⟩ := HI.out 5 (by simp)
     obtain ⟨d1, d2, d3⟩ := HI.out 7 (by simp)
     exact primeI_true h1 h2 (pr_of_thru1 (by omega) h1000 ⟨a2, b2, c2, d2, a3, b3, c3, d3⟩))
    go_wp2_with fail
    go_ret
    exact prmR_of HP.out
end Go.Proofs.YtdjpeimecfhdjaaGreat
