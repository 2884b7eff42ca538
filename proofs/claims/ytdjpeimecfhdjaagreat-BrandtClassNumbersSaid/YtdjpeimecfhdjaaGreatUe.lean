/- (pruned) -/
import Derived.Test.YtdjpeimecfhdjaaGreatUd
import Derived.Test.YtdjpeimecfhdjaaGreatUo
import Derived.Test.YtdjpeimecfhdjaaGreatUb
namespace Go.Proofs.YtdjpeimecfhdjaaGreat
open Go.RowKit
theorem bMod_any {a : Int} {n : Nat} {w : World} (hn : 0 < n) (hn2 : n ≤ 1000000000000000000) :
  Calls Tryz.prog 137 #[.int .i64 a, .int .i64 n] w fun e w' => e = .returned (.int .i64 (a % (n : Int))) ∧ Below w.heap.size w w' := by
 have hr0 := Int.emod_nonneg a (show (n : Int) ≠ 0 by omega)
 have hr1 := Int.emod_lt_of_pos a (show (0 : Int) < (n : Int) by omega)
 have d0 : ((n : Int) == 0) = false := by rw [beq_eq_false_iff_ne]; omega
 have d1 : ((n : Int) == -1) = false := by rw [beq_eq_false_iff_ne]; omega
 have dn0 : ¬ (n : Int) = 0 := by omega
 obtain ⟨r, hr⟩ : ∃ r, r = a.tmod (n : Int) := ⟨_, rfl⟩
 have hrb : -(n : Int) < r ∧ r < n ∧ ((r < 0 ∧ r + n = a % (n : Int)) ∨ (¬ r < 0 ∧ r = a % (n : Int))) := by
  have h1 := Int.tmod_eq_emod (a := a) (b := (n : Int))
  rw [hr, h1]
  split <;> omega
 go_enter Tryz.func137, Tryz.ntmps137
 rcases hrb with ⟨h1, h2, ⟨h3, h4⟩ | ⟨h3, h4⟩⟩
 ·go_wp2_with fail
  rw [← hr]
  go_wp2_with fail
  go_ret
  refine ⟨?_, Below.refl _ _⟩
  first
   | rfl
   | (rw [h4]; rfl)
 ·go_wp2_with fail
  rw [← hr]
  go_wp2_with fail
  go_ret
  refine ⟨?_, Below.refl _ _⟩
  first
   | rfl
   | (rw [h4]; rfl)
theorem rMod_any {a : Int} {n : Nat} {w : World} (hn : 0 < n) (hn2 : n ≤ 1000000000000000000) :
  Calls Tryz.prog 278 #[.int .i64 a, .int .i64 n] w fun e w' => e = .returned (.int .i64 (a % (n : Int))) ∧ Below w.heap.size w w' := by
 have hr0 := Int.emod_nonneg a (show (n : Int) ≠ 0 by omega)
 have hr1 := Int.emod_lt_of_pos a (show (0 : Int) < (n : Int) by omega)
 have d0 : ((n : Int) == 0) = false := by rw [beq_eq_false_iff_ne]; omega
 have d1 : ((n : Int) == -1) = false := by rw [beq_eq_false_iff_ne]; omega
 have dn0 : ¬ (n : Int) = 0 := by omega
 obtain ⟨r, hr⟩ : ∃ r, r = a.tmod (n : Int) := ⟨_, rfl⟩
 have hrb : -(n : Int) < r ∧ r < n ∧ ((r < 0 ∧ r + n = a % (n : Int)) ∨ (¬ r < 0 ∧ r = a % (n : Int))) := by
  have h1 := Int.tmod_eq_emod (a := a) (b := (n : Int))
  rw [hr, h1]
  split <;> omega
 go_enter Tryz.func278, Tryz.ntmps278
 rcases hrb with ⟨h1, h2, ⟨h3, h4⟩ | ⟨h3, h4⟩⟩
 ·go_wp2_with fail
  rw [← hr]
  go_wp2_with fail
  go_ret
  refine ⟨?_, Below.refl _ _⟩
  first
   | rfl
   | (rw [h4]; rfl)
 ·go_wp2_with fail
  rw [← hr]
  go_wp2_with fail
  go_ret
  refine ⟨?_, Below.refl _ _⟩
  first
   | rfl
   | (rw [h4]; rfl)
set_option maxHeartbeats 4000000 in
set_option maxRecDepth 100000 in
theorem rPower_any {w : World} {ai : Int} {a e m : Nat} (hm : 0 < m) (hm2 : m ≤ 1000000000) (hai : ai % (m : Int) = (a : Int)) (he : e ≤ 1000000000) : Calls Tryz.prog 260 #[.int .i64 ai, .int .i64 (e : Nat), .int .i64 (m : Nat)] w fun en w' => en = .returned (.int .i64 ((a ^ e % m : Nat) : Int)) ∧ Below w.heap.size w w' := by
 have h9 : ((m : Int) == 0) = false := beq_eq_false_iff_ne.2 (by omega)
 have h8 : ¬ ((m : Int) = 0) := by omega
 have h7 : ¬ (m = 0) := by omega
 obtain ⟨o0, ho0⟩ : ∃ r, r = 1 % m := ⟨_, rfl⟩
 have hmod : (1 : Int).tmod (m : Int) = (o0 : Int) := by rw [ho0]; rfl
 have hmod2 : (1 : Int) % (m : Int) = (o0 : Int) := by rw [ho0]; rfl
 have HO0 := Lib.hid ho0
 clear ho0
 go_enter Tryz.func260, Tryz.ntmps260
 have HM1 := Lib.hid (fun w => @rMod_any 1 m w hm (by omega))
 have HM2 := Lib.hid (fun w => @rMod_any ai m w hm (by omega))
 rw [hai] at HM2
 have ham : a < m := by have h1 := Int.emod_lt_of_pos ai (show (0 : Int) < (m : Int) by omega); omega
 go_wp2_with (first | (go_at_call 278; (with_reducible refine (HM1.out _).mono ?_); rintro en w1 ⟨rfl, hb1⟩) | (go_at_call 278; (with_reducible refine (HM2.out _).mono ?_); rintro en w2 ⟨rfl, hb2⟩))
 go_loop [0, 1, 7] (fun xv kv ov => ∃ x k o : Nat, xv = .int .i64 (x : Nat) ∧ kv = .int .i64 (k : Nat) ∧ ov = .int .i64 (o : Nat) ∧ x ≤ m ∧ o < m ∧ k ≤ e ∧ Hid ((o * x ^ k) % m = a ^ e % m)) (fun _ kv _ => (intOf kv).toNat)
 case atStart => exact ⟨a, e, o0, rfl, rfl, rfl, Nat.le_of_lt ham, by rw [HO0.out]; exact Nat.mod_lt _ hm, Nat.le_refl _, Lib.hid (by rw [HO0.out, Nat.mul_mod, Nat.mod_mod, ← Nat.mul_mod, Nat.one_mul])⟩
 case round =>
  clear hmod hmod2 HO0
  obtain ⟨x, k, o, rfl, rfl, rfl, hx, ho, hk, HI⟩ := hrel
  by_cases hk0 : 0 < k
  ·have z0 : decide ((0 : Int) < (k : Int)) = true := decide_eq_true (by omega)
   have hP := Nat.mul_le_mul (Nat.le_trans hx hm2) (Nat.le_trans hx hm2)
   have hQ := Nat.mul_le_mul (Nat.le_trans (Nat.le_of_lt ho) hm2) (Nat.le_trans hx hm2)
   obtain ⟨P, hPe⟩ : ∃ P, P = x * x := ⟨_, rfl⟩
   obtain ⟨Q, hQe⟩ : ∃ Q, Q = o * x := ⟨_, rfl⟩
   obtain ⟨x', hx'⟩ : ∃ y, y = P % m := ⟨_, rfl⟩
   obtain ⟨o', ho'⟩ : ∃ y, y = Q % m := ⟨_, rfl⟩
   obtain ⟨k', hk'⟩ : ∃ y, y = k / 2 := ⟨_, rfl⟩
   rw [← hPe] at hP
   rw [← hQe] at hQ
   have e1 : IntKind.i64.wrap ((x : Int) * (x : Int)) = (P : Int) := by rw [← Int.natCast_mul, ← hPe]; exact IntWalk.i64_in _ (by omega)
   have e2 : IntKind.i64.wrap ((o : Int) * (x : Int)) = (Q : Int) := by rw [← Int.natCast_mul, ← hQe]; exact IntWalk.i64_in _ (by omega)
   have e3 : (x : Int) * (x : Int) = (P : Int) := by rw [hPe, Int.natCast_mul]
   have e4 : (o : Int) * (x : Int) = (Q : Int) := by rw [hQe, Int.natCast_mul]
   have m1 : (P : Int).tmod (m : Int) = (x' : Int) := by rw [hx']; rfl
   have m2 : (P : Int) % (m : Int) = (x' : Int) := by rw [hx']; rfl
   have m3 : (Q : Int).tmod (m : Int) = (o' : Int) := by rw [ho']; rfl
   have m4 : (Q : Int) % (m : Int) = (o' : Int) := by rw [ho']; rfl
   have m5 : (k : Int).tdiv 2 = (k' : Int) := by rw [hk']; rfl
   have m6 : (k : Int) / 2 = (k' : Int) := by rw [hk']; rfl
   have hx2 : x' ≤ m := by rw [hx']; exact Nat.le_of_lt (Nat.mod_lt _ hm)
   have ho2 : o' < m := by rw [ho']; exact Nat.mod_lt _ hm
   have hkk : k' < k := by omega
   by_cases hodd : k % 2 = 1
   ·have z1 : ((k : Int) % 2 == 1) = true := by simp; omega
    have z2 : ((k : Int).tmod 2 == 1) = true := by simp [Int.tmod_eq_emod_of_nonneg]; omega
    have HN := Lib.hid (show (o' * x' ^ k') % m = a ^ e % m by rw [← HI.out, half_pow o x k m hodd, ho', hx', hk', hQe, hPe])
    clear hPe hQe hx' ho' hk' hodd
    go_wp2_with fail
    go_round
    case rel => exact ⟨x', k', o', rfl, rfl, rfl, hx2, ho2, by omega, HN⟩
    case measure => simp [intOf]; omega
   ·have z1 : ((k : Int) % 2 == 1) = false := beq_eq_false_iff_ne.2 (by omega)
    have z2 : ((k : Int).tmod 2 == 1) = false := beq_eq_false_iff_ne.2 (by rw [Int.tmod_eq_emod_of_nonneg (by omega)]; omega)
    have HN := Lib.hid (show (o * x' ^ k') % m = a ^ e % m by rw [← HI.out, half_pow2 o x k m hodd, hx', hk', hPe])
    clear hPe hQe hx' ho' hk' hodd
    go_wp2_with fail
    go_round
    case rel => exact ⟨x', k', o, rfl, rfl, rfl, hx2, ho, by omega, HN⟩
    case measure => simp [intOf]; omega
  ·obtain rfl : k = 0 := by omega
   have HN := Lib.hid (show o = a ^ e % m by rw [← HI.out, Nat.pow_zero, Nat.mul_one, Nat.mod_eq_of_lt ho])
   go_wp2_with fail
   go_ret
   exact ⟨congrArg (fun z : Nat => Ending.returned (.int .i64 (z : Int))) HN.out, hb1.trans (hb2.mono hb1.size)⟩
set_option maxHeartbeats 8000000 in
set_option maxRecDepth 100000 in
theorem rIsPrime_any {w : World} (x : Int) : Calls Tryz.prog 26 #[.int .i64 x] w (PrmR w x) := by
 by_cases hlo : x < 2
 ·have z1 : decide (x < 2) = true := decide_eq_true hlo
  have HP := Lib.hid (primeI_out (.inl hlo))
  go_enter Tryz.func26, Tryz.ntmps26
  go_wp2_with fail
  go_ret
  exact prmR_of HP.out
 ·by_cases hhi : 1000000000 < x
  ·have z1 : decide (x < 2) = false := decide_eq_false hlo
   have z2 : decide (1000000000 < x) = true := decide_eq_true hhi
   have HP := Lib.hid (primeI_out (.inr hhi))
   go_enter Tryz.func26, Tryz.ntmps26
   go_wp2_with fail
   go_ret
   exact prmR_of HP.out
  ·obtain ⟨n, rfl⟩ : ∃ n : Nat, x = n := ⟨x.toNat, by omega⟩
   have z1 : decide ((n : Int) < 2) = false := decide_eq_false hlo
   have z2 : decide (1000000000 < (n : Int)) = false := decide_eq_false hhi
   have h1 : 2 ≤ n := by omega
   have h2 : n ≤ 1000000000 := by omega
   clear hlo hhi
   go_enter Tryz.func26, Tryz.ntmps26
   go_wp2_with fail
   clear z1 z2
   go_loop [3] (fun iv => ∃ d : Nat, 2 ≤ d ∧ d ≤ 40000 ∧ iv = .int .i64 (d : Nat) ∧ Hid (∀ j, 2 ≤ j → j < d → n % j ≠ 0)) (fun iv => 40001 - (intOf iv).toNat)
   case atStart => exact ⟨2, by omega, by omega, rfl, Lib.hid (fun j hj1 hj2 => by omega)⟩
   case round =>
   obtain ⟨d, hd, hd2, rfl, HI⟩ := hrel
   have hdd : d * d ≤ 1600000000 := Nat.mul_le_mul hd2 hd2
   have e1 : ((d * d : Nat) : Int) = (d : Int) * (d : Int) := Int.natCast_mul d d
   have b1 : (0 : Int) ≤ (d : Int) * (d : Int) := by omega
   have b2 : (d : Int) * (d : Int) ≤ 1600000000 := by omega
   have d0 : (2 : Int) ≤ (d : Int) := by omega
   have d1 : (d : Int) ≤ 40000 := by omega
   by_cases hle : d * d ≤ n
   ·have hd3 : d ≤ 31700 := Nat.not_lt.1 fun h => by
     have := Nat.mul_le_mul (show 31701 ≤ d by omega) (show 31701 ≤ d by omega)
     omega
    have z1 : decide ((d : Int) * (d : Int) ≤ (n : Int)) = true := decide_eq_true (by omega)
    by_cases hm : n % d = 0
    ·have z2 : ((n : Int).tmod (d : Int) == 0) = true := by
      rw [Int.tmod_eq_emod_of_nonneg (by omega)]
      have : ((n % d : Nat) : Int) = (n : Int) % (d : Int) := Int.natCast_emod n d
      rw [← this, hm]
      rfl
     have z3 : ((n : Int) % (d : Int) == 0) = true := by rw [← Int.tmod_eq_emod_of_nonneg (by omega)]; exact z2
     have HP := Lib.hid (show primeI (n : Int) = false from primeI_no (fun h => by
      rcases h.2 d (Nat.dvd_of_mod_eq_zero hm) with e | e
      ·omega
      ·subst e
       have := Nat.mul_le_mul_right d hd
       omega))
     clear e1 hle hm
     go_wp2_with fail
     go_ret
     exact prmR_of HP.out
    ·have z2 : ((n : Int).tmod (d : Int) == 0) = false := by
      rw [Int.tmod_eq_emod_of_nonneg (by omega)]
      have : ((n % d : Nat) : Int) = (n : Int) % (d : Int) := Int.natCast_emod n d
      rw [← this]
      exact beq_eq_false_iff_ne.2 (by omega)
     have z3 : ((n : Int) % (d : Int) == 0) = false := by rw [← Int.tmod_eq_emod_of_nonneg (by omega)]; exact z2
     have HI' := Lib.hid (show ∀ j, 2 ≤ j → j < d + 1 → n % j ≠ 0 from fun j hj1 hj2 => by
      rcases Nat.lt_or_ge j d with h | h
      ·exact HI.out j hj1 h
      ·obtain rfl : j = d := by omega
       exact hm)
     clear e1 hle hm
     go_wp2_with fail
     go_round
     case rel => exact ⟨d + 1, by omega, by omega, by go_num, HI'⟩
     case measure => simp [intOf]; omega
   ·have z1 : decide ((d : Int) * (d : Int) ≤ (n : Int)) = false := decide_eq_false (by omega)
    have HP := Lib.hid (show primeI (n : Int) = true from primeI_true h1 h2 (pr_trial h1 fun j hj1 hj2 => HI.out j hj1 (Nat.lt_of_not_le fun h => by
     have := Nat.mul_le_mul h h
     omega)))
    clear e1 hle
    go_wp2_with fail
    go_ret
    exact prmR_of HP.out
theorem legendreR_any {d p : Nat} {w : World} (hp : 2 < p) (hp2 : p ≤ 1000) : Calls Tryz.prog 238 #[.int .i64 (-(d : Int)), .int .i64 p] w fun e w' => e = .returned (.int .i64 (euN (ngQ d p) p)) ∧ Below w.heap.size w w' := by
 have hm : (-(d : Int)) % (p : Int) = ((ngQ d p : Nat) : Int) := by
  rw [← ngQ_eq (by omega)]
  have := Int.emod_nonneg (-(d : Int)) (show (p : Int) ≠ 0 by omega)
  omega
 have HP := Lib.hid (fun w => @rPower_any w (-(d : Int)) (ngQ d p) ((p - 1) / 2) p (by omega) (by omega) hm (by omega))
 have HE := Lib.hid (show euN (ngQ d p) p = if (ngQ d p) ^ ((p - 1) / 2) % p = 0 then 0 else if (ngQ d p) ^ ((p - 1) / 2) % p = 1 then 1 else -1 from rfl)
 generalize (ngQ d p) ^ ((p - 1) / 2) % p = r at *
 generalize euN (ngQ d p) p = u at *
 have HH := Lib.hid (show ((p : Int) - 1) / 2 = (((p - 1) / 2 : Nat) : Int) by omega)
 have HW := Lib.hid (show wrap64 ((p : Int) - 1) = (p : Int) - 1 by unfold wrap64; omega)
 have HW2 := Lib.hid (show wrap64 ((((p - 1) / 2 : Nat) : Int)) = (((p - 1) / 2 : Nat) : Int) by unfold wrap64; omega)
 clear hm
 rcases Nat.eq_zero_or_pos r with rfl | h0
 ·have HU : Hid (u = 0) := Lib.hid (by rw [HE.out, if_pos rfl])
  clear HE
  go_enter Tryz.func238, Tryz.ntmps238
  go_wp2_with (go_at_call 260; (try rw [HH.out]); (try rw [HW2.out]); go_must (refine (HP.out _).mono ?_); rintro e w1 ⟨rfl, hb1⟩)
  go_ret
  exact ⟨by rw [HU.out]; rfl, hb1⟩
 ·have n0 : ((r : Int) == 0) = false := by rw [beq_eq_false_iff_ne]; omega
  have n0' : ¬ (r : Int) = 0 := by omega
  by_cases h1 : r = 1
  ·subst h1
   have HU : Hid (u = 1) := Lib.hid (by rw [HE.out, if_neg (by omega), if_pos rfl])
   clear HE
   go_enter Tryz.func238, Tryz.ntmps238
   go_wp2_with (go_at_call 260; (try rw [HH.out]); (try rw [HW2.out]); go_must (refine (HP.out _).mono ?_); rintro e w1 ⟨rfl, hb1⟩)
   go_ret
   exact ⟨by rw [HU.out]; rfl, hb1⟩
  ·have HU : Hid (u = -1) := Lib.hid (by rw [HE.out, if_neg (by omega), if_neg h1])
   have n1 : ((r : Int) == 1) = false := by rw [beq_eq_false_iff_ne]; omega
   have n1' : ¬ (r : Int) = 1 := by omega
   clear HE
   go_enter Tryz.func238, Tryz.ntmps238
   go_wp2_with (go_at_call 260; (try rw [HH.out]); (try rw [HW2.out]); go_must (refine (HP.out _).mono ?_); rintro e w1 ⟨rfl, hb1⟩)
   go_ret
   exact ⟨by rw [HU.out]; rfl, hb1⟩
theorem LegendreR_any {d p : Nat} {w : World} (hp : 2 < p) (hp2 : p ≤ 1000) (hpr : Pr p) : Calls Tryz.prog 198 #[.int .i64 (-(d : Int)), .int .i64 p] w fun e w' => e = .returned (.tuple #[.int .i64 (euN (ngQ d p) p), .int .i64 0]) ∧ Below w.heap.size w w' := by
 have HL := Lib.hid (fun w => @legendreR_any d p w hp hp2)
 have HP := Lib.hid (fun w : World => @rIsPrime_any w (p : Int))
 have HT := Lib.hid (primeI_true (by omega) (by omega) hpr)
 have n2 : ((p : Int) == 2) = false := by rw [beq_eq_false_iff_ne]; omega
 have n2' : ¬ (p : Int) = 2 := by omega
 clear hpr
 go_enter Tryz.func198, Tryz.ntmps198
 go_wp2_with (first | (go_at_call 26; go_must (refine (HP.out _).mono ?_); rintro e w0 ⟨rfl, rfl⟩; rw [HT.out]) | (go_at_call 238; go_must (refine (HL.out _).mono ?_); rintro e w1 ⟨rfl, hb1⟩))
 go_ret2
 exact ⟨rfl, hb1⟩
theorem kronR_any {d p : Nat} {w : World} (hp : 2 ≤ p) (hp2 : p ≤ 1000) (hpr : Pr p) (hd : d ≤ 240) (h4 : d % 4 ≠ 1 ∧ d % 4 ≠ 2) : Calls Tryz.prog 138 #[.int .i64 (-(d : Int)), .int .i64 p] w fun e w' => e = .returned (.int .i64 (symP d p)) ∧ Below w.heap.size w w' := by
 rcases Nat.lt_or_ge 2 p with h | h
 ·have HL := Lib.hid (fun w => @LegendreR_any d p w h hp2 hpr)
  have HE := Lib.hid (show symP d p = euN (ngQ d p) p by unfold symP; rw [if_pos h]; exact eu_jc hpr h hp2 hd h4)
  have n2 : ((p : Int) == 2) = false := by rw [beq_eq_false_iff_ne]; omega
  have n2' : ¬ (p : Int) = 2 := by omega
  clear hpr h4
  go_enter Tryz.func138, Tryz.ntmps138
  go_wp2_with (go_at_call 198; go_must (refine (HL.out _).mono ?_); rintro e w1 ⟨rfl, hb1⟩)
  go_ret
  exact ⟨by rw [HE.out]; rfl, hb1⟩
 ·obtain rfl : p = 2 := by omega
  have HM := Lib.hid (fun w => @bMod_any (-(d : Int)) 8 w (by omega) (by omega))
  by_cases he : d % 2 = 0
  ·have HE := Lib.hid (show symP d 2 = 0 by unfold symP; rw [if_neg (by omega), if_neg (by omega), if_neg (by omega)])
   have t1 : ((-(d : Int)).tmod 2 == 0) = true := by rw [beq_iff_eq, Int.tmod_eq_zero_of_dvd (by omega)]
   have t2 : ((-(d : Int)) % 2 == 0) = true := by rw [beq_iff_eq]; omega
   have t3 : (-(d : Int)).tmod 2 = 0 := by rw [Int.tmod_eq_zero_of_dvd (by omega)]
   have t4 : (-((d : Int) % 2) == 0) = true := by rw [beq_iff_eq]; omega
   clear he hpr h4
   go_enter Tryz.func138, Tryz.ntmps138
   go_wp2_with fail
   go_ret
   exact ⟨by rw [HE.out]; rfl, Below.refl _ _⟩
  ·have hne : (-(d : Int)).tmod 2 ≠ 0 := fun h => by have := Int.dvd_of_tmod_eq_zero h; omega
   have t1 : ((-(d : Int)).tmod 2 == 0) = false := by rw [beq_eq_false_iff_ne]; exact hne
   have t4 : (-((d : Int) % 2) == 0) = false := by rw [beq_eq_false_iff_ne]; omega
   have t5 : ¬ -((d : Int) % 2) = 0 := by omega
   by_cases h7 : d % 8 = 7
   ·have HE := Lib.hid (show symP d 2 = 1 by unfold symP; rw [if_neg (by omega), if_pos h7])
    have HX := Lib.hid (show (-(d : Int)) % ((8 : Nat) : Int) = 1 by omega)
    have HM2 := Lib.hid (fun w => (by have := HM.out w; rw [HX.out] at this; exact this))
    clear he hpr h4 h7 HM
    go_enter Tryz.func138, Tryz.ntmps138
    go_wp2_with (go_at_call 137; go_must (refine (HM2.out _).mono ?_); rintro e w1 ⟨rfl, hb1⟩)
    go_ret
    exact ⟨by rw [HE.out]; rfl, hb1⟩
   ·have HE := Lib.hid (show symP d 2 = -1 by unfold symP; rw [if_neg (by omega), if_neg h7, if_pos (by omega)])
    have HX := Lib.hid (show (-(d : Int)) % ((8 : Nat) : Int) = 5 by omega)
    have HM2 := Lib.hid (fun w => (by have := HM.out w; rw [HX.out] at this; exact this))
    clear he hpr h4 h7 HM
    go_enter Tryz.func138, Tryz.ntmps138
    go_wp2_with (go_at_call 137; go_must (refine (HM2.out _).mono ?_); rintro e w1 ⟨rfl, hb1⟩)
    go_ret
    exact ⟨by rw [HE.out]; rfl, hb1⟩
end Go.Proofs.YtdjpeimecfhdjaaGreat
