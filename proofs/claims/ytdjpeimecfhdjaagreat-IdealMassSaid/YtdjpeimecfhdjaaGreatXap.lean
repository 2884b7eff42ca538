/- Plain: the symbol of a discriminant by Euler's test is the one by reciprocity (a table). Package integer: jacobi, Legendre. Package brandt: conductor, symbol, classes. Package integer: Legendre. Package brandt: conductor, symbol, classes. The references' Mod, power, legendre, IsPrime, Legendre, kronecker. Package brandt: classes. The reference's twelfths. Package brandt: local, Trace, ClassNumber. The reference's Lowest, ClassNumber; ClassNumber. The references' Squarefree, CheckLevels, Lowest, Mass. -/
import Derived.Test.YtdjpeimecfhdjaaGreatXal
import Derived.Test.YtdjpeimecfhdjaaGreatXac
import Derived.Test.YtdjpeimecfhdjaaGreatXao
namespace Go.Proofs.YtdjpeimecfhdjaaGreat
end Go.Proofs.YtdjpeimecfhdjaaGreat

namespace Go.Proofs.YtdjpeimecfhdjaaGreat
open Go.RowKit
end Go.Proofs.YtdjpeimecfhdjaaGreat

namespace Go.Proofs.YtdjpeimecfhdjaaGreat
open Go.RowKit
end Go.Proofs.YtdjpeimecfhdjaaGreat

namespace Go.Proofs.YtdjpeimecfhdjaaGreat
open Go.RowKit
set_option maxHeartbeats 8000000 in
set_option maxRecDepth 100000 in
theorem rIsPrime_any {w : World} (x : Int) : Calls Tryz.prog 26 #[.int .i64 x] w (PrmR w x) := by
 by_cases hlo : x < 2
 ·have z1 : decide (x < 2) = true := decide_eq_true hlo
  have HP := Lib.hid (primeI_out (.inl hlo))
  go_enter Tryz.func26, Tryz.ntmps26
  go_wp2_with fail
  go_ret
  exact prmR_of HP.out
 ·by_cases hhi : 1000000000 < x
  ·have z1 : decide (x < 2) = false := decide_eq_false hlo
   have z2 : decide (1000000000 < x) = true := decide_eq_true hhi
   have HP := Lib.hid (primeI_out (.inr hhi))
   go_enter Tryz.func26, Tryz.ntmps26
   go_wp2_with fail
   go_ret
   exact prmR_of HP.out
  ·obtain ⟨n, rfl⟩ : ∃ n : Nat, x = n := ⟨x.toNat, by omega⟩
   have z1 : decide ((n : Int) < 2) = false := decide_eq_false hlo
   have z2 : decide (1000000000 < (n : Int)) = false := decide_eq_false hhi
   have h1 : 2 ≤ n := by omega
   have h2 : n ≤ 1000000000 := by omega
   clear hlo hhi
   go_enter Tryz.func26, Tryz.ntmps26
   go_wp2_with fail
   clear z1 z2
   go_loop [3] (fun iv => ∃ d : Nat, 2 ≤ d ∧ d ≤ 40000 ∧ iv = .int .i64 (d : Nat) ∧ Hid (∀ j, 2 ≤ j → j < d → n % j ≠ 0)) (fun iv => 40001 - (intOf iv).toNat)
   case atStart => exact ⟨2, by omega, by omega, rfl, Lib.hid (fun j hj1 hj2 => by omega)⟩
   case round =>
   obtain ⟨d, hd, hd2, rfl, HI⟩ := hrel
   have hdd : d * d ≤ 1600000000 := Nat.mul_le_mul hd2 hd2
   have e1 : ((d * d : Nat) : Int) = (d : Int) * (d : Int) := Int.natCast_mul d d
   have b1 : (0 : Int) ≤ (d : Int) * (d : Int) := by omega
   have b2 : (d : Int) * (d : Int) ≤ 1600000000 := by omega
   have d0 : (2 : Int) ≤ (d : Int) := by omega
   have d1 : (d : Int) ≤ 40000 := by omega
   by_cases hle : d * d ≤ n
   ·have hd3 : d ≤ 31700 := Nat.not_lt.1 fun h => by
     have := Nat.mul_le_mul (show 31701 ≤ d by omega) (show 31701 ≤ d by omega)
     omega
    have z1 : decide ((d : Int) * (d : Int) ≤ (n : Int)) = true := decide_eq_true (by omega)
    by_cases hm : n % d = 0
    ·have z2 : ((n : Int).tmod (d : Int) == 0) = true := by
      rw [Int.tmod_eq_emod_of_nonneg (by omega)]
      have : ((n % d : Nat) : Int) = (n : Int) % (d : Int) := Int.natCast_emod n d
      rw [← this, hm]
      rfl
     have z3 : ((n : Int) % (d : Int) == 0) = true := by rw [← Int.tmod_eq_emod_of_nonneg (by omega)]; exact z2
     have HP := Lib.hid (show primeI (n : Int) = false from primeI_no (fun h => by
      rcases h.2 d (Nat.dvd_of_mod_eq_zero hm) with e | e
      ·omega
      ·subst e
       have := Nat.mul_le_mul_right d hd
       omega))
     clear e1 hle hm
     go_wp2_with fail
     go_ret
     exact prmR_of HP.out
    ·have z2 : ((n : Int).tmod (d : Int) == 0) = false := by
      rw [Int.tmod_eq_emod_of_nonneg (by omega)]
      have : ((n % d : Nat) : Int) = (n : Int) % (d : Int) := Int.natCast_emod n d
      rw [← this]
      exact beq_eq_false_iff_ne.2 (by omega)
     have z3 : ((n : Int) % (d : Int) == 0) = false := by rw [← Int.tmod_eq_emod_of_nonneg (by omega)]; exact z2
     have HI' := Lib.hid (show ∀ j, 2 ≤ j → j < d + 1 → n % j ≠ 0 from fun j hj1 hj2 => by
      rcases Nat.lt_or_ge j d with h | h
      ·exact HI.out j hj1 h
      ·obtain rfl : j = d := by omega
       exact hm)
     clear e1 hle hm
     go_wp2_with fail
     go_round
     case rel => exact ⟨d + 1, by omega, by omega, by go_num, HI'⟩
     case measure => simp [intOf]; omega
   ·have z1 : decide ((d : Int) * (d : Int) ≤ (n : Int)) = false := decide_eq_false (by omega)
    have HP := Lib.hid (show primeI (n : Int) = true from primeI_true h1 h2 (pr_trial h1 fun j hj1 hj2 => HI.out j hj1 (Nat.lt_of_not_le fun h => by
     have := Nat.mul_le_mul h h
     omega)))
    clear e1 hle
    go_wp2_with fail
    go_ret
    exact prmR_of HP.out
end Go.Proofs.YtdjpeimecfhdjaaGreat

namespace Go.Proofs.YtdjpeimecfhdjaaGreat
open Go.RowKit
end Go.Proofs.YtdjpeimecfhdjaaGreat

namespace Go.Proofs.YtdjpeimecfhdjaaGreat
open Go.RowKit
end Go.Proofs.YtdjpeimecfhdjaaGreat

namespace Go.Proofs.YtdjpeimecfhdjaaGreat
open Go.RowKit
end Go.Proofs.YtdjpeimecfhdjaaGreat

namespace Go.Proofs.YtdjpeimecfhdjaaGreat
open Go.RowKit
end Go.Proofs.YtdjpeimecfhdjaaGreat

namespace Go.Proofs.YtdjpeimecfhdjaaGreat
open Go.RowKit
set_option maxHeartbeats 4000000 in
set_option maxRecDepth 100000 in
theorem rSqf_any {w : World} {n : Nat} (hn : n ≤ 2000) : Calls Tryz.prog 111 #[.int .i64 n] w fun e w' => e = .returned (.bool (sqN n)) ∧ w = w' := by
 have HI9 := Lib.hid (sqN_iff hn)
 have hn2 : (n : Int) ≤ 2000 := by omega
 clear hn
 go_enter Tryz.func111, Tryz.ntmps111
 go_wp2_with fail
 go_loop [3] (fun iv => ∃ d : Nat, 2 ≤ d ∧ d ≤ 50 ∧ iv = .int .i64 (d : Nat) ∧ Hid (∀ j, 2 ≤ j → j < d → n % (j * j) ≠ 0)) (fun iv => 51 - (intOf iv).toNat)
 case atStart => exact ⟨2, by omega, by omega, rfl, Lib.hid (fun j hj1 hj2 => by omega)⟩
 case round =>
 obtain ⟨d, hd, hd2, rfl, HI⟩ := hrel
 obtain ⟨q, hq⟩ : ∃ q, q = d * d := ⟨_, rfl⟩
 have hq1 : 4 ≤ q := by rw [hq]; exact Nat.mul_le_mul hd hd
 have hq2 : q ≤ 2500 := by rw [hq]; exact Nat.mul_le_mul hd2 hd2
 have e1 : (d : Int) * (d : Int) = (q : Int) := by rw [hq, Int.natCast_mul]
 have HQ := Lib.hid hq
 clear hq
 by_cases hle : q ≤ n
 ·have hd3 : d ≤ 45 := Nat.not_lt.1 fun h => by
   have := Nat.mul_le_mul (show 46 ≤ d by omega) (show 46 ≤ d by omega)
   have := HQ.out
   omega
  have hmod : ((n % q : Nat) : Int) = (n : Int) % (q : Int) := Int.natCast_emod n q
  by_cases hm : n % q = 0
  ·have z2 : ((n : Int).tmod (q : Int) == 0) = true := by rw [Int.tmod_eq_emod_of_nonneg (by omega), ← hmod, hm]; rfl
   have z3 : ((n : Int) % (q : Int) == 0) = true := by rw [← hmod, hm]; rfl
   have HP := Lib.hid (show sqN n = false by
    rw [← Bool.not_eq_true, HI9.out]
    intro h
    exact h d hd (by rw [← HQ.out]; exact hle) (by rw [← HQ.out]; exact hm))
   clear hmod hm
   go_wp2_with fail
   go_ret
   exact ⟨by rw [HP.out]; rfl, rfl⟩
  ·have z2 : ((n : Int).tmod (q : Int) == 0) = false := by rw [Int.tmod_eq_emod_of_nonneg (by omega), ← hmod]; exact beq_eq_false_iff_ne.2 (by omega)
   have z3 : ((n : Int) % (q : Int) == 0) = false := by rw [← hmod]; exact beq_eq_false_iff_ne.2 (by omega)
   have HI' := Lib.hid (show ∀ j, 2 ≤ j → j < d + 1 → n % (j * j) ≠ 0 from fun j hj1 hj2 => by
    rcases Nat.lt_or_ge j d with h | h
    ·exact HI.out j hj1 h
    ·obtain rfl : j = d := by omega
     rw [← HQ.out]; exact hm)
   clear hmod hm
   go_wp2_with fail
   go_round
   case rel => exact ⟨d + 1, by omega, by omega, by go_num, HI'⟩
   case measure => simp [intOf]; omega
 ·have HP := Lib.hid (show sqN n = true by
   rw [HI9.out]
   intro j hj1 hj2
   refine HI.out j hj1 (Nat.lt_of_not_le fun h => ?_)
   have := Nat.mul_le_mul h h
   have := HQ.out
   omega)
  go_wp2_with fail
  go_ret
  exact ⟨by rw [HP.out]; rfl, rfl⟩
theorem rLevels_range {d l : Int} {w : World} (h : d < 1 ∨ l < 1 ∨ 2000 < d ∨ 2000 < l ∨ 2000 < d * l) : Calls Tryz.prog 50 #[.int .i64 d, .int .i64 l] w fun e w' => e = .returned (.int .i64 2) ∧ w = w' := by
 by_cases h1 : d < 1
 ·clear h
  go_enter Tryz.func50, Tryz.ntmps50
  go_wp2_with fail
  go_ret
  exact ⟨rfl, rfl⟩
 by_cases h2 : l < 1
 ·clear h
  go_enter Tryz.func50, Tryz.ntmps50
  go_wp2_with fail
  go_ret
  exact ⟨rfl, rfl⟩
 by_cases h3 : 2000 < d
 ·clear h
  go_enter Tryz.func50, Tryz.ntmps50
  go_wp2_with fail
  go_ret
  exact ⟨rfl, rfl⟩
 by_cases h4 : 2000 < l
 ·clear h
  go_enter Tryz.func50, Tryz.ntmps50
  go_wp2_with fail
  go_ret
  exact ⟨rfl, rfl⟩
 have h5 : 2000 < d * l := by omega
 have h6 : d * l ≤ 2000 * 2000 := Int.mul_le_mul (by omega) (by omega) (by omega) (by omega)
 obtain ⟨m, hm⟩ : ∃ m, m = d * l := ⟨_, rfl⟩
 have e1 : d * l = m := hm.symm
 rw [e1] at h5 h6
 clear h hm
 go_enter Tryz.func50, Tryz.ntmps50
 go_wp2_with fail
 go_ret
 exact ⟨rfl, rfl⟩
theorem rLevels_form {d l : Nat} {w : World} (hd : 1 ≤ d) (hl : 1 ≤ l) (hd2 : d ≤ 2000) (hl2 : l ≤ 2000) (hdl : d * l ≤ 2000) (hs : sqN (d * l) = false) : Calls Tryz.prog 50 #[.int .i64 d, .int .i64 l] w fun e w' => e = .returned (.int .i64 3) ∧ w = w' := by
 obtain ⟨m, hm⟩ : ∃ m, m = d * l := ⟨_, rfl⟩
 have e1 : (d : Int) * (l : Int) = (m : Int) := by rw [hm, Int.natCast_mul]
 rw [← hm] at hs hdl
 have HS := Lib.hid (fun w : World => @rSqf_any w m hdl)
 rw [hs] at HS
 clear hm hs
 go_enter Tryz.func50, Tryz.ntmps50
 go_wp2_with (go_at_call 111; go_must (refine (HS.out _).mono ?_); rintro e w1 ⟨rfl, rfl⟩)
 go_ret
 exact ⟨rfl, rfl⟩
def lvE (T : Nat) : Int := if T % 2 = 0 then 16 else 0
set_option maxHeartbeats 4000000 in
set_option maxRecDepth 100000 in
theorem rLevels_ok {d l : Nat} {w : World} (hd : 1 ≤ d) (hl : 1 ≤ l) (hd2 : d ≤ 2000) (hl2 : l ≤ 2000) (hdl : d * l ≤ 2000) (hs : sqN (d * l) = true) : Calls Tryz.prog 50 #[.int .i64 d, .int .i64 l] w fun e w' => e = .returned (.int .i64 (lvE (prsF d 2 (d - 1)).length)) ∧ w = w' := by
 obtain ⟨m, hm⟩ : ∃ m, m = d * l := ⟨_, rfl⟩
 have e1 : (d : Int) * (l : Int) = (m : Int) := by rw [hm, Int.natCast_mul]
 rw [← hm] at hs hdl
 have HS := Lib.hid (fun w : World => @rSqf_any w m hdl)
 rw [hs] at HS
 obtain ⟨T, hT⟩ : ∃ T, T = (prsF d 2 (d - 1)).length := ⟨_, rfl⟩
 rw [← hT]
 have HT := Lib.hid hT
 clear hm hs hT
 go_enter Tryz.func50, Tryz.ntmps50
 go_upto_block 0 with (go_at_call 111; go_must (refine (HS.out _).mono ?_); rintro e w1 ⟨rfl, rfl⟩)
 go_wp2_with fail
 go_loop [5, 6] (fun nv iv => ∃ n p : Nat, nv = .int .i64 (n : Nat) ∧ iv = .int .i64 (p : Nat) ∧ 2 ≤ p ∧ p ≤ d + 2 ∧ n ≤ p ∧ Hid (n + (prsF d p (d + 1 - p)).length = T)) (fun _ iv => d + 3 - (intOf iv).toNat)
 case atStart => exact ⟨0, 2, rfl, rfl, by omega, by omega, by omega, Lib.hid (by rw [HT.out, show d + 1 - 2 = d - 1 by omega, Nat.zero_add])⟩
 case round =>
 obtain ⟨n, p, rfl, rfl, hp, hp2, hnp, HI⟩ := hrel
 rcases Nat.lt_or_ge d p with hdp | hdp
 ·have HN := Lib.hid (show n = T by have := HI.out; rw [show d + 1 - p = 0 by omega] at this; exact this)
  have hdp' : ¬ p ≤ d := by omega
  by_cases h2 : n % 2 = 0
  ·have z2 : ((n : Int).tmod 2 == 0) = true := by rw [Int.tmod_eq_emod_of_nonneg (by omega), beq_iff_eq]; omega
   have z3 : ((n : Int) % 2 == 0) = true := by rw [beq_iff_eq]; omega
   have HR := Lib.hid (show lvE T = 16 by unfold lvE; rw [← HN.out, if_pos h2])
   clear h2
   go_wp2_with fail
   go_ret
   exact ⟨by rw [HR.out]; rfl, rfl⟩
  ·have z2 : ((n : Int).tmod 2 == 0) = false := by rw [Int.tmod_eq_emod_of_nonneg (by omega), beq_eq_false_iff_ne]; omega
   have z3 : ((n : Int) % 2 == 0) = false := by rw [beq_eq_false_iff_ne]; omega
   have HR := Lib.hid (show lvE T = 0 by unfold lvE; rw [← HN.out, if_neg h2])
   clear h2
   go_wp2_with fail
   go_ret
   exact ⟨by rw [HR.out]; rfl, rfl⟩
 ·have hk : d + 1 - p = d + 1 - (p + 1) + 1 := by omega
  have HI2 := HI.out
  rw [hk] at HI2
  have hmod : ((d % p : Nat) : Int) = (d : Int) % (p : Int) := Int.natCast_emod d p
  have HPR := Lib.hid (fun w : World => @rIsPrime_any w (p : Int))
  by_cases hm : d % p = 0
  ·have z2 : ((d : Int).tmod (p : Int) == 0) = true := by rw [Int.tmod_eq_emod_of_nonneg (by omega), ← hmod, hm]; rfl
   have z3 : ((d : Int) % (p : Int) == 0) = true := by rw [← hmod, hm]; rfl
   by_cases hpr : Pr p
   ·have HT1 := Lib.hid (primeI_true hp (by omega) hpr)
    rw [prsF_yes ⟨hpr, Nat.dvd_of_mod_eq_zero hm⟩, List.length_cons] at HI2
    have HI3 := Lib.hid (show n + 1 + (prsF d (p + 1) (d + 1 - (p + 1))).length = T by omega)
    clear HI2 hk hmod hm hpr
    go_wp2_with (go_at_call 26; go_must (refine (HPR.out _).mono ?_); rintro e w0 ⟨rfl, rfl⟩; rw [HT1.out])
    go_round
    case rel => exact ⟨n + 1, p + 1, by go_num, by go_num, by omega, by omega, by omega, HI3⟩
    case measure => simp [intOf]; omega
   ·have HT1 := Lib.hid (primeI_no hpr)
    rw [prsF_no (fun h => hpr h.1)] at HI2
    have HI3 := Lib.hid HI2
    clear HI2 hk hmod hm hpr
    go_wp2_with (go_at_call 26; go_must (refine (HPR.out _).mono ?_); rintro e w0 ⟨rfl, rfl⟩; rw [HT1.out])
    go_round
    case rel => exact ⟨n, p + 1, rfl, by go_num, by omega, by omega, by omega, HI3⟩
    case measure => simp [intOf]; omega
  ·have z2 : ((d : Int).tmod (p : Int) == 0) = false := by rw [Int.tmod_eq_emod_of_nonneg (by omega), ← hmod]; exact beq_eq_false_iff_ne.2 (by omega)
   have z3 : ((d : Int) % (p : Int) == 0) = false := by rw [← hmod]; exact beq_eq_false_iff_ne.2 (by omega)
   rw [prsF_no (fun h => hm (Nat.mod_eq_zero_of_dvd h.2))] at HI2
   have HI3 := Lib.hid HI2
   clear HI2 hk hmod hm
   go_wp2_with fail
   go_round
   case rel => exact ⟨n, p + 1, rfl, by go_num, by omega, by omega, by omega, HI3⟩
   case measure => simp [intOf]; omega
set_option maxHeartbeats 1000000 in
theorem lowest3_any {k d : Int} {w : World} (hk : k.natAbs ≤ 9000000000000000000) (h0 : 0 < d) (hd : d ≤ 9000000000000000000) :
  Calls Tryz.prog 112 #[.int .i64 k, .int .i64 d] w fun e w' => e = .returned (.agg #[.int .i64 (lwBN k d), .int .i64 (lwBD k d)]) ∧ Below w.heap.size w w' := by
 have hg0 : 0 < Int.gcd k d := Int.gcd_pos_of_ne_zero_right _ (by omega)
 have hgd : Int.gcd k d ≤ d.natAbs := Int.gcd_le_natAbs_right _ (by omega)
 have HN := Lib.hid (show k.tdiv (Int.gcd k d : Int) = lwBN k d from Int.tdiv_eq_ediv_of_dvd (Int.gcd_dvd_left ..))
 have HD := Lib.hid (show d.tdiv (Int.gcd k d : Int) = lwBD k d from Int.tdiv_eq_ediv_of_dvd (Int.gcd_dvd_right ..))
 have HC := Lib.hid (fun w => @bGcd_any k d w hk (by omega))
 generalize lwBN k d = x at *
 generalize lwBD k d = y at *
 generalize hg : Int.gcd k d = g at *
 have Hg := Lib.hid hg
 clear hg
 have g0 : ((g : Int) == 0) = false := by simp; omega
 have g1 : ((g : Int) == -1) = false := by simp
 go_enter Tryz.func112, Tryz.ntmps112
 go_wp2_with (go_at_call 83; go_must (refine (HC.out _).mono ?_); rintro e w1 ⟨rfl, hb1⟩)
 all_goals
  have q0 : w1.cell? ⟨w.heap.size, 0, none⟩ = some (.int .i64 0) := keepB hb1 (by go_simp)
  have q1 : w1.cell? ⟨w.heap.size, 1, none⟩ = some (.int .i64 0) := keepB hb1 (by go_simp)
  have z0 : w1.frozen? ⟨w.heap.size, 0, none⟩ = false := ((bcell hb1).2 _ _ (by simp)).trans (by go_simp)
  have z1 : w1.frozen? ⟨w.heap.size, 1, none⟩ = false := ((bcell hb1).2 _ _ (by simp)).trans (by go_simp)
  go_region
  go_wp2_with fail
  have hb2 : Below w.heap.size w w1 := ((Below.refl _ _).alloc (Nat.le_refl _) _).trans (hb1.mono (by simp))
  have HX : k / (g : Int) = x := by rw [← Hg.out, ← Int.tdiv_eq_ediv_of_dvd (Int.gcd_dvd_left ..), Hg.out]; exact HN.out
  have HY : d / (g : Int) = y := by rw [← Hg.out, ← Int.tdiv_eq_ediv_of_dvd (Int.gcd_dvd_right ..), Hg.out]; exact HD.out
  have HZ := HN.out
  have c0 : ((w1.setCell ⟨w.heap.size, 0, none⟩ (.int .i64 x)).setCell ⟨w.heap.size, 1, none⟩ (.int .i64 y)).cell? ⟨w.heap.size, 0, none⟩ = some (.int .i64 x) := by go_simp
  have c1 : ((w1.setCell ⟨w.heap.size, 0, none⟩ (.int .i64 x)).setCell ⟨w.heap.size, 1, none⟩ (.int .i64 y)).cell? ⟨w.heap.size, 1, none⟩ = some (.int .i64 y) := by go_simp
  try rw [HX]
  try rw [HZ]
  rw [HY]
  generalize hW : (w1.setCell ⟨w.heap.size, 0, none⟩ (.int .i64 x)).setCell ⟨w.heap.size, 1, none⟩ (.int .i64 y) = W at *
  have hb3 : Below w.heap.size w W.drew := by rw [← hW]; exact ((hb2.setCell (by simp) _).setCell (by simp) _).drew
  refine bodyPost_ret (v := .agg #[.int .i64 x, .int .i64 y]) (by simp [results, Tryz.results112, go_sem, c0, c1]) rfl ⟨rfl, hb3⟩
def lpD : List Nat → Nat
 | [] => 1
 | x :: L => (x - 1) * lpD L
def lpL : List Nat → Nat
 | [] => 1
 | x :: L => (x + 1) * lpL L
theorem lpD_snoc : ∀ (L : List Nat) (x : Nat), lpD (L ++ [x]) = lpD L * (x - 1)
 | [], x => by simp [lpD]
 | y :: L, x => by
  show (y - 1) * lpD (L ++ [x]) = _
  rw [lpD_snoc L x]
  show _ = (y - 1) * lpD L * (x - 1)
  rw [Nat.mul_assoc]
theorem lpL_snoc : ∀ (L : List Nat) (x : Nat), lpL (L ++ [x]) = lpL L * (x + 1)
 | [], x => by simp [lpL]
 | y :: L, x => by
  show (y + 1) * lpL (L ++ [x]) = _
  rw [lpL_snoc L x]
  show _ = (y + 1) * lpL L * (x + 1)
  rw [Nat.mul_assoc]
theorem take_snoc {L : List Nat} {k : Nat} (hk : k < L.length) : L.take (k + 1) = L.take k ++ [L.getD k 1] := by
 rw [List.take_add_one]
 congr 1
 unfold List.getD
 rw [List.getElem?_eq_getElem hk]
 rfl
theorem msD_take (L : List Nat) : ∀ k, k ≤ L.length → msD L k = lpD (L.take k)
 | 0, _ => rfl
 | k + 1, h => by
  rw [take_snoc h, lpD_snoc, ← msD_take L k (by omega)]
  rfl
theorem msL_take (L : List Nat) (a : Nat) : ∀ k, k ≤ L.length → msL L a k = a * lpL (L.take k)
 | 0, _ => by show a = a * 1; omega
 | k + 1, h => by
  rw [take_snoc h, lpL_snoc, ← Nat.mul_assoc, ← msL_take L a k (by omega)]
  rfl
theorem lpD_pos : ∀ (L : List Nat), (∀ x ∈ L, 2 ≤ x) → 1 ≤ lpD L
 | [], _ => Nat.le_refl _
 | x :: L, h => Nat.mul_pos (show 0 < x - 1 by have := h x (List.mem_cons_self ..); omega) (lpD_pos L fun y hy => h y (List.mem_cons_of_mem _ hy))
theorem lpL_pos : ∀ (L : List Nat), 1 ≤ lpL L
 | [] => Nat.le_refl _
 | x :: L => Nat.mul_pos (Nat.succ_pos x) (lpL_pos L)
theorem lpL_take_le : ∀ (L : List Nat) (k : Nat), lpL (L.take k) ≤ lpL L
 | [], k => by simp
 | x :: L, 0 => lpL_pos (x :: L)
 | x :: L, k + 1 => Nat.mul_le_mul_left _ (lpL_take_le L k)
theorem lpD_take_le : ∀ (L : List Nat), (∀ x ∈ L, 2 ≤ x) → ∀ k, lpD (L.take k) ≤ lpD L
 | [], _, k => by simp
 | x :: L, h, 0 => lpD_pos (x :: L) h
 | x :: L, h, k + 1 => Nat.mul_le_mul_left _ (lpD_take_le L (fun y hy => h y (List.mem_cons_of_mem _ hy)) k)
set_option maxHeartbeats 4000000 in
set_option maxRecDepth 100000 in
theorem rMass_any {d l : Nat} {w : World} (hd : 1 ≤ d) (hl : 1 ≤ l) (hd2 : d ≤ 2000) (hl2 : l ≤ 2000) (hdl : d * l ≤ 2000) (T : Nat) (hT : lpD (prsF d 2 (d * l - 1)) * lpL (prsF l 2 (d * l - 1)) = T) (hT2 : T ≤ 1000000000) : Calls Tryz.prog 51 #[.int .i64 d, .int .i64 l] w fun e w' => e = .returned (.agg #[.int .i64 (lwBN T 24), .int .i64 (lwBD T 24)]) ∧ Below w.heap.size w w' := by
 obtain ⟨m, hm⟩ : ∃ m, m = d * l := ⟨_, rfl⟩
 have e1 : (d : Int) * (l : Int) = (m : Int) := by rw [hm, Int.natCast_mul]
 rw [← hm] at hdl hT
 have hm1 : 1 ≤ m := by rw [hm]; exact Nat.mul_pos hd hl
 have HT := Lib.hid hT
 have HL := Lib.hid (fun w : World => @lowest3_any (T : Int) 24 w (by omega) (by omega) (by omega))
 obtain ⟨W, hW⟩ : ∃ W, W = w.alloc (.cells #[.int .i64 0, .int .i64 0] 35) := ⟨_, rfl⟩
 obtain ⟨R, hR⟩ : ∃ R, R = w.heap.size := ⟨_, rfl⟩
 have hbW : Below w.heap.size w W := by rw [hW]; exact (Below.refl _ _).alloc (Nat.le_refl _) _
 have hRA : Arr W R 35 [.int .i64 0, .int .i64 0] := by rw [hW, hR]; exact Arr.new w _ [.int .i64 0, .int .i64 0]
 have HW := Lib.hid hW
 have HR := Lib.hid hR
 have HRA := Lib.hid hRA
 have HBW := Lib.hid hbW
 generalize hx : lwBN (T : Int) 24 = x at *
 generalize hy : lwBD (T : Int) 24 = y at *
 clear hm hT hW hR hRA hbW hx hy
 go_enter Tryz.func51, Tryz.ntmps51
 go_upto_region 1 with (fail)
 rw [← HW.out, ← HR.out]
 go_wp2_with fail
 go_loop [5, 6] (fun nv iv => ∃ n p : Nat, nv = .int .i64 (n : Nat) ∧ iv = .int .i64 (p : Nat) ∧ 2 ≤ p ∧ p ≤ m + 2 ∧ Hid (n * (lpD (prsF d p (m + 1 - p)) * lpL (prsF l p (m + 1 - p))) = T)) (fun _ iv => m + 3 - (intOf iv).toNat)
 case atStart => exact ⟨1, 2, rfl, rfl, by omega, by omega, Lib.hid (by rw [Nat.one_mul, show m + 1 - 2 = m - 1 by omega]; exact HT.out)⟩
 case round =>
 obtain ⟨n, p, rfl, rfl, hp, hp2, HI⟩ := hrel
 have hn9 : n ≤ 1000000000 := by
  have h1 : 1 ≤ lpD (prsF d p (m + 1 - p)) * lpL (prsF l p (m + 1 - p)) := Nat.mul_pos (lpD_pos _ fun x hx => (prsF_in _ _ _ x hx).1.1) (lpL_pos _)
  have h2 := Nat.mul_le_mul_left n h1
  have := HI.out
  omega
 rcases Nat.lt_or_ge m p with hmp | hmp
 ·have HN := Lib.hid (show n = T by have := HI.out; rw [show m + 1 - p = 0 by omega] at this; simpa [prsF, lpD, lpL] using this)
  have hmp' : ¬ p ≤ m := by omega
  have HL2 := Lib.hid (fun w => HL.out w)
  rw [← HN.out] at HL2
  clear hmp
  have hl0 := HRA.out.lt
  go_upto_region 99 with (go_at_call 112; go_must (refine (HL2.out _).mono ?_); rintro e w1 ⟨rfl, hb1⟩; have hA1 := keepA HRA.out hb1 hl0; have c0 : w1.cell? ⟨R, 0, none⟩ = some (.int .i64 0) := hA1.cell 0; have c1 : w1.cell? ⟨R, 1, none⟩ = some (.int .i64 0) := hA1.cell 1; have f0 := hA1.frozen 0; have f1 := hA1.frozen 1)
  obtain ⟨wz, hwz⟩ : ∃ V, V = (w1.setCell ⟨R, 0, none⟩ (.int .i64 x)).setCell ⟨R, 1, none⟩ (.int .i64 y) := ⟨_, rfl⟩
  have hAz : Arr wz R 35 [.int .i64 x, .int .i64 y] := by rw [hwz]; exact (hA1.set_ 0 _).set_ 1 _
  have d0 : wz.cell? ⟨R, 0, none⟩ = some (.int .i64 x) := hAz.cell 0
  have d1 : wz.cell? ⟨R, 1, none⟩ = some (.int .i64 y) := hAz.cell 1
  have hwR : w.heap.size ≤ R := by have := HR.out; omega
  have hBz : Below w.heap.size w wz := by rw [hwz]; exact ((HBW.out.trans (hb1.mono HBW.out.size)).setCell hwR _).setCell hwR _
  rw [← hwz]
  refine bodyPost_ret (v := .agg #[.int .i64 x, .int .i64 y]) (by simp [results, Tryz.results51, go_sem, d0, d1]) rfl ⟨rfl, hBz⟩
 ·have hk : m + 1 - p = m + 1 - (p + 1) + 1 := by omega
  have HI2 := HI.out
  rw [hk] at HI2
  have HPR := Lib.hid (fun w : World => @rIsPrime_any w (p : Int))
  have hmd : ((d % p : Nat) : Int) = (d : Int) % (p : Int) := Int.natCast_emod d p
  have hml : ((l % p : Nat) : Int) = (l : Int) % (p : Int) := Int.natCast_emod l p
  by_cases hpr : Pr p
  ·have HT1 := Lib.hid (primeI_true hp (by omega) hpr)
   have key : ∀ (zd zl : Bool), (zd = true ↔ d % p = 0) → (zl = true ↔ l % p = 0) → ∃ n', n' = n * (if zd then p - 1 else 1) * (if zl then p + 1 else 1) ∧ n' * (lpD (prsF d (p + 1) (m + 1 - (p + 1))) * lpL (prsF l (p + 1) (m + 1 - (p + 1)))) = T := by
    intro zd zl h1 h2
    refine ⟨_, rfl, ?_⟩
    rw [← HI2]
    have a1 : lpD (prsF d p (m + 1 - (p + 1) + 1)) = (if zd then p - 1 else 1) * lpD (prsF d (p + 1) (m + 1 - (p + 1))) := by
     cases zd
     ·rw [prsF_no (fun h => by have := h1.2 (Nat.mod_eq_zero_of_dvd h.2); cases this)]; simp
     ·rw [prsF_yes ⟨hpr, Nat.dvd_of_mod_eq_zero (h1.1 rfl)⟩]; rfl
    have a2 : lpL (prsF l p (m + 1 - (p + 1) + 1)) = (if zl then p + 1 else 1) * lpL (prsF l (p + 1) (m + 1 - (p + 1))) := by
     cases zl
     ·rw [prsF_no (fun h => by have := h2.2 (Nat.mod_eq_zero_of_dvd h.2); cases this)]; simp
     ·rw [prsF_yes ⟨hpr, Nat.dvd_of_mod_eq_zero (h2.1 rfl)⟩]; rfl
    rw [a1, a2]
    generalize (if zd = true then p - 1 else 1) = u
    generalize (if zl = true then p + 1 else 1) = v
    generalize lpD (prsF d (p + 1) (m + 1 - (p + 1))) = a
    generalize lpL (prsF l (p + 1) (m + 1 - (p + 1))) = b
    ac_rfl
   have hpp : ((p - 1 : Nat) : Int) = (p : Int) - 1 := by omega
   have hbd : ∀ a b : Nat, a ≤ 1000000000 → b ≤ 2002 → a * b ≤ 2002000000000 := fun a b h1 h2 => Nat.mul_le_mul h1 h2
   rcases Decidable.em (d % p = 0) with h1 | h1 <;> rcases Decidable.em (l % p = 0) with h2 | h2
   ·have zd1 : ((d : Int).tmod (p : Int) == 0) = true := by rw [Int.tmod_eq_emod_of_nonneg (by omega), ← hmd]; rw [h1]; rfl
    have zd2 : ((d : Int) % (p : Int) == 0) = true := by rw [← hmd]; rw [h1]; rfl
    have zl1 : ((l : Int).tmod (p : Int) == 0) = true := by rw [Int.tmod_eq_emod_of_nonneg (by omega), ← hml]; rw [h2]; rfl
    have zl2 : ((l : Int) % (p : Int) == 0) = true := by rw [← hml]; rw [h2]; rfl
    obtain ⟨n', hn', hk'⟩ := key true true ⟨fun _ => h1, fun _ => rfl⟩ ⟨fun _ => h2, fun _ => rfl⟩
    obtain ⟨n1, hn1⟩ : ∃ x, x = n * (p - 1) := ⟨_, rfl⟩
    have e2 : (n : Int) * ((p : Int) - 1) = (n1 : Int) := by rw [hn1, Int.natCast_mul, hpp]
    have k2 : n1 ≤ 2002000000000 := by rw [hn1]; exact hbd _ _ hn9 (by omega)
    obtain ⟨n2, hn2⟩ : ∃ x, x = n1 * (p + 1) := ⟨_, rfl⟩
    have e3 : (n1 : Int) * ((p : Int) + 1) = (n2 : Int) := by rw [hn2, Int.natCast_mul]; rfl
    have k3 : n2 ≤ 4020000000000000 := by rw [hn2]; exact Nat.le_trans (Nat.mul_le_mul (show n1 ≤ 2002000000000 by omega) (show p + 1 ≤ 2003 by omega)) (by decide)
    rw [hn'] at hk'
    simp only [if_true] at hk'
    rw [← hn1, ← hn2] at hk'
    have HK := Lib.hid hk'
    clear key hk' hn' HI2 hk hpr hmd hml h1 h2 hbd hpp hn1 hn2
    go_wp2_with (go_at_call 26; go_must (refine (HPR.out _).mono ?_); rintro e w0 ⟨rfl, rfl⟩; rw [HT1.out])
    go_round
    case rel => exact ⟨n2, p + 1, rfl, by go_num, by omega, by omega, HK⟩
    case measure => simp [intOf]; omega
   ·have zd1 : ((d : Int).tmod (p : Int) == 0) = true := by rw [Int.tmod_eq_emod_of_nonneg (by omega), ← hmd]; rw [h1]; rfl
    have zd2 : ((d : Int) % (p : Int) == 0) = true := by rw [← hmd]; rw [h1]; rfl
    have zl1 : ((l : Int).tmod (p : Int) == 0) = false := by rw [Int.tmod_eq_emod_of_nonneg (by omega), ← hml]; exact beq_eq_false_iff_ne.2 (by omega)
    have zl2 : ((l : Int) % (p : Int) == 0) = false := by rw [← hml]; exact beq_eq_false_iff_ne.2 (by omega)
    obtain ⟨n', hn', hk'⟩ := key true false ⟨fun _ => h1, fun _ => rfl⟩ ⟨fun h => (nomatch h), fun h => absurd h h2⟩
    obtain ⟨n1, hn1⟩ : ∃ x, x = n * (p - 1) := ⟨_, rfl⟩
    have e2 : (n : Int) * ((p : Int) - 1) = (n1 : Int) := by rw [hn1, Int.natCast_mul, hpp]
    have k2 : n1 ≤ 2002000000000 := by rw [hn1]; exact hbd _ _ hn9 (by omega)
    rw [hn'] at hk'
    simp only [if_true, if_false, Nat.mul_one, Bool.false_eq_true] at hk'
    rw [← hn1] at hk'
    have HK := Lib.hid hk'
    clear key hk' hn' HI2 hk hpr hmd hml h1 h2 hbd hpp hn1
    go_wp2_with (go_at_call 26; go_must (refine (HPR.out _).mono ?_); rintro e w0 ⟨rfl, rfl⟩; rw [HT1.out])
    go_round
    case rel => exact ⟨n1, p + 1, rfl, by go_num, by omega, by omega, HK⟩
    case measure => simp [intOf]; omega
   ·have zd1 : ((d : Int).tmod (p : Int) == 0) = false := by rw [Int.tmod_eq_emod_of_nonneg (by omega), ← hmd]; exact beq_eq_false_iff_ne.2 (by omega)
    have zd2 : ((d : Int) % (p : Int) == 0) = false := by rw [← hmd]; exact beq_eq_false_iff_ne.2 (by omega)
    have zl1 : ((l : Int).tmod (p : Int) == 0) = true := by rw [Int.tmod_eq_emod_of_nonneg (by omega), ← hml]; rw [h2]; rfl
    have zl2 : ((l : Int) % (p : Int) == 0) = true := by rw [← hml]; rw [h2]; rfl
    obtain ⟨n', hn', hk'⟩ := key false true ⟨fun h => (nomatch h), fun h => absurd h h1⟩ ⟨fun _ => h2, fun _ => rfl⟩
    obtain ⟨n2, hn2⟩ : ∃ x, x = n * (p + 1) := ⟨_, rfl⟩
    have e3 : (n : Int) * ((p : Int) + 1) = (n2 : Int) := by rw [hn2, Int.natCast_mul]; rfl
    have k3 : n2 ≤ 4020000000000000 := by rw [hn2]; exact Nat.le_trans (Nat.mul_le_mul (show n ≤ 2002000000000 by omega) (show p + 1 ≤ 2003 by omega)) (by decide)
    rw [hn'] at hk'
    simp only [if_true, if_false, Nat.mul_one, Bool.false_eq_true] at hk'
    rw [← hn2] at hk'
    have HK := Lib.hid hk'
    clear key hk' hn' HI2 hk hpr hmd hml h1 h2 hbd hpp hn2
    go_wp2_with (go_at_call 26; go_must (refine (HPR.out _).mono ?_); rintro e w0 ⟨rfl, rfl⟩; rw [HT1.out])
    go_round
    case rel => exact ⟨n2, p + 1, rfl, by go_num, by omega, by omega, HK⟩
    case measure => simp [intOf]; omega
   ·have zd1 : ((d : Int).tmod (p : Int) == 0) = false := by rw [Int.tmod_eq_emod_of_nonneg (by omega), ← hmd]; exact beq_eq_false_iff_ne.2 (by omega)
    have zd2 : ((d : Int) % (p : Int) == 0) = false := by rw [← hmd]; exact beq_eq_false_iff_ne.2 (by omega)
    have zl1 : ((l : Int).tmod (p : Int) == 0) = false := by rw [Int.tmod_eq_emod_of_nonneg (by omega), ← hml]; exact beq_eq_false_iff_ne.2 (by omega)
    have zl2 : ((l : Int) % (p : Int) == 0) = false := by rw [← hml]; exact beq_eq_false_iff_ne.2 (by omega)
    obtain ⟨n', hn', hk'⟩ := key false false ⟨fun h => (nomatch h), fun h => absurd h h1⟩ ⟨fun h => (nomatch h), fun h => absurd h h2⟩
    rw [hn'] at hk'
    simp only [if_false, Nat.mul_one, Bool.false_eq_true] at hk'
    have HK := Lib.hid hk'
    clear key hk' hn' HI2 hk hpr hmd hml h1 h2 hbd hpp
    go_wp2_with (go_at_call 26; go_must (refine (HPR.out _).mono ?_); rintro e w0 ⟨rfl, rfl⟩; rw [HT1.out])
    go_round
    case rel => exact ⟨n, p + 1, rfl, by go_num, by omega, by omega, HK⟩
    case measure => simp [intOf]; omega
  ·have HT1 := Lib.hid (primeI_no hpr)
   rw [prsF_no (fun h => hpr h.1), prsF_no (fun h => hpr h.1)] at HI2
   have HI3 := Lib.hid HI2
   clear HI2 hk hpr hmd hml
   go_wp2_with (go_at_call 26; go_must (refine (HPR.out _).mono ?_); rintro e w0 ⟨rfl, rfl⟩; rw [HT1.out])
   go_round
   case rel => exact ⟨n, p + 1, rfl, by go_num, by omega, by omega, HI3⟩
   case measure => simp [intOf]; omega
end Go.Proofs.YtdjpeimecfhdjaaGreat
