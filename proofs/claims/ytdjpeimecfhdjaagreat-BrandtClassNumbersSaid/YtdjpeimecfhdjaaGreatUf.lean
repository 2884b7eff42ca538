/- (pruned) -/
import Derived.Test.YtdjpeimecfhdjaaGreatUe
import Derived.Test.YtdjpeimecfhdjaaGreatUp
namespace Go.Proofs.YtdjpeimecfhdjaaGreat
open Go.RowKit
theorem via {P Q : Prop} (h : P) (g : P → Q) : Q := g h
theorem rwC_eq {d a k D r c : Nat} (hD : dfC a k = D) (hr : (d + D * D) % (4 * a) = r) (hc : (d + D * D) / (4 * a) = c) : rwC d a k = if r ≠ 0 then 0 else if c < a ∨ (k < a ∧ (D = a ∨ a = c)) then 0 else if D = 0 ∧ a = c then 6 else if k = 2 * a ∧ a = c then 4 else 12 := by
 unfold rwC
 rw [hD, hr, hc]
theorem rwC_le (d a k : Nat) : rwC d a k ≤ 12 := by
 rw [rwC_eq rfl rfl rfl]
 (repeat' split) <;> omega
def rwS (d a : Nat) : Nat := sumTo (rwC d a) (2 * a + 1)
theorem rwS_far {d a : Nat} (ha : 1 ≤ a) (h : d < 3 * (a * a)) : rwS d a = 0 := by
 unfold rwS
 rw [rwC_row ha]
 exact sumTo_nil fun b _ => wtC_a h
theorem twR_upto {d m : Nat} (hm : m ≤ d) (h : d < 3 * ((m + 1) * (m + 1))) : sumTo (fun a => rwS d (a + 1)) m = clsP d := by
 rw [← twR_cls]
 unfold twR
 show _ = sumTo (fun a => rwS d (a + 1)) d
 refine (sumTo_more hm fun j h1 _ => rwS_far (by omega) ?_).symm
 have := Nat.mul_le_mul (show m + 1 ≤ j + 1 by omega) (show m + 1 ≤ j + 1 by omega)
 omega
theorem rwS_le {d a : Nat} : rwS d a ≤ (2 * a + 1) * 12 := sumTo_le fun k _ => rwC_le d a k
theorem dfC_sq (a k : Nat) : ((k : Int) - (a : Int)) * ((k : Int) - (a : Int)) = ((dfC a k * dfC a k : Nat) : Int) := by
 unfold dfC
 split
 ·rename_i h
  obtain ⟨m, rfl⟩ : ∃ m, a = k + m := ⟨a - k, by omega⟩
  rw [show k + m - k = m by omega, show (k : Int) - ((k + m : Nat) : Int) = -(m : Int) by omega, Int.neg_mul_neg, Int.natCast_mul]
 ·rename_i h
  obtain ⟨m, rfl⟩ : ∃ m, k = a + m := ⟨k - a, by omega⟩
  rw [show a + m - a = m by omega, show ((a + m : Nat) : Int) - (a : Int) = (m : Int) by omega, Int.natCast_mul]
set_option maxRecDepth 100000 in
set_option maxHeartbeats 4000000 in
theorem twelfths_any {d : Nat} {w : World} (hd : d ≤ 3000) :
  Calls Tryz.prog 77 #[.int .i64 d] w fun e w' => e = .returned (.int .i64 (clsP d : Nat)) ∧ w = w' := by
 by_cases h4 : d % 4 = 1 ∨ d % 4 = 2
 ·have HC := Lib.hid (clsP_none h4)
  have t1 : ((d : Int).tmod 4 == 1) = decide (d % 4 = 1) := by
   rw [show (d : Int).tmod 4 = ((d % 4 : Nat) : Int) from tmodB d 4]
   by_cases h : d % 4 = 1
   ·rw [h]; rfl
   ·rw [decide_eq_false h, beq_eq_false_iff_ne]; omega
  have t2 : ((d : Int) % 4 == 1) = decide (d % 4 = 1) := by
   by_cases h : d % 4 = 1
   ·rw [decide_eq_true h, beq_iff_eq]; omega
   ·rw [decide_eq_false h, beq_eq_false_iff_ne]; omega
  rcases h4 with h | h
  ·have t3 : ((d : Int) % 4 == 1) = true := by rw [beq_iff_eq]; omega
   clear t1 t2
   go_enter Tryz.func77, Tryz.ntmps77
   go_wp2_with fail
   go_ret
   exact ⟨by rw [HC.out]; rfl, rfl⟩
  ·have t3 : ((d : Int) % 4 == 1) = false := by rw [beq_eq_false_iff_ne]; omega
   have t4 : ((d : Int) % 4 == 2) = true := by rw [beq_iff_eq]; omega
   clear t1 t2
   go_enter Tryz.func77, Tryz.ntmps77
   go_wp2_with fail
   go_ret
   exact ⟨by rw [HC.out]; rfl, rfl⟩
 ·have t3 : ((d : Int) % 4 == 1) = false := by rw [beq_eq_false_iff_ne]; omega
  have t4 : ((d : Int) % 4 == 2) = false := by rw [beq_eq_false_iff_ne]; omega
  clear h4
  go_enter Tryz.func77, Tryz.ntmps77
  go_wp2_with fail
  clear t3 t4
  go_loop [3, 4] (fun sv av => ∃ m a : Nat, Hid (a = m + 1) ∧ sv = .int .i64 (sumTo (fun a => rwS d (a + 1)) m : Nat) ∧ av = .int .i64 (a : Nat) ∧ m ≤ 40 ∧ 3 * (m * m) ≤ d) (fun _ av => 50 - (intOf av).toNat)
  case atStart => exact ⟨0, 1, Lib.hid rfl, rfl, rfl, by omega, by omega⟩
  case round =>
   obtain ⟨m, a, HA, rfl, rfl, hm, hmd⟩ := hrel
   have ha := HA.out
   have hmd1 : m ≤ d := by
    rcases Nat.eq_zero_or_pos m with h | h
    ·omega
    ·have := Nat.le_mul_of_pos_left m h; omega
   have hS : sumTo (fun a => rwS d (a + 1)) m ≤ m * 1000 := sumTo_le fun j hj => Nat.le_trans rwS_le (by omega)
   have HT := Lib.hid (fun h => @twR_upto d m hmd1 h)
   have HSO := Lib.hid (show sumTo (fun a => rwS d (a + 1)) (m + 1) = sumTo (fun a => rwS d (a + 1)) m + rwS d a by rw [ha]; rfl)
   generalize sumTo (fun a => rwS d (a + 1)) m = S at *
   rw [← ha] at HT
   obtain ⟨A2, hA2⟩ : ∃ q, q = a * a := ⟨_, rfl⟩
   rw [← hA2] at HT
   have e0 : (3 : Int) * (a : Int) * (a : Int) = ((3 * A2 : Nat) : Int) := by rw [Int.mul_assoc, ← Int.natCast_mul, ← hA2]; omega
   have ha41 : a ≤ 41 := by omega
   have hA3 : A2 ≤ 41 * 41 := by rw [hA2]; exact Nat.mul_le_mul (by omega) (by omega)
   rcases Nat.lt_or_ge d (3 * A2) with hlt | hge
   ·have HE := Lib.hid (HT.out hlt)
    have z1 : ¬ 3 * A2 ≤ d := by omega
    clear hA2 ha
    go_wp2_with fail
    go_ret
    exact ⟨by rw [HE.out]; rfl, rfl⟩
   ·have z1 : 3 * A2 ≤ d := hge
    have ha40 : a ≤ 40 := by
     rcases Nat.lt_or_ge 40 a with h | h
     ·have := Nat.mul_le_mul h h
      rw [← hA2] at this
      omega
     ·exact h
    have ha0 : 0 < a := by omega
    have HZ1 := Lib.hid (show 3 * ((m + 1) * (m + 1)) ≤ d by rw [← ha, ← hA2]; exact z1)
    have hm39 : m ≤ 39 := by omega
    clear ha hA2 hmd hmd1
    go_wp2_with fail
    clear e0
    go_loop [3, 5] (fun sv bv => ∃ (k : Nat) (bi : Int), Hid (bi = (k : Int) - (a : Int)) ∧ sv = .int .i64 ((S + sumTo (rwC d a) k : Nat) : Int) ∧ bv = .int .i64 bi ∧ k ≤ 2 * a + 1) (fun _ bv => 200 - (intOf bv + 100).toNat)
    case atStart => exact ⟨0, -(a : Int), Lib.hid (by omega), by rfl, by first | rfl | go_num, by omega⟩
    case round =>
     obtain ⟨k, bi, HBI, rfl, rfl, hk⟩ := hrel
     have hbi := HBI.out
     have hSk : sumTo (rwC d a) k ≤ k * 12 := sumTo_le fun j _ => rwC_le d a j
     rcases Nat.lt_or_ge (2 * a) k with hlt | hge
     ·obtain rfl : k = 2 * a + 1 := by omega
      have HRS := Lib.hid (show sumTo (rwC d a) (2 * a + 1) = rwS d a from rfl)
      have z2 : ¬ bi ≤ (a : Int) := by omega
      generalize sumTo (rwC d a) (2 * a + 1) = T at *
      clear hbi
      go_wp2_with fail
      go_round
      case rel => exact ⟨m + 1, a + 1, Lib.hid (by have := HA.out; omega), by rw [HSO.out, ← HRS.out], by go_num, by omega, HZ1.out⟩
      case measure => simp [intOf]; omega
     ·have e3 : bi * bi = ((dfC a k * dfC a k : Nat) : Int) := by rw [hbi]; exact dfC_sq a k
      have hDk : (k < a → dfC a k = a - k) ∧ (a ≤ k → dfC a k = k - a) := by unfold dfC; constructor <;> intro h <;> split <;> omega
      have hq0 : dfC a k * dfC a k ≤ 40 * 40 := Nat.mul_le_mul (by omega) (by omega)
      have HR := @rwC_eq d a k _ _ _ rfl rfl rfl
      have HSS := Lib.hid (show sumTo (rwC d a) (k + 1) = sumTo (rwC d a) k + rwC d a k from rfl)
      have hrk := rwC_le d a k
      generalize sumTo (rwC d a) k = T at *
      obtain ⟨D, hD⟩ : ∃ D, D = dfC a k := ⟨_, rfl⟩
      rw [← hD] at e3 hDk hq0 HR
      obtain ⟨q, hq⟩ : ∃ q, q = D * D := ⟨_, rfl⟩
      rw [← hq] at e3 hq0 HR
      obtain ⟨N, hN⟩ : ∃ N, N = d + q := ⟨_, rfl⟩
      rw [← hN] at HR
      obtain ⟨M, hM⟩ : ∃ M, M = 4 * a := ⟨_, rfl⟩
      rw [← hM] at HR
      obtain ⟨r, hr⟩ : ∃ r, r = N % M := ⟨_, rfl⟩
      obtain ⟨c, hc⟩ : ∃ c, c = N / M := ⟨_, rfl⟩
      rw [← hr, ← hc] at HR
      replace HR := Lib.hid HR
      have e1 : IntKind.i64.wrap (bi * bi) = (q : Int) := by rw [e3]; exact IntWalk.i64_in _ (by omega)
      have e4 : (d : Int) + (q : Int) = (N : Int) := by omega
      have e5 : (4 : Int) * (a : Int) = (M : Int) := by omega
      have m1 : (N : Int).tmod (M : Int) = (r : Int) := by rw [hr]; rfl
      have m2 : (N : Int) % (M : Int) = (r : Int) := by rw [hr]; rfl
      have m3 : (N : Int).tdiv (M : Int) = (c : Int) := by rw [hc]; rfl
      have m4 : (N : Int) / (M : Int) = (c : Int) := by rw [hc]; rfl
      have hcN : c ≤ N := by rw [hc]; exact Nat.div_le_self _ _
      have e6 : ((M : Int) == 0) = false := by rw [beq_eq_false_iff_ne]; omega
      have e7 : ((M : Int) == -1) = false := by rw [beq_eq_false_iff_ne]; omega
      have e8 : ¬ (M : Int) = 0 := by omega
      have z2 : bi ≤ (a : Int) := by omega
      have z3 : -(a : Int) ≤ bi := by omega
      have z4 : -40 ≤ bi := by omega
      have z5 : bi ≤ 40 := by omega
      clear hD hq hr hc
      by_cases hr0 : r = 0
      ·subst hr0
       rcases (show (c < a) ∨ (¬ c < a ∧ bi < 0 ∧ -bi = (a : Int)) ∨ (¬ c < a ∧ bi < 0 ∧ ¬ -bi = (a : Int) ∧ a = c) ∨ (¬ c < a ∧ bi < 0 ∧ ¬ -bi = (a : Int) ∧ ¬ a = c) ∨ (¬ c < a ∧ ¬ bi < 0 ∧ a = c ∧ bi = 0) ∨ (¬ c < a ∧ ¬ bi < 0 ∧ a = c ∧ ¬ bi = 0 ∧ bi = (a : Int)) ∨ (¬ c < a ∧ ¬ bi < 0 ∧ a = c ∧ ¬ bi = 0 ∧ ¬ bi = (a : Int)) ∨ (¬ c < a ∧ ¬ bi < 0 ∧ ¬ a = c ∧ bi = 0) ∨ (¬ c < a ∧ ¬ bi < 0 ∧ ¬ a = c ∧ ¬ bi = 0 ∧ bi = (a : Int)) ∨ (¬ c < a ∧ ¬ bi < 0 ∧ ¬ a = c ∧ ¬ bi = 0 ∧ ¬ bi = (a : Int)) by omega) with c1 | ⟨c1, c2, q3⟩ | ⟨c1, c2, c3, q4⟩ | ⟨c1, c2, c3, c4⟩ | ⟨c1, c2, q4, q5⟩ | ⟨c1, c2, q4, c5, q6⟩ | ⟨c1, c2, q4, c5, c6⟩ | ⟨c1, c2, c4, q5⟩ | ⟨c1, c2, c4, c5, q6⟩ | ⟨c1, c2, c4, c5, c6⟩
       all_goals first | have n1 : (c : Int) < (a : Int) := (by omega) | have n1 : ¬ (c : Int) < (a : Int) := (by omega)
       all_goals try first | have n3 : (-bi == (a : Int)) = true := (by rw [beq_iff_eq]; omega) | (have n3 : (-bi == (a : Int)) = false := (by rw [beq_eq_false_iff_ne]; omega); have n3' : ¬ -bi = (a : Int) := (by omega))
       all_goals try first | have n4 : ((a : Int) == (c : Int)) = true := (by rw [beq_iff_eq]; omega) | (have n4 : ((a : Int) == (c : Int)) = false := (by rw [beq_eq_false_iff_ne]; omega); have n4' : ¬ (a : Int) = (c : Int) := (by omega))
       all_goals try first | have n5 : (bi == 0) = true := (by rw [beq_iff_eq]; omega) | (have n5 : (bi == 0) = false := (by rw [beq_eq_false_iff_ne]; omega); have n5' : ¬ bi = 0 := (by omega))
       all_goals try first | have n6 : (bi == (a : Int)) = true := (by rw [beq_iff_eq]; omega) | (have n6 : (bi == (a : Int)) = false := (by rw [beq_eq_false_iff_ne]; omega); have n6' : ¬ bi = (a : Int) := (by omega))
       all_goals first | (refine via (P := rwC d a k = 0) ?_ (fun hv => ?_); focus (rw [HR.out]; clear m1 m2 m3 m4; (repeat' split) <;> omega)) | (refine via (P := rwC d a k = 12) ?_ (fun hv => ?_); focus (rw [HR.out]; clear m1 m2 m3 m4; (repeat' split) <;> omega)) | (refine via (P := rwC d a k = 6) ?_ (fun hv => ?_); focus (rw [HR.out]; clear m1 m2 m3 m4; (repeat' split) <;> omega)) | (refine via (P := rwC d a k = 4) ?_ (fun hv => ?_); focus (rw [HR.out]; clear m1 m2 m3 m4; (repeat' split) <;> omega))
       all_goals have HV := Lib.hid hv
       all_goals clear hv
       all_goals (try clear q3); (try clear q4); (try clear q5); (try clear q6)
       all_goals
        clear HR hN hM hDk hbi
        go_wp2_with fail
        go_round
        case rel => exact ⟨k + 1, bi + 1, Lib.hid (by have := HBI.out; omega), by rw [HSS.out, HV.out]; go_num, by go_num, by omega⟩
        case measure => (have := HBI.out; simp [intOf]; omega)
      ·have n1 : ((r : Int) != 0) = true := by rw [bne_iff_ne]; omega
       have n2 : ¬ (r : Int) = 0 := by omega
       have HV := Lib.hid (show rwC d a k = 0 by (try have k3 := c3.out); (try have k4 := c4.out); (try have k5 := c5.out); (try have k6 := c6.out); rw [HR.out]; clear e1 e3 e4 e5 e6 m1 m2 m3 m4; (repeat' split) <;> omega)
       clear HR hN hM hDk hbi
       go_wp2_with fail
       go_round
       case rel => exact ⟨k + 1, bi + 1, Lib.hid (by have := HBI.out; omega), by rw [HSS.out, HV.out]; go_num, by go_num, by omega⟩
       case measure => (have := HBI.out; simp [intOf]; omega)
end Go.Proofs.YtdjpeimecfhdjaaGreat
