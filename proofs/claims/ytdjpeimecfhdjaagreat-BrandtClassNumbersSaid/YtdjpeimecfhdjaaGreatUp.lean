/- (pruned) -/
import Derived.Test.YtdjpeimecfhdjaaGreatUo
namespace Go.Proofs.YtdjpeimecfhdjaaGreat
open Go.RowKit
def clZ (d : Nat) : Int := if d = 0 then -1 else (clsP d : Int)
theorem sum_succ (f : Nat → Nat) (n : Nat) : sumTo f (n + 1) = sumTo f n + f n := rfl
theorem rowB_24 {d b : Nat} : rowB d b ≤ (d + 1) * 24 := sumTo_le fun a _ => by
 unfold wtC
 (repeat' split) <;> omega
theorem wt_sum_le (d b m : Nat) : sumTo (fun a => wtC d a b) m ≤ m * 24 := sumTo_le fun a _ => by
 unfold wtC
 (repeat' split) <;> omega
theorem cls_start (d : Nat) : sumTo (rowB d) (d % 2) = 0 := by
 rcases Nat.mod_two_eq_zero_or_one d with h | h
 ·rw [h]; rfl
 ·rw [h, sum_succ, rowB_parity (by omega)]; rfl
theorem cls_two {d b : Nat} (h : b % 2 = d % 2) : sumTo (rowB d) (b + 2) = sumTo (rowB d) b + rowB d b := by
 rw [sum_succ, sum_succ, rowB_parity (b := b + 1) (by omega)]
 rfl
theorem in_start (d b : Nat) : sumTo (fun a => wtC d a b) (max b 1) = 0 := by
 rcases Nat.eq_zero_or_pos b with h | h
 ·subst h
  show sumTo _ 1 = 0
  rw [sum_succ, wtC_zero (.inl rfl)]
  rfl
 ·rw [show max b 1 = b by omega]
  exact sum_low (Nat.le_refl _)
set_option maxRecDepth 100000 in
set_option maxHeartbeats 4000000 in
theorem classes_any {d : Nat} {w : World} (hd : d ≤ 1000000) :
  Calls Tryz.prog 75 #[.int .i64 d] w fun e w' => e = .returned (.int .i64 (clZ d)) ∧ Below w.heap.size w w' := by
 by_cases h0 : d = 0
 ·have HE := Lib.hid (show clZ d = -1 by unfold clZ; rw [if_pos h0])
  have z0 : ((d : Int) == 0) = true := by rw [h0]; rfl
  clear h0
  go_enter Tryz.func75, Tryz.ntmps75
  go_wp2_with fail
  go_ret
  exact ⟨by rw [HE.out]; rfl, Below.refl _ _⟩
 ·have HE := Lib.hid (show clZ d = (clsP d : Int) by unfold clZ; rw [if_neg h0])
  have z0 : ((d : Int) == 0) = false := by rw [beq_eq_false_iff_ne]; omega
  have hd0 : 0 < d := by omega
  have HS0 := Lib.hid (cls_start d)
  clear h0
  go_enter Tryz.func75, Tryz.ntmps75
  go_wp2_with fail
  go_loopw [3, 4] (fun sv bv wr => ∃ b : Nat, sv = .int .i64 (sumTo (rowB d) b : Nat) ∧ bv = .int .i64 (b : Int) ∧ b ≤ d + 1 ∧ b % 2 = d % 2 ∧ Below w.heap.size w wr) (fun _ bv _ => d + 2 - (intOf bv).toNat)
  case atStart => exact ⟨d % 2, by rw [HS0.out]; rfl, by rw [Int.natCast_emod]; rfl, by omega, by omega, Below.refl _ _⟩
  case round =>
   obtain ⟨b, rfl, rfl, hb, hpar, hbr⟩ := hrel
   have hS0 : sumTo (rowB d) b ≤ b * ((d + 1) * 24) := sumTo_le fun _ _ => rowB_24
   have hS1 : b * ((d + 1) * 24) ≤ 1000001 * (1000001 * 24) := Nat.mul_le_mul (by omega) (Nat.mul_le_mul_right _ (by omega))
   obtain ⟨q, hq⟩ : ∃ q, q = b * b := ⟨_, rfl⟩
   have hqi : (b : Int) * (b : Int) = ((q : Nat) : Int) := by rw [hq]; exact (Int.natCast_mul b b).symm
   have hpi : 3 * (b : Int) * (b : Int) = ((3 * q : Nat) : Int) := by rw [Int.mul_assoc, hqi]; rfl
   have hbq : b = 0 ∨ b ≤ q := by
    rcases Nat.eq_zero_or_pos b with h | h
    ·exact .inl h
    ·exact .inr (by rw [hq]; exact Nat.le_mul_of_pos_left b h)
   have hbb : b * b ≤ 1000001 * 1000001 := Nat.mul_le_mul (by omega) (by omega)
   obtain ⟨p, hp⟩ : ∃ p, p = 3 * q := ⟨_, rfl⟩
   rw [← hp] at hpi
   have hp3 : p ≤ 3000006000003 := by omega
   rcases Nat.lt_or_ge d p with hlt | hge
   ·have z1 : ¬ p ≤ d := by omega
    have HF := Lib.hid (show sumTo (rowB d) b = clsP d from (clsP_upto (m := b) (fun b2 h => by have := Nat.mul_le_mul h h; omega) hb).symm)
    clear hS0 hS1 hq hp hbb
    generalize sumTo (rowB d) b = S0 at *
    go_wp2_with fail
    go_ret
    exact ⟨by rw [HE.out, ← HF.out]; rfl, hbr⟩
   ·have z1 : p ≤ d := hge
    have hTWO := Lib.hid (cls_two hpar)
    have hb2 : b + 2 ≤ d + 1 := by omega
    obtain ⟨S0, hS⟩ : ∃ S0, S0 = sumTo (rowB d) b := ⟨_, rfl⟩
    rw [← hS] at hS0 hTWO
    rw [← hS]
    have hq3 : 3 * q ≤ d := by omega
    have hS2 : S0 ≤ 24000048000024 := by omega
    clear hS0 hS1 hbb
    by_cases h4 : (d + q) % 4 = 0
    ·have t4 : (((q : Int) + (d : Int)) % 4 != 0) = false := by rw [bne_eq_false_iff_eq]; omega
     obtain ⟨n, hn⟩ : ∃ n, n = (q + d) / 4 := ⟨_, rfl⟩
     have hni : ((q : Int) + (d : Int)) / 4 = (n : Int) := by rw [hn]; omega
     have h4n : d + b * b = 4 * n := by rw [← hq]; omega
     have hnd : n ≤ d := by omega
     have HST := Lib.hid (in_start d b)
     have HUP := Lib.hid (fun (a : Nat) (h1 : n < a * a) (h2 : a ≤ d + 1) => show rowB d b = sumTo (fun a => wtC d a b) a from rowB_upto (fun a2 h3 => by have := Nat.mul_le_mul h3 h3; omega) h2)
     have HPR := Lib.hid (fun (a : Nat) (h1 : 1 ≤ a) (h2 : b ≤ a) (h3 : a * a ≤ n) => show sumTo (fun a => wtC d a b) (a + 1) = sumTo (fun a => wtC d a b) a + adP a b n by rw [sum_succ, wtC_prog h4n h1 h2 h3])
     have HLE := Lib.hid (fun a => wt_sum_le d b a)
     clear hn h4n h4 hq hp hS
     by_cases hbz : b < 1
     ·have hbi : (b : Int) < 1 := by omega
      go_wp2_with fail
      go_loopw [3, 6] (fun sv av wr => ∃ a : Nat, sv = .int .i64 ((S0 + sumTo (fun a => wtC d a b) a : Nat) : Int) ∧ av = .int .i64 (a : Int) ∧ 1 ≤ a ∧ b ≤ a ∧ a ≤ d + 1 ∧ Below w.heap.size w wr) (fun _ av _ => d + 2 - (intOf av).toNat)
      case atStart => exact ⟨1, by rw [show max b 1 = 1 by omega] at HST; rw [HST.out]; rfl, rfl, by omega, by omega, by omega, hbr⟩
      case round =>
       clear hbr
       obtain ⟨a, rfl, rfl, ha1, hba, had, hbr⟩ := hrel
       have hle := HLE.out a
       obtain ⟨r, hr⟩ : ∃ r, r = a * a := ⟨_, rfl⟩
       have hri : (a : Int) * (a : Int) = ((r : Nat) : Int) := by rw [hr]; exact (Int.natCast_mul a a).symm
       have har : a ≤ r := by rw [hr]; exact Nat.le_mul_of_pos_left a ha1
       have hrr : a * a ≤ 1000001 * 1000001 := Nat.mul_le_mul (by omega) (by omega)
       have hr2 : r ≤ 1000002000001 := by omega
       rcases Nat.lt_or_ge n r with hlt | hge2
       ·have z2 : ¬ r ≤ n := by omega
        have HU := Lib.hid (HUP.out a (by rw [← hr]; exact hlt) had)
        have HV := Lib.hid (show sumTo (rowB d) (b + 2) = S0 + sumTo (fun a => wtC d a b) a by rw [hTWO.out, HU.out])
        clear hr hrr
        generalize sumTo (fun a => wtC d a b) a = S1 at *
        go_wp2_with fail
        go_roundw
        case rel => exact ⟨b + 2, by rw [HV.out], by go_num, hb2, by omega, hbr⟩
        case measure => show d + 2 - (intOf (.int .i64 ((b : Int) + 2))).toNat < d + 2 - (intOf (.int .i64 (b : Int))).toNat; unfold intOf; simp only; omega
       ·have z2 : r ≤ n := hge2
        have HP := Lib.hid (HPR.out a ha1 hba (by rw [← hr]; exact hge2))
        have a0 : ((a : Int) == 0) = false := by rw [beq_eq_false_iff_ne]; omega
        have a1 : ((a : Int) == -1) = false := by rw [beq_eq_false_iff_ne]; omega
        have an : ¬ (a : Int) = 0 := by omega
        obtain ⟨c, hc⟩ : ∃ c, c = n / a := ⟨_, rfl⟩
        have hci : (n : Int) / (a : Int) = (c : Int) := by rw [hc, Int.natCast_ediv]
        have hcn : c ≤ n := by rw [hc]; exact Nat.div_le_self _ _
        have e1 : (n % a = 0 ∧ (((n : Nat) : Int) % (a : Int) != 0) = false) ∨ (n % a ≠ 0 ∧ (((n : Nat) : Int) % (a : Int) != 0) = true) := by
         rcases Nat.decEq (n % a) 0 with h | h
         ·exact .inr ⟨h, by rw [← Int.natCast_emod, bne_iff_ne]; omega⟩
         ·exact .inl ⟨h, by rw [← Int.natCast_emod, h]; rfl⟩
        have e2 : (b = 0 ∧ ((b : Int) == 0) = true) ∨ (b ≠ 0 ∧ ((b : Int) == 0) = false) := by
         rcases Nat.decEq b 0 with h | h
         ·exact .inr ⟨h, by rw [beq_eq_false_iff_ne]; omega⟩
         ·exact .inl ⟨h, by rw [h]; rfl⟩
        have e3 : (a = c ∧ ((a : Int) == (c : Int)) = true) ∨ (a ≠ c ∧ ((a : Int) == (c : Int)) = false) := by
         rcases Nat.decEq a c with h | h
         ·exact .inr ⟨h, by rw [beq_eq_false_iff_ne]; omega⟩
         ·exact .inl ⟨h, by rw [beq_iff_eq]; omega⟩
        have e4 : (a = b ∧ ((a : Int) == (b : Int)) = true) ∨ (a ≠ b ∧ ((a : Int) == (b : Int)) = false) := by
         rcases Nat.decEq a b with h | h
         ·exact .inr ⟨h, by rw [beq_eq_false_iff_ne]; omega⟩
         ·exact .inl ⟨h, by rw [beq_iff_eq]; omega⟩
        obtain ⟨X, hX⟩ : ∃ X, X = adP a b n := ⟨_, rfl⟩
        have HA := Lib.hid (show X = if n % a = 0 then (if b = 0 ∧ a = c then 6 else if a = b ∧ a = c then 4 else if b = 0 ∨ a = b ∨ a = c then 12 else 24) else 0 by rw [hX, hc]; rfl)
        obtain ⟨A, hA⟩ : ∃ A, A = a + 1 := ⟨_, rfl⟩
        have hAi : (a : Int) + 1 = (A : Int) := by omega
        have hA1 : 1 ≤ A ∧ b ≤ A ∧ A ≤ d + 1 ∧ d + 2 - A < d + 2 - a := by omega
        rw [← hA] at HP
        clear hr hrr hc hA
        obtain ⟨S1, hS1⟩ : ∃ S1, S1 = S0 + sumTo (fun a => wtC d a b) a := ⟨_, rfl⟩
        have HPP := Lib.hid (show S0 + sumTo (fun a => wtC d a b) A = S1 + X by rw [hX, HP.out, hS1]; omega)
        rw [← hS1]
        have hS1b : S1 ≤ 24000096000048 := by omega
        clear hS1 HP hle hX
        rcases e1 with ⟨h1, t1⟩ | ⟨h1, t1⟩
        ·rcases e2 with ⟨h2, t2⟩ | ⟨h2, t2⟩ <;> rcases e3 with ⟨h3, t3⟩ | ⟨h3, t3⟩ <;> rcases e4 with ⟨h5, t5⟩ | ⟨h5, t5⟩ <;> (try (exfalso; omega))
         all_goals
          have HB := HA.out
          have HC := HPP.out
          rw [if_pos h1] at HB
          first | rw [if_pos (by omega : b = 0 ∧ a = c)] at HB | rw [if_neg (by omega : ¬ (b = 0 ∧ a = c)), if_pos (by omega : a = b ∧ a = c)] at HB | rw [if_neg (by omega : ¬ (b = 0 ∧ a = c)), if_neg (by omega : ¬ (a = b ∧ a = c)), if_pos (by omega : b = 0 ∨ a = b ∨ a = c)] at HB | rw [if_neg (by omega : ¬ (b = 0 ∧ a = c)), if_neg (by omega : ¬ (a = b ∧ a = c)), if_neg (by omega : ¬ (b = 0 ∨ a = b ∨ a = c))] at HB
          rw [HB] at HC
          have HD := Lib.hid HC
          clear HB HC HA HPP h1 h2 h3 h5
          go_wp2_with fail
          go_roundw
          case rel => exact ⟨A, by rw [HD.out]; go_num, rfl, hA1.1, hA1.2.1, hA1.2.2.1, hbr⟩
          case measure => simp [intOf]; omega
        ·have HB := HA.out
         have HC := HPP.out
         rw [if_neg h1] at HB
         rw [HB] at HC
         have HD := Lib.hid HC
         clear HB HC HA HPP h1 e2 e3 e4
         go_wp2_with fail
         go_roundw
         case rel => exact ⟨A, by rw [HD.out]; go_num, rfl, hA1.1, hA1.2.1, hA1.2.2.1, hbr⟩
         case measure => simp [intOf]; omega
     ·have hbi : ¬ (b : Int) < 1 := by omega
      have hbj : 1 ≤ (b : Int) := by omega
      go_wp2_with fail
      go_loopw [3, 6] (fun sv av wr => ∃ a : Nat, sv = .int .i64 ((S0 + sumTo (fun a => wtC d a b) a : Nat) : Int) ∧ av = .int .i64 (a : Int) ∧ 1 ≤ a ∧ b ≤ a ∧ a ≤ d + 1 ∧ Below w.heap.size w wr) (fun _ av _ => d + 2 - (intOf av).toNat)
      case atStart => exact ⟨b, by rw [show max b 1 = b by omega] at HST; rw [HST.out]; rfl, rfl, by omega, by omega, by omega, hbr⟩
      case round =>
       clear hbr
       obtain ⟨a, rfl, rfl, ha1, hba, had, hbr⟩ := hrel
       have hle := HLE.out a
       obtain ⟨r, hr⟩ : ∃ r, r = a * a := ⟨_, rfl⟩
       have hri : (a : Int) * (a : Int) = ((r : Nat) : Int) := by rw [hr]; exact (Int.natCast_mul a a).symm
       have har : a ≤ r := by rw [hr]; exact Nat.le_mul_of_pos_left a ha1
       have hrr : a * a ≤ 1000001 * 1000001 := Nat.mul_le_mul (by omega) (by omega)
       have hr2 : r ≤ 1000002000001 := by omega
       rcases Nat.lt_or_ge n r with hlt | hge2
       ·have z2 : ¬ r ≤ n := by omega
        have HU := Lib.hid (HUP.out a (by rw [← hr]; exact hlt) had)
        have HV := Lib.hid (show sumTo (rowB d) (b + 2) = S0 + sumTo (fun a => wtC d a b) a by rw [hTWO.out, HU.out])
        clear hr hrr
        generalize sumTo (fun a => wtC d a b) a = S1 at *
        go_wp2_with fail
        go_roundw
        case rel => exact ⟨b + 2, by rw [HV.out], by go_num, hb2, by omega, hbr⟩
        case measure => show d + 2 - (intOf (.int .i64 ((b : Int) + 2))).toNat < d + 2 - (intOf (.int .i64 (b : Int))).toNat; unfold intOf; simp only; omega
       ·have z2 : r ≤ n := hge2
        have HP := Lib.hid (HPR.out a ha1 hba (by rw [← hr]; exact hge2))
        have a0 : ((a : Int) == 0) = false := by rw [beq_eq_false_iff_ne]; omega
        have a1 : ((a : Int) == -1) = false := by rw [beq_eq_false_iff_ne]; omega
        have an : ¬ (a : Int) = 0 := by omega
        obtain ⟨c, hc⟩ : ∃ c, c = n / a := ⟨_, rfl⟩
        have hci : (n : Int) / (a : Int) = (c : Int) := by rw [hc, Int.natCast_ediv]
        have hcn : c ≤ n := by rw [hc]; exact Nat.div_le_self _ _
        have e1 : (n % a = 0 ∧ (((n : Nat) : Int) % (a : Int) != 0) = false) ∨ (n % a ≠ 0 ∧ (((n : Nat) : Int) % (a : Int) != 0) = true) := by
         rcases Nat.decEq (n % a) 0 with h | h
         ·exact .inr ⟨h, by rw [← Int.natCast_emod, bne_iff_ne]; omega⟩
         ·exact .inl ⟨h, by rw [← Int.natCast_emod, h]; rfl⟩
        have e2 : (b = 0 ∧ ((b : Int) == 0) = true) ∨ (b ≠ 0 ∧ ((b : Int) == 0) = false) := by
         rcases Nat.decEq b 0 with h | h
         ·exact .inr ⟨h, by rw [beq_eq_false_iff_ne]; omega⟩
         ·exact .inl ⟨h, by rw [h]; rfl⟩
        have e3 : (a = c ∧ ((a : Int) == (c : Int)) = true) ∨ (a ≠ c ∧ ((a : Int) == (c : Int)) = false) := by
         rcases Nat.decEq a c with h | h
         ·exact .inr ⟨h, by rw [beq_eq_false_iff_ne]; omega⟩
         ·exact .inl ⟨h, by rw [beq_iff_eq]; omega⟩
        have e4 : (a = b ∧ ((a : Int) == (b : Int)) = true) ∨ (a ≠ b ∧ ((a : Int) == (b : Int)) = false) := by
         rcases Nat.decEq a b with h | h
         ·exact .inr ⟨h, by rw [beq_eq_false_iff_ne]; omega⟩
         ·exact .inl ⟨h, by rw [beq_iff_eq]; omega⟩
        obtain ⟨X, hX⟩ : ∃ X, X = adP a b n := ⟨_, rfl⟩
        have HA := Lib.hid (show X = if n % a = 0 then (if b = 0 ∧ a = c then 6 else if a = b ∧ a = c then 4 else if b = 0 ∨ a = b ∨ a = c then 12 else 24) else 0 by rw [hX, hc]; rfl)
        obtain ⟨A, hA⟩ : ∃ A, A = a + 1 := ⟨_, rfl⟩
        have hAi : (a : Int) + 1 = (A : Int) := by omega
        have hA1 : 1 ≤ A ∧ b ≤ A ∧ A ≤ d + 1 ∧ d + 2 - A < d + 2 - a := by omega
        rw [← hA] at HP
        clear hr hrr hc hA
        obtain ⟨S1, hS1⟩ : ∃ S1, S1 = S0 + sumTo (fun a => wtC d a b) a := ⟨_, rfl⟩
        have HPP := Lib.hid (show S0 + sumTo (fun a => wtC d a b) A = S1 + X by rw [hX, HP.out, hS1]; omega)
        rw [← hS1]
        have hS1b : S1 ≤ 24000096000048 := by omega
        clear hS1 HP hle hX
        rcases e1 with ⟨h1, t1⟩ | ⟨h1, t1⟩
        ·rcases e2 with ⟨h2, t2⟩ | ⟨h2, t2⟩ <;> rcases e3 with ⟨h3, t3⟩ | ⟨h3, t3⟩ <;> rcases e4 with ⟨h5, t5⟩ | ⟨h5, t5⟩ <;> (try (exfalso; omega))
         all_goals
          have HB := HA.out
          have HC := HPP.out
          rw [if_pos h1] at HB
          first | rw [if_pos (by omega : b = 0 ∧ a = c)] at HB | rw [if_neg (by omega : ¬ (b = 0 ∧ a = c)), if_pos (by omega : a = b ∧ a = c)] at HB | rw [if_neg (by omega : ¬ (b = 0 ∧ a = c)), if_neg (by omega : ¬ (a = b ∧ a = c)), if_pos (by omega : b = 0 ∨ a = b ∨ a = c)] at HB | rw [if_neg (by omega : ¬ (b = 0 ∧ a = c)), if_neg (by omega : ¬ (a = b ∧ a = c)), if_neg (by omega : ¬ (b = 0 ∨ a = b ∨ a = c))] at HB
          rw [HB] at HC
          have HD := Lib.hid HC
          clear HB HC HA HPP h1 h2 h3 h5
          go_wp2_with fail
          go_roundw
          case rel => exact ⟨A, by rw [HD.out]; go_num, rfl, hA1.1, hA1.2.1, hA1.2.2.1, hbr⟩
          case measure => simp [intOf]; omega
        ·have HB := HA.out
         have HC := HPP.out
         rw [if_neg h1] at HB
         rw [HB] at HC
         have HD := Lib.hid HC
         clear HB HC HA HPP h1 e2 e3 e4
         go_wp2_with fail
         go_roundw
         case rel => exact ⟨A, by rw [HD.out]; go_num, rfl, hA1.1, hA1.2.1, hA1.2.2.1, hbr⟩
         case measure => simp [intOf]; omega
    ·have t4 : (((q : Int) + (d : Int)) % 4 != 0) = true := by rw [bne_iff_ne]; omega
     have HV := Lib.hid (show sumTo (rowB d) (b + 2) = S0 by rw [hTWO.out, rowB_zero (by rw [← hq]; exact h4)]; rfl)
     clear h4 hq hp hS
     go_wp2_with fail
     go_roundw
     case rel => exact ⟨b + 2, by rw [HV.out], by go_num, hb2, by omega, hbr⟩
     case measure => show d + 2 - (intOf (.int .i64 ((b : Int) + 2))).toNat < d + 2 - (intOf (.int .i64 (b : Int))).toNat; unfold intOf; simp only; omega
end Go.Proofs.YtdjpeimecfhdjaaGreat
namespace Go.Proofs.YtdjpeimecfhdjaaGreat
open Go.RowKit
theorem jcF_le : ∀ (f a n : Nat) (o : Int), -1 ≤ o → o ≤ 1 → -1 ≤ jcF f a n o ∧ jcF f a n o ≤ 1
 | 0, a, n, o, h1, h2 => ⟨h1, h2⟩
 | f + 1, a, n, o, h1, h2 => by
  by_cases h : a = 0
  ·rw [jc_zero h]
   split <;> omega
  ·rw [jc_step h rfl rfl]
   refine jcF_le f _ _ _ ?_ ?_ <;> (repeat' split) <;> omega
theorem symP_le (d p : Nat) : -1 ≤ symP d p ∧ symP d p ≤ 1 := by
 unfold symP jcP
 (repeat' split)
 ·exact jcF_le _ _ _ _ (by omega) (by omega)
 all_goals omega
theorem clsP_le (d : Nat) : clsP d ≤ (d + 1) * ((d + 1) * 24) := sumTo_le fun b _ => rowB_24 (d := d) (b := b)
set_option maxRecDepth 100000 in
set_option maxHeartbeats 4000000 in
theorem local_any {p : Nat} (hp : 2 ≤ p) (hp2 : p ≤ 1000) (hpr : Pr p) : ∀ (f d : Nat) (w : World), d < f → d ≤ 4000 →
  Calls Tryz.prog 79 #[.int .i64 p, .int .i64 d] w fun e w' => e = .returned (.int .i64 (lcF f p d)) ∧ Below w.heap.size w w' := by
 intro f
 induction f with
 | zero => intro d w h; omega
 | succ f ih =>
  intro d w hf hd
  by_cases h0 : d = 0
  ·have HE := Lib.hid (show lcF (f + 1) p d = (p : Int) - 1 by unfold lcF; rw [if_pos h0])
   have z0 : ((d : Int) == 0) = true := by rw [h0]; rfl
   clear h0 hf hpr
   go_enter Tryz.func79, Tryz.ntmps79
   go_wp2_with fail
   go_ret
   exact ⟨by rw [HE.out]; rfl, Below.refl _ _⟩
  have z0 : ((d : Int) == 0) = false := by rw [beq_eq_false_iff_ne]; omega
  by_cases h1 : d % 4 = 1
  ·have HE := Lib.hid (show lcF (f + 1) p d = 0 by unfold lcF; rw [if_neg h0, if_pos (.inl h1)])
   have z1 : (((d : Nat) : Int) % 4 == 1) = true := by rw [beq_iff_eq]; omega
   clear h0 hf hpr h1
   go_enter Tryz.func79, Tryz.ntmps79
   go_wp2_with fail
   go_ret
   exact ⟨by rw [HE.out]; rfl, Below.refl _ _⟩
  have z1 : (((d : Nat) : Int) % 4 == 1) = false := by rw [beq_eq_false_iff_ne]; omega
  by_cases h2 : d % 4 = 2
  ·have HE := Lib.hid (show lcF (f + 1) p d = 0 by unfold lcF; rw [if_neg h0, if_pos (.inr h2)])
   have z2 : (((d : Nat) : Int) % 4 == 2) = true := by rw [beq_iff_eq]; omega
   clear h0 hf hpr h1 h2
   go_enter Tryz.func79, Tryz.ntmps79
   go_wp2_with fail
   go_ret
   exact ⟨by rw [HE.out]; rfl, Below.refl _ _⟩
  have z2 : (((d : Nat) : Int) % 4 == 2) = false := by rw [beq_eq_false_iff_ne]; omega
  have HC := Lib.hid (@conductor_any d w (by omega) (by omega))
  obtain ⟨c, hc⟩ : ∃ c, c = cndP d := ⟨_, rfl⟩
  rw [← hc] at HC
  have p0 : ((p : Int) == 0) = false := by rw [beq_eq_false_iff_ne]; omega
  have p1 : ((p : Int) == -1) = false := by rw [beq_eq_false_iff_ne]; omega
  have pn : ¬ (p : Int) = 0 := by omega
  obtain ⟨q, hq⟩ : ∃ q, q = p * p := ⟨_, rfl⟩
  have hqi : (p : Int) * (p : Int) = ((q : Nat) : Int) := by rw [hq]; exact (Int.natCast_mul p p).symm
  have hq1 : p ≤ q := by rw [hq]; exact Nat.le_mul_of_pos_left p (by omega)
  have hq2 : q ≤ 1000 * 1000 := by rw [hq]; exact Nat.mul_le_mul hp2 hp2
  have q0 : ((q : Int) == 0) = false := by rw [beq_eq_false_iff_ne]; omega
  have q1 : ((q : Int) == -1) = false := by rw [beq_eq_false_iff_ne]; omega
  have qn : ¬ (q : Int) = 0 := by omega
  by_cases h3 : c % p = 0
  ·have HE := Lib.hid (show lcF (f + 1) p d = lcF f p (d / q) by
    rw [hq]
    show (if d = 0 then _ else _) = _
    rw [if_neg h0, if_neg (by omega), if_pos (by rw [← hc]; exact h3)])
   have z3 : (((c : Nat) : Int) % (p : Int) == 0) = true := by rw [← Int.natCast_emod, h3]; rfl
   obtain ⟨m, hm⟩ : ∃ m, m = d / q := ⟨_, rfl⟩
   have hm2 : (d : Int) / (q : Int) = (m : Int) := by rw [hm, Int.natCast_ediv]
   have hlt : m < d := by rw [hm]; exact Nat.div_lt_self (by omega) (by omega)
   rw [← hm] at HE
   have HI := Lib.hid (fun w => ih m w (by omega) (by omega))
   clear h0 hf hpr h1 h2 h3 hc hm hq ih
   go_enter Tryz.func79, Tryz.ntmps79
   go_wp2_with (first
    | (go_at_call 135; go_must (refine HC.out.mono ?_); rintro e w1 ⟨rfl, hb1⟩)
    | (go_at_call 79; go_must (refine (HI.out _).mono ?_); rintro e w2 ⟨rfl, hb2⟩))
   go_ret
   exact ⟨by rw [HE.out]; rfl, btrN hb1 hb2⟩
  ·have HE := Lib.hid (show lcF (f + 1) p d = (clsP d : Int) * (1 - symP d p) by
    show (if d = 0 then _ else _) = _
    rw [if_neg h0, if_neg (by omega), if_neg (by rw [← hc]; exact h3)])
   have z3 : (((c : Nat) : Int) % (p : Int) == 0) = false := by rw [← Int.natCast_emod, beq_eq_false_iff_ne]; omega
   have HK := Lib.hid (fun w : World => @classes_any d w (by omega))
   have HS := Lib.hid (fun w : World => @symbol_any d p w (by omega) hp (by omega) hpr)
   have hZ : clZ d = (clsP d : Int) := by unfold clZ; rw [if_neg h0]
   rw [hZ] at HK
   have hcl := clsP_le d
   have hcm : (d + 1) * ((d + 1) * 24) ≤ 4001 * (4001 * 24) := Nat.mul_le_mul (by omega) (by omega)
   have hsy := symP_le d p
   clear h0 hf hpr h1 h2 h3 hc hq ih hZ
   generalize clsP d = X at *
   obtain ⟨y, hy⟩ : ∃ y, y = 1 - symP d p := ⟨_, rfl⟩
   rw [← hy] at HE
   have hyb : 0 ≤ y ∧ y ≤ 2 := by omega
   have hXy : 0 ≤ (X : Int) * y ∧ (X : Int) * y ≤ 768384048 := by
    rcases (show y = 0 ∨ y = 1 ∨ y = 2 by omega) with h | h | h <;> rw [h] <;> omega
   generalize symP d p = z at *
   clear hcm
   rw [hy] at hXy
   have hwr : wrap64 ((X : Int) * (1 - z)) = (X : Int) * (1 - z) := by unfold wrap64; omega
   go_enter Tryz.func79, Tryz.ntmps79
   go_wp2_with (first
    | (go_at_call 135; go_must (refine HC.out.mono ?_); rintro e w1 ⟨rfl, hb1⟩)
    | (go_at_call 75; go_must (refine (HK.out _).mono ?_); rintro e w2 ⟨rfl, hb2⟩)
    | (go_at_call 136; go_must (refine (HS.out _).mono ?_); rintro e w3 ⟨rfl, hb3⟩))
   go_ret
   exact ⟨by rw [HE.out, hy]; rfl, btrN (btrN hb1 hb2) hb3⟩
theorem lcF_le {p : Nat} (hp : 2 ≤ p) (hp2 : p ≤ 1000) : ∀ (f d : Nat), d ≤ 4000 → -768384048 ≤ lcF f p d ∧ lcF f p d ≤ 768384048
 | 0, d, hd => by unfold lcF; omega
 | f + 1, d, hd => by
  unfold lcF
  split
  ·omega
  split
  ·omega
  split
  ·exact lcF_le hp hp2 f _ (Nat.le_trans (Nat.div_le_self _ _) hd)
  ·have hcl := clsP_le d
   have hcm : (d + 1) * ((d + 1) * 24) ≤ 4001 * (4001 * 24) := Nat.mul_le_mul (by omega) (by omega)
   have hsy := symP_le d p
   generalize clsP d = X at *
   generalize symP d p = z at *
   rcases (show z = -1 ∨ z = 0 ∨ z = 1 by omega) with h | h | h <;> rw [h] <;> omega
theorem lcP_le {p d : Nat} (hp : 2 ≤ p) (hp2 : p ≤ 1000) (hd : d ≤ 4000) : -768384048 ≤ lcP p d ∧ lcP p d ≤ 768384048 := lcF_le hp hp2 _ _ hd
def trZ (p n : Nat) : Nat → Int
 | 0 => lcP p (4 * n)
 | s + 1 => trZ p n s + 2 * lcP p (4 * n - (s + 1) * (s + 1))
theorem trZ_le {p n : Nat} (hp : 2 ≤ p) (hp2 : p ≤ 1000) (hn : n ≤ 1000) : ∀ s : Nat, -((2 * s + 1) * 768384048 : Int) ≤ trZ p n s ∧ trZ p n s ≤ (2 * s + 1) * 768384048
 | 0 => by have := @lcP_le p (4 * n) hp hp2 (by omega); unfold trZ; omega
 | s + 1 => by
  have h1 := trZ_le hp hp2 hn s
  have h2 := @lcP_le p (4 * n - (s + 1) * (s + 1)) hp hp2 (by omega)
  unfold trZ
  generalize lcP p (4 * n - (s + 1) * (s + 1)) = z at *
  omega
def TrR (p n : Nat) (w : World) (e : Ending) (w' : World) : Prop := ∃ k, k * k ≤ 4 * n ∧ 4 * n < (k + 1) * (k + 1) ∧ e = .returned (.tuple #[.agg #[.int .i64 (lwBN (trZ p n k) 24), .int .i64 (lwBD (trZ p n k) 24)], .int .i64 0]) ∧ Below w.heap.size w w'
set_option maxRecDepth 100000 in
set_option maxHeartbeats 4000000 in
theorem Trace_any {p n : Nat} {w : World} (hp : 2 ≤ p) (hp2 : p ≤ 1000) (hpr : Pr p) (hn : 1 ≤ n) (hn2 : n ≤ 1000) :
  Calls Tryz.prog 25 #[.int .i64 p, .int .i64 n] w (TrR p n w) := by
 have HP := Lib.hid (fun w : World => @IsPrime_any w (p : Int) (by omega))
 have HT := Lib.hid (primeI_true hp (by omega) hpr)
 have HL := Lib.hid (fun (d : Nat) (hd : d ≤ 4000) (w : World) => show Calls Tryz.prog 79 #[.int .i64 p, .int .i64 d] w fun e w' => e = .returned (.int .i64 (lcP p d)) ∧ Below w.heap.size w w' from local_any hp hp2 hpr (d + 1) d w (by omega) hd)
 have HW := Lib.hid (fun (z : Int) (h : z.natAbs ≤ 9000000000000000000) (w : World) => @lowestB_any z 24 w h (by omega) (by omega))
 have HB := Lib.hid (@trZ_le p n hp hp2 hn2)
 have HS := Lib.hid (fun s => show trZ p n (s + 1) = trZ p n s + 2 * lcP p (4 * n - (s + 1) * (s + 1)) from rfl)
 have HLL := Lib.hid (fun (d : Nat) (hd : d ≤ 4000) => @lcP_le p d hp hp2 hd)
 obtain ⟨N, hN⟩ : ∃ N, N = 4 * n := ⟨_, rfl⟩
 have hNi : 4 * (n : Int) = (N : Int) := by omega
 have hN2 : N ≤ 4000 := by omega
 have HNN := Lib.hid hN
 have HL0 := Lib.hid (HL.out N hN2)
 have H0 := Lib.hid (show trZ p n 0 = lcP p N by rw [hN]; rfl)
 obtain ⟨l0, hl0⟩ : ∃ l0, l0 = lcP p N := ⟨_, rfl⟩
 rw [← hl0] at HL0 H0
 have y1 : ¬ (n : Int) < 1 := by omega
 have y2 : ¬ 1000 < (n : Int) := by omega
 have y3 : ¬ (p : Int) < 2 := by omega
 have y4 : ¬ 1000 < (p : Int) := by omega
 have y5 : ¬ n < 1 := by omega
 have y6 : ¬ 1000 < n := by omega
 have y7 : ¬ p < 2 := by omega
 have y8 : ¬ 1000 < p := by omega
 have hl0b := HLL.out N hN2
 rw [← hl0] at hl0b
 clear hN hl0 hpr
 go_enter Tryz.func25, Tryz.ntmps25
 go_wp2_with (first
  | (go_at_call 78; go_must (refine (HP.out _).mono ?_); rintro e w1 ⟨rfl, rfl⟩; rw [HT.out])
  | (go_at_call 79; go_must (refine (HL0.out _).mono ?_); rintro e w2 ⟨rfl, hb2⟩))
 have hB2 : Below w.heap.size w w2 := ((Below.refl _ _).alloc (Nat.le_refl _) _).trans (hb2.mono (by simp))
 have c0 : w2.cell? ⟨w.heap.size, 0, none⟩ = some (.int .i64 0) := keepB hb2 (by go_simp)
 have c1 : w2.cell? ⟨w.heap.size, 1, none⟩ = some (.int .i64 0) := keepB hb2 (by go_simp)
 have z0 : w2.frozen? ⟨w.heap.size, 0, none⟩ = false := ((bcell hb2).2 _ _ (by simp)).trans (by go_simp)
 have z1 : w2.frozen? ⟨w.heap.size, 1, none⟩ = false := ((bcell hb2).2 _ _ (by simp)).trans (by go_simp)
 go_loopw [6, 7] (fun sv kv wr => ∃ k : Nat, sv = .int .i64 (trZ p n k) ∧ kv = .int .i64 ((k + 1 : Nat) : Int) ∧ k * k ≤ N ∧ k ≤ 63 ∧ Below w.heap.size w wr ∧ wr.cell? ⟨w.heap.size, 0, none⟩ = some (.int .i64 0) ∧ wr.cell? ⟨w.heap.size, 1, none⟩ = some (.int .i64 0) ∧ wr.frozen? ⟨w.heap.size, 0, none⟩ = false ∧ wr.frozen? ⟨w.heap.size, 1, none⟩ = false) (fun _ kv _ => 100 - (intOf kv).toNat)
 case atStart => exact ⟨0, by rw [H0.out], rfl, by omega, by omega, hB2, c0, c1, z0, z1⟩
 case round =>
  clear hb2 hB2 c0 c1 z0 z1
  obtain ⟨k, rfl, rfl, hk, hk63, hbr, c0, c1, z0, z1⟩ := hrel
  obtain ⟨s, hs⟩ : ∃ s, s = k + 1 := ⟨_, rfl⟩
  obtain ⟨q, hq⟩ : ∃ q, q = s * s := ⟨_, rfl⟩
  have hqi : (s : Int) * (s : Int) = ((q : Nat) : Int) := by rw [hq]; exact (Int.natCast_mul s s).symm
  have hqb : q ≤ 64 * 64 := by rw [hq]; exact Nat.mul_le_mul (by omega) (by omega)
  have htb := HB.out k
  obtain ⟨T, hT⟩ : ∃ T, T = trZ p n k := ⟨_, rfl⟩
  rw [← hT] at htb
  have htb2 : -97587000000 ≤ T ∧ T ≤ 97587000000 := by omega
  rw [← hs, ← hT]
  rcases Nat.lt_or_ge N q with hlt | hge
  ·have x1 : ¬ q ≤ N := by omega
   have HE := Lib.hid (show k * k ≤ 4 * n ∧ 4 * n < (k + 1) * (k + 1) by rw [← HNN.out, ← hs, ← hq]; exact ⟨hk, hlt⟩)
   have HTT := Lib.hid hT
   have HW2 := Lib.hid (HW.out T (by omega))
   generalize hx : lwBN T 24 = x at *
   generalize hy : lwBD T 24 = y at *
   have HX := Lib.hid hx
   have HY := Lib.hid hy
   clear hs hq hT htb hx hy hk
   go_wp2_with (go_at_call 74; go_must (refine (HW2.out _).mono ?_); rintro e w3 ⟨rfl, hb3⟩; have d0 := keepB hb3 c0; have d1 := keepB hb3 c1; have e0 := ((bcell hb3).2 _ _ (cell_lt c0)).trans z0; have e1 := ((bcell hb3).2 _ _ (cell_lt c0)).trans z1)
   have g0 : ((w3.setCell ⟨w.heap.size, 0, none⟩ (.int .i64 x)).setCell ⟨w.heap.size, 1, none⟩ (.int .i64 y)).cell? ⟨w.heap.size, 0, none⟩ = some (.int .i64 x) := by go_simp
   have g1 : ((w3.setCell ⟨w.heap.size, 0, none⟩ (.int .i64 x)).setCell ⟨w.heap.size, 1, none⟩ (.int .i64 y)).cell? ⟨w.heap.size, 1, none⟩ = some (.int .i64 y) := by go_simp
   have hb9 : Below w.heap.size w ((w3.setCell ⟨w.heap.size, 0, none⟩ (.int .i64 x)).setCell ⟨w.heap.size, 1, none⟩ (.int .i64 y)) := (((btrN hbr hb3).setCell (Nat.le_refl _) _).setCell (Nat.le_refl _) _)
   generalize hW : (w3.setCell ⟨w.heap.size, 0, none⟩ (.int .i64 x)).setCell ⟨w.heap.size, 1, none⟩ (.int .i64 y) = W at *
   refine bodyPost_ret (v := .tuple #[.agg #[.int .i64 x, .int .i64 y], .int .i64 0]) (by simp [results, Tryz.results25, go_sem, g0, g1]) rfl ⟨k, HE.out.1, HE.out.2, ?_, hb9⟩
   rw [← HTT.out, HX.out, HY.out]
  ·have x1 : q ≤ N := hge
   have hs63 : s ≤ 63 := by
    rcases Nat.lt_or_ge 63 s with h | h
    ·have := Nat.mul_le_mul (show 64 ≤ s from h) (show 64 ≤ s from h)
     omega
    ·exact h
   obtain ⟨m, hm⟩ : ∃ m, m = N - q := ⟨_, rfl⟩
   have hmi : (N : Int) - (q : Int) = (m : Int) := by omega
   have HST := Lib.hid (show trZ p n s = T + 2 * lcP p m by rw [hT, hm, hq, hs, HNN.out]; exact HS.out k)
   have HL2 := Lib.hid (HL.out m (by omega))
   have hlb := HLL.out m (by omega)
   have hkq : s * s ≤ N := by rw [← hq]; exact hge
   generalize lcP p m = l at *
   clear hs hq hT htb hm hk
   go_wp2_with (go_at_call 79; go_must (refine (HL2.out _).mono ?_); rintro e w3 ⟨rfl, hb3⟩; have d0 := keepB hb3 c0; have d1 := keepB hb3 c1; have e0 := ((bcell hb3).2 _ _ (cell_lt c0)).trans z0; have e1 := ((bcell hb3).2 _ _ (cell_lt c0)).trans z1)
   go_roundw
   case rel => exact ⟨s, by rw [HST.out], by go_num, hkq, hs63, btrN hbr hb3, d0, d1, e0, e1⟩
   case measure => simp [intOf]; omega
theorem trZ_ex : trZ 11 2 2 = 24 := by decide +kernel
theorem Trace_ex {w : World} : Calls Tryz.prog 25 #[.int .i64 11, .int .i64 2] w fun e w' => e = .returned (.tuple #[.agg #[.int .i64 1, .int .i64 1], .int .i64 0]) ∧ Below w.heap.size w w' := by
 refine (@Trace_any 11 2 w (by omega) (by omega) (pr_lit (by decide)) (by omega) (by omega)).mono ?_
 rintro e w' ⟨k, h1, h2, rfl, hb⟩
 have hk : k = 2 := by
  rcases Nat.lt_or_ge k 2 with h | h
  ·have := Nat.mul_le_mul (show k + 1 ≤ 2 by omega) (show k + 1 ≤ 2 by omega)
   omega
  ·rcases Nat.lt_or_ge 2 k with h3 | h3
   ·have := Nat.mul_le_mul (show 3 ≤ k from h3) (show 3 ≤ k from h3)
    omega
   ·omega
 subst hk
 rw [trZ_ex]
 exact ⟨rfl, hb⟩
end Go.Proofs.YtdjpeimecfhdjaaGreat
