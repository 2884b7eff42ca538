/- The reference's Eisenstein, RowSum. Equal lists (Ints). -/
import Derived.Test.YtdjpeimecfhdjaaGreatTt
namespace Go.Proofs.YtdjpeimecfhdjaaGreat
open Go.RowKit
theorem bAbs_any {w : World} (t : Int) (h1 : -9000000000000000000 ≤ t) (h2 : t ≤ 9000000000000000000) : Calls Tryz.prog 35 #[.int .i64 t] w fun e w' => e = .returned (.int .i64 (t.natAbs : Int)) ∧ w = w' := by
 have hw : IntKind.i64.wrap (-t) = -t := IntWalk.i64_in _ (by omega)
 by_cases h : t < 0
 ·have hd : decide (t < 0) = true := decide_eq_true h
  have e : ((t.natAbs : Nat) : Int) = -t := by omega
  rw [e]
  clear e
  go_enter Tryz.func35, Tryz.ntmps35
  go_wp2_with fail
  go_ret
  exact ⟨rfl, rfl⟩
 ·have hd : decide (t < 0) = false := decide_eq_false h
  have e : ((t.natAbs : Nat) : Int) = t := by omega
  rw [e]
  clear e
  go_enter Tryz.func35, Tryz.ntmps35
  go_wp2_with fail
  go_ret
  exact ⟨rfl, rfl⟩
theorem gcd_stepI (x y : Int) : Int.gcd y (x.tmod y) = Int.gcd x y := by
 rw [Int.gcd, Int.natAbs_tmod, Int.gcd, Nat.gcd_comm x.natAbs, Nat.gcd_comm y.natAbs, ← Nat.gcd_rec]
set_option maxHeartbeats 1000000 in
theorem bGcd_any {a b : Int} {w : World} (ha : a.natAbs ≤ 9000000000000000000) (hb : b.natAbs ≤ 9000000000000000000) :
  Calls Tryz.prog 83 #[.int .i64 a, .int .i64 b] w fun e w' => e = .returned (.int .i64 (Int.gcd a b : Nat)) ∧ Below w.heap.size w w' := by
 go_enter Tryz.func83, Tryz.ntmps83
 go_wp2_with fail
 go_loopw [0, 1] (fun av bv wr => ∃ x y : Int, av = .int .i64 x ∧ bv = .int .i64 y ∧ x.natAbs ≤ 9000000000000000000 ∧ y.natAbs ≤ 9000000000000000000 ∧ Hid (Int.gcd x y = Int.gcd a b) ∧ Below w.heap.size w wr) (fun _ bv _ => (intOf bv).natAbs)
 case atStart => exact ⟨a, b, rfl, rfl, ha, hb, Lib.hid rfl, Below.refl _ _⟩
 case round =>
  clear ha hb
  obtain ⟨x, y, rfl, rfl, hx, hy, HG, hbr⟩ := hrel
  by_cases h0 : y = 0
  ·subst h0
   have HE := Lib.hid (show Int.gcd a b = x.natAbs by rw [← HG.out, Int.gcd_zero_right])
   have HA := Lib.hid (bAbs_any (w := wr) x (by omega) (by omega))
   clear HG hy
   go_wp2_with (go_at_call 35; go_must (refine HA.out.mono ?_); rintro e w2 ⟨rfl, rfl⟩)
   go_ret
   exact ⟨by rw [HE.out]; rfl, hbr⟩
  ·have HS := Lib.hid (show Int.gcd y (x.tmod y) = Int.gcd a b by rw [gcd_stepI, HG.out])
   have hlt : (x.tmod y).natAbs < y.natAbs := by rw [Int.natAbs_tmod]; exact Nat.mod_lt _ (by omega)
   have y0 : (y == 0) = false := by simpa using h0
   have y1 : (y != 0) = true := by simpa using h0
   have hw : IntKind.i64.wrap (x.tmod y) = x.tmod y := IntWalk.i64_in _ (by omega)
   clear HG h0
   go_wp2_with fail
   go_quiet (fail)
   go_wp2_with fail
   exact ⟨⟨y, x.tmod y, rfl, rfl, hy, by omega, HS, below_drewN' hbr _⟩, by simp only [intOf]; exact hlt⟩
theorem bGcd_nat {a b : Nat} {w : World} (ha : a ≤ 9000000000000000000) (hb : b ≤ 9000000000000000000) :
  Calls Tryz.prog 83 #[.int .i64 a, .int .i64 b] w fun e w' => e = .returned (.int .i64 (Nat.gcd a b : Nat)) ∧ Below w.heap.size w w' := bGcd_any (a := (a : Int)) (b := (b : Int)) (by omega) (by omega)
set_option maxRecDepth 100000 in
set_option maxHeartbeats 4000000 in
theorem EisR_ok {w : World} {A : Option Addr} {n c : Nat} {us : List Nat} (h : IsD w (fun _ => True) (.slice A n c) (us.map fun x : Nat => (x : Int))) (hn1 : 0 < n) (hn2 : n ≤ 60) (ho : okE us) :
  Calls Tryz.prog 31 #[.slice A n c] w fun e w' => ∃ A' c', e = .returned (.slice A' n c') ∧ IsD w' (fun _ => True) (.slice A' n c') ((eiL us).map fun x : Nat => (x : Int)) ∧ Below w.heap.size w w' := by
 obtain ⟨hl, b, off, rfl, hc⟩ := h.un hn1
 have HC := Lib.hid hc
 have HL := Lib.hid hl
 have HOK := Lib.hid ho
 clear h hc hl ho
 go_enter Tryz.func31, Tryz.ntmps31
 go_wp2_with fail
 go_loopw [3, 4] (fun av iv wr => ∃ k : Nat, av = .int .i64 (alE us k : Nat) ∧ iv = .int .i64 (k : Nat) ∧ k ≤ n ∧ Below w.heap.size w wr) (fun _ iv _ => n - (intOf iv).toNat)
 case atStart => exact ⟨0, rfl, rfl, by omega, Below.refl _ _⟩
 case round =>
  obtain ⟨k, rfl, rfl, hk, hbr⟩ := hrel
  rcases Nat.lt_or_ge k n with hkn | hkn
  ·have c0 := keepB hbr (HC.out k hkn)
   obtain ⟨u1, u2⟩ := okE_at HOK.out k
   have ha1 := alE_le HOK.out k
   have ha2 := alE_le HOK.out (k + 1)
   have hst : alE us (k + 1) = alE us k / Nat.gcd (alE us k) (us.getD k 1) * us.getD k 1 := (alE_ref _ _).symm
   generalize us.getD k 1 = u at *
   generalize alE us k = a at *
   have HG := Lib.hid (fun (w : World) => @bGcd_nat a u w (by omega) (by omega))
   have hg0 : 0 < Nat.gcd a u := Nat.gcd_pos_of_pos_right _ u1
   generalize Nat.gcd a u = g at *
   have hd1 : a / g ≤ a := Nat.div_le_self _ _
   have HDI := Lib.hid (show (a : Int).tdiv (g : Int) = ((a / g : Nat) : Int) from tdivZ rfl)
   have HDE := Lib.hid (show (a : Int) / (g : Int) = ((a / g : Nat) : Int) from rfl)
   generalize a / g = d at *
   have HWD := Lib.hid (show wrap64 (d : Int) = (d : Int) from by unfold wrap64; omega)
   have HWI := Lib.hid (show IntKind.i64.wrap (d : Int) = (d : Int) from IntWalk.i64_in _ (by omega))
   have HST := Lib.hid hst
   rw [hst] at ha2
   have ha3 : (d : Int) * (u : Int) ≤ 5354228880 := by
    obtain ⟨m, hm⟩ : ∃ m, m = d * u := ⟨_, rfl⟩
    rw [← hm] at ha2
    have e : (d : Int) * (u : Int) = (m : Int) := by rw [hm, Int.natCast_mul]
    omega
   have ha4 : (0 : Int) ≤ (d : Int) * (u : Int) := Int.mul_nonneg (by omega) (by omega)
   clear hst ha2
   have g0 : ((g : Int) == 0) = false := by simp; omega
   have g1 : ((g : Int) == -1) = false := by simp
   have k1 : (k : Int) < (n : Int) := by omega
   have k2 : (0 : Int) ≤ (k : Int) := by omega
   have HMW := Lib.hid (show IntKind.i64.wrap ((d : Int) * (u : Int)) = (d : Int) * (u : Int) from IntWalk.i64_in _ (by omega))
   have HM := Lib.hid (show wrap64 ((d : Int) * (u : Int)) = (d : Int) * (u : Int) from by unfold wrap64; omega)
   go_upto_region 5 with (fail)
   have hs : Below wr.heap.size wr wr.drew := (Below.refl _ _).drew
   refine wp_region_tq5 (.read 0 (.read 1 (.read 2 (.read 3 (.read 4 (.read 5 (.read 8 (.read 9 (.read 10 (.read 11 (.step 6 (.step 7 (.step 12 (.step 13 .nil)))))))))))))) [13] (by kernel_rfl) (by rfl) (by kernel_rfl) (by kernel_rfl) (fun V => Below wr.heap.size wr V) ?_
   change goU _ _ _ _ _ _ _ wr.drew
   refine goU_read 15 hs (by rfl) (by rfl) ?_ (by rfl) (fun wz hSw => ?_) ?_
   rotate_left
   ·have y0 := keepB hSw c0; go_simp
    try with_reducible rfl
   simp only [sIB, List.set]
   refine goU_read 16 hs (by rfl) (by rfl) ?_ (by rfl) (fun wz hSw => ?_) ?_
   rotate_left
   ·have y0 := keepB hSw c0; go_simp
    try with_reducible rfl
   simp only [sIB, List.set]
   refine goU_read 17 hs (by rfl) (by rfl) ?_ (by rfl) (fun wz hSw => ?_) ?_
   rotate_left
   ·have y0 := keepB hSw c0; go_simp
    try with_reducible rfl
   simp only [sIB, List.set]
   refine goU_read 18 hs (by rfl) (by rfl) ?_ (by rfl) (fun wz hSw => ?_) ?_
   rotate_left
   ·have y0 := keepB hSw c0; go_simp
    try with_reducible rfl
   simp only [sIB, List.set]
   refine goU_read 19 hs (by rfl) (by rfl) ?_ (by rfl) (fun wz hSw => ?_) ?_
   rotate_left
   ·have y0 := keepB hSw c0; go_simp
    try with_reducible rfl
   simp only [sIB, List.set]
   refine goU_read 20 hs (by rfl) (by rfl) ?_ (by rfl) (fun wz hSw => ?_) ?_
   rotate_left
   ·have y0 := keepB hSw c0; go_simp
    try with_reducible rfl
   simp only [sIB, List.set]
   refine goU_read 23 hs (by rfl) (by rfl) ?_ (by rfl) (fun wz hSw => ?_) ?_
   rotate_left
   ·have y0 := keepB hSw c0; go_simp
    try with_reducible rfl
   simp only [sIB, List.set]
   refine goU_read 24 hs (by rfl) (by rfl) ?_ (by rfl) (fun wz hSw => ?_) ?_
   rotate_left
   ·have y0 := keepB hSw c0; go_simp
    try with_reducible rfl
   simp only [sIB, List.set]
   refine goU_read 25 hs (by rfl) (by rfl) ?_ (by rfl) (fun wz hSw => ?_) ?_
   rotate_left
   ·have y0 := keepB hSw c0; go_simp
    try with_reducible rfl
   simp only [sIB, List.set]
   refine goU_read 26 hs (by rfl) (by rfl) ?_ (by rfl) (fun wz hSw => ?_) ?_
   rotate_left
   ·have y0 := keepB hSw c0; go_simp
    try with_reducible rfl
   simp only [sIB, List.set]
   refine goU_call 21 (by rfl) (by rfl) (by rfl) (by go_simp) (HG.out _) ?_
   rintro e w4 ⟨rfl, hb4⟩
   have hs2 := hs.trans (hb4.mono hs.size)
   refine ⟨_, rfl, fun _ => hs2, ?_⟩
   simp only [sIB, List.set]
   refine goU_step (by rfl) ?_
   go_wp2_with fail
   first | refine ⟨fun _ => hs2, ?_⟩ | refine ⟨hs2, ?_⟩
   rw [HDE.out, HWD.out]
   refine goU_step (by rfl) ?_
   go_wp2_with fail
   first | refine ⟨fun _ => hs2, ?_⟩ | refine ⟨hs2, ?_⟩
   try rw [HM.out]
   try rw [HMW.out]
   refine goU_step (by rfl) ?_
   go_wp2_with fail
   try (refine ⟨fun h => absurd h (by decide), ?_⟩)
   refine goU_nilN ?_
   go_wp2_with fail
   go_roundw
   case rel => exact ⟨k + 1, by rw [HST.out, Int.natCast_mul], by go_num, by omega, hbr.trans (hs2.mono hbr.size)⟩
   case measure => simp [intOf]; omega
  ·obtain rfl : k = n := by omega
   have k1 : ¬ (k : Int) < (k : Int) := by omega
   have HAL := Lib.hid (show alE us k = alE us us.length by rw [HL.out])
   rw [HAL.out]
   clear HAL
   have hap := alE_pos HOK.out us.length
   have hal := alE_le HOK.out us.length
   have HCP := Lib.hid (fun k (h0 : 0 < k) (h1 : k ≤ us.length) => cmE_pos HOK.out h0 h1)
   have HCL := Lib.hid (fun k => @cmE_le us (alE us us.length) k)
   have HEI := Lib.hid (show eiL us = us.map fun u => alE us us.length / u / cmE us (alE us us.length) us.length from rfl)
   generalize alE us us.length = a at *
   go_wp2_with fail
   go_loopw [5, 6] (fun cv iv wx => ∃ i : Nat, cv = .int .i64 (cmE us a i : Nat) ∧ iv = .int .i64 (i : Nat) ∧ i ≤ k ∧ Below w.heap.size w wx) (fun _ iv _ => k - (intOf iv).toNat)
   case atStart => exact ⟨0, rfl, rfl, by omega, hbr⟩
   case round =>
    obtain ⟨i, rfl, rfl, hi, hbx⟩ := hrel
    rcases Nat.lt_or_ge i k with hik | hik
    ·have c0 := keepB hbx (HC.out i hik)
     obtain ⟨u1, u2⟩ := okE_at HOK.out i
     have hc1 := HCL.out i
     have hst : cmE us a (i + 1) = Nat.gcd (cmE us a i) (a / us.getD i 1) := rfl
     generalize us.getD i 1 = u at *
     generalize cmE us a i = cm at *
     have hd1 : a / u ≤ a := Nat.div_le_self _ _
     have HDI := Lib.hid (show (a : Int) / (u : Int) = ((a / u : Nat) : Int) from rfl)
     generalize a / u = d at *
     have HWD := Lib.hid (show wrap64 (d : Int) = (d : Int) from by unfold wrap64; omega)
     have HG := Lib.hid (fun (w : World) => @bGcd_nat cm d w (by omega) (by omega))
     have HST := Lib.hid hst
     clear hst
     have g0 : ((u : Int) == 0) = false := by simp; omega
     have g1 : ((u : Int) == -1) = false := by simp
     have k3 : (i : Int) < (k : Int) := by omega
     have k4 : (0 : Int) ≤ (i : Int) := by omega
     go_wp2_with (go_at_call 83; rw [HDI.out, HWD.out]; go_must (refine (HG.out _).mono ?_); rintro e w1 ⟨rfl, hb1⟩)
     go_roundw
     case rel => exact ⟨i + 1, by rw [HST.out]; try go_num, by go_num, by omega, btrN hbx hb1⟩
     case measure => simp [intOf]; omega
    ·obtain rfl : i = k := by omega
     have HCM := Lib.hid (show cmE us a i = cmE us a us.length by rw [HL.out])
     rw [HCM.out]
     clear HCM
     have hcp := HCP.out us.length (by rw [HL.out]; exact hn1) (Nat.le_refl _)
     have hcl := HCL.out us.length
     generalize cmE us a us.length = cm at *
     go_wp2_with fail
     go_loopw [7, 8] (fun ov jv wy => ∃ (j : Nat) (A2 : Option Addr) (c2 : Nat), ov = .slice A2 j c2 ∧ jv = .int .i64 (j : Nat) ∧ j ≤ i ∧ OwnZ wy w.heap.size (.slice A2 j c2) ((us.map fun u => a / u / cm).take j) ∧ Below w.heap.size w wy) (fun _ jv _ => i - (intOf jv).toNat)
     case atStart => exact ⟨0, none, 0, rfl, rfl, by omega, OwnZ.nil _ _, hbx⟩
     case round =>
      obtain ⟨j, A2, c2, rfl, rfl, hj, hown, hby⟩ := hrel
      rcases Nat.lt_or_ge j i with hji | hji
      ·have c0 := keepB hby (HC.out j hji)
       obtain ⟨u1, u2⟩ := okE_at HOK.out j
       have hst : (us.map fun u => a / u / cm).take (j + 1) = (us.map fun u => a / u / cm).take j ++ [a / us.getD j 1 / cm] := by
        rw [List.take_add_one, List.getElem?_map]
        unfold List.getD
        rw [List.getElem?_eq_getElem (by rw [HL.out]; exact hji)]
        rfl
       have HLT := Lib.hid (show ((us.map fun u => a / u / cm).take j).length = j by rw [List.length_take, List.length_map, HL.out]; omega)
       generalize us.getD j 1 = u at *
       have HST := Lib.hid hst
       clear hst
       have HDI := Lib.hid (show (a : Int) / (u : Int) = ((a / u : Nat) : Int) from rfl)
       have hd1 : a / u ≤ a := Nat.div_le_self _ _
       have hd2 : a / u / cm ≤ a / u := Nat.div_le_self _ _
       have HDI2 := Lib.hid (show ((a / u : Nat) : Int).tdiv (cm : Int) = ((a / u / cm : Nat) : Int) from tdivZ rfl)
       generalize a / u / cm = d2 at *
       generalize a / u = d at *
       have HWD := Lib.hid (show wrap64 (d : Int) = (d : Int) from by unfold wrap64; omega)
       have HWD2 := Lib.hid (show wrap64 (d2 : Int) = (d2 : Int) from by unfold wrap64; omega)
       have g0 : ((u : Int) == 0) = false := by simp; omega
       have g1 : ((u : Int) == -1) = false := by simp
       have g2 : ((cm : Int) == 0) = false := by simp; omega
       have g3 : ((cm : Int) == -1) = false := by simp
       have k5 : (j : Int) < (i : Int) := by omega
       have k6 : (0 : Int) ≤ (j : Int) := by omega
       have HOW := Lib.hid hown
       clear hown
       go_wp2_with (at_builtin; go_must (refine wpList_pushZ _ (by rfl) _ _ (by rfl) w.heap.size _ ((us.map fun u => a / u / cm).take j) j HLT.out (by rfl) HOW.out d2 _ (by rw [HDI.out, HWD.out, HDI2.out, HWD2.out]) (by rfl) (by omega) hby.size ?_); intro A3 c3 w4 hown4 hb4)
       go_roundw
       case rel => exact ⟨j + 1, A3, c3, rfl, by go_num, by omega, by rw [HST.out]; exact hown4, hby.trans hb4⟩
       case measure => simp [intOf]; omega
      ·obtain rfl : j = i := by omega
       have k5 : ¬ (j : Int) < (j : Int) := by omega
       go_wp2_with fail
       go_ret
       refine ⟨A2, c2, rfl, ?_, hby⟩
       rw [List.take_of_length_le (by rw [List.length_map, HL.out]; exact Nat.le_refl _)] at hown
       rw [HEI.out]
       exact hown.isd
set_option maxHeartbeats 1000000 in
theorem RowSumR_any {disc n : Nat} {w : World} (h1 : disc ≤ 1000000) (hn : n ≤ 1000000) :
  Calls Tryz.prog 32 #[.int .i64 disc, .int .i64 n] w fun e w' => e = .returned (.int .i64 (rsP disc n n : Nat)) ∧ Below w.heap.size w w' := by
 have HC := Lib.hid (fun (d : Nat) (hd : d ≤ 1000000) (w : World) => @bGcd_nat d disc w (by omega) (by omega))
 go_enter Tryz.func32, Tryz.ntmps32
 go_wp2_with fail
 go_loopw [5, 6] (fun sv dv wr => ∃ k : Nat, sv = .int .i64 (rsP disc n k : Nat) ∧ dv = .int .i64 ((k + 1 : Nat) : Int) ∧ k ≤ n ∧ Below w.heap.size w wr) (fun _ dv _ => n + 1 - (intOf dv).toNat)
 case atStart => exact ⟨0, rfl, rfl, by omega, Below.refl _ _⟩
 case round =>
  obtain ⟨k, rfl, rfl, hk, hbr⟩ := hrel
  have hle := rsP_le disc n k
  have hkk : k * k ≤ 1000000 * 1000000 := Nat.mul_le_mul (by omega) (by omega)
  obtain ⟨d, hd⟩ : ∃ d, d = k + 1 := ⟨_, rfl⟩
  have HD := Lib.hid hd
  rw [← hd]
  rcases Nat.lt_or_ge n d with hlt | hge
  ·have z1 : ¬ d ≤ n := by omega
   have HE := Lib.hid (show k = n by omega)
   go_wp2_with fail
   go_ret
   exact ⟨by first | rfl | (rw [HE.out]; rfl), hbr⟩
  ·have z1 : d ≤ n := hge
   have d0 : ((d : Int) == 0) = false := by simp; omega
   have hd0 : 0 < d := by omega
   have HT := Lib.hid (tmodB n d)
   have HS := Lib.hid (show rsP disc n d = rsP disc n k + (if n % d = 0 ∧ Nat.gcd d disc = 1 then d else 0) by rw [hd]; rfl)
   clear hd
   generalize rsP disc n k = s at *
   by_cases hm : n % d = 0
   ·have t1 : ((n : Int).tmod (d : Int) == 0) = true := by rw [HT.out, hm]; rfl
    have t2 : ((n : Int) % (d : Int) == 0) = true := by rw [← Int.natCast_emod, hm]; rfl
    by_cases hg : Nat.gcd d disc = 1
    ·have HC2 := Lib.hid (HC.out d (by omega))
     rw [hg] at HC2
     have HS2 := HS.out
     rw [if_pos ⟨hm, hg⟩] at HS2
     have HS3 := Lib.hid HS2
     clear HS2 hm hg
     go_wp2_with (go_at_call 83; go_must (refine (HC2.out _).mono ?_); rintro e w1 ⟨rfl, hb1⟩)
     go_roundw
     case rel => exact ⟨d, by rw [HS3.out]; go_num, by go_num, by omega, btrN hbr hb1⟩
     case measure => simp [intOf]; omega
    ·obtain ⟨gg, hgg⟩ : ∃ gg, gg = Nat.gcd d disc := ⟨_, rfl⟩
     have HC2 := HC.out d (by omega)
     rw [← hgg] at HC2
     have HC3 := Lib.hid HC2
     have HS2 := HS.out
     rw [if_neg (fun h => hg h.2)] at HS2
     have HS3 := Lib.hid HS2
     have t3 : ((gg : Int) == 1) = false := by rw [beq_eq_false_iff_ne]; omega
     clear HS2 hm hg hgg HC2
     go_wp2_with (go_at_call 83; go_must (refine (HC3.out _).mono ?_); rintro e w1 ⟨rfl, hb1⟩)
     go_roundw
     case rel => exact ⟨d, by rw [HS3.out]; go_num, by go_num, by omega, btrN hbr hb1⟩
     case measure => simp [intOf]; omega
   ·have t1 : ((n : Int).tmod (d : Int) == 0) = false := by rw [HT.out, beq_eq_false_iff_ne]; omega
    have t2 : ((n : Int) % (d : Int) == 0) = false := by rw [← Int.natCast_emod, beq_eq_false_iff_ne]; omega
    have HS2 := HS.out
    rw [if_neg (fun h => hm h.1)] at HS2
    have HS3 := Lib.hid HS2
    clear HS2 hm
    go_wp2_with fail
    go_roundw
    case rel => exact ⟨d, by rw [HS3.out]; go_num, by go_num, by omega, hbr⟩
    case measure => simp [intOf]; omega
theorem Ints_isd {w : World} {A B : Option Addr} {n c c' : Nat} {l : List Int} (h : IsD w (fun _ => True) (.slice A n c) l) (h' : IsD w (fun _ => True) (.slice B n c') l) (hn : n ≤ 1000000) :
  Calls Tryz.prog 21 #[.slice A n c, .slice B n c'] w fun e w' => e = .returned (.bool true) ∧ Below w.heap.size w w' := by
 have HA := Lib.hid h
 have HB := Lib.hid h'
 clear h h'
 have hb : ((n : Int) != (n : Int)) = false := by simp
 go_enter Tryz.func21, Tryz.ntmps21
 go_wp2_with fail
 go_loopw [5] (fun iv wr => ∃ k : Nat, iv = .int .i64 (k : Nat) ∧ k ≤ n ∧ Below w.heap.size w wr) (fun iv _ => n - (intOf iv).toNat)
 case atStart => exact ⟨0, rfl, Nat.zero_le _, Below.refl _ _⟩
 case round =>
  obtain ⟨k, rfl, hk, hbr⟩ := hrel
  rcases Nat.lt_or_ge k n with hkn | hkn
  ·obtain ⟨b, off, rfl, _, c0⟩ := HA.out.at hkn
   obtain ⟨b', off', rfl, _, c1⟩ := HB.out.at hkn
   replace c0 := keepB hbr c0
   replace c1 := keepB hbr c1
   generalize gz l k = x at *
   have hx : (x != x) = false := by simp
   have k1 : (k : Int) < (n : Int) := by omega
   have k2 : (0 : Int) ≤ (k : Int) := by omega
   go_wp2_with fail
   go_quiet (fail)
   go_wp2_with fail
   exact ⟨⟨k + 1, by go_num, by omega, below_drewN' hbr _⟩, by simp [intOf]; omega⟩
  ·obtain rfl : k = n := by omega
   have k1 : ¬ (k : Int) < (k : Int) := by omega
   go_wp2_with fail
   go_ret
   exact ⟨rfl, hbr⟩
end Go.Proofs.YtdjpeimecfhdjaaGreat
