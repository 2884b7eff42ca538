/- (pruned) -/
import Derived.Test.YtdjpeimecfhdjaaGreatUh
import Derived.Test.YtdjpeimecfhdjaaGreatUc
namespace Go.Proofs.YtdjpeimecfhdjaaGreat
open Go.RowKit
theorem TraceB_no {p n : Int} {w : World} (h : n < 1 ∨ 1000 < n ∨ p < 2 ∨ 1000 < p) : Calls Tryz.prog 25 #[.int .i64 p, .int .i64 n] w fun e w' => e = .returned (.tuple #[.agg #[.int .i64 0, .int .i64 0], .int .i64 2]) ∧ Below w.heap.size w w' := by
 have hb : Below w.heap.size w (w.alloc (.cells #[.int .i64 0, .int .i64 0] 35)) := (Below.refl _ _).alloc (Nat.le_refl _) _
 rcases Int.lt_or_le n 1 with h1 | h1
 ·clear h
  go_enter Tryz.func25, Tryz.ntmps25
  go_wp2_with fail
  refine bodyPost_ret (v := .tuple #[.agg #[.int .i64 0, .int .i64 0], .int .i64 2]) (by simp [results, Tryz.results25, go_sem]) rfl ⟨rfl, hb⟩
 have g1 : ¬ n < 1 := by omega
 rcases Int.lt_or_le 1000 n with h2 | h2
 ·clear h
  go_enter Tryz.func25, Tryz.ntmps25
  go_wp2_with fail
  refine bodyPost_ret (v := .tuple #[.agg #[.int .i64 0, .int .i64 0], .int .i64 2]) (by simp [results, Tryz.results25, go_sem]) rfl ⟨rfl, hb⟩
 have g2 : ¬ 1000 < n := by omega
 rcases Int.lt_or_le p 2 with h3 | h3
 ·clear h
  go_enter Tryz.func25, Tryz.ntmps25
  go_wp2_with fail
  refine bodyPost_ret (v := .tuple #[.agg #[.int .i64 0, .int .i64 0], .int .i64 2]) (by simp [results, Tryz.results25, go_sem]) rfl ⟨rfl, hb⟩
 have g3 : ¬ p < 2 := by omega
 have h4 : 1000 < p := by omega
 clear h
 go_enter Tryz.func25, Tryz.ntmps25
 go_wp2_with fail
 refine bodyPost_ret (v := .tuple #[.agg #[.int .i64 0, .int .i64 0], .int .i64 2]) (by simp [results, Tryz.results25, go_sem]) rfl ⟨rfl, hb⟩
theorem TraceB_np {p n : Int} {w : World} (h1 : 1 ≤ n) (h2 : n ≤ 1000) (h3 : 2 ≤ p) (h4 : p ≤ 1000) (hp : primeI p = false) : Calls Tryz.prog 25 #[.int .i64 p, .int .i64 n] w fun e w' => e = .returned (.tuple #[.agg #[.int .i64 0, .int .i64 0], .int .i64 11]) ∧ Below w.heap.size w w' := by
 have hb : Below w.heap.size w (w.alloc (.cells #[.int .i64 0, .int .i64 0] 35)) := (Below.refl _ _).alloc (Nat.le_refl _) _
 have HP := Lib.hid (fun w : World => @IsPrime_any w p h4)
 have HT := Lib.hid hp
 have g1 : ¬ n < 1 := by omega
 have g2 : ¬ 1000 < n := by omega
 have g3 : ¬ p < 2 := by omega
 have g4 : ¬ 1000 < p := by omega
 clear hp
 go_enter Tryz.func25, Tryz.ntmps25
 go_wp2_with (go_at_call 78; go_must (refine (HP.out _).mono ?_); rintro e w1 ⟨rfl, rfl⟩; rw [HT.out])
 refine bodyPost_ret (v := .tuple #[.agg #[.int .i64 0, .int .i64 0], .int .i64 11]) (by simp [results, Tryz.results25, go_sem]) rfl ⟨rfl, hb⟩
theorem keepB9 {w V : World} {b o : Nat} {u : Value} (h : Below w.heap.size w V) (h2 : w.cell? ⟨b, o, none⟩ = some u) : V.cell? ⟨b, o, none⟩ = some u := keepB h h2
theorem newFrac {w w2 : World} (x y : Int) (h : Below w.heap.size w w2) : ∃ P w3, P = w2.heap.size ∧ w3 = w2.alloc (.cells #[.int .i64 x, .int .i64 y] 35) ∧ w3.cell? ⟨P, 0, none⟩ = some (.int .i64 x) ∧ w3.cell? ⟨P, 1, none⟩ = some (.int .i64 y) ∧ Below w.heap.size w w3 := by
 have hA := Arr.new w2 35 [.int .i64 x, .int .i64 y]
 exact ⟨_, _, rfl, rfl, hA.cell 0, hA.cell 1, h.alloc h.size _⟩
set_option maxRecDepth 100000 in
set_option maxHeartbeats 4000000 in
theorem CN_ref_bad {w : World} (d p n : Int) (hd : d < 0 ∨ 1000000 < d) (hr : (n < 1 ∧ n ≤ 60) ∨ 1000 < n ∨ (1 ≤ n ∧ n ≤ 60 ∧ ¬(2 ≤ p ∧ p ≤ 1000)) ∨ (1 ≤ n ∧ n ≤ 60 ∧ (2 ≤ p ∧ p ≤ 1000) ∧ primeI p = false)) :
  Calls Tryz.prog 4 #[.int .i64 d, .int .i64 p, .int .i64 n] w fun e w' => e = .returned (.bool true) ∧ Below w.heap.size w w' := by
 have HCB := Lib.hid (fun w => @ClassNumB_no d w (by omega))
 have HWD := Lib.hid (Within_any (n := d) (lo := 0) (hi := 1000000) (b := false) (decide_eq_false (by omega)))
 have HIP := Lib.hid (fun w => @rIsPrime_any w p)
 have HNP := Lib.hid (fun (a : 1 ≤ n) (b : n ≤ 1000) (c : 2 ≤ p) (e : p ≤ 1000) (f : primeI p = false) w => @TraceB_np p n w a b c e f)
 have HNO := Lib.hid (fun a w => @TraceB_no p n w a)
 rcases hd with hd | hd
 all_goals rcases hr with hr | hr | hr | hr
 all_goals first | (have HIT := Lib.hid hr.2.2.2; have HTR := Lib.hid (HNP.out hr.1 (by omega) hr.2.2.1.1 hr.2.2.1.2 hr.2.2.2)) | (have HIT := Lib.hid (Eq.refl (primeI p)); have HTR := Lib.hid (HNO.out (by omega)))
 all_goals first | have HWN := Lib.hid (Within_any (n := n) (lo := 1) (hi := 1000) (b := true) (decide_eq_true (by omega))) | have HWN := Lib.hid (Within_any (n := n) (lo := 1) (hi := 1000) (b := false) (decide_eq_false (by omega)))
 all_goals first | have HWP := Lib.hid (Within_any (n := p) (lo := 2) (hi := 1000) (b := true) (decide_eq_true hr.2.2.1)) | have HWP := Lib.hid (Within_any (n := p) (lo := 2) (hi := 1000) (b := false) (decide_eq_false hr.2.2)) | have HWP := Lib.hid (Within_any (n := p) (lo := 2) (hi := 1000) (b := _) rfl)
 all_goals first | have y2 : ¬ 3000 < d := by omega | (have y2 : 3000 < d := (by omega); have y3 : ¬ d ≤ 1000000 := (by omega))
 all_goals first | have y1 : ¬ 60 < n := by omega | (have y1 : 60 < n := (by omega); have y4 : ¬ n ≤ 1000 := (by omega))
 all_goals clear hd hr
 all_goals
  go_enter Tryz.func4, Tryz.ntmps4
  go_upto_region 6 with (first | (go_at_call 10; go_must (refine awake8.mono ?_); rintro e w1 ⟨rfl, hb1⟩) | (go_at_call 23; go_must (refine (HCB.out _).mono ?_); rintro e w2 ⟨rfl, hb2⟩))
  obtain ⟨P, w3, hP, hw3, c0, c1, hB3⟩ := newFrac 0 0 (hb1.trans (hb2.mono hb1.size))
  rw [← hw3, ← hP]
  have HB3 := Lib.hid hB3
  clear hw3 hP hB3 hb1 hb2
  go_upto_region 11 with ((go_at_call 15; (first | with_reducible refine (HWD.out _).mono ?_ | with_reducible refine (HWN.out _).mono ?_ | with_reducible refine (HWP.out _).mono ?_); rintro e wW ⟨rfl, rfl⟩))
  obtain ⟨w4, hw4⟩ : ∃ u, u = w3 := ⟨_, rfl⟩
  rw [← hw4] at HB3 ⊢
  have HB4 := Lib.hid HB3.out
  clear hw4 c0 c1
  go_upto_region 12 with (go_at_call 25; go_must (refine (HTR.out _).mono ?_); rintro e w6 ⟨rfl, hb6⟩)
  obtain ⟨P7, w7, hP7, hw7, c0, c1, hB7⟩ := newFrac 0 0 (HB4.out.trans (hb6.mono HB4.out.size))
  rw [← hw7, ← hP7]
  have HB7 := Lib.hid hB7
  clear hw7 hP7 hB7 hb6
  go_wp2_with (first | (go_at_call 15; (first | with_reducible refine (HWD.out _).mono ?_ | with_reducible refine (HWN.out _).mono ?_ | with_reducible refine (HWP.out _).mono ?_); rintro e wW ⟨rfl, rfl⟩) | (go_at_call 26; go_must (refine (HIP.out _).mono ?_); rintro e wI ⟨rfl, rfl⟩; rw [HIT.out]))
  go_ret
  exact ⟨rfl, HB7.out⟩
set_option maxRecDepth 100000 in
set_option maxHeartbeats 4000000 in
theorem CN_ref_prime {w : World} (d p n : Int) (hd : d < 0 ∨ 1000000 < d) (hr : 1 ≤ n ∧ n ≤ 60) (hq : 2 ≤ p ∧ p ≤ 1000) (hpr : primeI p = true) :
  Calls Tryz.prog 4 #[.int .i64 d, .int .i64 p, .int .i64 n] w fun e w' => e = .returned (.bool true) ∧ Below w.heap.size w w' := by
 have HCB := Lib.hid (fun w => @ClassNumB_no d w (by omega))
 have HWD := Lib.hid (Within_any (n := d) (lo := 0) (hi := 1000000) (b := false) (decide_eq_false (by omega)))
 have HWN := Lib.hid (Within_any (n := n) (lo := 1) (hi := 1000) (b := true) (decide_eq_true (by omega)))
 have HWP := Lib.hid (Within_any (n := p) (lo := 2) (hi := 1000) (b := true) (decide_eq_true (by omega)))
 have HIP := Lib.hid (fun w => @rIsPrime_any w p)
 have HIT := Lib.hid hpr
 have hPr := (primeI_yes.1 hpr).2.2
 obtain ⟨pn, hpn⟩ : ∃ m : Nat, p = m := ⟨p.toNat, by omega⟩
 obtain ⟨nn, hnn⟩ : ∃ m : Nat, n = m := ⟨n.toNat, by omega⟩
 have hPr2 : Pr pn := by rw [hpn, Int.toNat_natCast] at hPr; exact hPr
 obtain ⟨xt, hxt⟩ : ∃ x, x = lwBN (trT pn nn : Nat) 24 := ⟨_, rfl⟩
 obtain ⟨yt, hyt⟩ : ∃ x, x = lwBD (trT pn nn : Nat) 24 := ⟨_, rfl⟩
 have HTX := Lib.hid (fun k (h1 : k * k ≤ 4 * nn) (h2 : 4 * nn < (k + 1) * (k + 1)) => (show lwBN (trZ pn nn k) 24 = xt by rw [trZ_ref (by omega) h1 h2, hxt]))
 have HTY := Lib.hid (fun k (h1 : k * k ≤ 4 * nn) (h2 : 4 * nn < (k + 1) * (k + 1)) => (show lwBD (trZ pn nn k) 24 = yt by rw [trZ_ref (by omega) h1 h2, hyt]))
 have HTR := Lib.hid (fun w => @Trace_any pn nn w (by omega) (by omega) hPr2 (by omega) (by omega))
 have HTQ := Lib.hid (fun w => @TraceR_any pn nn w (by omega) (by omega) hPr2 (by omega) (by omega))
 rw [← hxt, ← hyt, ← hpn, ← hnn] at HTQ
 rw [← hpn, ← hnn] at HTR
 clear hpr hPr hPr2 hpn hnn hxt hyt
 rcases hd with hd | hd
 all_goals first | have y2 : ¬ 3000 < d := by omega | (have y2 : 3000 < d := (by omega); have y3 : ¬ d ≤ 1000000 := (by omega))
 all_goals first | have y1 : ¬ 60 < n := by omega | (have y1 : 60 < n := (by omega); have y4 : ¬ n ≤ 1000 := (by omega))
 all_goals clear hd hr hq
 all_goals
  go_enter Tryz.func4, Tryz.ntmps4
  go_upto_region 6 with (first | (go_at_call 10; go_must (refine awake8.mono ?_); rintro e w1 ⟨rfl, hb1⟩) | (go_at_call 23; go_must (refine (HCB.out _).mono ?_); rintro e w2 ⟨rfl, hb2⟩))
  obtain ⟨P, w3, hP, hw3, c0, c1, hB3⟩ := newFrac 0 0 (hb1.trans (hb2.mono hb1.size))
  rw [← hw3, ← hP]
  have HB3 := Lib.hid hB3
  clear hw3 hP hB3 hb1 hb2
  go_upto_region 11 with ((go_at_call 15; (first | with_reducible refine (HWD.out _).mono ?_ | with_reducible refine (HWN.out _).mono ?_ | with_reducible refine (HWP.out _).mono ?_); rintro e wW ⟨rfl, rfl⟩))
  obtain ⟨w4, hw4⟩ : ∃ u, u = w3 := ⟨_, rfl⟩
  rw [← hw4] at HB3 ⊢
  have HB4 := Lib.hid HB3.out
  clear hw4 c0 c1
  go_upto_region 12 with (go_at_call 25; go_must (refine (HTR.out _).mono ?_); rintro e w6 ⟨k, hk1, hk2, rfl, hb6⟩; rw [HTX.out k hk1 hk2, HTY.out k hk1 hk2])
  obtain ⟨P7, w7, hP7, hw7, c0, c1, hB7⟩ := newFrac xt yt (HB4.out.trans (hb6.mono HB4.out.size))
  rw [← hw7, ← hP7]
  have HB7 := Lib.hid hB7
  clear hw7 hP7 hB7 hb6
  go_upto_region 16 with (first | (go_at_call 15; (first | with_reducible refine (HWD.out _).mono ?_ | with_reducible refine (HWN.out _).mono ?_ | with_reducible refine (HWP.out _).mono ?_); rintro e wW ⟨rfl, rfl⟩) | (go_at_call 26; go_must (refine (HIP.out _).mono ?_); rintro e wI ⟨rfl, rfl⟩; rw [HIT.out]))
  have hs0 : Below w7.heap.size w7 w7.drew := (Below.refl _ _).drew
  refine wp_region_tq5 (.read 0 (.read 1 (.read 2 (.read 3 (.read 4 (.read 5 (.step 6 (.step 7 (.step 8 (.step 9 .nil)))))))))) [] (by kernel_rfl) (by rfl) (by kernel_rfl) (by kernel_rfl) (fun V => Below w7.heap.size w7 V) ?_
  change goU _ _ _ _ _ _ _ w7.drew
  refine goU_read 81 hs0 (by rfl) (by rfl) (.int .i64 0) (by rfl) (fun wz hSw => ?_) ?_
  ·go_simp
   try with_reducible rfl
  simp only [sIB, List.set]
  refine goU_read 82 hs0 (by rfl) (by rfl) (.bool true) (by rfl) (fun wz hSw => ?_) ?_
  ·go_simp
   try with_reducible rfl
  simp only [sIB, List.set]
  refine goU_read 83 hs0 (by rfl) (by rfl) (.bool true) (by rfl) (fun wz hSw => ?_) ?_
  ·go_simp
   try with_reducible rfl
  simp only [sIB, List.set]
  refine goU_read 84 hs0 (by rfl) (by rfl) (.agg #[.int .i64 xt, .int .i64 yt]) (by rfl) (fun wz hSw => ?_) ?_
  ·have y0 := keepB9 hSw c0; have y1 := keepB9 hSw c1; go_simp
   try with_reducible rfl
  simp only [sIB, List.set]
  refine goU_read 85 hs0 (by rfl) (by rfl) (.int .i64 p) (by rfl) (fun wz hSw => ?_) ?_
  ·go_simp
   try with_reducible rfl
  simp only [sIB, List.set]
  refine goU_read 86 hs0 (by rfl) (by rfl) (.int .i64 n) (by rfl) (fun wz hSw => ?_) ?_
  ·go_simp
   try with_reducible rfl
  simp only [sIB, List.set]
  refine goU_call 87 (by rfl) (by rfl) (by rfl) (by go_simp) (HTQ.out _) ?_
  rintro e w8 ⟨rfl, hb8⟩
  have hs2 := hs0.trans (hb8.mono hs0.size)
  refine ⟨_, rfl, fun _ => hs2, ?_⟩
  simp only [sIB, List.set]
  refine goU_step (by rfl) ?_
  go_wp2_with fail
  first | refine ⟨fun _ => hs2, ?_⟩ | refine ⟨hs2, ?_⟩
  refine goU_step (by rfl) ?_
  go_wp2_with fail
  first | refine ⟨fun _ => hs2, ?_⟩ | refine ⟨hs2, ?_⟩
  refine goU_step (by rfl) ?_
  go_wp2_with fail
  first | refine ⟨fun _ => hs2, ?_⟩ | refine ⟨hs2, ?_⟩
  refine goU_nilN ?_
  go_wp2_with fail
  go_ret
  exact ⟨rfl, HB7.out.trans (hs2.mono HB7.out.size)⟩
set_option maxRecDepth 100000 in
set_option maxHeartbeats 4000000 in
theorem CN_ok_bad {w : World} (d p n : Int) (hd : 0 ≤ d ∧ d ≤ 3000) (hr : (n < 1 ∧ n ≤ 60) ∨ 1000 < n ∨ (1 ≤ n ∧ n ≤ 60 ∧ ¬(2 ≤ p ∧ p ≤ 1000)) ∨ (1 ≤ n ∧ n ≤ 60 ∧ (2 ≤ p ∧ p ≤ 1000) ∧ primeI p = false)) :
  Calls Tryz.prog 4 #[.int .i64 d, .int .i64 p, .int .i64 n] w fun e w' => e = .returned (.bool true) ∧ Below w.heap.size w w' := by
 obtain ⟨dn, hdn⟩ : ∃ m : Nat, d = m := ⟨d.toNat, by omega⟩
 obtain ⟨x, hx⟩ : ∃ x, x = lwBN (clZ dn) 12 := ⟨_, rfl⟩
 obtain ⟨y, hy⟩ : ∃ y, y = lwBD (clZ dn) 12 := ⟨_, rfl⟩
 have HCB := Lib.hid (fun w => @ClassNumB_any dn w (by omega))
 have HCR := Lib.hid (fun w => @ClassNumR_any dn w (by omega))
 rw [← hx, ← hy, ← hdn] at HCB HCR
 have HWD := Lib.hid (Within_any (n := d) (lo := 0) (hi := 1000000) (b := true) (decide_eq_true (by omega)))
 clear hx hy hdn
 have HIP := Lib.hid (fun w => @rIsPrime_any w p)
 have HNP := Lib.hid (fun (a : 1 ≤ n) (b : n ≤ 1000) (c : 2 ≤ p) (e : p ≤ 1000) (f : primeI p = false) w => @TraceB_np p n w a b c e f)
 have HNO := Lib.hid (fun a w => @TraceB_no p n w a)
 all_goals rcases hr with hr | hr | hr | hr
 all_goals first | (have HIT := Lib.hid hr.2.2.2; have HTR := Lib.hid (HNP.out hr.1 (by omega) hr.2.2.1.1 hr.2.2.1.2 hr.2.2.2)) | (have HIT := Lib.hid (Eq.refl (primeI p)); have HTR := Lib.hid (HNO.out (by omega)))
 all_goals first | have HWN := Lib.hid (Within_any (n := n) (lo := 1) (hi := 1000) (b := true) (decide_eq_true (by omega))) | have HWN := Lib.hid (Within_any (n := n) (lo := 1) (hi := 1000) (b := false) (decide_eq_false (by omega)))
 all_goals first | have HWP := Lib.hid (Within_any (n := p) (lo := 2) (hi := 1000) (b := true) (decide_eq_true hr.2.2.1)) | have HWP := Lib.hid (Within_any (n := p) (lo := 2) (hi := 1000) (b := false) (decide_eq_false hr.2.2)) | have HWP := Lib.hid (Within_any (n := p) (lo := 2) (hi := 1000) (b := _) rfl)
 all_goals first | have y2 : ¬ 3000 < d := by omega | (have y2 : 3000 < d := (by omega); have y3 : ¬ d ≤ 1000000 := (by omega))
 all_goals first | have y1 : ¬ 60 < n := by omega | (have y1 : 60 < n := (by omega); have y4 : ¬ n ≤ 1000 := (by omega))
 all_goals clear hd hr
 all_goals
  go_enter Tryz.func4, Tryz.ntmps4
  go_upto_region 6 with (first | (go_at_call 10; go_must (refine awake8.mono ?_); rintro e w1 ⟨rfl, hb1⟩) | (go_at_call 23; go_must (refine (HCB.out _).mono ?_); rintro e w2 ⟨rfl, hb2⟩))
  obtain ⟨P, w3, hP, hw3, c0, c1, hB3⟩ := newFrac x y (hb1.trans (hb2.mono hb1.size))
  rw [← hw3, ← hP]
  have HB3 := Lib.hid hB3
  clear hw3 hP hB3 hb1 hb2
  go_upto_region 9 with ((go_at_call 15; (first | with_reducible refine (HWD.out _).mono ?_ | with_reducible refine (HWN.out _).mono ?_ | with_reducible refine (HWP.out _).mono ?_); rintro e wW ⟨rfl, rfl⟩))
  have hs0 : Below w3.heap.size w3 w3.drew := (Below.refl _ _).drew
  refine wp_region_tq5 (.read 0 (.read 1 (.read 2 (.read 3 (.read 4 (.step 5 (.step 6 (.step 7 .nil)))))))) [] (by kernel_rfl) (by rfl) (by kernel_rfl) (by kernel_rfl) (fun V => Below w3.heap.size w3 V) ?_
  change goU _ _ _ _ _ _ _ w3.drew
  refine goU_read 42 hs0 (by rfl) (by rfl) (.int .i64 0) (by rfl) (fun wz hSw => ?_) ?_
  ·go_simp
   try with_reducible rfl
  simp only [sIB, List.set]
  refine goU_read 43 hs0 (by rfl) (by rfl) (.bool false) (by rfl) (fun wz hSw => ?_) ?_
  ·go_simp
   try with_reducible rfl
  simp only [sIB, List.set]
  refine goU_read 44 hs0 (by rfl) (by rfl) (.bool false) (by rfl) (fun wz hSw => ?_) ?_
  ·go_simp
   try with_reducible rfl
  simp only [sIB, List.set]
  refine goU_read 45 hs0 (by rfl) (by rfl) (.agg #[.int .i64 x, .int .i64 y]) (by rfl) (fun wz hSw => ?_) ?_
  ·have y0 := keepB9 hSw c0; have y1 := keepB9 hSw c1; go_simp
   try with_reducible rfl
  simp only [sIB, List.set]
  refine goU_read 46 hs0 (by rfl) (by rfl) (.int .i64 d) (by rfl) (fun wz hSw => ?_) ?_
  ·go_simp
   try with_reducible rfl
  simp only [sIB, List.set]
  refine goU_call 47 (by rfl) (by rfl) (by rfl) (by go_simp) (HCR.out _) ?_
  rintro e w4 ⟨rfl, hb4⟩
  have hs2 := hs0.trans (hb4.mono hs0.size)
  refine ⟨_, rfl, fun _ => hs2, ?_⟩
  simp only [sIB, List.set]
  refine goU_step (by rfl) ?_
  go_wp2_with fail
  first | refine ⟨fun _ => hs2, ?_⟩ | refine ⟨hs2, ?_⟩
  refine goU_step (by rfl) ?_
  go_wp2_with fail
  first | refine ⟨fun _ => hs2, ?_⟩ | refine ⟨hs2, ?_⟩
  refine goU_nilN ?_
  go_upto_region 11 with (fail)
  have HB4 := Lib.hid (HB3.out.trans (hs2.mono HB3.out.size))
  clear hs0 hs2 hb4 c0 c1
  go_upto_region 12 with (go_at_call 25; go_must (refine (HTR.out _).mono ?_); rintro e w6 ⟨rfl, hb6⟩)
  obtain ⟨P7, w7, hP7, hw7, c0, c1, hB7⟩ := newFrac 0 0 (HB4.out.trans (hb6.mono HB4.out.size))
  rw [← hw7, ← hP7]
  have HB7 := Lib.hid hB7
  clear hw7 hP7 hB7 hb6
  go_wp2_with (first | (go_at_call 15; (first | with_reducible refine (HWD.out _).mono ?_ | with_reducible refine (HWN.out _).mono ?_ | with_reducible refine (HWP.out _).mono ?_); rintro e wW ⟨rfl, rfl⟩) | (go_at_call 26; go_must (refine (HIP.out _).mono ?_); rintro e wI ⟨rfl, rfl⟩; rw [HIT.out]))
  go_ret
  exact ⟨rfl, HB7.out⟩
set_option maxRecDepth 100000 in
set_option maxHeartbeats 4000000 in
theorem CN_ok_prime {w : World} (d p n : Int) (hd : 0 ≤ d ∧ d ≤ 3000) (hr : 1 ≤ n ∧ n ≤ 60) (hq : 2 ≤ p ∧ p ≤ 1000) (hpr : primeI p = true) :
  Calls Tryz.prog 4 #[.int .i64 d, .int .i64 p, .int .i64 n] w fun e w' => e = .returned (.bool true) ∧ Below w.heap.size w w' := by
 obtain ⟨dn, hdn⟩ : ∃ m : Nat, d = m := ⟨d.toNat, by omega⟩
 obtain ⟨x, hx⟩ : ∃ x, x = lwBN (clZ dn) 12 := ⟨_, rfl⟩
 obtain ⟨y, hy⟩ : ∃ y, y = lwBD (clZ dn) 12 := ⟨_, rfl⟩
 have HCB := Lib.hid (fun w => @ClassNumB_any dn w (by omega))
 have HCR := Lib.hid (fun w => @ClassNumR_any dn w (by omega))
 rw [← hx, ← hy, ← hdn] at HCB HCR
 have HWD := Lib.hid (Within_any (n := d) (lo := 0) (hi := 1000000) (b := true) (decide_eq_true (by omega)))
 clear hx hy hdn
 have HWN := Lib.hid (Within_any (n := n) (lo := 1) (hi := 1000) (b := true) (decide_eq_true (by omega)))
 have HWP := Lib.hid (Within_any (n := p) (lo := 2) (hi := 1000) (b := true) (decide_eq_true (by omega)))
 have HIP := Lib.hid (fun w => @rIsPrime_any w p)
 have HIT := Lib.hid hpr
 have hPr := (primeI_yes.1 hpr).2.2
 obtain ⟨pn, hpn⟩ : ∃ m : Nat, p = m := ⟨p.toNat, by omega⟩
 obtain ⟨nn, hnn⟩ : ∃ m : Nat, n = m := ⟨n.toNat, by omega⟩
 have hPr2 : Pr pn := by rw [hpn, Int.toNat_natCast] at hPr; exact hPr
 obtain ⟨xt, hxt⟩ : ∃ x, x = lwBN (trT pn nn : Nat) 24 := ⟨_, rfl⟩
 obtain ⟨yt, hyt⟩ : ∃ x, x = lwBD (trT pn nn : Nat) 24 := ⟨_, rfl⟩
 have HTX := Lib.hid (fun k (h1 : k * k ≤ 4 * nn) (h2 : 4 * nn < (k + 1) * (k + 1)) => (show lwBN (trZ pn nn k) 24 = xt by rw [trZ_ref (by omega) h1 h2, hxt]))
 have HTY := Lib.hid (fun k (h1 : k * k ≤ 4 * nn) (h2 : 4 * nn < (k + 1) * (k + 1)) => (show lwBD (trZ pn nn k) 24 = yt by rw [trZ_ref (by omega) h1 h2, hyt]))
 have HTR := Lib.hid (fun w => @Trace_any pn nn w (by omega) (by omega) hPr2 (by omega) (by omega))
 have HTQ := Lib.hid (fun w => @TraceR_any pn nn w (by omega) (by omega) hPr2 (by omega) (by omega))
 rw [← hxt, ← hyt, ← hpn, ← hnn] at HTQ
 rw [← hpn, ← hnn] at HTR
 clear hpr hPr hPr2 hpn hnn hxt hyt
 all_goals first | have y2 : ¬ 3000 < d := by omega | (have y2 : 3000 < d := (by omega); have y3 : ¬ d ≤ 1000000 := (by omega))
 all_goals first | have y1 : ¬ 60 < n := by omega | (have y1 : 60 < n := (by omega); have y4 : ¬ n ≤ 1000 := (by omega))
 all_goals clear hd hr hq
 all_goals
  go_enter Tryz.func4, Tryz.ntmps4
  go_upto_region 6 with (first | (go_at_call 10; go_must (refine awake8.mono ?_); rintro e w1 ⟨rfl, hb1⟩) | (go_at_call 23; go_must (refine (HCB.out _).mono ?_); rintro e w2 ⟨rfl, hb2⟩))
  obtain ⟨P, w3, hP, hw3, c0, c1, hB3⟩ := newFrac x y (hb1.trans (hb2.mono hb1.size))
  rw [← hw3, ← hP]
  have HB3 := Lib.hid hB3
  clear hw3 hP hB3 hb1 hb2
  go_upto_region 9 with ((go_at_call 15; (first | with_reducible refine (HWD.out _).mono ?_ | with_reducible refine (HWN.out _).mono ?_ | with_reducible refine (HWP.out _).mono ?_); rintro e wW ⟨rfl, rfl⟩))
  have hs0 : Below w3.heap.size w3 w3.drew := (Below.refl _ _).drew
  refine wp_region_tq5 (.read 0 (.read 1 (.read 2 (.read 3 (.read 4 (.step 5 (.step 6 (.step 7 .nil)))))))) [] (by kernel_rfl) (by rfl) (by kernel_rfl) (by kernel_rfl) (fun V => Below w3.heap.size w3 V) ?_
  change goU _ _ _ _ _ _ _ w3.drew
  refine goU_read 42 hs0 (by rfl) (by rfl) (.int .i64 0) (by rfl) (fun wz hSw => ?_) ?_
  ·go_simp
   try with_reducible rfl
  simp only [sIB, List.set]
  refine goU_read 43 hs0 (by rfl) (by rfl) (.bool false) (by rfl) (fun wz hSw => ?_) ?_
  ·go_simp
   try with_reducible rfl
  simp only [sIB, List.set]
  refine goU_read 44 hs0 (by rfl) (by rfl) (.bool false) (by rfl) (fun wz hSw => ?_) ?_
  ·go_simp
   try with_reducible rfl
  simp only [sIB, List.set]
  refine goU_read 45 hs0 (by rfl) (by rfl) (.agg #[.int .i64 x, .int .i64 y]) (by rfl) (fun wz hSw => ?_) ?_
  ·have y0 := keepB9 hSw c0; have y1 := keepB9 hSw c1; go_simp
   try with_reducible rfl
  simp only [sIB, List.set]
  refine goU_read 46 hs0 (by rfl) (by rfl) (.int .i64 d) (by rfl) (fun wz hSw => ?_) ?_
  ·go_simp
   try with_reducible rfl
  simp only [sIB, List.set]
  refine goU_call 47 (by rfl) (by rfl) (by rfl) (by go_simp) (HCR.out _) ?_
  rintro e w4 ⟨rfl, hb4⟩
  have hs2 := hs0.trans (hb4.mono hs0.size)
  refine ⟨_, rfl, fun _ => hs2, ?_⟩
  simp only [sIB, List.set]
  refine goU_step (by rfl) ?_
  go_wp2_with fail
  first | refine ⟨fun _ => hs2, ?_⟩ | refine ⟨hs2, ?_⟩
  refine goU_step (by rfl) ?_
  go_wp2_with fail
  first | refine ⟨fun _ => hs2, ?_⟩ | refine ⟨hs2, ?_⟩
  refine goU_nilN ?_
  go_upto_region 11 with (fail)
  have HB4 := Lib.hid (HB3.out.trans (hs2.mono HB3.out.size))
  clear hs0 hs2 hb4 c0 c1
  go_upto_region 12 with (go_at_call 25; go_must (refine (HTR.out _).mono ?_); rintro e w6 ⟨k, hk1, hk2, rfl, hb6⟩; rw [HTX.out k hk1 hk2, HTY.out k hk1 hk2])
  obtain ⟨P7, w7, hP7, hw7, c0, c1, hB7⟩ := newFrac xt yt (HB4.out.trans (hb6.mono HB4.out.size))
  rw [← hw7, ← hP7]
  have HB7 := Lib.hid hB7
  clear hw7 hP7 hB7 hb6
  go_upto_region 16 with (first | (go_at_call 15; (first | with_reducible refine (HWD.out _).mono ?_ | with_reducible refine (HWN.out _).mono ?_ | with_reducible refine (HWP.out _).mono ?_); rintro e wW ⟨rfl, rfl⟩) | (go_at_call 26; go_must (refine (HIP.out _).mono ?_); rintro e wI ⟨rfl, rfl⟩; rw [HIT.out]))
  have hs0 : Below w7.heap.size w7 w7.drew := (Below.refl _ _).drew
  refine wp_region_tq5 (.read 0 (.read 1 (.read 2 (.read 3 (.read 4 (.read 5 (.step 6 (.step 7 (.step 8 (.step 9 .nil)))))))))) [] (by kernel_rfl) (by rfl) (by kernel_rfl) (by kernel_rfl) (fun V => Below w7.heap.size w7 V) ?_
  change goU _ _ _ _ _ _ _ w7.drew
  refine goU_read 81 hs0 (by rfl) (by rfl) (.int .i64 0) (by rfl) (fun wz hSw => ?_) ?_
  ·go_simp
   try with_reducible rfl
  simp only [sIB, List.set]
  refine goU_read 82 hs0 (by rfl) (by rfl) (.bool true) (by rfl) (fun wz hSw => ?_) ?_
  ·go_simp
   try with_reducible rfl
  simp only [sIB, List.set]
  refine goU_read 83 hs0 (by rfl) (by rfl) (.bool true) (by rfl) (fun wz hSw => ?_) ?_
  ·go_simp
   try with_reducible rfl
  simp only [sIB, List.set]
  refine goU_read 84 hs0 (by rfl) (by rfl) (.agg #[.int .i64 xt, .int .i64 yt]) (by rfl) (fun wz hSw => ?_) ?_
  ·have y0 := keepB9 hSw c0; have y1 := keepB9 hSw c1; go_simp
   try with_reducible rfl
  simp only [sIB, List.set]
  refine goU_read 85 hs0 (by rfl) (by rfl) (.int .i64 p) (by rfl) (fun wz hSw => ?_) ?_
  ·go_simp
   try with_reducible rfl
  simp only [sIB, List.set]
  refine goU_read 86 hs0 (by rfl) (by rfl) (.int .i64 n) (by rfl) (fun wz hSw => ?_) ?_
  ·go_simp
   try with_reducible rfl
  simp only [sIB, List.set]
  refine goU_call 87 (by rfl) (by rfl) (by rfl) (by go_simp) (HTQ.out _) ?_
  rintro e w8 ⟨rfl, hb8⟩
  have hs2 := hs0.trans (hb8.mono hs0.size)
  refine ⟨_, rfl, fun _ => hs2, ?_⟩
  simp only [sIB, List.set]
  refine goU_step (by rfl) ?_
  go_wp2_with fail
  first | refine ⟨fun _ => hs2, ?_⟩ | refine ⟨hs2, ?_⟩
  refine goU_step (by rfl) ?_
  go_wp2_with fail
  first | refine ⟨fun _ => hs2, ?_⟩ | refine ⟨hs2, ?_⟩
  refine goU_step (by rfl) ?_
  go_wp2_with fail
  first | refine ⟨fun _ => hs2, ?_⟩ | refine ⟨hs2, ?_⟩
  refine goU_nilN ?_
  go_wp2_with fail
  go_ret
  exact ⟨rfl, HB7.out.trans (hs2.mono HB7.out.size)⟩
set_option maxRecDepth 100000 in
set_option maxHeartbeats 4000000 in
theorem BrandtClassNumbers_true {w : World} (d p n : Int) :
  Calls Tryz.prog 4 #[.int .i64 d, .int .i64 p, .int .i64 n] w fun e w' => e = .returned (.bool true) ∧ Below w.heap.size w w' := by
 by_cases hd1 : 3000 < d ∧ d ≤ 1000000
 ·obtain ⟨z1, z2⟩ := hd1
  go_enter Tryz.func4, Tryz.ntmps4
  go_wp2_with (go_at_call 10; go_must (refine awake8.mono ?_); rintro e w1 ⟨rfl, hb1⟩)
  go_ret
  exact ⟨rfl, hb1⟩
 by_cases hn1 : 60 < n ∧ n ≤ 1000
 ·obtain ⟨z1, z2⟩ := hn1
  have hd2 : d ≤ 3000 ∨ ¬ d ≤ 1000000 := by omega
  clear hd1
  rcases hd2 with z3 | z3
  ·have z4 : ¬ 3000 < d := by omega
   go_enter Tryz.func4, Tryz.ntmps4
   go_wp2_with (go_at_call 10; go_must (refine awake8.mono ?_); rintro e w1 ⟨rfl, hb1⟩)
   go_ret
   exact ⟨rfl, hb1⟩
  ·have z4 : 3000 < d := by omega
   go_enter Tryz.func4, Tryz.ntmps4
   go_wp2_with (go_at_call 10; go_must (refine awake8.mono ?_); rintro e w1 ⟨rfl, hb1⟩)
   go_ret
   exact ⟨rfl, hb1⟩
 have key : (d < 0 ∨ 1000000 < d) ∨ (0 ≤ d ∧ d ≤ 3000) := by omega
 cases hp : primeI p with
 | false =>
  have hr : (n < 1 ∧ n ≤ 60) ∨ 1000 < n ∨ (1 ≤ n ∧ n ≤ 60 ∧ ¬(2 ≤ p ∧ p ≤ 1000)) ∨ (1 ≤ n ∧ n ≤ 60 ∧ (2 ≤ p ∧ p ≤ 1000)) := by omega
  have hr2 := hr.imp_right (Or.imp_right (Or.imp_right fun h => And.intro h.1 (And.intro h.2.1 (And.intro h.2.2 hp))))
  exact key.elim (fun h => CN_ref_bad d p n h hr2) (fun h => CN_ok_bad d p n h hr2)
 | true =>
  by_cases hr : (n < 1 ∧ n ≤ 60) ∨ 1000 < n ∨ (1 ≤ n ∧ n ≤ 60 ∧ ¬(2 ≤ p ∧ p ≤ 1000))
  ·have hr2 : (n < 1 ∧ n ≤ 60) ∨ 1000 < n ∨ (1 ≤ n ∧ n ≤ 60 ∧ ¬(2 ≤ p ∧ p ≤ 1000)) ∨ (1 ≤ n ∧ n ≤ 60 ∧ (2 ≤ p ∧ p ≤ 1000) ∧ primeI p = false) := hr.imp_right (Or.imp_right .inl)
   exact key.elim (fun h => CN_ref_bad d p n h hr2) (fun h => CN_ok_bad d p n h hr2)
  have h1 : 1 ≤ n ∧ n ≤ 60 := by omega
  have h2 : 2 ≤ p ∧ p ≤ 1000 := by omega
  exact key.elim (fun h => CN_ref_prime d p n h h1 h2 hp) (fun h => CN_ok_prime d p n h h1 h2 hp)
end Go.Proofs.YtdjpeimecfhdjaaGreat
