/- Package wide: Bring, of a form that is reduced. Package wide: lists of stages in memory (a form, its bound), and how they grow. -/
import Derived.Test.YtdjpeimecfhdjaaGreatXr
import Derived.Test.YtdjpeimecfhdjaaGreatXn
namespace Go.Proofs.YtdjpeimecfhdjaaGreat
open Go.RowKit
def brOK (G : List (List Int)) (a b : List Int) : Bool :=
 decide (vl G b b ≠ 0) && fit (vl G b b) && fit (vl G a b) &&
  (decide ((2 * vl G a b + vl G b b) / (2 * vl G b b) = 0) || (fitR (addF (-((2 * vl G a b + vl G b b) / (2 * vl G b b))) a b) && fit (vl G (addF (-((2 * vl G a b + vl G b b) / (2 * vl G b b))) a b) (addF (-((2 * vl G a b + vl G b b) / (2 * vl G b b))) a b)) && fit (vl G a a)
   && decide (vl G a a ≤ vl G (addF (-((2 * vl G a b + vl G b b) / (2 * vl G b b))) a b) (addF (-((2 * vl G a b + vl G b b) / (2 * vl G b b))) a b))))
theorem unitL_len (n : Nat) : (unitL n).length = n := by unfold unitL; rw [List.length_map, List.length_range]
theorem unitL_rw {n i : Nat} (h : i < n) : rw_ (unitL n) i = (List.replicate n 0).set i 1 := rw_of (by unfold unitL; rw [List.getElem?_map, List.getElem?_range h]; rfl)
theorem unitL_row {n i : Nat} (h : i < n) : (rw_ (unitL n) i).length = n := by rw [unitL_rw h, List.length_set, List.length_replicate]
theorem unitL_fit {n i : Nat} (h : i < n) : fitR (rw_ (unitL n) i) = true := by
 rw [unitL_rw h]
 refine List.all_eq_true.2 fun x hx => ?_
 rcases List.mem_or_eq_of_mem_set hx with hx | rfl
 ·rw [List.eq_of_mem_replicate hx]; exact fit_zero
 ·exact fit_iff.2 (Nat.one_lt_two_pow (n := limE) (by unfold limE; omega))
def again (v : Value) : Nat := match v with | .bool true => 1 | _ => 0
set_option maxRecDepth 100000 in
set_option maxHeartbeats 4000000 in
theorem Bring_none {w : World} {A : Option Addr} {n c : Nat} {G : List (List Int)} (hg : RM w (.slice A n c) G) (hn : n ≤ 1000) (hrow : ∀ i, i < n → (rw_ G i).length = n) (hfg : fitM G = true) (hok : ∀ i k, i < n → k < n → i ≠ k → brOK G (rw_ (unitL n) i) (rw_ (unitL n) k) = true) :
  Calls Tryz.prog 186 #[.slice A n c] w (Gives w fun w' v => RowsD PvD w' (w.heap.size ≤ ·) v (unitL n)) := by
 have HQ := Lib.hid (RowsD.room hg).1.symm
 have HRW := Lib.hid hrow
 have HFG := Lib.hid hfg
 have HOK := Lib.hid hok
 have HG := Lib.hid hg
 have HU := Lib.hid (Unit_any (w := w) (n := n) (by omega))
 clear hrow hfg hok hg
 go_enter Tryz.func186, Tryz.ntmps186
 go_wp2_with (go_at_call 203; go_must (refine HU.out.mono ?_); rintro e w1 ⟨vT, rfl, hT, hb1⟩; obtain ⟨AT, cT, rfl⟩ := RowsD.slice_ hT (unitL_len n))
 have HT := Lib.hid hT
 have HB1 := Lib.hid hb1
 clear hT hb1
 go_loopw [4] (fun bv wr => ∃ b, bv = .bool b ∧ Below w1.heap.size w1 wr) (fun bv _ => again bv)
 case atStart => exact ⟨true, rfl, Below.refl _ _⟩
 case round =>
  obtain ⟨b, rfl, hbr⟩ := hrel
  cases b
  ·go_wp2_with fail
   go_ret
   exact ⟨_, rfl, RowsD.below HT.out hbr, HB1.out.trans (hbr.mono HB1.out.size)⟩
  ·obtain ⟨wo, rfl⟩ : ∃ wo, wo = wr := ⟨_, rfl⟩
   have HBR := Lib.hid hbr
   clear hbr
   go_wp2_with fail
   go_loopw [4, 16] (fun bv iv wr => ∃ i : Nat, bv = .bool false ∧ iv = .int .i64 i ∧ i ≤ n ∧ Below w1.heap.size w1 wr) (fun _ iv _ => n - (intOf iv).toNat)
   case atStart => exact ⟨0, rfl, rfl, by omega, HBR.out⟩
   case round =>
    obtain ⟨i, rfl, rfl, hi, hbr⟩ := hrel
    obtain ⟨wo2, rfl⟩ : ∃ wo2, wo2 = wr := ⟨_, rfl⟩
    rcases Nat.lt_or_ge i n with hin | hin
    ·have HBI := Lib.hid hbr
     clear hbr
     go_wp2_with fail
     go_loopw [4, 21] (fun bv kv wr => ∃ k : Nat, bv = .bool false ∧ kv = .int .i64 k ∧ k ≤ n ∧ Below w1.heap.size w1 wr) (fun _ kv _ => n - (intOf kv).toNat)
     case atStart => exact ⟨0, rfl, rfl, by omega, HBI.out⟩
     case round =>
      obtain ⟨k, rfl, rfl, hk, hbr⟩ := hrel
      rcases Nat.lt_or_ge k n with hkn | hkn
      ·have HBR2 := Lib.hid hbr
       clear hbr
       by_cases hik : i = k
       ·subst hik
        go_wp2_with fail
        go_roundw
        case rel => exact ⟨i + 1, rfl, by go_num, by omega, HBR2.out⟩
        case measure => simp [intOf]; omega
       ·skip
        have hik2 : ((i : Int) == (k : Int)) = false := by simp; omega
        obtain ⟨bT, oT, vk, eT, hTk, Ak, ck, rfl, hpk⟩ := RowsD.at HT.out (rw_some (L := unitL n) (i := k) (by rw [unitL_len]; exact hkn))
        obtain ⟨bT2, oT2, vi, eT2, hTi, Ai, ci, rfl, hpi⟩ := RowsD.at HT.out (rw_some (L := unitL n) (i := i) (by rw [unitL_len]; exact hin))
        rw [eT] at eT2
        injection eT2 with eT2
        injection eT2 with eT2 eT3 eT4
        subst eT
        subst eT2 eT3
        clear eT4
        have hvk : PvD w1 (w.heap.size ≤ ·) (.slice Ak (rw_ (unitL n) k).length ck) (rw_ (unitL n) k) := ⟨Ak, ck, rfl, hpk⟩
        have hvi : PvD w1 (w.heap.size ≤ ·) (.slice Ai (rw_ (unitL n) i).length ci) (rw_ (unitL n) i) := ⟨Ai, ci, rfl, hpi⟩
        rw [unitL_row hkn] at hvk hTk
        rw [unitL_row hin] at hvi hTi
        clear hpk hpi
        replace hTk := keepB HBR2.out hTk
        replace hTi := keepB HBR2.out hTi
        have hbT := cell_lt hTi
        have hbw : Below w.heap.size w wr := HB1.out.trans (HBR2.out.mono HB1.out.size)
        have hfk := unitL_fit hkn
        have hfi := unitL_fit hin
        have hlk := unitL_row hkn
        have hli := unitL_row hin
        have hok := HOK.out i k hin hkn hik
        generalize rw_ (unitL n) k = tk at *
        generalize rw_ (unitL n) i = ti at *
        have HV1 := fun w' (hb : Below wr.heap.size wr w') => value_any (RowsD.below HG.out (hbw.trans (hb.mono hbw.size))) (Foot.below (Foot.below hvk HBR2.out) hb) (Foot.below (Foot.below hvk HBR2.out) hb) (Nat.le_refl _) (fun i hi => Nat.le_of_eq (HRW.out i hi).symm) (by omega) (by omega) (by omega) HFG.out hfk hfk
        have HV2 := fun w' (hb : Below wr.heap.size wr w') => value_any (RowsD.below HG.out (hbw.trans (hb.mono hbw.size))) (Foot.below (Foot.below hvi HBR2.out) hb) (Foot.below (Foot.below hvk HBR2.out) hb) (Nat.le_refl _) (fun i hi => Nat.le_of_eq (HRW.out i hi).symm) (by omega) (by omega) (by omega) HFG.out hfi hfk
        have HV3 := Lib.hid (fun w' (hb : Below wr.heap.size wr w') => value_any (RowsD.below HG.out (hbw.trans (hb.mono hbw.size))) (Foot.below (Foot.below hvi HBR2.out) hb) (Foot.below (Foot.below hvi HBR2.out) hb) (Nat.le_refl _) (fun i hi => Nat.le_of_eq (HRW.out i hi).symm) (by omega) (by omega) (by omega) HFG.out hfi hfi)
        have HVN := Lib.hid (fun w' (hb : Below wr.heap.size wr w') (l : List Int) (A : Option Addr) (c : Nat) (hl : PvD w' (fun _ => True) (.slice A n c) l) (hf : fitR l = true) => value_any (RowsD.below HG.out (hbw.trans (hb.mono hbw.size))) hl hl (Nat.le_refl _) (fun i hi => Nat.le_of_eq (HRW.out i hi).symm) (by omega) (by omega) (by omega) HFG.out hf hf)
        unfold brOK at hok
        simp only [Bool.and_eq_true, Bool.or_eq_true, decide_eq_true_eq] at hok
        obtain ⟨⟨⟨g0, g1⟩, g2⟩, g3⟩ := hok
        have m1 := fit_wl g1
        have m2 := fit_wl g2
        have m3 := wl_mulI 2 (vl G tk tk)
        have m4 := wl_mulI 2 (vl G ti tk)
        have m5 := wl_addI (2 * vl G ti tk) (vl G tk tk)
        have m6 : wl (2 : Int).natAbs = 1 := by decide
        have HIK := Lib.hid hik
        have HG3 := Lib.hid g3
        have HHK := Lib.hid (Foot.below hvk HBR2.out)
        have HHI := Lib.hid (Foot.below hvi HBR2.out)
        have a0 : (0 : Int) ≤ (i : Int) := by omega
        have a1 : (i : Int) < (n : Int) := by omega
        have a2 : (0 : Int) ≤ (k : Int) := by omega
        have a3 : (k : Int) < (n : Int) := by omega
        clear hik g3 hvk hvi
        have HV1' := Lib.hid HV1
        have HV2' := Lib.hid HV2
        clear HV1 HV2
        go_upto_region 12 with (fail)
        refine brA hTk a2 a3 HV1'.out (by omega) ?_
        intro w2 P7 u1 u2 u3 u4 u5 u6 u7 u8 u9 u10 u11 u12 hx7 hP7 hb2
        rename_i K hK
        refine hK _ _ ?_
        obtain ⟨n7, A7, mm7, c7, hA7, hv7⟩ := hx7
        obtain ⟨r70, r71, _, _⟩ := hA7.c2
        replace hTk := keepB hb2 hTk
        replace hTi := keepB hb2 hTi
        have HA7 := Lib.hid hA7
        clear hA7
        go_upto_region 13 with (fail)
        refine brB hTk a2 a3 hTi a0 a1 (fun w' hb => HV1'.out w' (hb2.trans (hb.mono hb2.size))) (fun w' hb => HV2'.out w' (hb2.trans (hb.mono hb2.size))) r70 r71 hv7.tt (by omega) (by omega) (by omega) (by omega) (by omega) (by omega) ?_
        intro w3 P8 u13 u14 u15 u16 u17 u18 u19 u20 u21 u22 u23 u24 u25 u26 u27 u28 u29 u30 u31 u32 u33 u34 u35 u36 u37 hx8 hP8 hb3
        rename_i K hK
        refine hK _ _ ?_
        have hs3 := hP8
        obtain ⟨n8, A8, mm8, c8, hA8, hv8⟩ := hx8
        obtain ⟨r80, r81, _, _⟩ := hA8.c2
        have hb13 : Below w1.heap.size w1 w3 := (HBR2.out.trans (hb2.mono HBR2.out.size)).trans (hb3.mono (by have := HBR2.out.size; have := hb2.size; omega))
        have HB13 := Lib.hid hb13
        have hbr3 : Below wr.heap.size wr w3 := hb2.trans (hb3.mono hb2.size)
        have HBR3 := Lib.hid hbr3
        have HA8 := Lib.hid hA8
        have HV8 := Lib.hid hv8
        replace hTk := keepB hb3 hTk
        replace hTi := keepB hb3 hTi
        have HZ := Lib.hid (fun w' (hb : Below w3.heap.size w3 w') => Zero_any (hv8.below hb))
        clear hA8 hv8 hb13 hbr3 r70 r71 hv7
        generalize hqq : (2 * vl G ti tk + vl G tk tk) / (2 * vl G tk tk) = qq at *
        by_cases hq0 : qq = 0
        ·go_wp2_with (go_at_call 166; go_must (refine (HZ.out _ (Below.refl _ _)).mono ?_); rintro e w4 ⟨rfl, hb4⟩)
         go_roundw
         case rel => exact ⟨k + 1, rfl, by go_num, by omega, HB13.out.trans (hb4.mono HB13.out.size)⟩
         case measure => simp [intOf]; omega
        ·have HQ0 := Lib.hid hq0
         have HW8 : P8 < w3.heap.size := HA8.out.lt
         go_upto_region 15 with (go_at_call 166; go_must (refine (HZ.out _ (Below.refl _ _)).mono ?_); rintro e w4 ⟨rfl, hb4⟩)
         clear hq0
         replace hTk := keepB hb4 hTk
         replace hTi := keepB hb4 hTi
         have hA8 := HA8.out.below' hb4
         obtain ⟨r80, r81, _, _⟩ := hA8.c2
         have HX8 := Lib.hid (HV8.out.tt.below hb4)
         have hb14 : Below wr.heap.size wr w4 := HBR3.out.trans (hb4.mono HBR3.out.size)
         have HK4 := Lib.hid (Foot.below HHK.out hb14)
         have HCL := Lib.hid (rclone_any (Foot.below HHI.out hb14) (show n ≤ 1000000 by omega))
         clear hA8
         go_upto_region 16 with (go_at_call 235; go_must (refine HCL.out.mono ?_); rintro e w5 ⟨v5, rfl, hown, hb5⟩; obtain ⟨g, cap, rfl, hg1, hg2, _⟩ := hown.at (by rw [hli]; omega))
         rw [hli] at hown
         have hown2 := hown.mono (D' := (· ≠ g)) fun b hb _ => by have := hb.2; omega
         replace hTk := keepB hb5 hTk
         replace hTi := keepB hb5 hTi
         replace r80 := keepB hb5 r80
         replace r81 := keepB hb5 r81
         have HOW := Lib.hid hown2
         have HX5 := Lib.hid (HX8.out.below hb5)
         have hb15 : Below wr.heap.size wr w5 := hb14.trans (hb5.mono hb14.size)
         have hgw : wr.heap.size ≤ g := Nat.le_trans hb14.size hg1
         have HB15 := Lib.hid hb15
         have HKG := Lib.hid (fun w' (hs : Below w5.heap.size w5 w') => (Foot.below (Foot.below (Foot.mono (D' := (· ≠ g)) HHK.out fun b _ (hl : b < wr.heap.size) => by show b ≠ g; omega) hb15) hs))
         have hs0 : Below w5.heap.size w5 w5.drew := (Below.refl _ _).drew
         have hg3 := HG3.out.resolve_left HQ0.out
         obtain ⟨⟨⟨f1, f2⟩, f3⟩, f4⟩ := hg3
         have HF1 := Lib.hid f1
         have HF2 := Lib.hid f2
         have HF3 := Lib.hid f3
         have HF4 := Lib.hid f4
         have hwq : wl qq.natAbs ≤ 8100 := by
          have := wl_div (2 * vl G ti tk + vl G tk tk) (2 * vl G tk tk)
          rw [hqq] at this
          omega
         have hwq2 : wl (-qq).natAbs ≤ 8100 := by rw [wl_neg]; exact hwq
         clear hown hown2 hb4 hb5 hb14 hb15 f1 f2 f3 f4
         refine wp_region_tq5 (.read 0 (.read 1 (.read 3 (.read 4 (.read 5 (.read 6 (.step 2 (.step 7 .nil)))))))) [7] (by kernel_rfl) (by rfl) (by kernel_rfl) (by kernel_rfl) (fun V => Below w5.heap.size w5 V) ?_
         change goU _ _ _ _ _ _ _ w5.drew
         refine goU_read 71 hs0 (by rfl) (by rfl) ?_ (by rfl) (fun wz hSw => ?_) ?_
         rotate_left
         ·have e0 := keepB hSw hTk; have e1 := keepB hSw r80; have e2 := keepB hSw r81; go_simp
          try with_reducible rfl
         simp only [sIB, List.set]
         refine goU_read 72 hs0 (by rfl) (by rfl) ?_ (by rfl) (fun wz hSw => ?_) ?_
         rotate_left
         ·have e0 := keepB hSw hTk; have e1 := keepB hSw r80; have e2 := keepB hSw r81; go_simp
          try with_reducible rfl
         simp only [sIB, List.set]
         refine goU_read 74 hs0 (by rfl) (by rfl) ?_ (by rfl) (fun wz hSw => ?_) ?_
         rotate_left
         ·have e0 := keepB hSw hTk; have e1 := keepB hSw r80; have e2 := keepB hSw r81; go_simp
          try with_reducible rfl
         simp only [sIB, List.set]
         refine goU_read 75 hs0 (by rfl) (by rfl) ?_ (by rfl) (fun wz hSw => ?_) ?_
         rotate_left
         ·have e0 := keepB hSw hTk; have e1 := keepB hSw r80; have e2 := keepB hSw r81; go_simp
          try with_reducible rfl
         simp only [sIB, List.set]
         refine goU_read 76 hs0 (by rfl) (by rfl) ?_ (by rfl) (fun wz hSw => ?_) ?_
         rotate_left
         ·have e0 := keepB hSw hTk; have e1 := keepB hSw r80; have e2 := keepB hSw r81; go_simp
          try with_reducible rfl
         simp only [sIB, List.set]
         refine goU_read 77 hs0 (by rfl) (by rfl) ?_ (by rfl) (fun wz hSw => ?_) ?_
         rotate_left
         ·have e0 := keepB hSw hTk; have e1 := keepB hSw r80; have e2 := keepB hSw r81; go_simp
          try with_reducible rfl
         simp only [sIB, List.set]
         refine goU_call 73 (by rfl) (by rfl) (by rfl) (by go_simp) (wNeg_any (HX5.out.below hs0).int (by omega)) ?_
         rintro e w6 ⟨v6, rfl, hv6, hb6⟩
         have hs1 := hs0.trans (hb6.mono hs0.size)
         refine ⟨_, rfl, fun _ => hs1, ?_⟩
         simp only [sIB, List.set]
         refine goU_call 78 (by rfl) (by rfl) (by rfl) (by go_simp) (add_any (D := (· ≠ g)) (HOW.out.below hs1) (fun h => h rfl) (fun b hb e => by have := hs1.size; omega) (hv6.dd fun b (hb : w5.heap.size ≤ b) => by show b ≠ g; omega) (HKG.out _ hs1) hli (Nat.le_refl _) (by omega) (by omega) (fun j => Nat.le_trans (fit_wl (fitR_gz hfi j)) (by omega)) (fun j => Nat.le_trans (fit_wl (fitR_gz hfk j)) (by omega))) ?_
         rintro e w7 ⟨rfl, hown7, hf7⟩
         refine ⟨_, rfl, fun h => absurd h (by decide), ?_⟩
         simp only [sIB, List.set]
         refine goU_nilN ?_
         have hg6 := hs1.size
         have hw5 := HB15.out.size
         have hTi7 := (hf7.cell (Nat.lt_of_lt_of_le hbT (Nat.le_trans hw5 hg6)) (fun e => by omega)).trans (keepB hs1 hTi)
         have hb17 : Below wr.heap.size wr w7 := (HB15.out.trans (hs1.mono hw5)).trans (hf7.below (Nat.le_trans hw5 hg6) (fun b e => by rw [e]; exact hgw))
         have hnx : PvD w7 (fun _ => True) (.slice (some ⟨g, 0, none⟩) n cap) (addF (-qq) ti tk) := hown7.pvd fun _ _ => trivial
         have HB17 := Lib.hid hb17
         have HNX := Lib.hid hnx
         clear hf7 hown7 hb17 hnx hs1 hs0 hb6 hv6 hTi hTk r80 r81
         have hc : ∃ x, cmpI (vl G (addF (-qq) ti tk) (addF (-qq) ti tk)) (vl G ti ti) = x ∧ 0 ≤ x := ⟨_, rfl, by unfold cmpI; rw [if_neg (Int.not_lt.2 HF4.out)]; split <;> omega⟩
         obtain ⟨x9, HX9, hx9⟩ := hc
         have HX9' := Lib.hid HX9
         clear HX9
         have hx92 : decide (x9 < 0) = false := by simp; omega
         go_upto_region 17 with (fail)
         have hs0 : Below w7.heap.size w7 w7.drew := (Below.refl _ _).drew
         refine wp_region_tq5 (.read 0 (.read 1 (.read 2 (.read 4 (.read 5 (.read 6 (.read 7 (.read 8 (.read 9 (.read 10 (.read 11 (.read 12 (.step 3 (.step 13 (.step 14 (.read 15 .nil)))))))))))))))) [] (by kernel_rfl) (by rfl) (by kernel_rfl) (by kernel_rfl) (fun V => Below w7.heap.size w7 V) ?_
         change goU _ _ _ _ _ _ _ w7.drew
         refine goU_read 79 hs0 (by rfl) (by rfl) ?_ (by rfl) (fun wz hSw => ?_) ?_
         rotate_left
         ·have e0 := keepB hSw hTi7; go_simp
          try with_reducible rfl
         simp only [sIB, List.set]
         refine goU_read 80 hs0 (by rfl) (by rfl) ?_ (by rfl) (fun wz hSw => ?_) ?_
         rotate_left
         ·have e0 := keepB hSw hTi7; go_simp
          try with_reducible rfl
         simp only [sIB, List.set]
         refine goU_read 81 hs0 (by rfl) (by rfl) ?_ (by rfl) (fun wz hSw => ?_) ?_
         rotate_left
         ·have e0 := keepB hSw hTi7; go_simp
          try with_reducible rfl
         simp only [sIB, List.set]
         refine goU_read 83 hs0 (by rfl) (by rfl) ?_ (by rfl) (fun wz hSw => ?_) ?_
         rotate_left
         ·have e0 := keepB hSw hTi7; go_simp
          try with_reducible rfl
         simp only [sIB, List.set]
         refine goU_read 84 hs0 (by rfl) (by rfl) ?_ (by rfl) (fun wz hSw => ?_) ?_
         rotate_left
         ·have e0 := keepB hSw hTi7; go_simp
          try with_reducible rfl
         simp only [sIB, List.set]
         refine goU_read 85 hs0 (by rfl) (by rfl) ?_ (by rfl) (fun wz hSw => ?_) ?_
         rotate_left
         ·have e0 := keepB hSw hTi7; go_simp
          try with_reducible rfl
         simp only [sIB, List.set]
         refine goU_read 86 hs0 (by rfl) (by rfl) ?_ (by rfl) (fun wz hSw => ?_) ?_
         rotate_left
         ·have e0 := keepB hSw hTi7; go_simp
          try with_reducible rfl
         simp only [sIB, List.set]
         refine goU_read 87 hs0 (by rfl) (by rfl) ?_ (by rfl) (fun wz hSw => ?_) ?_
         rotate_left
         ·have e0 := keepB hSw hTi7; go_simp
          try with_reducible rfl
         simp only [sIB, List.set]
         refine goU_read 88 hs0 (by rfl) (by rfl) ?_ (by rfl) (fun wz hSw => ?_) ?_
         rotate_left
         ·have e0 := keepB hSw hTi7; go_simp
          try with_reducible rfl
         simp only [sIB, List.set]
         refine goU_read 89 hs0 (by rfl) (by rfl) ?_ (by rfl) (fun wz hSw => ?_) ?_
         rotate_left
         ·have e0 := keepB hSw hTi7; go_simp
          try with_reducible rfl
         simp only [sIB, List.set]
         refine goU_read 90 hs0 (by rfl) (by rfl) ?_ (by rfl) (fun wz hSw => ?_) ?_
         rotate_left
         ·have e0 := keepB hSw hTi7; go_simp
          try with_reducible rfl
         simp only [sIB, List.set]
         refine goU_read 91 hs0 (by rfl) (by rfl) ?_ (by rfl) (fun wz hSw => ?_) ?_
         rotate_left
         ·have e0 := keepB hSw hTi7; go_simp
          try with_reducible rfl
         simp only [sIB, List.set]
         refine goU_call 82 (by rfl) (by rfl) (by rfl) (by go_simp) (HVN.out _ (HB17.out.trans (hs0.mono HB17.out.size)) _ _ _ (Foot.below HNX.out hs0) HF1.out) ?_
         rintro e w8 ⟨v8, rfl, hv8, hb8⟩
         have hs1 := hs0.trans (hb8.mono hs0.size)
         refine ⟨_, rfl, fun _ => hs1, ?_⟩
         simp only [sIB, List.set]
         refine goU_call 92 (by rfl) (by rfl) (by rfl) (by go_simp) (HV3.out _ (HB17.out.trans (hs1.mono HB17.out.size))) ?_
         rintro e w9 ⟨v9, rfl, hv9, hb9⟩
         have hs2 := hs1.trans (hb9.mono hs1.size)
         refine ⟨_, rfl, fun _ => hs2, ?_⟩
         simp only [sIB, List.set]
         refine goU_call 93 (by rfl) (by rfl) (by rfl) (by go_simp) (Cmp_any (hv8.below hb9).int hv9.int (Nat.le_trans (fit_wl HF2.out) (by omega)) (Nat.le_trans (fit_wl HF3.out) (by omega))) ?_
         rintro e w10 ⟨rfl, hb10⟩
         rw [HX9'.out]
         have hs3 := hs2.trans (hb10.mono hs2.size)
         refine ⟨_, rfl, fun _ => hs3, ?_⟩
         simp only [sIB, List.set]
         refine goU_read 94 hs3 (by rfl) (by rfl) ?_ (by rfl) (fun wz hSw => ?_) ?_
         rotate_left
         ·go_simp
          try with_reducible rfl
         simp only [sIB, List.set]
         refine goU_nilN ?_
         clear hv8 hv9
         go_wp2_with fail
         go_roundw
         case rel => exact ⟨k + 1, rfl, by go_num, by omega, HBR2.out.trans ((HB17.out.trans (hs3.mono HB17.out.size)).mono HBR2.out.size)⟩
         case measure => simp [intOf]; omega
      ·obtain rfl : k = n := by omega
       go_wp2_with fail
       go_roundw
       case rel => exact ⟨i + 1, rfl, by go_num, by omega, hbr⟩
       case measure => simp [intOf]; omega
    ·obtain rfl : i = n := by omega
     go_wp2_with fail
     go_roundw
     case rel => exact ⟨false, rfl, hbr⟩
     case measure => simp [again]
end Go.Proofs.YtdjpeimecfhdjaaGreat

namespace Go.Proofs.YtdjpeimecfhdjaaGreat
open Go.RowKit
abbrev Stg := List (List Int) × Int
def StC (w : World) (D : Nat → Prop) (xs : List Value) (S : List Stg) : Prop :=
 xs.length = S.length * 3 ∧ ∀ j s, S[j]? = some s → ∃ A q c neg B m k, xs[j * 3]? = some (.slice A q c) ∧ xs[j * 3 + 1]? = some (.bool neg) ∧ xs[j * 3 + 2]? = some (.slice B m k) ∧ RowsD PvD w D (.slice A q c) s.1 ∧ NIntV w D (.agg #[.bool neg, .slice B m k]) s.2
section
variable {w w' : World} {D D' E : Nat → Prop} {xs : List Value} {S : List Stg} {base : Nat} {v : Value}
theorem StC.keep (h : StC w D xs S) (hk : ∀ b, D b → b < w.heap.size → w'.heap[b]? = w.heap[b]?) : StC w' D xs S := ⟨h.1, fun j s hs => by
 obtain ⟨A, q, c, neg, B, m, k, h1, h2, h3, h4, h5⟩ := h.2 j s hs
 exact ⟨A, q, c, neg, B, m, k, h1, h2, h3, RowsD.keep h4 hk, h5.keep fun b o hb hl => World.cell?_of_block (hk b hb hl)⟩⟩
theorem StC.mono (h : StC w D xs S) (hd : ∀ b, D b → b < w.heap.size → D' b) : StC w D' xs S := ⟨h.1, fun j s hs => by
 obtain ⟨A, q, c, neg, B, m, k, h1, h2, h3, h4, h5⟩ := h.2 j s hs
 exact ⟨A, q, c, neg, B, m, k, h1, h2, h3, RowsD.mono h4 hd, h5.mono hd⟩⟩
theorem StC.snoc (h : StC w D xs S) {A : Option Addr} {q c : Nat} {G : List (List Int)} {neg : Bool} {B : Option Addr} {m k : Nat} {x : Int} (hg : RowsD PvD w D (.slice A q c) G) (hx : NIntV w D (.agg #[.bool neg, .slice B m k]) x) : StC w D (xs ++ [.slice A q c, .bool neg, .slice B m k]) (S ++ [(G, x)]) := by
 refine ⟨by simp [h.1]; omega, fun j s hs => ?_⟩
 rcases Nat.lt_trichotomy j S.length with h1 | h1 | h1
 ·rw [List.getElem?_append_left h1] at hs
  obtain ⟨A2, q2, c2, neg2, B2, m2, k2, e1, e2, e3, e4, e5⟩ := h.2 j s hs
  have := h.1
  exact ⟨A2, q2, c2, neg2, B2, m2, k2, by rw [List.getElem?_append_left (by omega)]; exact e1, by rw [List.getElem?_append_left (by omega)]; exact e2, by rw [List.getElem?_append_left (by omega)]; exact e3, e4, e5⟩
 ·subst h1
  rw [List.getElem?_append_right (Nat.le_refl _), Nat.sub_self] at hs
  injection hs with hs
  subst hs
  refine ⟨A, q, c, neg, B, m, k, ?_, ?_, ?_, hg, hx⟩ <;> (rw [List.getElem?_append_right (by rw [h.1]; omega), h.1]; simp)
 ·rw [List.getElem?_eq_none (by simp; omega)] at hs; cases hs
def OwnS (w : World) (base : Nat) (E : Nat → Prop) (v : Value) (S : List Stg) : Prop := ∃ xs, w.ownsRow base 223 3 v S.length xs ∧ StC w (fun b => E b ∧ some b ≠ v.ownBlock) xs S
theorem OwnS.lt (h : OwnS w base E v S) {g : Nat} (hg : v.ownBlock = some g) : base ≤ g ∧ g < w.heap.size := by
 obtain ⟨xs, h1, _⟩ := h
 exact h1.lt g hg
theorem OwnS.frm {O : Nat → Prop} (h : OwnS w base E v S) (hf : Frm O w w') (hE : ∀ b, E b → ¬ O b) (hv : ∀ b, v.ownBlock = some b → ¬ O b) : OwnS w' base E v S := by
 obtain ⟨xs, h1, h2⟩ := h
 refine ⟨xs, ⟨h1.1, ?_⟩, h2.keep fun b hb hl => hf.block b hl (hE b hb.1)⟩
 rcases h1.2 with h4 | ⟨g, cap, cur, e, h4, h5, h6⟩
 ·exact .inl h4
 ·exact .inr ⟨g, cap, cur, e, h4, (hf.block g (h1.lt g (by rw [e]; rfl)).2 (hv g (by rw [e]; rfl))).trans h5, h6⟩
theorem OwnS.below (h : OwnS w base E v S) (hb : Below w.heap.size w w') : OwnS w' base E v S := h.frm (O := fun _ => False) (Frm.of_below hb) (fun _ _ h => h) (fun _ _ h => h)
theorem OwnS.fresh (h : OwnS w base E v S) {b : Nat} (hb : w.heap.size ≤ b) : some b ≠ v.ownBlock := fun e => by have := (h.lt e.symm).2; omega
def StV (w : World) (D : Nat → Prop) (v : Value) (S : List Stg) : Prop := ∃ A c, v = .slice A S.length c ∧ ∀ j s, S[j]? = some s → ∃ b off A1 q1 c1 neg B m k, A = some ⟨b, off, none⟩ ∧ D b ∧ w.cell? ⟨b, off + j * 3, none⟩ = some (.slice A1 q1 c1) ∧ w.cell? ⟨b, off + j * 3 + 1, none⟩ = some (.bool neg) ∧ w.cell? ⟨b, off + j * 3 + 2, none⟩ = some (.slice B m k) ∧ RowsD PvD w D (.slice A1 q1 c1) s.1 ∧ NIntV w D (.agg #[.bool neg, .slice B m k]) s.2
theorem OwnS.stvF {F : Nat → Prop} (h : OwnS w base E v S) (h1 : ∀ b, base ≤ b → F b) (h2 : ∀ b, E b → F b) : StV w F v S := by
 obtain ⟨xs, h3, h4⟩ := h
 obtain ⟨A, c, e, _, _⟩ := own_slice h3
 refine ⟨A, c, e, fun j s hs => ?_⟩
 have hj : j < S.length := (List.getElem?_eq_some_iff.1 hs).1
 obtain ⟨g, cap, e2, hg, _, _, _, hc⟩ := own_cells h3 (by omega)
 obtain ⟨A1, q1, c1, neg, B, m, k, k1, k2, k3, k4, k5⟩ := h4.2 j s hs
 rw [e] at e2
 injection e2 with e2
 exact ⟨g, 0, A1, q1, c1, neg, B, m, k, e2, h1 g hg, by rw [Nat.zero_add]; exact hc _ _ k1, by rw [Nat.zero_add]; exact hc _ _ k2, by rw [Nat.zero_add]; exact hc _ _ k3, RowsD.mono k4 fun b hb _ => h2 b hb.1, k5.mono fun b hb _ => h2 b hb.1⟩
end
theorem info_stage : (Tryz.prog.info? 223).map (fun i => (i.zero, i.size, i.bytes)) = some (some (.agg #[.slice none 0 0, .bool false, .slice none 0 0]), 3, 56) := by kernel_rfl
theorem wpList_pushS (w0 : World) {ops : Array Oper} {rest : List Oper} {o : Oper} {a : Act} {Q : Exit → Act → World → Prop} (hgd : o.guard = none) (s x : Operand) (t t' : TypeId)
  (ho : o.op = .call { callee := .builtin .append, args := #[s, x], argTypes := #[t, t'] })
  (base : Nat) {E : Nat → Prop} (ht : Tryz.prog.underlying t = some (.slice 223)) (ht' : Tryz.prog.underlying t' = some (.slice 223))
  (v : Value) (S : List Stg) (n : Nat) (hln : S.length = n) (hs : a.eval s = v) (hown : OwnS w0 base E v S)
  (A1 : Option Addr) (q1 c1 : Nat) (neg : Bool) (B : Option Addr) (m k : Nat) (H : List (List Int)) (y : Int) (G : Nat) (hG : Arr w0 G 223 [.slice A1 q1 c1, .bool neg, .slice B m k]) (hx : a.eval x = .slice (some ⟨G, 0, none⟩) 1 1)
  (hH : RowsD PvD w0 (fun b => E b ∧ some b ≠ v.ownBlock) (.slice A1 q1 c1) H) (hy : NIntV w0 (fun b => E b ∧ some b ≠ v.ownBlock) (.agg #[.bool neg, .slice B m k]) y)
  (h63 : n + 1 ≤ 1000000000) (hbase : base ≤ w0.heap.size)
  (h : ∀ A' c' w', OwnS w' base E (.slice A' (n + 1) c') (S ++ [(H, y)]) → w0.grownBy w' v.ownBlock → (∀ b, b < w0.heap.size → some b ≠ v.ownBlock → some b ≠ (Value.slice A' (n + 1) c').ownBlock) → Below base w0 w' → wpList Tryz.prog ops Q rest (a.put o.dst (.slice A' (n + 1) c')) w') :
  wpList Tryz.prog ops Q (o :: rest) a w0 := by
 subst hln
 obtain ⟨xs, hrow, hcs⟩ := hown
 refine wpList_app _ hgd s x t t' ho base 223 223 (.agg #[.slice none 0 0, .bool false, .slice none 0 0]) 3 56 ht ht' info_stage rfl (by omega) v S.length xs hs hrow _ 1 1 [.slice A1 q1 c1, .bool neg, .slice B m k] hx (src_block hG 1 3 rfl) (by simp [Value.oneCell']) (by unfold maxLen; omega) (by omega) hbase ?_
 intro v' w' hown' hg hob
 obtain ⟨A', c', rfl, _, _⟩ := own_slice hown'
 have hnew : ∀ b, b < w0.heap.size → some b ≠ v.ownBlock → some b ≠ (Value.slice A' (S.length + 1) c').ownBlock := fun b hb hv => by
  rcases hob with e | e
  ·rw [e]; exact hv
  ·rw [e]
   intro e2
   simp at e2
   omega
 refine h A' c' w' ⟨_, by rw [List.length_append]; exact hown', ?_⟩ hg hnew ((Below.refl _ _).grown hg hbase (fun k hk => (hrow.lt k hk).1))
 have hc3 : StC w0 (fun b => (E b ∧ some b ≠ v.ownBlock) ∧ b < w0.heap.size) (xs ++ [.slice A1 q1 c1, .bool neg, .slice B m k]) (S ++ [(H, y)]) := (hcs.snoc hH hy).mono fun b h1 h2 => ⟨h1, h2⟩
 exact (hc3.keep (w' := w') fun b hd hb => hg.block b hb hd.1.2).mono fun b hd _ => ⟨hd.1.1, hnew b hd.2 hd.1.2⟩
end Go.Proofs.YtdjpeimecfhdjaaGreat
