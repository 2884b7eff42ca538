/- The reference's CheckEnclosures. -/
import Derived.Test.YtdmdagilopckgaaGreatQat
import Derived.Test.YtdmdagilopckgaaGreatExj
import Derived.IntWalk
namespace Go.Proofs.YtdmdagilopckgaaGreat
open Go.RowKit Go.WideShapes

set_option maxHeartbeats 4000000 in
set_option maxRecDepth 100000 in
theorem qCheckEnclosures_any {A A' : Option Addr} {n c n' c' : Nat} {l : List Int} {L : List En} {w : World} (h : Pl IntB w (fun _ => True) A n c l) (hn : n ≤ 1000) (hg : rdE l = 0 → GoodP (tz l)) (hl : EnA w A' n' c' L) :
    Calls Tryz.prog 18 #[.slice A n c, .slice A' n' c'] w fun e w' => e = .returned (.int .i64 (ceE l L)) ∧ Below w.heap.size w w' := by
  have hm := h.room
  have hm' := hl.room
  unfold maxLen at hm hm'
  have hc := h.cap
  have hc' := hl.cap
  have HCP := Lib.hid (qCheckPoly_any h)
  have HL := Lib.hid hl
  have HN := Lib.hid hl.len
  obtain ⟨d, hd⟩ : ∃ d, rdE l = d := ⟨_, rfl⟩
  rw [hd] at HCP
  by_cases h1 : d = 0
  · subst h1
    have G1 := Lib.hid (hg hd)
    have HP := Lib.hid h
    have HE := Lib.hid (show ceE l L = if 61 < L.length then 8 else if frE L ≠ 0 then frE L else if badF (tz l) none L = true then 18 else if sumC L = allR (ch (tz l)) then 0 else 18 by unfold ceE; rw [if_neg (by rw [hd]; simp)])
    have HBT := Lib.hid (fun w' (hb : Below w.heap.size w w') a b x y ha hb2 hx hy => qBetween_any (a := a) (b := b) (x := x) (y := y) (h.below hb) hn (hg hd) ha hb2 hx hy)
    have HAL := Lib.hid (fun w' (hb : Below w.heap.size w w') => qAll_any (h.below hb) hn (hg hd))
    clear h hg hd hl
    generalize tz l = t at *
    by_cases h2 : 61 < n'
    · have HE2 := Lib.hid (show ceE l L = 8 by rw [HE.out, if_pos (by rw [HN.out]; exact h2)])
      have z1 : decide ((61 : Int) < (n' : Int)) = true := decide_eq_true (by omega)
      go_enter Tryz.func18, Tryz.ntmps18
      go_wp2_with (go_at_call 10; go_must (refine HCP.out.mono ?_); rintro e w1 ⟨rfl, hb1⟩)
      go_ret
      exact ⟨by rw [HE2.out]; rfl, hb1⟩
    · have HE2 := Lib.hid (show ceE l L = if frE L ≠ 0 then frE L else if badF t none L = true then 18 else if sumC L = allR (ch t) then 0 else 18 by rw [HE.out, if_neg (by rw [HN.out]; exact h2)])
      have z1 : decide ((61 : Int) < (n' : Int)) = false := decide_eq_false (by omega)
      clear HE
      go_enter Tryz.func18, Tryz.ntmps18
      go_wp2_with (go_at_call 10; go_must (refine HCP.out.mono ?_); rintro e w1 ⟨rfl, hb1⟩)
      clear HCP
      go_loopw [6] (fun iv wr => ∃ k : Nat, iv = .int .i64 k ∧ k ≤ n' ∧ Hid (frE (L.take k) = 0) ∧ Below w1.heap.size w1 wr) (fun iv _ => n' - (intOf iv).toNat)
      case atStart => exact ⟨0, rfl, by omega, Lib.hid rfl, Below.refl _ _⟩
      case round =>
        obtain ⟨k, rfl, hk, HF, hbr⟩ := hrel
        have hbw := btr hb1 hbr
        rcases Nat.lt_or_ge k n' with hkn | hkn
        · obtain ⟨q, hq⟩ : ∃ q, L[k]? = some q := ⟨_, List.getElem?_eq_getElem (by rw [HN.out]; exact hkn)⟩
          obtain ⟨b, off, rfl, q0, q1, q2, q3, q4⟩ := (HL.out.below hbw).at hq
          have HQ := Lib.hid hq
          clear hq
          obtain ⟨qa, qb, qc, qd, qn⟩ := q
          simp only at q0 q1 q2 q3 q4
          by_cases hc0 : cfE qa qb = 0
          · have HC := Lib.hid hc0
            clear hc0
            by_cases hc1 : cfE qc qd = 0
            · have HD := Lib.hid hc1
              clear hc1
              have Q2 := Lib.hid q2
              have Q3 := Lib.hid q3
              have HFN := Lib.hid (frE_next HQ.out HF.out (twE_zero HC.out HD.out))
              go_wp2_with (first
                | (go_at_call 12; ((with_reducible refine (qCheckFrac_any (num := qa) (den := qb)).mono ?_)); rintro e w2 ⟨rfl, hb2⟩; rw [HC.out]; have x2 := keepB hb2 Q2.out; have x3 := keepB hb2 Q3.out)
                | (go_at_call 12; go_must (refine (qCheckFrac_any (num := qc) (den := qd)).mono ?_); rintro e w3 ⟨rfl, hb3⟩; rw [HD.out]))
              go_roundw
              case rel => exact ⟨k + 1, by go_num, by omega, HFN, btr (btr hbr hb2) hb3⟩
              case measure => simp [intOf]; omega
            · obtain ⟨d, hd⟩ : ∃ d, cfE qc qd = d := ⟨_, rfl⟩
              rw [hd] at hc1
              have hfe : frE L = d := (frE_first HQ.out HF.out (by rw [twE_two HC.out hd]; exact hc1)).trans (twE_two HC.out hd)
              have HE3 := Lib.hid (show ceE l L = d by rw [HE2.out, if_pos (by rw [hfe]; exact hc1), hfe])
              have HD := Lib.hid hd
              have Q2 := Lib.hid q2
              have Q3 := Lib.hid q3
              have z5 : (d != 0) = true := by rw [bne_iff_ne]; exact hc1
              clear hd hfe hc1
              go_wp2_with (first
                | (go_at_call 12; ((with_reducible refine (qCheckFrac_any (num := qa) (den := qb)).mono ?_)); rintro e w2 ⟨rfl, hb2⟩; rw [HC.out]; have x2 := keepB hb2 Q2.out; have x3 := keepB hb2 Q3.out)
                | (go_at_call 12; go_must (refine (qCheckFrac_any (num := qc) (den := qd)).mono ?_); rintro e w3 ⟨rfl, hb3⟩; rw [HD.out]))
              go_ret
              exact ⟨by rw [HE3.out]; rfl, btr hb1 (btr (btr hbr hb2) hb3)⟩
          · obtain ⟨d, hd⟩ : ∃ d, cfE qa qb = d := ⟨_, rfl⟩
            rw [hd] at hc0
            have hfe : frE L = d := (frE_first HQ.out HF.out (by rw [twE_one hd hc0]; exact hc0)).trans (twE_one hd hc0)
            have HE3 := Lib.hid (show ceE l L = d by rw [HE2.out, if_pos (by rw [hfe]; exact hc0), hfe])
            have HC := Lib.hid hd
            have z5 : (d != 0) = true := by rw [bne_iff_ne]; exact hc0
            clear hd hfe hc0
            go_wp2_with (go_at_call 12; go_must (refine (qCheckFrac_any (num := qa) (den := qb)).mono ?_); rintro e w2 ⟨rfl, hb2⟩; rw [HC.out])
            go_ret
            exact ⟨by rw [HE3.out]; rfl, btr hb1 (btr hbr hb2)⟩
        · obtain rfl : n' = k := by omega
          have hfe : frE L = 0 := by have := HF.out; rw [List.take_of_length_le (by rw [HN.out]; exact Nat.le_refl _)] at this; exact this
          have HE3 := Lib.hid (show ceE l L = if badF t none L = true then 18 else if sumC L = allR (ch t) then 0 else 18 by rw [HE2.out, if_neg (by rw [hfe]; simp)])
          have HM := Lib.hid (frE_mem hfe)
          clear hfe HF
          go_wp2_with fail
          obtain ⟨wo, rfl⟩ : ∃ wo, wo = wr := ⟨_, rfl⟩
          go_loopw [9, 10] (fun sv iv wx => ∃ k : Nat, iv = .int .i64 k ∧ k ≤ n' ∧ sv = .int .i64 (sumC (L.take k)) ∧ Hid (badF t none (L.take k) = false) ∧ 0 ≤ sumC (L.take k) ∧ sumC (L.take k) ≤ 12 * k ∧ Below wo.heap.size wo wx) (fun _ iv _ => n' - (intOf iv).toNat)
          case atStart => exact ⟨0, rfl, by omega, rfl, Lib.hid rfl, by simp [sumC], by simp [sumC], Below.refl _ _⟩
          case round =>
            obtain ⟨k, rfl, hk, rfl, HB, hs1, hs2, hbr2⟩ := hrel
            have hbz := btr hbw hbr2
            rcases Nat.lt_or_ge k n' with hkn | hkn
            · obtain ⟨q, hq⟩ : ∃ q, L[k]? = some q := ⟨_, List.getElem?_eq_getElem (by rw [HN.out]; exact hkn)⟩
              obtain ⟨b, off, rfl, q0, q1, q2, q3, q4⟩ := (HL.out.below hbz).at hq
              have HQ := Lib.hid hq
              have hq2 := HM.out q (List.mem_of_getElem? hq)
              clear hq
              obtain ⟨qa, qb, qc, qd, qn⟩ := q
              simp only at q0 q1 q2 q3 q4 hq2
              obtain ⟨y1, y2⟩ := twE_inv hq2
              obtain ⟨y3, y4, y5, y6⟩ := cfE_zero y1
              obtain ⟨y7, y8, y9, y10⟩ := cfE_zero y2
              clear y1 y2 hq2
              have e1 := chA_le qa qb G1.out
              have e2 := chA_le qc qd G1.out
              have HSN := Lib.hid (sumC_next HQ.out)
              have B4 := Lib.hid (show b4 t (qa, qb, qc, qd, qn) = (chA qa qb (ch t) - chA qc qd (ch t) != qn) from rfl)
              have K1 := Lib.hid (fun W (hb : Below wr.heap.size wr W) => HBT.out W (btr hbz hb) qa qb qc qd (by omega) (by omega) (by omega) (by omega))
              simp only at HSN
              obtain ⟨uu, huu⟩ : ∃ uu, chA qa qb (ch t) - chA qc qd (ch t) = uu := ⟨_, rfl⟩
              rw [huu] at B4 K1
              have hu0 : -12 ≤ uu ∧ uu ≤ 12 := by omega
              generalize hsc : sumC (L.take k) = sc at *
              clear huu hsc e1 e2
              have E0 := Lib.hid q0
              have E1 := Lib.hid q1
              have E2 := Lib.hid q2
              have E3 := Lib.hid q3
              have E4 := Lib.hid q4
              have hki : (k : Int) < (n' : Int) := by omega
              have hkz : (0 : Int) ≤ (k : Int) := by omega
              have hs0 : Below wr.heap.size wr wr.drew := (Below.refl _ _).drew
              clear q0 q1 q2 q3 q4
              go_wp2_with fail
              rename_i KX hKX
              by_cases hl1 : qa * qd < qc * qb
              · have T1 := Lib.hid (decide_eq_true hl1)
                have B1 := Lib.hid (show b1 (qa, qb, qc, qd, qn) = false by unfold b1; simp only; rw [T1.out]; rfl)
                clear hl1
                by_cases hk0 : k = 0
                · have HK := Lib.hid hk0
                  have zk : decide ((0 : Int) < (k : Int)) = false := decide_eq_false (by omega)
                  have zk2 : ¬ 0 < k := by omega
                  clear hk0
                  by_cases hcn : qn < 1
                  · have hc : decide (qn < 1) = true := decide_eq_true hcn
                    have HE4 := Lib.hid (show ceE l L = 18 by rw [HE3.out, if_pos (badF_first HQ.out (show badQ t (pre L k) (qa, qb, qc, qd, qn) = true by unfold badQ pre; rw [if_pos HK.out]; simp [hc]))])
                    clear hcn
                    refine wp_region_trg (.read 0 (.read 1 (.read 2 (.read 3 (.read 4 (.read 5 (.read 6 (.read 7 (.read 8 (.read 9 (.step 10 (.read 11 (.read 12 (.read 13 (.read 14 (.read 15 (.read 16 (.read 17 (.read 18 (.read 19 (.read 20 (.read 21 (.read 22 (.read 23 (.read 24 (.read 25 (.read 26 (.step 27 (.read 28 (.read 29 (.read 30 (.read 31 (.read 32 (.read 33 (.read 34 (.read 35 (.read 36 (.read 37 (.read 38 (.read 39 (.read 40 (.read 41 (.read 42 (.read 43 (.read 44 (.read 45 (.read 46 (.read 47 (.read 48 (.read 49 (.read 51 (.read 52 (.read 53 (.read 54 (.read 55 (.step 50 (.read 56 (.read 57 .nil)))))))))))))))))))))))))))))))))))))))))))))))))))))))))) [] (by kernel_rfl) (by rfl) (by kernel_rfl) (by kernel_rfl) (fun _ _ _ _ _ h => h) (fun W' => Below wr.heap.size wr W') ?_
                    change goG _ _ _ _ _ _ _ wr.drew
                    refine goG_read 49 hs0 (by rfl) (by rfl) ?_ (by rfl) (fun wz hSw => ?_) ?_
                    rotate_left
                    · go_simp
                      try with_reducible rfl
                    simp only [List.setIfInBounds_toArray, List.set]
                    refine goG_read 50 hs0 (by rfl) (by rfl) ?_ (by rfl) (fun wz hSw => ?_) ?_
                    rotate_left
                    · go_simp
                      try with_reducible rfl
                    simp only [List.setIfInBounds_toArray, List.set]
                    refine goG_read 51 hs0 (by rfl) (by rfl) ?_ (by rfl) (fun wz hSw => ?_) ?_
                    rotate_left
                    · go_simp
                      try with_reducible rfl
                    simp only [List.setIfInBounds_toArray, List.set]
                    refine goG_read 52 hs0 (by rfl) (by rfl) ?_ (by rfl) (fun wz hSw => ?_) ?_
                    rotate_left
                    · go_simp
                      try with_reducible rfl
                    simp only [List.setIfInBounds_toArray, List.set]
                    refine goG_read 53 hs0 (by rfl) (by rfl) ?_ (by rfl) (fun wz hSw => ?_) ?_
                    rotate_left
                    · (have x0 := keepB hSw E0.out); (have x1 := keepB hSw E1.out); go_simp
                      try with_reducible rfl
                    simp only [List.setIfInBounds_toArray, List.set]
                    refine goG_read 54 hs0 (by rfl) (by rfl) ?_ (by rfl) (fun wz hSw => ?_) ?_
                    rotate_left
                    · go_simp
                      try with_reducible rfl
                    simp only [List.setIfInBounds_toArray, List.set]
                    refine goG_read 55 hs0 (by rfl) (by rfl) ?_ (by rfl) (fun wz hSw => ?_) ?_
                    rotate_left
                    · go_simp
                      try with_reducible rfl
                    simp only [List.setIfInBounds_toArray, List.set]
                    refine goG_read 56 hs0 (by rfl) (by rfl) ?_ (by rfl) (fun wz hSw => ?_) ?_
                    rotate_left
                    · go_simp
                      try with_reducible rfl
                    simp only [List.setIfInBounds_toArray, List.set]
                    refine goG_read 57 hs0 (by rfl) (by rfl) ?_ (by rfl) (fun wz hSw => ?_) ?_
                    rotate_left
                    · go_simp
                      try with_reducible rfl
                    simp only [List.setIfInBounds_toArray, List.set]
                    refine goG_read 58 hs0 (by rfl) (by rfl) ?_ (by rfl) (fun wz hSw => ?_) ?_
                    rotate_left
                    · (have x0 := keepB hSw E2.out); (have x1 := keepB hSw E3.out); go_simp
                      try with_reducible rfl
                    simp only [List.setIfInBounds_toArray, List.set]
                    refine goG_call 59 (by rfl) (by rfl) (by rfl) (by go_simp) (qLess_any (a := qa) (b := qb) (c := qc) (d := qd) (by omega) (by omega) (by omega) (by omega)) ?_
                    rintro e w21 ⟨rfl, hb21⟩
                    have hs21 := btr hs0 hb21
                    rw [T1.out]
                    refine ⟨_, rfl, fun _ => hs21, ?_⟩
                    simp only [List.setIfInBounds_toArray, List.set]
                    refine goG_read 60 hs21 (by rfl) (by rfl) ?_ (by rfl) (fun wz hSw => ?_) ?_
                    rotate_left
                    · go_simp
                      try with_reducible rfl
                    simp only [List.setIfInBounds_toArray, List.set]
                    refine goG_read 61 hs21 (by rfl) (by rfl) ?_ (by rfl) (fun wz hSw => ?_) ?_
                    rotate_left
                    · go_simp
                      try with_reducible rfl
                    simp only [List.setIfInBounds_toArray, List.set]
                    refine goG_read 62 hs21 (by rfl) (by rfl) ?_ (by rfl) (fun wz hSw => ?_) ?_
                    rotate_left
                    · go_simp
                      try with_reducible rfl
                    simp only [List.setIfInBounds_toArray, List.set]
                    refine goG_read 63 hs21 (by rfl) (by rfl) ?_ (by rfl) (fun wz hSw => ?_) ?_
                    rotate_left
                    · go_simp
                      try with_reducible rfl
                    simp only [List.setIfInBounds_toArray, List.set]
                    refine goG_read 64 hs21 (by rfl) (by rfl) ?_ (by rfl) (fun wz hSw => ?_) ?_
                    rotate_left
                    · go_simp
                      try with_reducible rfl
                    simp only [List.setIfInBounds_toArray, List.set]
                    refine goG_skip 65 hs21 (by rfl) (by rfl) (by rfl) ?_
                    simp only [List.setIfInBounds_toArray, List.set]
                    refine goG_skip 66 hs21 (by rfl) (by rfl) (by rfl) ?_
                    simp only [List.setIfInBounds_toArray, List.set]
                    refine goG_skip 67 hs21 (by rfl) (by rfl) (by rfl) ?_
                    simp only [List.setIfInBounds_toArray, List.set]
                    refine goG_skip 68 hs21 (by rfl) (by rfl) (by rfl) ?_
                    simp only [List.setIfInBounds_toArray, List.set]
                    refine goG_skip 69 hs21 (by rfl) (by rfl) (by rfl) ?_
                    simp only [List.setIfInBounds_toArray, List.set]
                    refine goG_skip 70 hs21 (by rfl) (by rfl) (by rfl) ?_
                    simp only [List.setIfInBounds_toArray, List.set]
                    refine goG_skip 71 hs21 (by rfl) (by rfl) (by rfl) ?_
                    simp only [List.setIfInBounds_toArray, List.set]
                    refine goG_skip 72 hs21 (by rfl) (by rfl) (by rfl) ?_
                    simp only [List.setIfInBounds_toArray, List.set]
                    refine goG_skip 73 hs21 (by rfl) (by rfl) (by rfl) ?_
                    simp only [List.setIfInBounds_toArray, List.set]
                    refine goG_skip 74 hs21 (by rfl) (by rfl) (by rfl) ?_
                    simp only [List.setIfInBounds_toArray, List.set]
                    refine goG_skip 75 hs21 (by rfl) (by rfl) (by rfl) ?_
                    simp only [List.setIfInBounds_toArray, List.set]
                    refine goG_stepSkip 76 hs21 (by rfl) (by rfl) (by rfl) ?_
                    simp only [List.setIfInBounds_toArray, List.set]
                    refine goG_read 77 hs21 (by rfl) (by rfl) ?_ (by rfl) (fun wz hSw => ?_) ?_
                    rotate_left
                    · go_simp
                      try with_reducible rfl
                    simp only [List.setIfInBounds_toArray, List.set]
                    refine goG_read 78 hs21 (by rfl) (by rfl) ?_ (by rfl) (fun wz hSw => ?_) ?_
                    rotate_left
                    · go_simp
                      try with_reducible rfl
                    simp only [List.setIfInBounds_toArray, List.set]
                    refine goG_read 79 hs21 (by rfl) (by rfl) ?_ (by rfl) (fun wz hSw => ?_) ?_
                    rotate_left
                    · go_simp
                      try with_reducible rfl
                    simp only [List.setIfInBounds_toArray, List.set]
                    refine goG_read 80 hs21 (by rfl) (by rfl) ?_ (by rfl) (fun wz hSw => ?_) ?_
                    rotate_left
                    · go_simp
                      try with_reducible rfl
                    simp only [List.setIfInBounds_toArray, List.set]
                    refine goG_read 81 hs21 (by rfl) (by rfl) ?_ (by rfl) (fun wz hSw => ?_) ?_
                    rotate_left
                    · go_simp
                      try with_reducible rfl
                    simp only [List.setIfInBounds_toArray, List.set]
                    refine goG_read 82 hs21 (by rfl) (by rfl) ?_ (by rfl) (fun wz hSw => ?_) ?_
                    rotate_left
                    · go_simp
                      try with_reducible rfl
                    simp only [List.setIfInBounds_toArray, List.set]
                    refine goG_read 83 hs21 (by rfl) (by rfl) ?_ (by rfl) (fun wz hSw => ?_) ?_
                    rotate_left
                    · go_simp
                      try with_reducible rfl
                    simp only [List.setIfInBounds_toArray, List.set]
                    refine goG_read 84 hs21 (by rfl) (by rfl) ?_ (by rfl) (fun wz hSw => ?_) ?_
                    rotate_left
                    · (have x0 := keepB hSw E4.out); go_simp
                      try with_reducible rfl
                    simp only [List.setIfInBounds_toArray, List.set]
                    refine goG_read 85 hs21 (by rfl) (by rfl) ?_ (by rfl) (fun wz hSw => ?_) ?_
                    rotate_left
                    · go_simp
                      try with_reducible rfl
                    simp only [List.setIfInBounds_toArray, List.set]
                    refine goG_read 86 hs21 (by rfl) (by rfl) ?_ (by rfl) (fun wz hSw => ?_) ?_
                    rotate_left
                    · go_simp
                      try with_reducible rfl
                    simp only [List.setIfInBounds_toArray, List.set]
                    refine goG_read 87 hs21 (by rfl) (by rfl) ?_ (by rfl) (fun wz hSw => ?_) ?_
                    rotate_left
                    · go_simp
                      try with_reducible rfl
                    simp only [List.setIfInBounds_toArray, List.set]
                    refine goG_skip 88 hs21 (by rfl) (by rfl) (by rfl) ?_
                    simp only [List.setIfInBounds_toArray, List.set]
                    refine goG_skip 89 hs21 (by rfl) (by rfl) (by rfl) ?_
                    simp only [List.setIfInBounds_toArray, List.set]
                    refine goG_skip 90 hs21 (by rfl) (by rfl) (by rfl) ?_
                    simp only [List.setIfInBounds_toArray, List.set]
                    refine goG_skip 91 hs21 (by rfl) (by rfl) (by rfl) ?_
                    simp only [List.setIfInBounds_toArray, List.set]
                    refine goG_skip 92 hs21 (by rfl) (by rfl) (by rfl) ?_
                    simp only [List.setIfInBounds_toArray, List.set]
                    refine goG_skip 93 hs21 (by rfl) (by rfl) (by rfl) ?_
                    simp only [List.setIfInBounds_toArray, List.set]
                    refine goG_skip 94 hs21 (by rfl) (by rfl) (by rfl) ?_
                    simp only [List.setIfInBounds_toArray, List.set]
                    refine goG_skip 95 hs21 (by rfl) (by rfl) (by rfl) ?_
                    simp only [List.setIfInBounds_toArray, List.set]
                    refine goG_skip 96 hs21 (by rfl) (by rfl) (by rfl) ?_
                    simp only [List.setIfInBounds_toArray, List.set]
                    refine goG_skip 97 hs21 (by rfl) (by rfl) (by rfl) ?_
                    simp only [List.setIfInBounds_toArray, List.set]
                    refine goG_skip 98 hs21 (by rfl) (by rfl) (by rfl) ?_
                    simp only [List.setIfInBounds_toArray, List.set]
                    refine goG_skip 100 hs21 (by rfl) (by rfl) (by rfl) ?_
                    simp only [List.setIfInBounds_toArray, List.set]
                    refine goG_skip 101 hs21 (by rfl) (by rfl) (by rfl) ?_
                    simp only [List.setIfInBounds_toArray, List.set]
                    refine goG_skip 102 hs21 (by rfl) (by rfl) (by rfl) ?_
                    simp only [List.setIfInBounds_toArray, List.set]
                    refine goG_skip 103 hs21 (by rfl) (by rfl) (by rfl) ?_
                    simp only [List.setIfInBounds_toArray, List.set]
                    refine goG_skip 104 hs21 (by rfl) (by rfl) (by rfl) ?_
                    simp only [List.setIfInBounds_toArray, List.set]
                    refine goG_stepSkip 99 hs21 (by rfl) (by rfl) (by rfl) ?_
                    simp only [List.setIfInBounds_toArray, List.set]
                    refine goG_skip 105 hs21 (by rfl) (by rfl) (by rfl) ?_
                    simp only [List.setIfInBounds_toArray, List.set]
                    refine goG_read 106 hs21 (by rfl) (by rfl) ?_ (by rfl) (fun wz hSw => ?_) ?_
                    rotate_left
                    · go_simp
                      try with_reducible rfl
                    simp only [List.setIfInBounds_toArray, List.set]
                    change KX _ _
                    refine hKX _ _ ?_
                    go_wp2_with fail
                    go_ret
                    exact ⟨by rw [HE4.out]; rfl, btr hbz hs21⟩
                  · skip
                    have hc : decide (qn < 1) = false := decide_eq_false hcn
                    by_cases hb4 : uu = qn
                    · have z4 : (uu != qn) = false := by rw [bne_eq_false_iff_eq]; exact hb4
                      have HBN := Lib.hid (badF_next HQ.out HB.out (show badQ t (pre L k) (qa, qb, qc, qd, qn) = false by unfold badQ pre; rw [if_pos HK.out]; rw [B1.out]; simp [hc, show b4 t (qa, qb, qc, qd, qn) = false from (B4.out).trans z4]))
                      have hqq : 0 ≤ qn ∧ qn ≤ 12 := by omega
                      clear hb4 hcn
                      refine wp_region_trg (.read 0 (.read 1 (.read 2 (.read 3 (.read 4 (.read 5 (.read 6 (.read 7 (.read 8 (.read 9 (.step 10 (.read 11 (.read 12 (.read 13 (.read 14 (.read 15 (.read 16 (.read 17 (.read 18 (.read 19 (.read 20 (.read 21 (.read 22 (.read 23 (.read 24 (.read 25 (.read 26 (.step 27 (.read 28 (.read 29 (.read 30 (.read 31 (.read 32 (.read 33 (.read 34 (.read 35 (.read 36 (.read 37 (.read 38 (.read 39 (.read 40 (.read 41 (.read 42 (.read 43 (.read 44 (.read 45 (.read 46 (.read 47 (.read 48 (.read 49 (.read 51 (.read 52 (.read 53 (.read 54 (.read 55 (.step 50 (.read 56 (.read 57 .nil)))))))))))))))))))))))))))))))))))))))))))))))))))))))))) [] (by kernel_rfl) (by rfl) (by kernel_rfl) (by kernel_rfl) (fun _ _ _ _ _ h => h) (fun W' => Below wr.heap.size wr W') ?_
                      change goG _ _ _ _ _ _ _ wr.drew
                      refine goG_read 49 hs0 (by rfl) (by rfl) ?_ (by rfl) (fun wz hSw => ?_) ?_
                      rotate_left
                      · go_simp
                        try with_reducible rfl
                      simp only [List.setIfInBounds_toArray, List.set]
                      refine goG_read 50 hs0 (by rfl) (by rfl) ?_ (by rfl) (fun wz hSw => ?_) ?_
                      rotate_left
                      · go_simp
                        try with_reducible rfl
                      simp only [List.setIfInBounds_toArray, List.set]
                      refine goG_read 51 hs0 (by rfl) (by rfl) ?_ (by rfl) (fun wz hSw => ?_) ?_
                      rotate_left
                      · go_simp
                        try with_reducible rfl
                      simp only [List.setIfInBounds_toArray, List.set]
                      refine goG_read 52 hs0 (by rfl) (by rfl) ?_ (by rfl) (fun wz hSw => ?_) ?_
                      rotate_left
                      · go_simp
                        try with_reducible rfl
                      simp only [List.setIfInBounds_toArray, List.set]
                      refine goG_read 53 hs0 (by rfl) (by rfl) ?_ (by rfl) (fun wz hSw => ?_) ?_
                      rotate_left
                      · (have x0 := keepB hSw E0.out); (have x1 := keepB hSw E1.out); go_simp
                        try with_reducible rfl
                      simp only [List.setIfInBounds_toArray, List.set]
                      refine goG_read 54 hs0 (by rfl) (by rfl) ?_ (by rfl) (fun wz hSw => ?_) ?_
                      rotate_left
                      · go_simp
                        try with_reducible rfl
                      simp only [List.setIfInBounds_toArray, List.set]
                      refine goG_read 55 hs0 (by rfl) (by rfl) ?_ (by rfl) (fun wz hSw => ?_) ?_
                      rotate_left
                      · go_simp
                        try with_reducible rfl
                      simp only [List.setIfInBounds_toArray, List.set]
                      refine goG_read 56 hs0 (by rfl) (by rfl) ?_ (by rfl) (fun wz hSw => ?_) ?_
                      rotate_left
                      · go_simp
                        try with_reducible rfl
                      simp only [List.setIfInBounds_toArray, List.set]
                      refine goG_read 57 hs0 (by rfl) (by rfl) ?_ (by rfl) (fun wz hSw => ?_) ?_
                      rotate_left
                      · go_simp
                        try with_reducible rfl
                      simp only [List.setIfInBounds_toArray, List.set]
                      refine goG_read 58 hs0 (by rfl) (by rfl) ?_ (by rfl) (fun wz hSw => ?_) ?_
                      rotate_left
                      · (have x0 := keepB hSw E2.out); (have x1 := keepB hSw E3.out); go_simp
                        try with_reducible rfl
                      simp only [List.setIfInBounds_toArray, List.set]
                      refine goG_call 59 (by rfl) (by rfl) (by rfl) (by go_simp) (qLess_any (a := qa) (b := qb) (c := qc) (d := qd) (by omega) (by omega) (by omega) (by omega)) ?_
                      rintro e w21 ⟨rfl, hb21⟩
                      have hs21 := btr hs0 hb21
                      rw [T1.out]
                      refine ⟨_, rfl, fun _ => hs21, ?_⟩
                      simp only [List.setIfInBounds_toArray, List.set]
                      refine goG_read 60 hs21 (by rfl) (by rfl) ?_ (by rfl) (fun wz hSw => ?_) ?_
                      rotate_left
                      · go_simp
                        try with_reducible rfl
                      simp only [List.setIfInBounds_toArray, List.set]
                      refine goG_read 61 hs21 (by rfl) (by rfl) ?_ (by rfl) (fun wz hSw => ?_) ?_
                      rotate_left
                      · go_simp
                        try with_reducible rfl
                      simp only [List.setIfInBounds_toArray, List.set]
                      refine goG_read 62 hs21 (by rfl) (by rfl) ?_ (by rfl) (fun wz hSw => ?_) ?_
                      rotate_left
                      · go_simp
                        try with_reducible rfl
                      simp only [List.setIfInBounds_toArray, List.set]
                      refine goG_read 63 hs21 (by rfl) (by rfl) ?_ (by rfl) (fun wz hSw => ?_) ?_
                      rotate_left
                      · go_simp
                        try with_reducible rfl
                      simp only [List.setIfInBounds_toArray, List.set]
                      refine goG_read 64 hs21 (by rfl) (by rfl) ?_ (by rfl) (fun wz hSw => ?_) ?_
                      rotate_left
                      · go_simp
                        try with_reducible rfl
                      simp only [List.setIfInBounds_toArray, List.set]
                      refine goG_skip 65 hs21 (by rfl) (by rfl) (by rfl) ?_
                      simp only [List.setIfInBounds_toArray, List.set]
                      refine goG_skip 66 hs21 (by rfl) (by rfl) (by rfl) ?_
                      simp only [List.setIfInBounds_toArray, List.set]
                      refine goG_skip 67 hs21 (by rfl) (by rfl) (by rfl) ?_
                      simp only [List.setIfInBounds_toArray, List.set]
                      refine goG_skip 68 hs21 (by rfl) (by rfl) (by rfl) ?_
                      simp only [List.setIfInBounds_toArray, List.set]
                      refine goG_skip 69 hs21 (by rfl) (by rfl) (by rfl) ?_
                      simp only [List.setIfInBounds_toArray, List.set]
                      refine goG_skip 70 hs21 (by rfl) (by rfl) (by rfl) ?_
                      simp only [List.setIfInBounds_toArray, List.set]
                      refine goG_skip 71 hs21 (by rfl) (by rfl) (by rfl) ?_
                      simp only [List.setIfInBounds_toArray, List.set]
                      refine goG_skip 72 hs21 (by rfl) (by rfl) (by rfl) ?_
                      simp only [List.setIfInBounds_toArray, List.set]
                      refine goG_skip 73 hs21 (by rfl) (by rfl) (by rfl) ?_
                      simp only [List.setIfInBounds_toArray, List.set]
                      refine goG_skip 74 hs21 (by rfl) (by rfl) (by rfl) ?_
                      simp only [List.setIfInBounds_toArray, List.set]
                      refine goG_skip 75 hs21 (by rfl) (by rfl) (by rfl) ?_
                      simp only [List.setIfInBounds_toArray, List.set]
                      refine goG_stepSkip 76 hs21 (by rfl) (by rfl) (by rfl) ?_
                      simp only [List.setIfInBounds_toArray, List.set]
                      refine goG_read 77 hs21 (by rfl) (by rfl) ?_ (by rfl) (fun wz hSw => ?_) ?_
                      rotate_left
                      · go_simp
                        try with_reducible rfl
                      simp only [List.setIfInBounds_toArray, List.set]
                      refine goG_read 78 hs21 (by rfl) (by rfl) ?_ (by rfl) (fun wz hSw => ?_) ?_
                      rotate_left
                      · go_simp
                        try with_reducible rfl
                      simp only [List.setIfInBounds_toArray, List.set]
                      refine goG_read 79 hs21 (by rfl) (by rfl) ?_ (by rfl) (fun wz hSw => ?_) ?_
                      rotate_left
                      · go_simp
                        try with_reducible rfl
                      simp only [List.setIfInBounds_toArray, List.set]
                      refine goG_read 80 hs21 (by rfl) (by rfl) ?_ (by rfl) (fun wz hSw => ?_) ?_
                      rotate_left
                      · go_simp
                        try with_reducible rfl
                      simp only [List.setIfInBounds_toArray, List.set]
                      refine goG_read 81 hs21 (by rfl) (by rfl) ?_ (by rfl) (fun wz hSw => ?_) ?_
                      rotate_left
                      · go_simp
                        try with_reducible rfl
                      simp only [List.setIfInBounds_toArray, List.set]
                      refine goG_read 82 hs21 (by rfl) (by rfl) ?_ (by rfl) (fun wz hSw => ?_) ?_
                      rotate_left
                      · go_simp
                        try with_reducible rfl
                      simp only [List.setIfInBounds_toArray, List.set]
                      refine goG_read 83 hs21 (by rfl) (by rfl) ?_ (by rfl) (fun wz hSw => ?_) ?_
                      rotate_left
                      · go_simp
                        try with_reducible rfl
                      simp only [List.setIfInBounds_toArray, List.set]
                      refine goG_read 84 hs21 (by rfl) (by rfl) ?_ (by rfl) (fun wz hSw => ?_) ?_
                      rotate_left
                      · (have x0 := keepB hSw E4.out); go_simp
                        try with_reducible rfl
                      simp only [List.setIfInBounds_toArray, List.set]
                      refine goG_read 85 hs21 (by rfl) (by rfl) ?_ (by rfl) (fun wz hSw => ?_) ?_
                      rotate_left
                      · go_simp
                        try with_reducible rfl
                      simp only [List.setIfInBounds_toArray, List.set]
                      refine goG_read 86 hs21 (by rfl) (by rfl) ?_ (by rfl) (fun wz hSw => ?_) ?_
                      rotate_left
                      · go_simp
                        try with_reducible rfl
                      simp only [List.setIfInBounds_toArray, List.set]
                      refine goG_read 87 hs21 (by rfl) (by rfl) ?_ (by rfl) (fun wz hSw => ?_) ?_
                      rotate_left
                      · go_simp
                        try with_reducible rfl
                      simp only [List.setIfInBounds_toArray, List.set]
                      refine goG_read 88 hs21 (by rfl) (by rfl) ?_ (by rfl) (fun wz hSw => ?_) ?_
                      rotate_left
                      · go_simp
                        try with_reducible rfl
                      simp only [List.setIfInBounds_toArray, List.set]
                      refine goG_read 89 hs21 (by rfl) (by rfl) ?_ (by rfl) (fun wz hSw => ?_) ?_
                      rotate_left
                      · go_simp
                        try with_reducible rfl
                      simp only [List.setIfInBounds_toArray, List.set]
                      refine goG_read 90 hs21 (by rfl) (by rfl) ?_ (by rfl) (fun wz hSw => ?_) ?_
                      rotate_left
                      · go_simp
                        try with_reducible rfl
                      simp only [List.setIfInBounds_toArray, List.set]
                      refine goG_read 91 hs21 (by rfl) (by rfl) ?_ (by rfl) (fun wz hSw => ?_) ?_
                      rotate_left
                      · go_simp
                        try with_reducible rfl
                      simp only [List.setIfInBounds_toArray, List.set]
                      refine goG_read 92 hs21 (by rfl) (by rfl) ?_ (by rfl) (fun wz hSw => ?_) ?_
                      rotate_left
                      · go_simp
                        try with_reducible rfl
                      simp only [List.setIfInBounds_toArray, List.set]
                      refine goG_read 93 hs21 (by rfl) (by rfl) ?_ (by rfl) (fun wz hSw => ?_) ?_
                      rotate_left
                      · (have x0 := keepB hSw E0.out); (have x1 := keepB hSw E1.out); go_simp
                        try with_reducible rfl
                      simp only [List.setIfInBounds_toArray, List.set]
                      refine goG_read 94 hs21 (by rfl) (by rfl) ?_ (by rfl) (fun wz hSw => ?_) ?_
                      rotate_left
                      · go_simp
                        try with_reducible rfl
                      simp only [List.setIfInBounds_toArray, List.set]
                      refine goG_read 95 hs21 (by rfl) (by rfl) ?_ (by rfl) (fun wz hSw => ?_) ?_
                      rotate_left
                      · go_simp
                        try with_reducible rfl
                      simp only [List.setIfInBounds_toArray, List.set]
                      refine goG_read 96 hs21 (by rfl) (by rfl) ?_ (by rfl) (fun wz hSw => ?_) ?_
                      rotate_left
                      · go_simp
                        try with_reducible rfl
                      simp only [List.setIfInBounds_toArray, List.set]
                      refine goG_read 97 hs21 (by rfl) (by rfl) ?_ (by rfl) (fun wz hSw => ?_) ?_
                      rotate_left
                      · go_simp
                        try with_reducible rfl
                      simp only [List.setIfInBounds_toArray, List.set]
                      refine goG_read 98 hs21 (by rfl) (by rfl) ?_ (by rfl) (fun wz hSw => ?_) ?_
                      rotate_left
                      · (have x0 := keepB hSw E2.out); (have x1 := keepB hSw E3.out); go_simp
                        try with_reducible rfl
                      simp only [List.setIfInBounds_toArray, List.set]
                      refine goG_read 100 hs21 (by rfl) (by rfl) ?_ (by rfl) (fun wz hSw => ?_) ?_
                      rotate_left
                      · go_simp
                        try with_reducible rfl
                      simp only [List.setIfInBounds_toArray, List.set]
                      refine goG_read 101 hs21 (by rfl) (by rfl) ?_ (by rfl) (fun wz hSw => ?_) ?_
                      rotate_left
                      · go_simp
                        try with_reducible rfl
                      simp only [List.setIfInBounds_toArray, List.set]
                      refine goG_read 102 hs21 (by rfl) (by rfl) ?_ (by rfl) (fun wz hSw => ?_) ?_
                      rotate_left
                      · go_simp
                        try with_reducible rfl
                      simp only [List.setIfInBounds_toArray, List.set]
                      refine goG_read 103 hs21 (by rfl) (by rfl) ?_ (by rfl) (fun wz hSw => ?_) ?_
                      rotate_left
                      · go_simp
                        try with_reducible rfl
                      simp only [List.setIfInBounds_toArray, List.set]
                      refine goG_read 104 hs21 (by rfl) (by rfl) ?_ (by rfl) (fun wz hSw => ?_) ?_
                      rotate_left
                      · (have x0 := keepB hSw E4.out); go_simp
                        try with_reducible rfl
                      simp only [List.setIfInBounds_toArray, List.set]
                      refine goG_call 99 (by rfl) (by rfl) (by rfl) (by go_simp) (K1.out _ hs21) ?_
                      rintro e w22 ⟨rfl, hb22⟩
                      have hs22 := btr hs21 hb22
                      refine ⟨_, rfl, fun _ => hs22, ?_⟩
                      simp only [List.setIfInBounds_toArray, List.set]
                      refine goG_read 105 hs22 (by rfl) (by rfl) ?_ (by rfl) (fun wz hSw => ?_) ?_
                      rotate_left
                      · go_simp
                        try with_reducible rfl
                      simp only [List.setIfInBounds_toArray, List.set]
                      refine goG_read 106 hs22 (by rfl) (by rfl) ?_ (by rfl) (fun wz hSw => ?_) ?_
                      rotate_left
                      · go_simp
                        try with_reducible rfl
                      simp only [List.setIfInBounds_toArray, List.set]
                      change KX _ _
                      refine hKX _ _ ?_
                      have E5 := keepB hs22 E4.out
                      go_wp2_with fail
                      go_roundw
                      case rel => exact ⟨k + 1, by go_num, by omega, by rw [HSN.out], HBN, by rw [HSN.out]; omega, by rw [HSN.out]; omega, btr hbr2 hs22⟩
                      case measure => simp [intOf]; omega
                    · have z4 : (uu != qn) = true := by rw [bne_iff_ne]; exact hb4
                      have HE4 := Lib.hid (show ceE l L = 18 by rw [HE3.out, if_pos (badF_first HQ.out (show badQ t (pre L k) (qa, qb, qc, qd, qn) = true by unfold badQ pre; rw [if_pos HK.out]; simp [show b4 t (qa, qb, qc, qd, qn) = true from (B4.out).trans z4]))])
                      clear hb4 hcn
                      refine wp_region_trg (.read 0 (.read 1 (.read 2 (.read 3 (.read 4 (.read 5 (.read 6 (.read 7 (.read 8 (.read 9 (.step 10 (.read 11 (.read 12 (.read 13 (.read 14 (.read 15 (.read 16 (.read 17 (.read 18 (.read 19 (.read 20 (.read 21 (.read 22 (.read 23 (.read 24 (.read 25 (.read 26 (.step 27 (.read 28 (.read 29 (.read 30 (.read 31 (.read 32 (.read 33 (.read 34 (.read 35 (.read 36 (.read 37 (.read 38 (.read 39 (.read 40 (.read 41 (.read 42 (.read 43 (.read 44 (.read 45 (.read 46 (.read 47 (.read 48 (.read 49 (.read 51 (.read 52 (.read 53 (.read 54 (.read 55 (.step 50 (.read 56 (.read 57 .nil)))))))))))))))))))))))))))))))))))))))))))))))))))))))))) [] (by kernel_rfl) (by rfl) (by kernel_rfl) (by kernel_rfl) (fun _ _ _ _ _ h => h) (fun W' => Below wr.heap.size wr W') ?_
                      change goG _ _ _ _ _ _ _ wr.drew
                      refine goG_read 49 hs0 (by rfl) (by rfl) ?_ (by rfl) (fun wz hSw => ?_) ?_
                      rotate_left
                      · go_simp
                        try with_reducible rfl
                      simp only [List.setIfInBounds_toArray, List.set]
                      refine goG_read 50 hs0 (by rfl) (by rfl) ?_ (by rfl) (fun wz hSw => ?_) ?_
                      rotate_left
                      · go_simp
                        try with_reducible rfl
                      simp only [List.setIfInBounds_toArray, List.set]
                      refine goG_read 51 hs0 (by rfl) (by rfl) ?_ (by rfl) (fun wz hSw => ?_) ?_
                      rotate_left
                      · go_simp
                        try with_reducible rfl
                      simp only [List.setIfInBounds_toArray, List.set]
                      refine goG_read 52 hs0 (by rfl) (by rfl) ?_ (by rfl) (fun wz hSw => ?_) ?_
                      rotate_left
                      · go_simp
                        try with_reducible rfl
                      simp only [List.setIfInBounds_toArray, List.set]
                      refine goG_read 53 hs0 (by rfl) (by rfl) ?_ (by rfl) (fun wz hSw => ?_) ?_
                      rotate_left
                      · (have x0 := keepB hSw E0.out); (have x1 := keepB hSw E1.out); go_simp
                        try with_reducible rfl
                      simp only [List.setIfInBounds_toArray, List.set]
                      refine goG_read 54 hs0 (by rfl) (by rfl) ?_ (by rfl) (fun wz hSw => ?_) ?_
                      rotate_left
                      · go_simp
                        try with_reducible rfl
                      simp only [List.setIfInBounds_toArray, List.set]
                      refine goG_read 55 hs0 (by rfl) (by rfl) ?_ (by rfl) (fun wz hSw => ?_) ?_
                      rotate_left
                      · go_simp
                        try with_reducible rfl
                      simp only [List.setIfInBounds_toArray, List.set]
                      refine goG_read 56 hs0 (by rfl) (by rfl) ?_ (by rfl) (fun wz hSw => ?_) ?_
                      rotate_left
                      · go_simp
                        try with_reducible rfl
                      simp only [List.setIfInBounds_toArray, List.set]
                      refine goG_read 57 hs0 (by rfl) (by rfl) ?_ (by rfl) (fun wz hSw => ?_) ?_
                      rotate_left
                      · go_simp
                        try with_reducible rfl
                      simp only [List.setIfInBounds_toArray, List.set]
                      refine goG_read 58 hs0 (by rfl) (by rfl) ?_ (by rfl) (fun wz hSw => ?_) ?_
                      rotate_left
                      · (have x0 := keepB hSw E2.out); (have x1 := keepB hSw E3.out); go_simp
                        try with_reducible rfl
                      simp only [List.setIfInBounds_toArray, List.set]
                      refine goG_call 59 (by rfl) (by rfl) (by rfl) (by go_simp) (qLess_any (a := qa) (b := qb) (c := qc) (d := qd) (by omega) (by omega) (by omega) (by omega)) ?_
                      rintro e w21 ⟨rfl, hb21⟩
                      have hs21 := btr hs0 hb21
                      rw [T1.out]
                      refine ⟨_, rfl, fun _ => hs21, ?_⟩
                      simp only [List.setIfInBounds_toArray, List.set]
                      refine goG_read 60 hs21 (by rfl) (by rfl) ?_ (by rfl) (fun wz hSw => ?_) ?_
                      rotate_left
                      · go_simp
                        try with_reducible rfl
                      simp only [List.setIfInBounds_toArray, List.set]
                      refine goG_read 61 hs21 (by rfl) (by rfl) ?_ (by rfl) (fun wz hSw => ?_) ?_
                      rotate_left
                      · go_simp
                        try with_reducible rfl
                      simp only [List.setIfInBounds_toArray, List.set]
                      refine goG_read 62 hs21 (by rfl) (by rfl) ?_ (by rfl) (fun wz hSw => ?_) ?_
                      rotate_left
                      · go_simp
                        try with_reducible rfl
                      simp only [List.setIfInBounds_toArray, List.set]
                      refine goG_read 63 hs21 (by rfl) (by rfl) ?_ (by rfl) (fun wz hSw => ?_) ?_
                      rotate_left
                      · go_simp
                        try with_reducible rfl
                      simp only [List.setIfInBounds_toArray, List.set]
                      refine goG_read 64 hs21 (by rfl) (by rfl) ?_ (by rfl) (fun wz hSw => ?_) ?_
                      rotate_left
                      · go_simp
                        try with_reducible rfl
                      simp only [List.setIfInBounds_toArray, List.set]
                      refine goG_skip 65 hs21 (by rfl) (by rfl) (by rfl) ?_
                      simp only [List.setIfInBounds_toArray, List.set]
                      refine goG_skip 66 hs21 (by rfl) (by rfl) (by rfl) ?_
                      simp only [List.setIfInBounds_toArray, List.set]
                      refine goG_skip 67 hs21 (by rfl) (by rfl) (by rfl) ?_
                      simp only [List.setIfInBounds_toArray, List.set]
                      refine goG_skip 68 hs21 (by rfl) (by rfl) (by rfl) ?_
                      simp only [List.setIfInBounds_toArray, List.set]
                      refine goG_skip 69 hs21 (by rfl) (by rfl) (by rfl) ?_
                      simp only [List.setIfInBounds_toArray, List.set]
                      refine goG_skip 70 hs21 (by rfl) (by rfl) (by rfl) ?_
                      simp only [List.setIfInBounds_toArray, List.set]
                      refine goG_skip 71 hs21 (by rfl) (by rfl) (by rfl) ?_
                      simp only [List.setIfInBounds_toArray, List.set]
                      refine goG_skip 72 hs21 (by rfl) (by rfl) (by rfl) ?_
                      simp only [List.setIfInBounds_toArray, List.set]
                      refine goG_skip 73 hs21 (by rfl) (by rfl) (by rfl) ?_
                      simp only [List.setIfInBounds_toArray, List.set]
                      refine goG_skip 74 hs21 (by rfl) (by rfl) (by rfl) ?_
                      simp only [List.setIfInBounds_toArray, List.set]
                      refine goG_skip 75 hs21 (by rfl) (by rfl) (by rfl) ?_
                      simp only [List.setIfInBounds_toArray, List.set]
                      refine goG_stepSkip 76 hs21 (by rfl) (by rfl) (by rfl) ?_
                      simp only [List.setIfInBounds_toArray, List.set]
                      refine goG_read 77 hs21 (by rfl) (by rfl) ?_ (by rfl) (fun wz hSw => ?_) ?_
                      rotate_left
                      · go_simp
                        try with_reducible rfl
                      simp only [List.setIfInBounds_toArray, List.set]
                      refine goG_read 78 hs21 (by rfl) (by rfl) ?_ (by rfl) (fun wz hSw => ?_) ?_
                      rotate_left
                      · go_simp
                        try with_reducible rfl
                      simp only [List.setIfInBounds_toArray, List.set]
                      refine goG_read 79 hs21 (by rfl) (by rfl) ?_ (by rfl) (fun wz hSw => ?_) ?_
                      rotate_left
                      · go_simp
                        try with_reducible rfl
                      simp only [List.setIfInBounds_toArray, List.set]
                      refine goG_read 80 hs21 (by rfl) (by rfl) ?_ (by rfl) (fun wz hSw => ?_) ?_
                      rotate_left
                      · go_simp
                        try with_reducible rfl
                      simp only [List.setIfInBounds_toArray, List.set]
                      refine goG_read 81 hs21 (by rfl) (by rfl) ?_ (by rfl) (fun wz hSw => ?_) ?_
                      rotate_left
                      · go_simp
                        try with_reducible rfl
                      simp only [List.setIfInBounds_toArray, List.set]
                      refine goG_read 82 hs21 (by rfl) (by rfl) ?_ (by rfl) (fun wz hSw => ?_) ?_
                      rotate_left
                      · go_simp
                        try with_reducible rfl
                      simp only [List.setIfInBounds_toArray, List.set]
                      refine goG_read 83 hs21 (by rfl) (by rfl) ?_ (by rfl) (fun wz hSw => ?_) ?_
                      rotate_left
                      · go_simp
                        try with_reducible rfl
                      simp only [List.setIfInBounds_toArray, List.set]
                      refine goG_read 84 hs21 (by rfl) (by rfl) ?_ (by rfl) (fun wz hSw => ?_) ?_
                      rotate_left
                      · (have x0 := keepB hSw E4.out); go_simp
                        try with_reducible rfl
                      simp only [List.setIfInBounds_toArray, List.set]
                      refine goG_read 85 hs21 (by rfl) (by rfl) ?_ (by rfl) (fun wz hSw => ?_) ?_
                      rotate_left
                      · go_simp
                        try with_reducible rfl
                      simp only [List.setIfInBounds_toArray, List.set]
                      refine goG_read 86 hs21 (by rfl) (by rfl) ?_ (by rfl) (fun wz hSw => ?_) ?_
                      rotate_left
                      · go_simp
                        try with_reducible rfl
                      simp only [List.setIfInBounds_toArray, List.set]
                      refine goG_read 87 hs21 (by rfl) (by rfl) ?_ (by rfl) (fun wz hSw => ?_) ?_
                      rotate_left
                      · go_simp
                        try with_reducible rfl
                      simp only [List.setIfInBounds_toArray, List.set]
                      refine goG_read 88 hs21 (by rfl) (by rfl) ?_ (by rfl) (fun wz hSw => ?_) ?_
                      rotate_left
                      · go_simp
                        try with_reducible rfl
                      simp only [List.setIfInBounds_toArray, List.set]
                      refine goG_read 89 hs21 (by rfl) (by rfl) ?_ (by rfl) (fun wz hSw => ?_) ?_
                      rotate_left
                      · go_simp
                        try with_reducible rfl
                      simp only [List.setIfInBounds_toArray, List.set]
                      refine goG_read 90 hs21 (by rfl) (by rfl) ?_ (by rfl) (fun wz hSw => ?_) ?_
                      rotate_left
                      · go_simp
                        try with_reducible rfl
                      simp only [List.setIfInBounds_toArray, List.set]
                      refine goG_read 91 hs21 (by rfl) (by rfl) ?_ (by rfl) (fun wz hSw => ?_) ?_
                      rotate_left
                      · go_simp
                        try with_reducible rfl
                      simp only [List.setIfInBounds_toArray, List.set]
                      refine goG_read 92 hs21 (by rfl) (by rfl) ?_ (by rfl) (fun wz hSw => ?_) ?_
                      rotate_left
                      · go_simp
                        try with_reducible rfl
                      simp only [List.setIfInBounds_toArray, List.set]
                      refine goG_read 93 hs21 (by rfl) (by rfl) ?_ (by rfl) (fun wz hSw => ?_) ?_
                      rotate_left
                      · (have x0 := keepB hSw E0.out); (have x1 := keepB hSw E1.out); go_simp
                        try with_reducible rfl
                      simp only [List.setIfInBounds_toArray, List.set]
                      refine goG_read 94 hs21 (by rfl) (by rfl) ?_ (by rfl) (fun wz hSw => ?_) ?_
                      rotate_left
                      · go_simp
                        try with_reducible rfl
                      simp only [List.setIfInBounds_toArray, List.set]
                      refine goG_read 95 hs21 (by rfl) (by rfl) ?_ (by rfl) (fun wz hSw => ?_) ?_
                      rotate_left
                      · go_simp
                        try with_reducible rfl
                      simp only [List.setIfInBounds_toArray, List.set]
                      refine goG_read 96 hs21 (by rfl) (by rfl) ?_ (by rfl) (fun wz hSw => ?_) ?_
                      rotate_left
                      · go_simp
                        try with_reducible rfl
                      simp only [List.setIfInBounds_toArray, List.set]
                      refine goG_read 97 hs21 (by rfl) (by rfl) ?_ (by rfl) (fun wz hSw => ?_) ?_
                      rotate_left
                      · go_simp
                        try with_reducible rfl
                      simp only [List.setIfInBounds_toArray, List.set]
                      refine goG_read 98 hs21 (by rfl) (by rfl) ?_ (by rfl) (fun wz hSw => ?_) ?_
                      rotate_left
                      · (have x0 := keepB hSw E2.out); (have x1 := keepB hSw E3.out); go_simp
                        try with_reducible rfl
                      simp only [List.setIfInBounds_toArray, List.set]
                      refine goG_read 100 hs21 (by rfl) (by rfl) ?_ (by rfl) (fun wz hSw => ?_) ?_
                      rotate_left
                      · go_simp
                        try with_reducible rfl
                      simp only [List.setIfInBounds_toArray, List.set]
                      refine goG_read 101 hs21 (by rfl) (by rfl) ?_ (by rfl) (fun wz hSw => ?_) ?_
                      rotate_left
                      · go_simp
                        try with_reducible rfl
                      simp only [List.setIfInBounds_toArray, List.set]
                      refine goG_read 102 hs21 (by rfl) (by rfl) ?_ (by rfl) (fun wz hSw => ?_) ?_
                      rotate_left
                      · go_simp
                        try with_reducible rfl
                      simp only [List.setIfInBounds_toArray, List.set]
                      refine goG_read 103 hs21 (by rfl) (by rfl) ?_ (by rfl) (fun wz hSw => ?_) ?_
                      rotate_left
                      · go_simp
                        try with_reducible rfl
                      simp only [List.setIfInBounds_toArray, List.set]
                      refine goG_read 104 hs21 (by rfl) (by rfl) ?_ (by rfl) (fun wz hSw => ?_) ?_
                      rotate_left
                      · (have x0 := keepB hSw E4.out); go_simp
                        try with_reducible rfl
                      simp only [List.setIfInBounds_toArray, List.set]
                      refine goG_call 99 (by rfl) (by rfl) (by rfl) (by go_simp) (K1.out _ hs21) ?_
                      rintro e w22 ⟨rfl, hb22⟩
                      have hs22 := btr hs21 hb22
                      refine ⟨_, rfl, fun _ => hs22, ?_⟩
                      simp only [List.setIfInBounds_toArray, List.set]
                      refine goG_read 105 hs22 (by rfl) (by rfl) ?_ (by rfl) (fun wz hSw => ?_) ?_
                      rotate_left
                      · go_simp
                        try with_reducible rfl
                      simp only [List.setIfInBounds_toArray, List.set]
                      refine goG_read 106 hs22 (by rfl) (by rfl) ?_ (by rfl) (fun wz hSw => ?_) ?_
                      rotate_left
                      · go_simp
                        try with_reducible rfl
                      simp only [List.setIfInBounds_toArray, List.set]
                      change KX _ _
                      refine hKX _ _ ?_
                      go_wp2_with fail
                      go_ret
                      exact ⟨by rw [HE4.out]; rfl, btr hbz hs22⟩
                · obtain ⟨m, hm⟩ : ∃ m, k = m + 1 := ⟨k - 1, by omega⟩
                  obtain ⟨p, hpv⟩ : ∃ p, L[m]? = some p := ⟨_, List.getElem?_eq_getElem (by rw [HN.out]; omega)⟩
                  obtain ⟨b', off', eb, p0, p1, p2, p3, p4⟩ := (HL.out.below hbz).at hpv
                  injection eb with eb
                  injection eb with eb1 eb2 eb3
                  subst eb1 eb2
                  clear eb3
                  have hp2 := HM.out p (List.mem_of_getElem? hpv)
                  have HPV := Lib.hid hpv
                  obtain ⟨pa, pb, pc, pd, pn⟩ := p
                  simp only at p2 p3 hp2
                  obtain ⟨y0, yy⟩ := twE_inv hp2
                  obtain ⟨y11, y12, y13, y14⟩ := cfE_zero yy
                  have V2 := Lib.hid p2
                  have V3 := Lib.hid p3
                  have HK := Lib.hid hm
                  have zk : decide ((0 : Int) < (k : Int)) = true := decide_eq_true (by omega)
                  have zk2 : 0 < k := by omega
                  have hwm : IntKind.i64.wrap ((k : Int) - 1) = m := by rw [show (k : Int) - 1 = m by omega]; exact IntWalk.i64_in _ (by omega)
                  have hmn : (m : Int) < (n' : Int) := by omega
                  have hmm0 : (0 : Int) ≤ (m : Int) := by omega
                  clear hpv p0 p1 p2 p3 p4 hp2 yy y0 hm hk0
                  by_cases hl2 : qa * pd < pc * qb
                  · have T2 := Lib.hid (decide_eq_true hl2)
                    have HE4 := Lib.hid (show ceE l L = 18 by rw [HE3.out, if_pos (badF_first HQ.out (show badQ t (pre L k) (qa, qb, qc, qd, qn) = true by unfold badQ pre; rw [if_neg (by have := HK.out; omega), show k - 1 = m from (by have := HK.out; omega), HPV.out]; simp [show b2 (pa, pb, pc, pd, pn) (qa, qb, qc, qd, qn) = true from T2.out]))])
                    clear hl2
                    refine wp_region_trg (.read 0 (.read 1 (.read 2 (.read 3 (.read 4 (.read 5 (.read 6 (.read 7 (.read 8 (.read 9 (.step 10 (.read 11 (.read 12 (.read 13 (.read 14 (.read 15 (.read 16 (.read 17 (.read 18 (.read 19 (.read 20 (.read 21 (.read 22 (.read 23 (.read 24 (.read 25 (.read 26 (.step 27 (.read 28 (.read 29 (.read 30 (.read 31 (.read 32 (.read 33 (.read 34 (.read 35 (.read 36 (.read 37 (.read 38 (.read 39 (.read 40 (.read 41 (.read 42 (.read 43 (.read 44 (.read 45 (.read 46 (.read 47 (.read 48 (.read 49 (.read 51 (.read 52 (.read 53 (.read 54 (.read 55 (.step 50 (.read 56 (.read 57 .nil)))))))))))))))))))))))))))))))))))))))))))))))))))))))))) [] (by kernel_rfl) (by rfl) (by kernel_rfl) (by kernel_rfl) (fun _ _ _ _ _ h => h) (fun W' => Below wr.heap.size wr W') ?_
                    change goG _ _ _ _ _ _ _ wr.drew
                    refine goG_read 49 hs0 (by rfl) (by rfl) ?_ (by rfl) (fun wz hSw => ?_) ?_
                    rotate_left
                    · go_simp
                      try with_reducible rfl
                    simp only [List.setIfInBounds_toArray, List.set]
                    refine goG_read 50 hs0 (by rfl) (by rfl) ?_ (by rfl) (fun wz hSw => ?_) ?_
                    rotate_left
                    · go_simp
                      try with_reducible rfl
                    simp only [List.setIfInBounds_toArray, List.set]
                    refine goG_read 51 hs0 (by rfl) (by rfl) ?_ (by rfl) (fun wz hSw => ?_) ?_
                    rotate_left
                    · go_simp
                      try with_reducible rfl
                    simp only [List.setIfInBounds_toArray, List.set]
                    refine goG_read 52 hs0 (by rfl) (by rfl) ?_ (by rfl) (fun wz hSw => ?_) ?_
                    rotate_left
                    · go_simp
                      try with_reducible rfl
                    simp only [List.setIfInBounds_toArray, List.set]
                    refine goG_read 53 hs0 (by rfl) (by rfl) ?_ (by rfl) (fun wz hSw => ?_) ?_
                    rotate_left
                    · (have x0 := keepB hSw E0.out); (have x1 := keepB hSw E1.out); go_simp
                      try with_reducible rfl
                    simp only [List.setIfInBounds_toArray, List.set]
                    refine goG_read 54 hs0 (by rfl) (by rfl) ?_ (by rfl) (fun wz hSw => ?_) ?_
                    rotate_left
                    · go_simp
                      try with_reducible rfl
                    simp only [List.setIfInBounds_toArray, List.set]
                    refine goG_read 55 hs0 (by rfl) (by rfl) ?_ (by rfl) (fun wz hSw => ?_) ?_
                    rotate_left
                    · go_simp
                      try with_reducible rfl
                    simp only [List.setIfInBounds_toArray, List.set]
                    refine goG_read 56 hs0 (by rfl) (by rfl) ?_ (by rfl) (fun wz hSw => ?_) ?_
                    rotate_left
                    · go_simp
                      try with_reducible rfl
                    simp only [List.setIfInBounds_toArray, List.set]
                    refine goG_read 57 hs0 (by rfl) (by rfl) ?_ (by rfl) (fun wz hSw => ?_) ?_
                    rotate_left
                    · go_simp
                      try with_reducible rfl
                    simp only [List.setIfInBounds_toArray, List.set]
                    refine goG_read 58 hs0 (by rfl) (by rfl) ?_ (by rfl) (fun wz hSw => ?_) ?_
                    rotate_left
                    · (have x0 := keepB hSw E2.out); (have x1 := keepB hSw E3.out); go_simp
                      try with_reducible rfl
                    simp only [List.setIfInBounds_toArray, List.set]
                    refine goG_call 59 (by rfl) (by rfl) (by rfl) (by go_simp) (qLess_any (a := qa) (b := qb) (c := qc) (d := qd) (by omega) (by omega) (by omega) (by omega)) ?_
                    rintro e w21 ⟨rfl, hb21⟩
                    have hs21 := btr hs0 hb21
                    rw [T1.out]
                    refine ⟨_, rfl, fun _ => hs21, ?_⟩
                    simp only [List.setIfInBounds_toArray, List.set]
                    refine goG_read 60 hs21 (by rfl) (by rfl) ?_ (by rfl) (fun wz hSw => ?_) ?_
                    rotate_left
                    · go_simp
                      try with_reducible rfl
                    simp only [List.setIfInBounds_toArray, List.set]
                    refine goG_read 61 hs21 (by rfl) (by rfl) ?_ (by rfl) (fun wz hSw => ?_) ?_
                    rotate_left
                    · go_simp
                      try with_reducible rfl
                    simp only [List.setIfInBounds_toArray, List.set]
                    refine goG_read 62 hs21 (by rfl) (by rfl) ?_ (by rfl) (fun wz hSw => ?_) ?_
                    rotate_left
                    · go_simp
                      try with_reducible rfl
                    simp only [List.setIfInBounds_toArray, List.set]
                    refine goG_read 63 hs21 (by rfl) (by rfl) ?_ (by rfl) (fun wz hSw => ?_) ?_
                    rotate_left
                    · go_simp
                      try with_reducible rfl
                    simp only [List.setIfInBounds_toArray, List.set]
                    refine goG_read 64 hs21 (by rfl) (by rfl) ?_ (by rfl) (fun wz hSw => ?_) ?_
                    rotate_left
                    · go_simp
                      try with_reducible rfl
                    simp only [List.setIfInBounds_toArray, List.set]
                    refine goG_read 65 hs21 (by rfl) (by rfl) ?_ (by rfl) (fun wz hSw => ?_) ?_
                    rotate_left
                    · go_simp
                      try with_reducible rfl
                    simp only [List.setIfInBounds_toArray, List.set]
                    refine goG_read 66 hs21 (by rfl) (by rfl) ?_ (by rfl) (fun wz hSw => ?_) ?_
                    rotate_left
                    · go_simp
                      try with_reducible rfl
                    simp only [List.setIfInBounds_toArray, List.set]
                    refine goG_read 67 hs21 (by rfl) (by rfl) ?_ (by rfl) (fun wz hSw => ?_) ?_
                    rotate_left
                    · go_simp
                      try with_reducible rfl
                    simp only [List.setIfInBounds_toArray, List.set]
                    refine goG_read 68 hs21 (by rfl) (by rfl) ?_ (by rfl) (fun wz hSw => ?_) ?_
                    rotate_left
                    · go_simp
                      try with_reducible rfl
                    simp only [List.setIfInBounds_toArray, List.set]
                    refine goG_read 69 hs21 (by rfl) (by rfl) ?_ (by rfl) (fun wz hSw => ?_) ?_
                    rotate_left
                    · (have x0 := keepB hSw E0.out); (have x1 := keepB hSw E1.out); go_simp
                      try with_reducible rfl
                    simp only [List.setIfInBounds_toArray, List.set]
                    refine goG_read 70 hs21 (by rfl) (by rfl) ?_ (by rfl) (fun wz hSw => ?_) ?_
                    rotate_left
                    · go_simp
                      try with_reducible rfl
                    simp only [List.setIfInBounds_toArray, List.set]
                    refine goG_read 71 hs21 (by rfl) (by rfl) ?_ (by rfl) (fun wz hSw => ?_) ?_
                    rotate_left
                    · go_simp
                      try with_reducible rfl
                    simp only [List.setIfInBounds_toArray, List.set]
                    refine goG_read 72 hs21 (by rfl) (by rfl) ?_ (by rfl) (fun wz hSw => ?_) ?_
                    rotate_left
                    · go_simp
                      try with_reducible rfl
                    simp only [List.setIfInBounds_toArray, List.set]
                    refine goG_read 73 hs21 (by rfl) (by rfl) ?_ (by rfl) (fun wz hSw => ?_) ?_
                    rotate_left
                    · go_simp
                      try with_reducible rfl
                    simp only [List.setIfInBounds_toArray, List.set]
                    refine goG_read 74 hs21 (by rfl) (by rfl) ?_ (by rfl) (fun wz hSw => ?_) ?_
                    rotate_left
                    · go_simp
                      try with_reducible rfl
                    simp only [List.setIfInBounds_toArray, List.set]
                    refine goG_read 75 hs21 (by rfl) (by rfl) ?_ (by rfl) (fun wz hSw => ?_) ?_
                    rotate_left
                    · (have x0 := keepB hSw V2.out); (have x1 := keepB hSw V3.out); go_simp
                      try with_reducible rfl
                    simp only [List.setIfInBounds_toArray, List.set]
                    refine goG_call 76 (by rfl) (by rfl) (by rfl) (by go_simp) (qLess_any (a := qa) (b := qb) (c := pc) (d := pd) (by omega) (by omega) (by omega) (by omega)) ?_
                    rintro e w22 ⟨rfl, hb22⟩
                    have hs22 := btr hs21 hb22
                    rw [T2.out]
                    refine ⟨_, rfl, fun _ => hs22, ?_⟩
                    simp only [List.setIfInBounds_toArray, List.set]
                    refine goG_read 77 hs22 (by rfl) (by rfl) ?_ (by rfl) (fun wz hSw => ?_) ?_
                    rotate_left
                    · go_simp
                      try with_reducible rfl
                    simp only [List.setIfInBounds_toArray, List.set]
                    refine goG_read 78 hs22 (by rfl) (by rfl) ?_ (by rfl) (fun wz hSw => ?_) ?_
                    rotate_left
                    · go_simp
                      try with_reducible rfl
                    simp only [List.setIfInBounds_toArray, List.set]
                    refine goG_read 79 hs22 (by rfl) (by rfl) ?_ (by rfl) (fun wz hSw => ?_) ?_
                    rotate_left
                    · go_simp
                      try with_reducible rfl
                    simp only [List.setIfInBounds_toArray, List.set]
                    refine goG_skip 80 hs22 (by rfl) (by rfl) (by rfl) ?_
                    simp only [List.setIfInBounds_toArray, List.set]
                    refine goG_skip 81 hs22 (by rfl) (by rfl) (by rfl) ?_
                    simp only [List.setIfInBounds_toArray, List.set]
                    refine goG_skip 82 hs22 (by rfl) (by rfl) (by rfl) ?_
                    simp only [List.setIfInBounds_toArray, List.set]
                    refine goG_skip 83 hs22 (by rfl) (by rfl) (by rfl) ?_
                    simp only [List.setIfInBounds_toArray, List.set]
                    refine goG_skip 84 hs22 (by rfl) (by rfl) (by rfl) ?_
                    simp only [List.setIfInBounds_toArray, List.set]
                    refine goG_skip 85 hs22 (by rfl) (by rfl) (by rfl) ?_
                    simp only [List.setIfInBounds_toArray, List.set]
                    refine goG_read 86 hs22 (by rfl) (by rfl) ?_ (by rfl) (fun wz hSw => ?_) ?_
                    rotate_left
                    · go_simp
                      try with_reducible rfl
                    simp only [List.setIfInBounds_toArray, List.set]
                    refine goG_read 87 hs22 (by rfl) (by rfl) ?_ (by rfl) (fun wz hSw => ?_) ?_
                    rotate_left
                    · go_simp
                      try with_reducible rfl
                    simp only [List.setIfInBounds_toArray, List.set]
                    refine goG_skip 88 hs22 (by rfl) (by rfl) (by rfl) ?_
                    simp only [List.setIfInBounds_toArray, List.set]
                    refine goG_skip 89 hs22 (by rfl) (by rfl) (by rfl) ?_
                    simp only [List.setIfInBounds_toArray, List.set]
                    refine goG_skip 90 hs22 (by rfl) (by rfl) (by rfl) ?_
                    simp only [List.setIfInBounds_toArray, List.set]
                    refine goG_skip 91 hs22 (by rfl) (by rfl) (by rfl) ?_
                    simp only [List.setIfInBounds_toArray, List.set]
                    refine goG_skip 92 hs22 (by rfl) (by rfl) (by rfl) ?_
                    simp only [List.setIfInBounds_toArray, List.set]
                    refine goG_skip 93 hs22 (by rfl) (by rfl) (by rfl) ?_
                    simp only [List.setIfInBounds_toArray, List.set]
                    refine goG_skip 94 hs22 (by rfl) (by rfl) (by rfl) ?_
                    simp only [List.setIfInBounds_toArray, List.set]
                    refine goG_skip 95 hs22 (by rfl) (by rfl) (by rfl) ?_
                    simp only [List.setIfInBounds_toArray, List.set]
                    refine goG_skip 96 hs22 (by rfl) (by rfl) (by rfl) ?_
                    simp only [List.setIfInBounds_toArray, List.set]
                    refine goG_skip 97 hs22 (by rfl) (by rfl) (by rfl) ?_
                    simp only [List.setIfInBounds_toArray, List.set]
                    refine goG_skip 98 hs22 (by rfl) (by rfl) (by rfl) ?_
                    simp only [List.setIfInBounds_toArray, List.set]
                    refine goG_skip 100 hs22 (by rfl) (by rfl) (by rfl) ?_
                    simp only [List.setIfInBounds_toArray, List.set]
                    refine goG_skip 101 hs22 (by rfl) (by rfl) (by rfl) ?_
                    simp only [List.setIfInBounds_toArray, List.set]
                    refine goG_skip 102 hs22 (by rfl) (by rfl) (by rfl) ?_
                    simp only [List.setIfInBounds_toArray, List.set]
                    refine goG_skip 103 hs22 (by rfl) (by rfl) (by rfl) ?_
                    simp only [List.setIfInBounds_toArray, List.set]
                    refine goG_skip 104 hs22 (by rfl) (by rfl) (by rfl) ?_
                    simp only [List.setIfInBounds_toArray, List.set]
                    refine goG_stepSkip 99 hs22 (by rfl) (by rfl) (by rfl) ?_
                    simp only [List.setIfInBounds_toArray, List.set]
                    refine goG_skip 105 hs22 (by rfl) (by rfl) (by rfl) ?_
                    simp only [List.setIfInBounds_toArray, List.set]
                    refine goG_read 106 hs22 (by rfl) (by rfl) ?_ (by rfl) (fun wz hSw => ?_) ?_
                    rotate_left
                    · go_simp
                      try with_reducible rfl
                    simp only [List.setIfInBounds_toArray, List.set]
                    change KX _ _
                    refine hKX _ _ ?_
                    go_wp2_with fail
                    go_ret
                    exact ⟨by rw [HE4.out]; rfl, btr hbz hs22⟩
                  · have T2 := Lib.hid (decide_eq_false hl2)
                    clear hl2
                    by_cases hcn : qn < 1
                    · have hc : decide (qn < 1) = true := decide_eq_true hcn
                      have HE4 := Lib.hid (show ceE l L = 18 by rw [HE3.out, if_pos (badF_first HQ.out (show badQ t (pre L k) (qa, qb, qc, qd, qn) = true by unfold badQ pre; rw [if_neg (by have := HK.out; omega), show k - 1 = m from (by have := HK.out; omega), HPV.out]; simp [hc]))])
                      clear hcn
                      refine wp_region_trg (.read 0 (.read 1 (.read 2 (.read 3 (.read 4 (.read 5 (.read 6 (.read 7 (.read 8 (.read 9 (.step 10 (.read 11 (.read 12 (.read 13 (.read 14 (.read 15 (.read 16 (.read 17 (.read 18 (.read 19 (.read 20 (.read 21 (.read 22 (.read 23 (.read 24 (.read 25 (.read 26 (.step 27 (.read 28 (.read 29 (.read 30 (.read 31 (.read 32 (.read 33 (.read 34 (.read 35 (.read 36 (.read 37 (.read 38 (.read 39 (.read 40 (.read 41 (.read 42 (.read 43 (.read 44 (.read 45 (.read 46 (.read 47 (.read 48 (.read 49 (.read 51 (.read 52 (.read 53 (.read 54 (.read 55 (.step 50 (.read 56 (.read 57 .nil)))))))))))))))))))))))))))))))))))))))))))))))))))))))))) [] (by kernel_rfl) (by rfl) (by kernel_rfl) (by kernel_rfl) (fun _ _ _ _ _ h => h) (fun W' => Below wr.heap.size wr W') ?_
                      change goG _ _ _ _ _ _ _ wr.drew
                      refine goG_read 49 hs0 (by rfl) (by rfl) ?_ (by rfl) (fun wz hSw => ?_) ?_
                      rotate_left
                      · go_simp
                        try with_reducible rfl
                      simp only [List.setIfInBounds_toArray, List.set]
                      refine goG_read 50 hs0 (by rfl) (by rfl) ?_ (by rfl) (fun wz hSw => ?_) ?_
                      rotate_left
                      · go_simp
                        try with_reducible rfl
                      simp only [List.setIfInBounds_toArray, List.set]
                      refine goG_read 51 hs0 (by rfl) (by rfl) ?_ (by rfl) (fun wz hSw => ?_) ?_
                      rotate_left
                      · go_simp
                        try with_reducible rfl
                      simp only [List.setIfInBounds_toArray, List.set]
                      refine goG_read 52 hs0 (by rfl) (by rfl) ?_ (by rfl) (fun wz hSw => ?_) ?_
                      rotate_left
                      · go_simp
                        try with_reducible rfl
                      simp only [List.setIfInBounds_toArray, List.set]
                      refine goG_read 53 hs0 (by rfl) (by rfl) ?_ (by rfl) (fun wz hSw => ?_) ?_
                      rotate_left
                      · (have x0 := keepB hSw E0.out); (have x1 := keepB hSw E1.out); go_simp
                        try with_reducible rfl
                      simp only [List.setIfInBounds_toArray, List.set]
                      refine goG_read 54 hs0 (by rfl) (by rfl) ?_ (by rfl) (fun wz hSw => ?_) ?_
                      rotate_left
                      · go_simp
                        try with_reducible rfl
                      simp only [List.setIfInBounds_toArray, List.set]
                      refine goG_read 55 hs0 (by rfl) (by rfl) ?_ (by rfl) (fun wz hSw => ?_) ?_
                      rotate_left
                      · go_simp
                        try with_reducible rfl
                      simp only [List.setIfInBounds_toArray, List.set]
                      refine goG_read 56 hs0 (by rfl) (by rfl) ?_ (by rfl) (fun wz hSw => ?_) ?_
                      rotate_left
                      · go_simp
                        try with_reducible rfl
                      simp only [List.setIfInBounds_toArray, List.set]
                      refine goG_read 57 hs0 (by rfl) (by rfl) ?_ (by rfl) (fun wz hSw => ?_) ?_
                      rotate_left
                      · go_simp
                        try with_reducible rfl
                      simp only [List.setIfInBounds_toArray, List.set]
                      refine goG_read 58 hs0 (by rfl) (by rfl) ?_ (by rfl) (fun wz hSw => ?_) ?_
                      rotate_left
                      · (have x0 := keepB hSw E2.out); (have x1 := keepB hSw E3.out); go_simp
                        try with_reducible rfl
                      simp only [List.setIfInBounds_toArray, List.set]
                      refine goG_call 59 (by rfl) (by rfl) (by rfl) (by go_simp) (qLess_any (a := qa) (b := qb) (c := qc) (d := qd) (by omega) (by omega) (by omega) (by omega)) ?_
                      rintro e w21 ⟨rfl, hb21⟩
                      have hs21 := btr hs0 hb21
                      rw [T1.out]
                      refine ⟨_, rfl, fun _ => hs21, ?_⟩
                      simp only [List.setIfInBounds_toArray, List.set]
                      refine goG_read 60 hs21 (by rfl) (by rfl) ?_ (by rfl) (fun wz hSw => ?_) ?_
                      rotate_left
                      · go_simp
                        try with_reducible rfl
                      simp only [List.setIfInBounds_toArray, List.set]
                      refine goG_read 61 hs21 (by rfl) (by rfl) ?_ (by rfl) (fun wz hSw => ?_) ?_
                      rotate_left
                      · go_simp
                        try with_reducible rfl
                      simp only [List.setIfInBounds_toArray, List.set]
                      refine goG_read 62 hs21 (by rfl) (by rfl) ?_ (by rfl) (fun wz hSw => ?_) ?_
                      rotate_left
                      · go_simp
                        try with_reducible rfl
                      simp only [List.setIfInBounds_toArray, List.set]
                      refine goG_read 63 hs21 (by rfl) (by rfl) ?_ (by rfl) (fun wz hSw => ?_) ?_
                      rotate_left
                      · go_simp
                        try with_reducible rfl
                      simp only [List.setIfInBounds_toArray, List.set]
                      refine goG_read 64 hs21 (by rfl) (by rfl) ?_ (by rfl) (fun wz hSw => ?_) ?_
                      rotate_left
                      · go_simp
                        try with_reducible rfl
                      simp only [List.setIfInBounds_toArray, List.set]
                      refine goG_read 65 hs21 (by rfl) (by rfl) ?_ (by rfl) (fun wz hSw => ?_) ?_
                      rotate_left
                      · go_simp
                        try with_reducible rfl
                      simp only [List.setIfInBounds_toArray, List.set]
                      refine goG_read 66 hs21 (by rfl) (by rfl) ?_ (by rfl) (fun wz hSw => ?_) ?_
                      rotate_left
                      · go_simp
                        try with_reducible rfl
                      simp only [List.setIfInBounds_toArray, List.set]
                      refine goG_read 67 hs21 (by rfl) (by rfl) ?_ (by rfl) (fun wz hSw => ?_) ?_
                      rotate_left
                      · go_simp
                        try with_reducible rfl
                      simp only [List.setIfInBounds_toArray, List.set]
                      refine goG_read 68 hs21 (by rfl) (by rfl) ?_ (by rfl) (fun wz hSw => ?_) ?_
                      rotate_left
                      · go_simp
                        try with_reducible rfl
                      simp only [List.setIfInBounds_toArray, List.set]
                      refine goG_read 69 hs21 (by rfl) (by rfl) ?_ (by rfl) (fun wz hSw => ?_) ?_
                      rotate_left
                      · (have x0 := keepB hSw E0.out); (have x1 := keepB hSw E1.out); go_simp
                        try with_reducible rfl
                      simp only [List.setIfInBounds_toArray, List.set]
                      refine goG_read 70 hs21 (by rfl) (by rfl) ?_ (by rfl) (fun wz hSw => ?_) ?_
                      rotate_left
                      · go_simp
                        try with_reducible rfl
                      simp only [List.setIfInBounds_toArray, List.set]
                      refine goG_read 71 hs21 (by rfl) (by rfl) ?_ (by rfl) (fun wz hSw => ?_) ?_
                      rotate_left
                      · go_simp
                        try with_reducible rfl
                      simp only [List.setIfInBounds_toArray, List.set]
                      refine goG_read 72 hs21 (by rfl) (by rfl) ?_ (by rfl) (fun wz hSw => ?_) ?_
                      rotate_left
                      · go_simp
                        try with_reducible rfl
                      simp only [List.setIfInBounds_toArray, List.set]
                      refine goG_read 73 hs21 (by rfl) (by rfl) ?_ (by rfl) (fun wz hSw => ?_) ?_
                      rotate_left
                      · go_simp
                        try with_reducible rfl
                      simp only [List.setIfInBounds_toArray, List.set]
                      refine goG_read 74 hs21 (by rfl) (by rfl) ?_ (by rfl) (fun wz hSw => ?_) ?_
                      rotate_left
                      · go_simp
                        try with_reducible rfl
                      simp only [List.setIfInBounds_toArray, List.set]
                      refine goG_read 75 hs21 (by rfl) (by rfl) ?_ (by rfl) (fun wz hSw => ?_) ?_
                      rotate_left
                      · (have x0 := keepB hSw V2.out); (have x1 := keepB hSw V3.out); go_simp
                        try with_reducible rfl
                      simp only [List.setIfInBounds_toArray, List.set]
                      refine goG_call 76 (by rfl) (by rfl) (by rfl) (by go_simp) (qLess_any (a := qa) (b := qb) (c := pc) (d := pd) (by omega) (by omega) (by omega) (by omega)) ?_
                      rintro e w22 ⟨rfl, hb22⟩
                      have hs22 := btr hs21 hb22
                      rw [T2.out]
                      refine ⟨_, rfl, fun _ => hs22, ?_⟩
                      simp only [List.setIfInBounds_toArray, List.set]
                      refine goG_read 77 hs22 (by rfl) (by rfl) ?_ (by rfl) (fun wz hSw => ?_) ?_
                      rotate_left
                      · go_simp
                        try with_reducible rfl
                      simp only [List.setIfInBounds_toArray, List.set]
                      refine goG_read 78 hs22 (by rfl) (by rfl) ?_ (by rfl) (fun wz hSw => ?_) ?_
                      rotate_left
                      · go_simp
                        try with_reducible rfl
                      simp only [List.setIfInBounds_toArray, List.set]
                      refine goG_read 79 hs22 (by rfl) (by rfl) ?_ (by rfl) (fun wz hSw => ?_) ?_
                      rotate_left
                      · go_simp
                        try with_reducible rfl
                      simp only [List.setIfInBounds_toArray, List.set]
                      refine goG_read 80 hs22 (by rfl) (by rfl) ?_ (by rfl) (fun wz hSw => ?_) ?_
                      rotate_left
                      · go_simp
                        try with_reducible rfl
                      simp only [List.setIfInBounds_toArray, List.set]
                      refine goG_read 81 hs22 (by rfl) (by rfl) ?_ (by rfl) (fun wz hSw => ?_) ?_
                      rotate_left
                      · go_simp
                        try with_reducible rfl
                      simp only [List.setIfInBounds_toArray, List.set]
                      refine goG_read 82 hs22 (by rfl) (by rfl) ?_ (by rfl) (fun wz hSw => ?_) ?_
                      rotate_left
                      · go_simp
                        try with_reducible rfl
                      simp only [List.setIfInBounds_toArray, List.set]
                      refine goG_read 83 hs22 (by rfl) (by rfl) ?_ (by rfl) (fun wz hSw => ?_) ?_
                      rotate_left
                      · go_simp
                        try with_reducible rfl
                      simp only [List.setIfInBounds_toArray, List.set]
                      refine goG_read 84 hs22 (by rfl) (by rfl) ?_ (by rfl) (fun wz hSw => ?_) ?_
                      rotate_left
                      · (have x0 := keepB hSw E4.out); go_simp
                        try with_reducible rfl
                      simp only [List.setIfInBounds_toArray, List.set]
                      refine goG_read 85 hs22 (by rfl) (by rfl) ?_ (by rfl) (fun wz hSw => ?_) ?_
                      rotate_left
                      · go_simp
                        try with_reducible rfl
                      simp only [List.setIfInBounds_toArray, List.set]
                      refine goG_read 86 hs22 (by rfl) (by rfl) ?_ (by rfl) (fun wz hSw => ?_) ?_
                      rotate_left
                      · go_simp
                        try with_reducible rfl
                      simp only [List.setIfInBounds_toArray, List.set]
                      refine goG_read 87 hs22 (by rfl) (by rfl) ?_ (by rfl) (fun wz hSw => ?_) ?_
                      rotate_left
                      · go_simp
                        try with_reducible rfl
                      simp only [List.setIfInBounds_toArray, List.set]
                      refine goG_skip 88 hs22 (by rfl) (by rfl) (by rfl) ?_
                      simp only [List.setIfInBounds_toArray, List.set]
                      refine goG_skip 89 hs22 (by rfl) (by rfl) (by rfl) ?_
                      simp only [List.setIfInBounds_toArray, List.set]
                      refine goG_skip 90 hs22 (by rfl) (by rfl) (by rfl) ?_
                      simp only [List.setIfInBounds_toArray, List.set]
                      refine goG_skip 91 hs22 (by rfl) (by rfl) (by rfl) ?_
                      simp only [List.setIfInBounds_toArray, List.set]
                      refine goG_skip 92 hs22 (by rfl) (by rfl) (by rfl) ?_
                      simp only [List.setIfInBounds_toArray, List.set]
                      refine goG_skip 93 hs22 (by rfl) (by rfl) (by rfl) ?_
                      simp only [List.setIfInBounds_toArray, List.set]
                      refine goG_skip 94 hs22 (by rfl) (by rfl) (by rfl) ?_
                      simp only [List.setIfInBounds_toArray, List.set]
                      refine goG_skip 95 hs22 (by rfl) (by rfl) (by rfl) ?_
                      simp only [List.setIfInBounds_toArray, List.set]
                      refine goG_skip 96 hs22 (by rfl) (by rfl) (by rfl) ?_
                      simp only [List.setIfInBounds_toArray, List.set]
                      refine goG_skip 97 hs22 (by rfl) (by rfl) (by rfl) ?_
                      simp only [List.setIfInBounds_toArray, List.set]
                      refine goG_skip 98 hs22 (by rfl) (by rfl) (by rfl) ?_
                      simp only [List.setIfInBounds_toArray, List.set]
                      refine goG_skip 100 hs22 (by rfl) (by rfl) (by rfl) ?_
                      simp only [List.setIfInBounds_toArray, List.set]
                      refine goG_skip 101 hs22 (by rfl) (by rfl) (by rfl) ?_
                      simp only [List.setIfInBounds_toArray, List.set]
                      refine goG_skip 102 hs22 (by rfl) (by rfl) (by rfl) ?_
                      simp only [List.setIfInBounds_toArray, List.set]
                      refine goG_skip 103 hs22 (by rfl) (by rfl) (by rfl) ?_
                      simp only [List.setIfInBounds_toArray, List.set]
                      refine goG_skip 104 hs22 (by rfl) (by rfl) (by rfl) ?_
                      simp only [List.setIfInBounds_toArray, List.set]
                      refine goG_stepSkip 99 hs22 (by rfl) (by rfl) (by rfl) ?_
                      simp only [List.setIfInBounds_toArray, List.set]
                      refine goG_skip 105 hs22 (by rfl) (by rfl) (by rfl) ?_
                      simp only [List.setIfInBounds_toArray, List.set]
                      refine goG_read 106 hs22 (by rfl) (by rfl) ?_ (by rfl) (fun wz hSw => ?_) ?_
                      rotate_left
                      · go_simp
                        try with_reducible rfl
                      simp only [List.setIfInBounds_toArray, List.set]
                      change KX _ _
                      refine hKX _ _ ?_
                      go_wp2_with fail
                      go_ret
                      exact ⟨by rw [HE4.out]; rfl, btr hbz hs22⟩
                    · skip
                      have hc : decide (qn < 1) = false := decide_eq_false hcn
                      by_cases hb4 : uu = qn
                      · have z4 : (uu != qn) = false := by rw [bne_eq_false_iff_eq]; exact hb4
                        have HBN := Lib.hid (badF_next HQ.out HB.out (show badQ t (pre L k) (qa, qb, qc, qd, qn) = false by unfold badQ pre; rw [if_neg (by have := HK.out; omega), show k - 1 = m from (by have := HK.out; omega), HPV.out]; rw [B1.out]; simp [show b2 (pa, pb, pc, pd, pn) (qa, qb, qc, qd, qn) = false from T2.out, hc, show b4 t (qa, qb, qc, qd, qn) = false from (B4.out).trans z4]))
                        have hqq : 0 ≤ qn ∧ qn ≤ 12 := by omega
                        clear hb4 hcn
                        refine wp_region_trg (.read 0 (.read 1 (.read 2 (.read 3 (.read 4 (.read 5 (.read 6 (.read 7 (.read 8 (.read 9 (.step 10 (.read 11 (.read 12 (.read 13 (.read 14 (.read 15 (.read 16 (.read 17 (.read 18 (.read 19 (.read 20 (.read 21 (.read 22 (.read 23 (.read 24 (.read 25 (.read 26 (.step 27 (.read 28 (.read 29 (.read 30 (.read 31 (.read 32 (.read 33 (.read 34 (.read 35 (.read 36 (.read 37 (.read 38 (.read 39 (.read 40 (.read 41 (.read 42 (.read 43 (.read 44 (.read 45 (.read 46 (.read 47 (.read 48 (.read 49 (.read 51 (.read 52 (.read 53 (.read 54 (.read 55 (.step 50 (.read 56 (.read 57 .nil)))))))))))))))))))))))))))))))))))))))))))))))))))))))))) [] (by kernel_rfl) (by rfl) (by kernel_rfl) (by kernel_rfl) (fun _ _ _ _ _ h => h) (fun W' => Below wr.heap.size wr W') ?_
                        change goG _ _ _ _ _ _ _ wr.drew
                        refine goG_read 49 hs0 (by rfl) (by rfl) ?_ (by rfl) (fun wz hSw => ?_) ?_
                        rotate_left
                        · go_simp
                          try with_reducible rfl
                        simp only [List.setIfInBounds_toArray, List.set]
                        refine goG_read 50 hs0 (by rfl) (by rfl) ?_ (by rfl) (fun wz hSw => ?_) ?_
                        rotate_left
                        · go_simp
                          try with_reducible rfl
                        simp only [List.setIfInBounds_toArray, List.set]
                        refine goG_read 51 hs0 (by rfl) (by rfl) ?_ (by rfl) (fun wz hSw => ?_) ?_
                        rotate_left
                        · go_simp
                          try with_reducible rfl
                        simp only [List.setIfInBounds_toArray, List.set]
                        refine goG_read 52 hs0 (by rfl) (by rfl) ?_ (by rfl) (fun wz hSw => ?_) ?_
                        rotate_left
                        · go_simp
                          try with_reducible rfl
                        simp only [List.setIfInBounds_toArray, List.set]
                        refine goG_read 53 hs0 (by rfl) (by rfl) ?_ (by rfl) (fun wz hSw => ?_) ?_
                        rotate_left
                        · (have x0 := keepB hSw E0.out); (have x1 := keepB hSw E1.out); go_simp
                          try with_reducible rfl
                        simp only [List.setIfInBounds_toArray, List.set]
                        refine goG_read 54 hs0 (by rfl) (by rfl) ?_ (by rfl) (fun wz hSw => ?_) ?_
                        rotate_left
                        · go_simp
                          try with_reducible rfl
                        simp only [List.setIfInBounds_toArray, List.set]
                        refine goG_read 55 hs0 (by rfl) (by rfl) ?_ (by rfl) (fun wz hSw => ?_) ?_
                        rotate_left
                        · go_simp
                          try with_reducible rfl
                        simp only [List.setIfInBounds_toArray, List.set]
                        refine goG_read 56 hs0 (by rfl) (by rfl) ?_ (by rfl) (fun wz hSw => ?_) ?_
                        rotate_left
                        · go_simp
                          try with_reducible rfl
                        simp only [List.setIfInBounds_toArray, List.set]
                        refine goG_read 57 hs0 (by rfl) (by rfl) ?_ (by rfl) (fun wz hSw => ?_) ?_
                        rotate_left
                        · go_simp
                          try with_reducible rfl
                        simp only [List.setIfInBounds_toArray, List.set]
                        refine goG_read 58 hs0 (by rfl) (by rfl) ?_ (by rfl) (fun wz hSw => ?_) ?_
                        rotate_left
                        · (have x0 := keepB hSw E2.out); (have x1 := keepB hSw E3.out); go_simp
                          try with_reducible rfl
                        simp only [List.setIfInBounds_toArray, List.set]
                        refine goG_call 59 (by rfl) (by rfl) (by rfl) (by go_simp) (qLess_any (a := qa) (b := qb) (c := qc) (d := qd) (by omega) (by omega) (by omega) (by omega)) ?_
                        rintro e w21 ⟨rfl, hb21⟩
                        have hs21 := btr hs0 hb21
                        rw [T1.out]
                        refine ⟨_, rfl, fun _ => hs21, ?_⟩
                        simp only [List.setIfInBounds_toArray, List.set]
                        refine goG_read 60 hs21 (by rfl) (by rfl) ?_ (by rfl) (fun wz hSw => ?_) ?_
                        rotate_left
                        · go_simp
                          try with_reducible rfl
                        simp only [List.setIfInBounds_toArray, List.set]
                        refine goG_read 61 hs21 (by rfl) (by rfl) ?_ (by rfl) (fun wz hSw => ?_) ?_
                        rotate_left
                        · go_simp
                          try with_reducible rfl
                        simp only [List.setIfInBounds_toArray, List.set]
                        refine goG_read 62 hs21 (by rfl) (by rfl) ?_ (by rfl) (fun wz hSw => ?_) ?_
                        rotate_left
                        · go_simp
                          try with_reducible rfl
                        simp only [List.setIfInBounds_toArray, List.set]
                        refine goG_read 63 hs21 (by rfl) (by rfl) ?_ (by rfl) (fun wz hSw => ?_) ?_
                        rotate_left
                        · go_simp
                          try with_reducible rfl
                        simp only [List.setIfInBounds_toArray, List.set]
                        refine goG_read 64 hs21 (by rfl) (by rfl) ?_ (by rfl) (fun wz hSw => ?_) ?_
                        rotate_left
                        · go_simp
                          try with_reducible rfl
                        simp only [List.setIfInBounds_toArray, List.set]
                        refine goG_read 65 hs21 (by rfl) (by rfl) ?_ (by rfl) (fun wz hSw => ?_) ?_
                        rotate_left
                        · go_simp
                          try with_reducible rfl
                        simp only [List.setIfInBounds_toArray, List.set]
                        refine goG_read 66 hs21 (by rfl) (by rfl) ?_ (by rfl) (fun wz hSw => ?_) ?_
                        rotate_left
                        · go_simp
                          try with_reducible rfl
                        simp only [List.setIfInBounds_toArray, List.set]
                        refine goG_read 67 hs21 (by rfl) (by rfl) ?_ (by rfl) (fun wz hSw => ?_) ?_
                        rotate_left
                        · go_simp
                          try with_reducible rfl
                        simp only [List.setIfInBounds_toArray, List.set]
                        refine goG_read 68 hs21 (by rfl) (by rfl) ?_ (by rfl) (fun wz hSw => ?_) ?_
                        rotate_left
                        · go_simp
                          try with_reducible rfl
                        simp only [List.setIfInBounds_toArray, List.set]
                        refine goG_read 69 hs21 (by rfl) (by rfl) ?_ (by rfl) (fun wz hSw => ?_) ?_
                        rotate_left
                        · (have x0 := keepB hSw E0.out); (have x1 := keepB hSw E1.out); go_simp
                          try with_reducible rfl
                        simp only [List.setIfInBounds_toArray, List.set]
                        refine goG_read 70 hs21 (by rfl) (by rfl) ?_ (by rfl) (fun wz hSw => ?_) ?_
                        rotate_left
                        · go_simp
                          try with_reducible rfl
                        simp only [List.setIfInBounds_toArray, List.set]
                        refine goG_read 71 hs21 (by rfl) (by rfl) ?_ (by rfl) (fun wz hSw => ?_) ?_
                        rotate_left
                        · go_simp
                          try with_reducible rfl
                        simp only [List.setIfInBounds_toArray, List.set]
                        refine goG_read 72 hs21 (by rfl) (by rfl) ?_ (by rfl) (fun wz hSw => ?_) ?_
                        rotate_left
                        · go_simp
                          try with_reducible rfl
                        simp only [List.setIfInBounds_toArray, List.set]
                        refine goG_read 73 hs21 (by rfl) (by rfl) ?_ (by rfl) (fun wz hSw => ?_) ?_
                        rotate_left
                        · go_simp
                          try with_reducible rfl
                        simp only [List.setIfInBounds_toArray, List.set]
                        refine goG_read 74 hs21 (by rfl) (by rfl) ?_ (by rfl) (fun wz hSw => ?_) ?_
                        rotate_left
                        · go_simp
                          try with_reducible rfl
                        simp only [List.setIfInBounds_toArray, List.set]
                        refine goG_read 75 hs21 (by rfl) (by rfl) ?_ (by rfl) (fun wz hSw => ?_) ?_
                        rotate_left
                        · (have x0 := keepB hSw V2.out); (have x1 := keepB hSw V3.out); go_simp
                          try with_reducible rfl
                        simp only [List.setIfInBounds_toArray, List.set]
                        refine goG_call 76 (by rfl) (by rfl) (by rfl) (by go_simp) (qLess_any (a := qa) (b := qb) (c := pc) (d := pd) (by omega) (by omega) (by omega) (by omega)) ?_
                        rintro e w22 ⟨rfl, hb22⟩
                        have hs22 := btr hs21 hb22
                        rw [T2.out]
                        refine ⟨_, rfl, fun _ => hs22, ?_⟩
                        simp only [List.setIfInBounds_toArray, List.set]
                        refine goG_read 77 hs22 (by rfl) (by rfl) ?_ (by rfl) (fun wz hSw => ?_) ?_
                        rotate_left
                        · go_simp
                          try with_reducible rfl
                        simp only [List.setIfInBounds_toArray, List.set]
                        refine goG_read 78 hs22 (by rfl) (by rfl) ?_ (by rfl) (fun wz hSw => ?_) ?_
                        rotate_left
                        · go_simp
                          try with_reducible rfl
                        simp only [List.setIfInBounds_toArray, List.set]
                        refine goG_read 79 hs22 (by rfl) (by rfl) ?_ (by rfl) (fun wz hSw => ?_) ?_
                        rotate_left
                        · go_simp
                          try with_reducible rfl
                        simp only [List.setIfInBounds_toArray, List.set]
                        refine goG_read 80 hs22 (by rfl) (by rfl) ?_ (by rfl) (fun wz hSw => ?_) ?_
                        rotate_left
                        · go_simp
                          try with_reducible rfl
                        simp only [List.setIfInBounds_toArray, List.set]
                        refine goG_read 81 hs22 (by rfl) (by rfl) ?_ (by rfl) (fun wz hSw => ?_) ?_
                        rotate_left
                        · go_simp
                          try with_reducible rfl
                        simp only [List.setIfInBounds_toArray, List.set]
                        refine goG_read 82 hs22 (by rfl) (by rfl) ?_ (by rfl) (fun wz hSw => ?_) ?_
                        rotate_left
                        · go_simp
                          try with_reducible rfl
                        simp only [List.setIfInBounds_toArray, List.set]
                        refine goG_read 83 hs22 (by rfl) (by rfl) ?_ (by rfl) (fun wz hSw => ?_) ?_
                        rotate_left
                        · go_simp
                          try with_reducible rfl
                        simp only [List.setIfInBounds_toArray, List.set]
                        refine goG_read 84 hs22 (by rfl) (by rfl) ?_ (by rfl) (fun wz hSw => ?_) ?_
                        rotate_left
                        · (have x0 := keepB hSw E4.out); go_simp
                          try with_reducible rfl
                        simp only [List.setIfInBounds_toArray, List.set]
                        refine goG_read 85 hs22 (by rfl) (by rfl) ?_ (by rfl) (fun wz hSw => ?_) ?_
                        rotate_left
                        · go_simp
                          try with_reducible rfl
                        simp only [List.setIfInBounds_toArray, List.set]
                        refine goG_read 86 hs22 (by rfl) (by rfl) ?_ (by rfl) (fun wz hSw => ?_) ?_
                        rotate_left
                        · go_simp
                          try with_reducible rfl
                        simp only [List.setIfInBounds_toArray, List.set]
                        refine goG_read 87 hs22 (by rfl) (by rfl) ?_ (by rfl) (fun wz hSw => ?_) ?_
                        rotate_left
                        · go_simp
                          try with_reducible rfl
                        simp only [List.setIfInBounds_toArray, List.set]
                        refine goG_read 88 hs22 (by rfl) (by rfl) ?_ (by rfl) (fun wz hSw => ?_) ?_
                        rotate_left
                        · go_simp
                          try with_reducible rfl
                        simp only [List.setIfInBounds_toArray, List.set]
                        refine goG_read 89 hs22 (by rfl) (by rfl) ?_ (by rfl) (fun wz hSw => ?_) ?_
                        rotate_left
                        · go_simp
                          try with_reducible rfl
                        simp only [List.setIfInBounds_toArray, List.set]
                        refine goG_read 90 hs22 (by rfl) (by rfl) ?_ (by rfl) (fun wz hSw => ?_) ?_
                        rotate_left
                        · go_simp
                          try with_reducible rfl
                        simp only [List.setIfInBounds_toArray, List.set]
                        refine goG_read 91 hs22 (by rfl) (by rfl) ?_ (by rfl) (fun wz hSw => ?_) ?_
                        rotate_left
                        · go_simp
                          try with_reducible rfl
                        simp only [List.setIfInBounds_toArray, List.set]
                        refine goG_read 92 hs22 (by rfl) (by rfl) ?_ (by rfl) (fun wz hSw => ?_) ?_
                        rotate_left
                        · go_simp
                          try with_reducible rfl
                        simp only [List.setIfInBounds_toArray, List.set]
                        refine goG_read 93 hs22 (by rfl) (by rfl) ?_ (by rfl) (fun wz hSw => ?_) ?_
                        rotate_left
                        · (have x0 := keepB hSw E0.out); (have x1 := keepB hSw E1.out); go_simp
                          try with_reducible rfl
                        simp only [List.setIfInBounds_toArray, List.set]
                        refine goG_read 94 hs22 (by rfl) (by rfl) ?_ (by rfl) (fun wz hSw => ?_) ?_
                        rotate_left
                        · go_simp
                          try with_reducible rfl
                        simp only [List.setIfInBounds_toArray, List.set]
                        refine goG_read 95 hs22 (by rfl) (by rfl) ?_ (by rfl) (fun wz hSw => ?_) ?_
                        rotate_left
                        · go_simp
                          try with_reducible rfl
                        simp only [List.setIfInBounds_toArray, List.set]
                        refine goG_read 96 hs22 (by rfl) (by rfl) ?_ (by rfl) (fun wz hSw => ?_) ?_
                        rotate_left
                        · go_simp
                          try with_reducible rfl
                        simp only [List.setIfInBounds_toArray, List.set]
                        refine goG_read 97 hs22 (by rfl) (by rfl) ?_ (by rfl) (fun wz hSw => ?_) ?_
                        rotate_left
                        · go_simp
                          try with_reducible rfl
                        simp only [List.setIfInBounds_toArray, List.set]
                        refine goG_read 98 hs22 (by rfl) (by rfl) ?_ (by rfl) (fun wz hSw => ?_) ?_
                        rotate_left
                        · (have x0 := keepB hSw E2.out); (have x1 := keepB hSw E3.out); go_simp
                          try with_reducible rfl
                        simp only [List.setIfInBounds_toArray, List.set]
                        refine goG_read 100 hs22 (by rfl) (by rfl) ?_ (by rfl) (fun wz hSw => ?_) ?_
                        rotate_left
                        · go_simp
                          try with_reducible rfl
                        simp only [List.setIfInBounds_toArray, List.set]
                        refine goG_read 101 hs22 (by rfl) (by rfl) ?_ (by rfl) (fun wz hSw => ?_) ?_
                        rotate_left
                        · go_simp
                          try with_reducible rfl
                        simp only [List.setIfInBounds_toArray, List.set]
                        refine goG_read 102 hs22 (by rfl) (by rfl) ?_ (by rfl) (fun wz hSw => ?_) ?_
                        rotate_left
                        · go_simp
                          try with_reducible rfl
                        simp only [List.setIfInBounds_toArray, List.set]
                        refine goG_read 103 hs22 (by rfl) (by rfl) ?_ (by rfl) (fun wz hSw => ?_) ?_
                        rotate_left
                        · go_simp
                          try with_reducible rfl
                        simp only [List.setIfInBounds_toArray, List.set]
                        refine goG_read 104 hs22 (by rfl) (by rfl) ?_ (by rfl) (fun wz hSw => ?_) ?_
                        rotate_left
                        · (have x0 := keepB hSw E4.out); go_simp
                          try with_reducible rfl
                        simp only [List.setIfInBounds_toArray, List.set]
                        refine goG_call 99 (by rfl) (by rfl) (by rfl) (by go_simp) (K1.out _ hs22) ?_
                        rintro e w23 ⟨rfl, hb23⟩
                        have hs23 := btr hs22 hb23
                        refine ⟨_, rfl, fun _ => hs23, ?_⟩
                        simp only [List.setIfInBounds_toArray, List.set]
                        refine goG_read 105 hs23 (by rfl) (by rfl) ?_ (by rfl) (fun wz hSw => ?_) ?_
                        rotate_left
                        · go_simp
                          try with_reducible rfl
                        simp only [List.setIfInBounds_toArray, List.set]
                        refine goG_read 106 hs23 (by rfl) (by rfl) ?_ (by rfl) (fun wz hSw => ?_) ?_
                        rotate_left
                        · go_simp
                          try with_reducible rfl
                        simp only [List.setIfInBounds_toArray, List.set]
                        change KX _ _
                        refine hKX _ _ ?_
                        have E5 := keepB hs23 E4.out
                        go_wp2_with fail
                        go_roundw
                        case rel => exact ⟨k + 1, by go_num, by omega, by rw [HSN.out], HBN, by rw [HSN.out]; omega, by rw [HSN.out]; omega, btr hbr2 hs23⟩
                        case measure => simp [intOf]; omega
                      · have z4 : (uu != qn) = true := by rw [bne_iff_ne]; exact hb4
                        have HE4 := Lib.hid (show ceE l L = 18 by rw [HE3.out, if_pos (badF_first HQ.out (show badQ t (pre L k) (qa, qb, qc, qd, qn) = true by unfold badQ pre; rw [if_neg (by have := HK.out; omega), show k - 1 = m from (by have := HK.out; omega), HPV.out]; simp [show b4 t (qa, qb, qc, qd, qn) = true from (B4.out).trans z4]))])
                        clear hb4 hcn
                        refine wp_region_trg (.read 0 (.read 1 (.read 2 (.read 3 (.read 4 (.read 5 (.read 6 (.read 7 (.read 8 (.read 9 (.step 10 (.read 11 (.read 12 (.read 13 (.read 14 (.read 15 (.read 16 (.read 17 (.read 18 (.read 19 (.read 20 (.read 21 (.read 22 (.read 23 (.read 24 (.read 25 (.read 26 (.step 27 (.read 28 (.read 29 (.read 30 (.read 31 (.read 32 (.read 33 (.read 34 (.read 35 (.read 36 (.read 37 (.read 38 (.read 39 (.read 40 (.read 41 (.read 42 (.read 43 (.read 44 (.read 45 (.read 46 (.read 47 (.read 48 (.read 49 (.read 51 (.read 52 (.read 53 (.read 54 (.read 55 (.step 50 (.read 56 (.read 57 .nil)))))))))))))))))))))))))))))))))))))))))))))))))))))))))) [] (by kernel_rfl) (by rfl) (by kernel_rfl) (by kernel_rfl) (fun _ _ _ _ _ h => h) (fun W' => Below wr.heap.size wr W') ?_
                        change goG _ _ _ _ _ _ _ wr.drew
                        refine goG_read 49 hs0 (by rfl) (by rfl) ?_ (by rfl) (fun wz hSw => ?_) ?_
                        rotate_left
                        · go_simp
                          try with_reducible rfl
                        simp only [List.setIfInBounds_toArray, List.set]
                        refine goG_read 50 hs0 (by rfl) (by rfl) ?_ (by rfl) (fun wz hSw => ?_) ?_
                        rotate_left
                        · go_simp
                          try with_reducible rfl
                        simp only [List.setIfInBounds_toArray, List.set]
                        refine goG_read 51 hs0 (by rfl) (by rfl) ?_ (by rfl) (fun wz hSw => ?_) ?_
                        rotate_left
                        · go_simp
                          try with_reducible rfl
                        simp only [List.setIfInBounds_toArray, List.set]
                        refine goG_read 52 hs0 (by rfl) (by rfl) ?_ (by rfl) (fun wz hSw => ?_) ?_
                        rotate_left
                        · go_simp
                          try with_reducible rfl
                        simp only [List.setIfInBounds_toArray, List.set]
                        refine goG_read 53 hs0 (by rfl) (by rfl) ?_ (by rfl) (fun wz hSw => ?_) ?_
                        rotate_left
                        · (have x0 := keepB hSw E0.out); (have x1 := keepB hSw E1.out); go_simp
                          try with_reducible rfl
                        simp only [List.setIfInBounds_toArray, List.set]
                        refine goG_read 54 hs0 (by rfl) (by rfl) ?_ (by rfl) (fun wz hSw => ?_) ?_
                        rotate_left
                        · go_simp
                          try with_reducible rfl
                        simp only [List.setIfInBounds_toArray, List.set]
                        refine goG_read 55 hs0 (by rfl) (by rfl) ?_ (by rfl) (fun wz hSw => ?_) ?_
                        rotate_left
                        · go_simp
                          try with_reducible rfl
                        simp only [List.setIfInBounds_toArray, List.set]
                        refine goG_read 56 hs0 (by rfl) (by rfl) ?_ (by rfl) (fun wz hSw => ?_) ?_
                        rotate_left
                        · go_simp
                          try with_reducible rfl
                        simp only [List.setIfInBounds_toArray, List.set]
                        refine goG_read 57 hs0 (by rfl) (by rfl) ?_ (by rfl) (fun wz hSw => ?_) ?_
                        rotate_left
                        · go_simp
                          try with_reducible rfl
                        simp only [List.setIfInBounds_toArray, List.set]
                        refine goG_read 58 hs0 (by rfl) (by rfl) ?_ (by rfl) (fun wz hSw => ?_) ?_
                        rotate_left
                        · (have x0 := keepB hSw E2.out); (have x1 := keepB hSw E3.out); go_simp
                          try with_reducible rfl
                        simp only [List.setIfInBounds_toArray, List.set]
                        refine goG_call 59 (by rfl) (by rfl) (by rfl) (by go_simp) (qLess_any (a := qa) (b := qb) (c := qc) (d := qd) (by omega) (by omega) (by omega) (by omega)) ?_
                        rintro e w21 ⟨rfl, hb21⟩
                        have hs21 := btr hs0 hb21
                        rw [T1.out]
                        refine ⟨_, rfl, fun _ => hs21, ?_⟩
                        simp only [List.setIfInBounds_toArray, List.set]
                        refine goG_read 60 hs21 (by rfl) (by rfl) ?_ (by rfl) (fun wz hSw => ?_) ?_
                        rotate_left
                        · go_simp
                          try with_reducible rfl
                        simp only [List.setIfInBounds_toArray, List.set]
                        refine goG_read 61 hs21 (by rfl) (by rfl) ?_ (by rfl) (fun wz hSw => ?_) ?_
                        rotate_left
                        · go_simp
                          try with_reducible rfl
                        simp only [List.setIfInBounds_toArray, List.set]
                        refine goG_read 62 hs21 (by rfl) (by rfl) ?_ (by rfl) (fun wz hSw => ?_) ?_
                        rotate_left
                        · go_simp
                          try with_reducible rfl
                        simp only [List.setIfInBounds_toArray, List.set]
                        refine goG_read 63 hs21 (by rfl) (by rfl) ?_ (by rfl) (fun wz hSw => ?_) ?_
                        rotate_left
                        · go_simp
                          try with_reducible rfl
                        simp only [List.setIfInBounds_toArray, List.set]
                        refine goG_read 64 hs21 (by rfl) (by rfl) ?_ (by rfl) (fun wz hSw => ?_) ?_
                        rotate_left
                        · go_simp
                          try with_reducible rfl
                        simp only [List.setIfInBounds_toArray, List.set]
                        refine goG_read 65 hs21 (by rfl) (by rfl) ?_ (by rfl) (fun wz hSw => ?_) ?_
                        rotate_left
                        · go_simp
                          try with_reducible rfl
                        simp only [List.setIfInBounds_toArray, List.set]
                        refine goG_read 66 hs21 (by rfl) (by rfl) ?_ (by rfl) (fun wz hSw => ?_) ?_
                        rotate_left
                        · go_simp
                          try with_reducible rfl
                        simp only [List.setIfInBounds_toArray, List.set]
                        refine goG_read 67 hs21 (by rfl) (by rfl) ?_ (by rfl) (fun wz hSw => ?_) ?_
                        rotate_left
                        · go_simp
                          try with_reducible rfl
                        simp only [List.setIfInBounds_toArray, List.set]
                        refine goG_read 68 hs21 (by rfl) (by rfl) ?_ (by rfl) (fun wz hSw => ?_) ?_
                        rotate_left
                        · go_simp
                          try with_reducible rfl
                        simp only [List.setIfInBounds_toArray, List.set]
                        refine goG_read 69 hs21 (by rfl) (by rfl) ?_ (by rfl) (fun wz hSw => ?_) ?_
                        rotate_left
                        · (have x0 := keepB hSw E0.out); (have x1 := keepB hSw E1.out); go_simp
                          try with_reducible rfl
                        simp only [List.setIfInBounds_toArray, List.set]
                        refine goG_read 70 hs21 (by rfl) (by rfl) ?_ (by rfl) (fun wz hSw => ?_) ?_
                        rotate_left
                        · go_simp
                          try with_reducible rfl
                        simp only [List.setIfInBounds_toArray, List.set]
                        refine goG_read 71 hs21 (by rfl) (by rfl) ?_ (by rfl) (fun wz hSw => ?_) ?_
                        rotate_left
                        · go_simp
                          try with_reducible rfl
                        simp only [List.setIfInBounds_toArray, List.set]
                        refine goG_read 72 hs21 (by rfl) (by rfl) ?_ (by rfl) (fun wz hSw => ?_) ?_
                        rotate_left
                        · go_simp
                          try with_reducible rfl
                        simp only [List.setIfInBounds_toArray, List.set]
                        refine goG_read 73 hs21 (by rfl) (by rfl) ?_ (by rfl) (fun wz hSw => ?_) ?_
                        rotate_left
                        · go_simp
                          try with_reducible rfl
                        simp only [List.setIfInBounds_toArray, List.set]
                        refine goG_read 74 hs21 (by rfl) (by rfl) ?_ (by rfl) (fun wz hSw => ?_) ?_
                        rotate_left
                        · go_simp
                          try with_reducible rfl
                        simp only [List.setIfInBounds_toArray, List.set]
                        refine goG_read 75 hs21 (by rfl) (by rfl) ?_ (by rfl) (fun wz hSw => ?_) ?_
                        rotate_left
                        · (have x0 := keepB hSw V2.out); (have x1 := keepB hSw V3.out); go_simp
                          try with_reducible rfl
                        simp only [List.setIfInBounds_toArray, List.set]
                        refine goG_call 76 (by rfl) (by rfl) (by rfl) (by go_simp) (qLess_any (a := qa) (b := qb) (c := pc) (d := pd) (by omega) (by omega) (by omega) (by omega)) ?_
                        rintro e w22 ⟨rfl, hb22⟩
                        have hs22 := btr hs21 hb22
                        rw [T2.out]
                        refine ⟨_, rfl, fun _ => hs22, ?_⟩
                        simp only [List.setIfInBounds_toArray, List.set]
                        refine goG_read 77 hs22 (by rfl) (by rfl) ?_ (by rfl) (fun wz hSw => ?_) ?_
                        rotate_left
                        · go_simp
                          try with_reducible rfl
                        simp only [List.setIfInBounds_toArray, List.set]
                        refine goG_read 78 hs22 (by rfl) (by rfl) ?_ (by rfl) (fun wz hSw => ?_) ?_
                        rotate_left
                        · go_simp
                          try with_reducible rfl
                        simp only [List.setIfInBounds_toArray, List.set]
                        refine goG_read 79 hs22 (by rfl) (by rfl) ?_ (by rfl) (fun wz hSw => ?_) ?_
                        rotate_left
                        · go_simp
                          try with_reducible rfl
                        simp only [List.setIfInBounds_toArray, List.set]
                        refine goG_read 80 hs22 (by rfl) (by rfl) ?_ (by rfl) (fun wz hSw => ?_) ?_
                        rotate_left
                        · go_simp
                          try with_reducible rfl
                        simp only [List.setIfInBounds_toArray, List.set]
                        refine goG_read 81 hs22 (by rfl) (by rfl) ?_ (by rfl) (fun wz hSw => ?_) ?_
                        rotate_left
                        · go_simp
                          try with_reducible rfl
                        simp only [List.setIfInBounds_toArray, List.set]
                        refine goG_read 82 hs22 (by rfl) (by rfl) ?_ (by rfl) (fun wz hSw => ?_) ?_
                        rotate_left
                        · go_simp
                          try with_reducible rfl
                        simp only [List.setIfInBounds_toArray, List.set]
                        refine goG_read 83 hs22 (by rfl) (by rfl) ?_ (by rfl) (fun wz hSw => ?_) ?_
                        rotate_left
                        · go_simp
                          try with_reducible rfl
                        simp only [List.setIfInBounds_toArray, List.set]
                        refine goG_read 84 hs22 (by rfl) (by rfl) ?_ (by rfl) (fun wz hSw => ?_) ?_
                        rotate_left
                        · (have x0 := keepB hSw E4.out); go_simp
                          try with_reducible rfl
                        simp only [List.setIfInBounds_toArray, List.set]
                        refine goG_read 85 hs22 (by rfl) (by rfl) ?_ (by rfl) (fun wz hSw => ?_) ?_
                        rotate_left
                        · go_simp
                          try with_reducible rfl
                        simp only [List.setIfInBounds_toArray, List.set]
                        refine goG_read 86 hs22 (by rfl) (by rfl) ?_ (by rfl) (fun wz hSw => ?_) ?_
                        rotate_left
                        · go_simp
                          try with_reducible rfl
                        simp only [List.setIfInBounds_toArray, List.set]
                        refine goG_read 87 hs22 (by rfl) (by rfl) ?_ (by rfl) (fun wz hSw => ?_) ?_
                        rotate_left
                        · go_simp
                          try with_reducible rfl
                        simp only [List.setIfInBounds_toArray, List.set]
                        refine goG_read 88 hs22 (by rfl) (by rfl) ?_ (by rfl) (fun wz hSw => ?_) ?_
                        rotate_left
                        · go_simp
                          try with_reducible rfl
                        simp only [List.setIfInBounds_toArray, List.set]
                        refine goG_read 89 hs22 (by rfl) (by rfl) ?_ (by rfl) (fun wz hSw => ?_) ?_
                        rotate_left
                        · go_simp
                          try with_reducible rfl
                        simp only [List.setIfInBounds_toArray, List.set]
                        refine goG_read 90 hs22 (by rfl) (by rfl) ?_ (by rfl) (fun wz hSw => ?_) ?_
                        rotate_left
                        · go_simp
                          try with_reducible rfl
                        simp only [List.setIfInBounds_toArray, List.set]
                        refine goG_read 91 hs22 (by rfl) (by rfl) ?_ (by rfl) (fun wz hSw => ?_) ?_
                        rotate_left
                        · go_simp
                          try with_reducible rfl
                        simp only [List.setIfInBounds_toArray, List.set]
                        refine goG_read 92 hs22 (by rfl) (by rfl) ?_ (by rfl) (fun wz hSw => ?_) ?_
                        rotate_left
                        · go_simp
                          try with_reducible rfl
                        simp only [List.setIfInBounds_toArray, List.set]
                        refine goG_read 93 hs22 (by rfl) (by rfl) ?_ (by rfl) (fun wz hSw => ?_) ?_
                        rotate_left
                        · (have x0 := keepB hSw E0.out); (have x1 := keepB hSw E1.out); go_simp
                          try with_reducible rfl
                        simp only [List.setIfInBounds_toArray, List.set]
                        refine goG_read 94 hs22 (by rfl) (by rfl) ?_ (by rfl) (fun wz hSw => ?_) ?_
                        rotate_left
                        · go_simp
                          try with_reducible rfl
                        simp only [List.setIfInBounds_toArray, List.set]
                        refine goG_read 95 hs22 (by rfl) (by rfl) ?_ (by rfl) (fun wz hSw => ?_) ?_
                        rotate_left
                        · go_simp
                          try with_reducible rfl
                        simp only [List.setIfInBounds_toArray, List.set]
                        refine goG_read 96 hs22 (by rfl) (by rfl) ?_ (by rfl) (fun wz hSw => ?_) ?_
                        rotate_left
                        · go_simp
                          try with_reducible rfl
                        simp only [List.setIfInBounds_toArray, List.set]
                        refine goG_read 97 hs22 (by rfl) (by rfl) ?_ (by rfl) (fun wz hSw => ?_) ?_
                        rotate_left
                        · go_simp
                          try with_reducible rfl
                        simp only [List.setIfInBounds_toArray, List.set]
                        refine goG_read 98 hs22 (by rfl) (by rfl) ?_ (by rfl) (fun wz hSw => ?_) ?_
                        rotate_left
                        · (have x0 := keepB hSw E2.out); (have x1 := keepB hSw E3.out); go_simp
                          try with_reducible rfl
                        simp only [List.setIfInBounds_toArray, List.set]
                        refine goG_read 100 hs22 (by rfl) (by rfl) ?_ (by rfl) (fun wz hSw => ?_) ?_
                        rotate_left
                        · go_simp
                          try with_reducible rfl
                        simp only [List.setIfInBounds_toArray, List.set]
                        refine goG_read 101 hs22 (by rfl) (by rfl) ?_ (by rfl) (fun wz hSw => ?_) ?_
                        rotate_left
                        · go_simp
                          try with_reducible rfl
                        simp only [List.setIfInBounds_toArray, List.set]
                        refine goG_read 102 hs22 (by rfl) (by rfl) ?_ (by rfl) (fun wz hSw => ?_) ?_
                        rotate_left
                        · go_simp
                          try with_reducible rfl
                        simp only [List.setIfInBounds_toArray, List.set]
                        refine goG_read 103 hs22 (by rfl) (by rfl) ?_ (by rfl) (fun wz hSw => ?_) ?_
                        rotate_left
                        · go_simp
                          try with_reducible rfl
                        simp only [List.setIfInBounds_toArray, List.set]
                        refine goG_read 104 hs22 (by rfl) (by rfl) ?_ (by rfl) (fun wz hSw => ?_) ?_
                        rotate_left
                        · (have x0 := keepB hSw E4.out); go_simp
                          try with_reducible rfl
                        simp only [List.setIfInBounds_toArray, List.set]
                        refine goG_call 99 (by rfl) (by rfl) (by rfl) (by go_simp) (K1.out _ hs22) ?_
                        rintro e w23 ⟨rfl, hb23⟩
                        have hs23 := btr hs22 hb23
                        refine ⟨_, rfl, fun _ => hs23, ?_⟩
                        simp only [List.setIfInBounds_toArray, List.set]
                        refine goG_read 105 hs23 (by rfl) (by rfl) ?_ (by rfl) (fun wz hSw => ?_) ?_
                        rotate_left
                        · go_simp
                          try with_reducible rfl
                        simp only [List.setIfInBounds_toArray, List.set]
                        refine goG_read 106 hs23 (by rfl) (by rfl) ?_ (by rfl) (fun wz hSw => ?_) ?_
                        rotate_left
                        · go_simp
                          try with_reducible rfl
                        simp only [List.setIfInBounds_toArray, List.set]
                        change KX _ _
                        refine hKX _ _ ?_
                        go_wp2_with fail
                        go_ret
                        exact ⟨by rw [HE4.out]; rfl, btr hbz hs23⟩
              · have T1 := Lib.hid (decide_eq_false hl1)
                have HE4 := Lib.hid (show ceE l L = 18 by rw [HE3.out, if_pos (badF_first HQ.out (show badQ t (pre L k) (qa, qb, qc, qd, qn) = true by unfold badQ; simp [show b1 (qa, qb, qc, qd, qn) = true by unfold b1; simp only; rw [T1.out]; rfl]))])
                clear hl1
                refine wp_region_trg (.read 0 (.read 1 (.read 2 (.read 3 (.read 4 (.read 5 (.read 6 (.read 7 (.read 8 (.read 9 (.step 10 (.read 11 (.read 12 (.read 13 (.read 14 (.read 15 (.read 16 (.read 17 (.read 18 (.read 19 (.read 20 (.read 21 (.read 22 (.read 23 (.read 24 (.read 25 (.read 26 (.step 27 (.read 28 (.read 29 (.read 30 (.read 31 (.read 32 (.read 33 (.read 34 (.read 35 (.read 36 (.read 37 (.read 38 (.read 39 (.read 40 (.read 41 (.read 42 (.read 43 (.read 44 (.read 45 (.read 46 (.read 47 (.read 48 (.read 49 (.read 51 (.read 52 (.read 53 (.read 54 (.read 55 (.step 50 (.read 56 (.read 57 .nil)))))))))))))))))))))))))))))))))))))))))))))))))))))))))) [] (by kernel_rfl) (by rfl) (by kernel_rfl) (by kernel_rfl) (fun _ _ _ _ _ h => h) (fun W' => Below wr.heap.size wr W') ?_
                change goG _ _ _ _ _ _ _ wr.drew
                refine goG_read 49 hs0 (by rfl) (by rfl) ?_ (by rfl) (fun wz hSw => ?_) ?_
                rotate_left
                · go_simp
                  try with_reducible rfl
                simp only [List.setIfInBounds_toArray, List.set]
                refine goG_read 50 hs0 (by rfl) (by rfl) ?_ (by rfl) (fun wz hSw => ?_) ?_
                rotate_left
                · go_simp
                  try with_reducible rfl
                simp only [List.setIfInBounds_toArray, List.set]
                refine goG_read 51 hs0 (by rfl) (by rfl) ?_ (by rfl) (fun wz hSw => ?_) ?_
                rotate_left
                · go_simp
                  try with_reducible rfl
                simp only [List.setIfInBounds_toArray, List.set]
                refine goG_read 52 hs0 (by rfl) (by rfl) ?_ (by rfl) (fun wz hSw => ?_) ?_
                rotate_left
                · go_simp
                  try with_reducible rfl
                simp only [List.setIfInBounds_toArray, List.set]
                refine goG_read 53 hs0 (by rfl) (by rfl) ?_ (by rfl) (fun wz hSw => ?_) ?_
                rotate_left
                · (have x0 := keepB hSw E0.out); (have x1 := keepB hSw E1.out); go_simp
                  try with_reducible rfl
                simp only [List.setIfInBounds_toArray, List.set]
                refine goG_read 54 hs0 (by rfl) (by rfl) ?_ (by rfl) (fun wz hSw => ?_) ?_
                rotate_left
                · go_simp
                  try with_reducible rfl
                simp only [List.setIfInBounds_toArray, List.set]
                refine goG_read 55 hs0 (by rfl) (by rfl) ?_ (by rfl) (fun wz hSw => ?_) ?_
                rotate_left
                · go_simp
                  try with_reducible rfl
                simp only [List.setIfInBounds_toArray, List.set]
                refine goG_read 56 hs0 (by rfl) (by rfl) ?_ (by rfl) (fun wz hSw => ?_) ?_
                rotate_left
                · go_simp
                  try with_reducible rfl
                simp only [List.setIfInBounds_toArray, List.set]
                refine goG_read 57 hs0 (by rfl) (by rfl) ?_ (by rfl) (fun wz hSw => ?_) ?_
                rotate_left
                · go_simp
                  try with_reducible rfl
                simp only [List.setIfInBounds_toArray, List.set]
                refine goG_read 58 hs0 (by rfl) (by rfl) ?_ (by rfl) (fun wz hSw => ?_) ?_
                rotate_left
                · (have x0 := keepB hSw E2.out); (have x1 := keepB hSw E3.out); go_simp
                  try with_reducible rfl
                simp only [List.setIfInBounds_toArray, List.set]
                refine goG_call 59 (by rfl) (by rfl) (by rfl) (by go_simp) (qLess_any (a := qa) (b := qb) (c := qc) (d := qd) (by omega) (by omega) (by omega) (by omega)) ?_
                rintro e w21 ⟨rfl, hb21⟩
                have hs21 := btr hs0 hb21
                rw [T1.out]
                refine ⟨_, rfl, fun _ => hs21, ?_⟩
                simp only [List.setIfInBounds_toArray, List.set]
                refine goG_read 60 hs21 (by rfl) (by rfl) ?_ (by rfl) (fun wz hSw => ?_) ?_
                rotate_left
                · go_simp
                  try with_reducible rfl
                simp only [List.setIfInBounds_toArray, List.set]
                refine goG_read 61 hs21 (by rfl) (by rfl) ?_ (by rfl) (fun wz hSw => ?_) ?_
                rotate_left
                · go_simp
                  try with_reducible rfl
                simp only [List.setIfInBounds_toArray, List.set]
                refine goG_skip 62 hs21 (by rfl) (by rfl) (by rfl) ?_
                simp only [List.setIfInBounds_toArray, List.set]
                refine goG_skip 63 hs21 (by rfl) (by rfl) (by rfl) ?_
                simp only [List.setIfInBounds_toArray, List.set]
                refine goG_skip 64 hs21 (by rfl) (by rfl) (by rfl) ?_
                simp only [List.setIfInBounds_toArray, List.set]
                refine goG_skip 65 hs21 (by rfl) (by rfl) (by rfl) ?_
                simp only [List.setIfInBounds_toArray, List.set]
                refine goG_skip 66 hs21 (by rfl) (by rfl) (by rfl) ?_
                simp only [List.setIfInBounds_toArray, List.set]
                refine goG_skip 67 hs21 (by rfl) (by rfl) (by rfl) ?_
                simp only [List.setIfInBounds_toArray, List.set]
                refine goG_skip 68 hs21 (by rfl) (by rfl) (by rfl) ?_
                simp only [List.setIfInBounds_toArray, List.set]
                refine goG_skip 69 hs21 (by rfl) (by rfl) (by rfl) ?_
                simp only [List.setIfInBounds_toArray, List.set]
                refine goG_skip 70 hs21 (by rfl) (by rfl) (by rfl) ?_
                simp only [List.setIfInBounds_toArray, List.set]
                refine goG_skip 71 hs21 (by rfl) (by rfl) (by rfl) ?_
                simp only [List.setIfInBounds_toArray, List.set]
                refine goG_skip 72 hs21 (by rfl) (by rfl) (by rfl) ?_
                simp only [List.setIfInBounds_toArray, List.set]
                refine goG_skip 73 hs21 (by rfl) (by rfl) (by rfl) ?_
                simp only [List.setIfInBounds_toArray, List.set]
                refine goG_skip 74 hs21 (by rfl) (by rfl) (by rfl) ?_
                simp only [List.setIfInBounds_toArray, List.set]
                refine goG_skip 75 hs21 (by rfl) (by rfl) (by rfl) ?_
                simp only [List.setIfInBounds_toArray, List.set]
                refine goG_stepSkip 76 hs21 (by rfl) (by rfl) (by rfl) ?_
                simp only [List.setIfInBounds_toArray, List.set]
                refine goG_skip 77 hs21 (by rfl) (by rfl) (by rfl) ?_
                simp only [List.setIfInBounds_toArray, List.set]
                refine goG_read 78 hs21 (by rfl) (by rfl) ?_ (by rfl) (fun wz hSw => ?_) ?_
                rotate_left
                · go_simp
                  try with_reducible rfl
                simp only [List.setIfInBounds_toArray, List.set]
                refine goG_read 79 hs21 (by rfl) (by rfl) ?_ (by rfl) (fun wz hSw => ?_) ?_
                rotate_left
                · go_simp
                  try with_reducible rfl
                simp only [List.setIfInBounds_toArray, List.set]
                refine goG_skip 80 hs21 (by rfl) (by rfl) (by rfl) ?_
                simp only [List.setIfInBounds_toArray, List.set]
                refine goG_skip 81 hs21 (by rfl) (by rfl) (by rfl) ?_
                simp only [List.setIfInBounds_toArray, List.set]
                refine goG_skip 82 hs21 (by rfl) (by rfl) (by rfl) ?_
                simp only [List.setIfInBounds_toArray, List.set]
                refine goG_skip 83 hs21 (by rfl) (by rfl) (by rfl) ?_
                simp only [List.setIfInBounds_toArray, List.set]
                refine goG_skip 84 hs21 (by rfl) (by rfl) (by rfl) ?_
                simp only [List.setIfInBounds_toArray, List.set]
                refine goG_skip 85 hs21 (by rfl) (by rfl) (by rfl) ?_
                simp only [List.setIfInBounds_toArray, List.set]
                refine goG_read 86 hs21 (by rfl) (by rfl) ?_ (by rfl) (fun wz hSw => ?_) ?_
                rotate_left
                · go_simp
                  try with_reducible rfl
                simp only [List.setIfInBounds_toArray, List.set]
                refine goG_read 87 hs21 (by rfl) (by rfl) ?_ (by rfl) (fun wz hSw => ?_) ?_
                rotate_left
                · go_simp
                  try with_reducible rfl
                simp only [List.setIfInBounds_toArray, List.set]
                refine goG_skip 88 hs21 (by rfl) (by rfl) (by rfl) ?_
                simp only [List.setIfInBounds_toArray, List.set]
                refine goG_skip 89 hs21 (by rfl) (by rfl) (by rfl) ?_
                simp only [List.setIfInBounds_toArray, List.set]
                refine goG_skip 90 hs21 (by rfl) (by rfl) (by rfl) ?_
                simp only [List.setIfInBounds_toArray, List.set]
                refine goG_skip 91 hs21 (by rfl) (by rfl) (by rfl) ?_
                simp only [List.setIfInBounds_toArray, List.set]
                refine goG_skip 92 hs21 (by rfl) (by rfl) (by rfl) ?_
                simp only [List.setIfInBounds_toArray, List.set]
                refine goG_skip 93 hs21 (by rfl) (by rfl) (by rfl) ?_
                simp only [List.setIfInBounds_toArray, List.set]
                refine goG_skip 94 hs21 (by rfl) (by rfl) (by rfl) ?_
                simp only [List.setIfInBounds_toArray, List.set]
                refine goG_skip 95 hs21 (by rfl) (by rfl) (by rfl) ?_
                simp only [List.setIfInBounds_toArray, List.set]
                refine goG_skip 96 hs21 (by rfl) (by rfl) (by rfl) ?_
                simp only [List.setIfInBounds_toArray, List.set]
                refine goG_skip 97 hs21 (by rfl) (by rfl) (by rfl) ?_
                simp only [List.setIfInBounds_toArray, List.set]
                refine goG_skip 98 hs21 (by rfl) (by rfl) (by rfl) ?_
                simp only [List.setIfInBounds_toArray, List.set]
                refine goG_skip 100 hs21 (by rfl) (by rfl) (by rfl) ?_
                simp only [List.setIfInBounds_toArray, List.set]
                refine goG_skip 101 hs21 (by rfl) (by rfl) (by rfl) ?_
                simp only [List.setIfInBounds_toArray, List.set]
                refine goG_skip 102 hs21 (by rfl) (by rfl) (by rfl) ?_
                simp only [List.setIfInBounds_toArray, List.set]
                refine goG_skip 103 hs21 (by rfl) (by rfl) (by rfl) ?_
                simp only [List.setIfInBounds_toArray, List.set]
                refine goG_skip 104 hs21 (by rfl) (by rfl) (by rfl) ?_
                simp only [List.setIfInBounds_toArray, List.set]
                refine goG_stepSkip 99 hs21 (by rfl) (by rfl) (by rfl) ?_
                simp only [List.setIfInBounds_toArray, List.set]
                refine goG_skip 105 hs21 (by rfl) (by rfl) (by rfl) ?_
                simp only [List.setIfInBounds_toArray, List.set]
                refine goG_read 106 hs21 (by rfl) (by rfl) ?_ (by rfl) (fun wz hSw => ?_) ?_
                rotate_left
                · go_simp
                  try with_reducible rfl
                simp only [List.setIfInBounds_toArray, List.set]
                change KX _ _
                refine hKX _ _ ?_
                go_wp2_with fail
                go_ret
                exact ⟨by rw [HE4.out]; rfl, btr hbz hs21⟩
            · obtain rfl : n' = k := by omega
              have e0 : L.take n' = L := List.take_of_length_le (by rw [HN.out]; exact Nat.le_refl _)
              rw [e0] at HB hs1 hs2 ⊢
              have HE4 := Lib.hid (show ceE l L = if sumC L = allR (ch t) then 0 else 18 by rw [HE3.out, if_neg (by rw [HB.out]; simp)])
              have HX := Lib.hid (HAL.out _ hbz)
              generalize hr : allR (ch t) = r at *
              generalize sumC L = sc at *
              have HR2 := Lib.hid hr
              clear hr e0
              by_cases hz : sc = r
              · have HE5 := Lib.hid (show ceE l L = 0 by rw [HE4.out, if_pos hz])
                have z4 : (sc != r) = false := by rw [bne_eq_false_iff_eq]; exact hz
                clear hz
                go_wp2_with (go_at_call 44; go_must (refine HX.out.mono ?_); rintro e w9 ⟨rfl, hb9⟩)
                go_ret
                exact ⟨by rw [HE5.out]; rfl, btr hbz hb9⟩
              · have HE5 := Lib.hid (show ceE l L = 18 by rw [HE4.out, if_neg hz])
                have z4 : (sc != r) = true := by rw [bne_iff_ne]; exact hz
                clear hz
                go_wp2_with (go_at_call 44; go_must (refine HX.out.mono ?_); rintro e w9 ⟨rfl, hb9⟩)
                go_ret
                exact ⟨by rw [HE5.out]; rfl, btr hbz hb9⟩
  · have HE := Lib.hid (show ceE l L = d by unfold ceE; rw [if_pos (by rw [hd]; exact h1), hd])
    have z1 : (d != 0) = true := by rw [bne_iff_ne]; exact h1
    clear h hg hd hl
    go_enter Tryz.func18, Tryz.ntmps18
    go_wp2_with (go_at_call 10; go_must (refine HCP.out.mono ?_); rintro e w1 ⟨rfl, hb1⟩)
    go_ret
    exact ⟨by rw [HE.out]; rfl, hb1⟩
end Go.Proofs.YtdmdagilopckgaaGreat
