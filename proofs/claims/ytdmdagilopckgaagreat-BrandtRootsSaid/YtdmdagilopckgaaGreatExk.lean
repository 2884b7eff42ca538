/- Package brandt: CheckEnclosures. -/
import Derived.Test.YtdmdagilopckgaaGreatExj
import Derived.IntWalk
namespace Go.Proofs.YtdmdagilopckgaaGreat
open Go.RowKit Go.WideShapes

/-- What CheckEnclosures answers. -/
def CeR (w : World) (d : Int) (e : Ending) (w' : World) : Prop := e = .returned (.int .i64 d) ∧ Below w.heap.size w w'

theorem hl2 {w : World} {A : Option Addr} {n c : Nat} {L : List (List Int)} (h : CV w (.slice A n c) L) : n ≤ c ∧ c ≤ 9223372036854775807 := by
  have := h.room
  unfold maxLen at this
  omega
set_option maxHeartbeats 4000000 in
set_option maxRecDepth 100000 in
theorem CheckEnclosures_any {A A' : Option Addr} {n c n' c' : Nat} {l : List Int} {L : List En} {w : World} (h : Pl IntB w (fun _ => True) A n c l) (hg : rdE l = 0 → GoodP (tz l)) (hl : EnA w A' n' c' L) :
    Calls Tryz.prog 17 #[.slice A n c, .slice A' n' c'] w (CeR w (ceE l L)) := by
  have hm := h.room
  have hm' := hl.room
  unfold maxLen at hm hm'
  have hc := h.cap
  have hc' := hl.cap
  obtain ⟨d, hd⟩ : ∃ d, rdE l = d := ⟨_, rfl⟩
  by_cases h1 : d = 0
  · subst h1
    have HR := Lib.hid (read_ok h hd)
    have G1 := Lib.hid (hg hd)
    have HE := Lib.hid (show ceE l L = if 61 < L.length then 8 else if frE L ≠ 0 then frE L else if badF (tz l) none L = true then 18 else if sumC L = allR (ch (tz l)) then 0 else 18 by unfold ceE; rw [if_neg (by rw [hd]; simp)])
    have HL := Lib.hid hl
    have HN := Lib.hid hl.len
    clear h hg hd hl
    generalize tz l = t at *
    by_cases h2 : 61 < n'
    · have HE2 := Lib.hid (show ceE l L = 8 by rw [HE.out, if_pos (by rw [HN.out]; exact h2)])
      have z1 : decide ((61 : Int) < (n' : Int)) = true := decide_eq_true (by omega)
      go_enter Tryz.func17, Tryz.ntmps17
      go_wp2_with (go_at_call 30; go_must (refine HR.out.mono ?_); rintro e w1 ⟨A1, c1, rfl, hp1, hb1⟩; have hc1 := hp1.cap; have hr1 := hp1.room; unfold maxLen at hr1)
      go_ret
      exact ⟨by rw [HE2.out]; rfl, hb1⟩
    · have HE2 := Lib.hid (show ceE l L = if frE L ≠ 0 then frE L else if badF t none L = true then 18 else if sumC L = allR (ch t) then 0 else 18 by rw [HE.out, if_neg (by rw [HN.out]; exact h2)])
      have z1 : decide ((61 : Int) < (n' : Int)) = false := decide_eq_false (by omega)
      clear HE
      go_enter Tryz.func17, Tryz.ntmps17
      go_wp2_with (go_at_call 30; go_must (refine HR.out.mono ?_); rintro e w1 ⟨A1, c1, rfl, hp1, hb1⟩; have hc1 := hp1.cap; have hr1 := hp1.room; unfold maxLen at hr1; have HP := Lib.hid hp1; clear hp1)
      go_loopw [29] (fun iv wr => ∃ k : Nat, iv = .int .i64 k ∧ k ≤ n' ∧ Hid (frE (L.take k) = 0) ∧ Below w1.heap.size w1 wr) (fun iv _ => n' - (intOf iv).toNat)
      case atStart => exact ⟨0, rfl, by omega, Lib.hid rfl, Below.refl _ _⟩
      case round =>
        obtain ⟨k, rfl, hk, HF, hbr⟩ := hrel
        have hbw := btr hb1 hbr
        rcases Nat.lt_or_ge k n' with hkn | hkn
        · obtain ⟨q, hq⟩ : ∃ q, L[k]? = some q := ⟨_, List.getElem?_eq_getElem (by rw [HN.out]; exact hkn)⟩
          obtain ⟨b, off, rfl, q0, q1, q2, q3, q4⟩ := (HL.out.below hbw).at hq
          have HQ := Lib.hid hq
          clear hq
          obtain ⟨qa, qb, qc, qd, qn⟩ := q
          simp only at q0 q1 q2 q3 q4
          go_wp2_with fail
          obtain ⟨wo, hwo⟩ : ∃ wo, wo = wr.alloc (.cells #[.int .i64 qa, .int .i64 qb, .int .i64 qc, .int .i64 qd, .int .i64 qn] 42) := ⟨_, rfl⟩
          have hbo : Below w1.heap.size w1 wo := by rw [hwo]; exact below_al hbr _
          rw [← hwo]
          clear hwo
          go_loopw [38] (fun jv wi => ∃ j : Nat, jv = .int .i64 j ∧ j ≤ 2 ∧ Hid (0 < j → cfE qa qb = 0) ∧ Hid (1 < j → cfE qc qd = 0) ∧ Below w1.heap.size w1 wi) (fun jv _ => 2 - (intOf jv).toNat)
          case atStart => exact ⟨0, rfl, by omega, Lib.hid (fun h => absurd h (by omega)), Lib.hid (fun h => absurd h (by omega)), hbo⟩
          case round =>
            obtain ⟨j, rfl, hj, H1, H2, hbi⟩ := hrel
            have i0 := ix0 qa qb qc qd
            have i1 := ix1 qa qb qc qd
            clear hbo
            by_cases hj0 : j = 0
            · subst hj0
              clear hj H1 H2
              by_cases hc0 : cfE qa qb = 0
              · have HC := Lib.hid hc0
                clear hc0
                go_wp2_with (go_at_call 31; go_must (refine (checkFrac_any).mono ?_); rintro e w2 ⟨rfl, hb2⟩; rw [HC.out])
                go_roundw
                case rel => exact ⟨1, rfl, by omega, Lib.hid (fun _ => HC.out), Lib.hid (fun h => absurd h (by omega)), btr (below_al hbi _) hb2⟩
                case measure => simp [intOf]
              · obtain ⟨d, hd⟩ : ∃ d, cfE qa qb = d := ⟨_, rfl⟩
                rw [hd] at hc0
                have hfe : frE L = d := (frE_first HQ.out HF.out (by rw [twE_one hd hc0]; exact hc0)).trans (twE_one hd hc0)
                have HE3 := Lib.hid (show ceE l L = d by rw [HE2.out, if_pos (by rw [hfe]; exact hc0), hfe])
                have HC := Lib.hid hd
                clear hd hfe
                go_wp2_with (go_at_call 31; go_must (refine (checkFrac_any).mono ?_); rintro e w2 ⟨rfl, hb2⟩; rw [HC.out])
                go_ret
                exact ⟨by rw [HE3.out]; rfl, btr hb1 (btr (below_al hbi _) hb2)⟩
            · by_cases hj1 : j = 1
              · subst hj1
                clear hj H2 hj0
                have H0 := Lib.hid (H1.out (by omega))
                clear H1
                by_cases hc0 : cfE qc qd = 0
                · have HC := Lib.hid hc0
                  clear hc0
                  go_wp2_with (go_at_call 31; go_must (refine (checkFrac_any).mono ?_); rintro e w2 ⟨rfl, hb2⟩; rw [HC.out])
                  go_roundw
                  case rel => exact ⟨2, rfl, by omega, Lib.hid (fun _ => H0.out), Lib.hid (fun _ => HC.out), btr (below_al hbi _) hb2⟩
                  case measure => simp [intOf]
                · obtain ⟨d, hd⟩ : ∃ d, cfE qc qd = d := ⟨_, rfl⟩
                  rw [hd] at hc0
                  have hfe : frE L = d := (frE_first HQ.out HF.out (by rw [twE_two H0.out hd]; exact hc0)).trans (twE_two H0.out hd)
                  have HE3 := Lib.hid (show ceE l L = d by rw [HE2.out, if_pos (by rw [hfe]; exact hc0), hfe])
                  have HC := Lib.hid hd
                  clear hd hfe
                  go_wp2_with (go_at_call 31; go_must (refine (checkFrac_any).mono ?_); rintro e w2 ⟨rfl, hb2⟩; rw [HC.out])
                  go_ret
                  exact ⟨by rw [HE3.out]; rfl, btr hb1 (btr (below_al hbi _) hb2)⟩
              · obtain rfl : j = 2 := by omega
                have HFN := Lib.hid (frE_next HQ.out HF.out (twE_zero (H1.out (by omega)) (H2.out (by omega))))
                clear H1 H2 i0 i1
                go_wp2_with fail
                go_roundw
                case rel => exact ⟨k + 1, by go_num, by omega, HFN, hbi⟩
                case measure => simp [intOf]; omega
        · obtain rfl : n' = k := by omega
          have hfe : frE L = 0 := by have := HF.out; rw [List.take_of_length_le (by rw [HN.out]; exact Nat.le_refl _)] at this; exact this
          have HE3 := Lib.hid (show ceE l L = if badF t none L = true then 18 else if sumC L = allR (ch t) then 0 else 18 by rw [HE2.out, if_neg (by rw [hfe]; simp)])
          have HM := Lib.hid (frE_mem hfe)
          clear hfe HF
          go_wp2_with (go_at_call 33; go_must (refine (chain_good (HP.out.below hbr) G1.out).mono ?_); rintro e w2 ⟨v2, rfl, hv2, hb2⟩; obtain ⟨A2, c2, rfl⟩ := hv2.slice)
          have hv3 := HL
          have HV := Lib.hid hv2
          have hbw2 := btr (btr hb1 hbr) hb2
          have HLL := Lib.hid (hl2 hv2)
          clear hb2 hbr hv2
          go_loopw [13, 52] (fun sv iv wr => ∃ k : Nat, iv = .int .i64 k ∧ k ≤ n' ∧ sv = .int .i64 (sumC (L.take k)) ∧ Hid (badF t none (L.take k) = false) ∧ 0 ≤ sumC (L.take k) ∧ sumC (L.take k) ≤ 12 * k ∧ Below w2.heap.size w2 wr) (fun _ iv _ => n' - (intOf iv).toNat)
          case atStart => exact ⟨0, rfl, by omega, rfl, Lib.hid rfl, by simp [sumC], by simp [sumC], Below.refl _ _⟩
          case round =>
            obtain ⟨k, rfl, hk, rfl, HB, hs1, hs2, hbr⟩ := hrel
            have hbz := btr hbw2 hbr
            rcases Nat.lt_or_ge k n' with hkn | hkn
            · obtain ⟨q, hq⟩ : ∃ q, L[k]? = some q := ⟨_, List.getElem?_eq_getElem (by rw [HN.out]; exact hkn)⟩
              obtain ⟨b, off, rfl, q0, q1, q2, q3, q4⟩ := (HL.out.below hbz).at hq
              have HQ := Lib.hid hq
              have hq2 := HM.out q (List.mem_of_getElem? hq)
              clear hq
              obtain ⟨qa, qb, qc, qd, qn⟩ := q
              simp only at q0 q1 q2 q3 q4 hq2
              obtain ⟨y1, y2⟩ := twE_inv hq2
              obtain ⟨y3, y4, y5, y6⟩ := cfE_zero y1
              obtain ⟨y7, y8, y9, y10⟩ := cfE_zero y2
              clear y1 y2 hq2
              have e1 := chA_le qa qb G1.out
              have e2 := chA_le qc qd G1.out
              have HSN := Lib.hid (sumC_next HQ.out)
              have B4 := Lib.hid (show b4 t (qa, qb, qc, qd, qn) = (chA qa qb (ch t) - chA qc qd (ch t) != qn) from rfl)
              have K1 := Lib.hid (fun W (hb : Below wr.heap.size wr W) => changesAt_good (num := qa) (den := qb) ((HV.out.below hbr).below hb) G1.out (by omega) (by omega))
              have K2 := Lib.hid (fun W (hb : Below wr.heap.size wr W) => changesAt_good (num := qc) (den := qd) ((HV.out.below hbr).below hb) G1.out (by omega) (by omega))
              simp only at HSN
              obtain ⟨ll1, ll2⟩ := HLL.out
              generalize hu1 : chA qa qb (ch t) = u1 at *
              generalize hu2 : chA qc qd (ch t) = u2 at *
              generalize hsc : sumC (L.take k) = sc at *
              clear hu1 hu2 hsc
              go_wp2_with fail
              obtain ⟨W, hW⟩ : ∃ W, W = wr.alloc (.cells #[.int .i64 qa, .int .i64 qb, .int .i64 qc, .int .i64 qd, .int .i64 qn] 42) := ⟨_, rfl⟩
              have hbW : Below wr.heap.size wr W := by rw [hW]; exact below_al (Below.refl _ _) _
              have E0 := Lib.hid (show W.cell? ⟨wr.heap.size, 0, none⟩ = some (.int .i64 qa) by rw [hW]; go_simp)
              have E1 := Lib.hid (show W.cell? ⟨wr.heap.size, 1, none⟩ = some (.int .i64 qb) by rw [hW]; go_simp)
              have E2 := Lib.hid (show W.cell? ⟨wr.heap.size, 2, none⟩ = some (.int .i64 qc) by rw [hW]; go_simp)
              have E3 := Lib.hid (show W.cell? ⟨wr.heap.size, 3, none⟩ = some (.int .i64 qd) by rw [hW]; go_simp)
              have E4 := Lib.hid (show W.cell? ⟨wr.heap.size, 4, none⟩ = some (.int .i64 qn) by rw [hW]; go_simp)
              rw [← hW]
              have hs0 : Below W.heap.size W W.drew := (Below.refl _ _).drew
              clear hW q0 q1 q2 q3 q4
              by_cases hl1 : qa * qd < qc * qb
              · have T1 := Lib.hid (decide_eq_true hl1)
                have B1 := Lib.hid (show b1 (qa, qb, qc, qd, qn) = false by unfold b1; simp only; rw [T1.out]; rfl)
                clear hl1
                rcases k with _ | m
                · by_cases hcn : qn < 1
                  · have hc : decide (qn < 1) = true := decide_eq_true hcn
                    have HE4 := Lib.hid (show ceE l L = 18 by rw [HE3.out, if_pos (badF_first HQ.out (show badQ t (pre L 0) (qa, qb, qc, qd, qn) = true by unfold badQ pre; rw [if_pos rfl]; simp [hc]))])
                    clear hcn
                    refine wp_region_trg (.read 0 (.read 1 (.read 2 (.read 3 (.step 4 (.read 5 (.read 6 (.read 7 (.read 8 (.read 9 (.read 10 (.read 11 (.read 12 (.read 13 (.read 14 (.read 15 (.read 16 (.read 17 (.step 18 (.read 19 (.read 20 (.read 21 (.read 22 (.read 23 (.read 24 (.read 25 (.read 26 (.read 27 (.read 28 (.read 29 (.read 31 (.read 32 (.read 33 (.read 36 (.read 37 (.step 30 (.step 34 (.read 35 (.read 38 (.read 39 .nil)))))))))))))))))))))))))))))))))))))))) [] (by kernel_rfl) (by rfl) (by kernel_rfl) (by kernel_rfl) (fun _ _ _ _ _ h => h) (fun W' => Below W.heap.size W W') ?_
                    change goG _ _ _ _ _ _ _ W.drew
                    refine goG_read 57 hs0 (by rfl) (by rfl) ?_ (by rfl) (fun wz hSw => ?_) ?_
                    rotate_left
                    · go_simp
                      try with_reducible rfl
                    simp only [List.setIfInBounds_toArray, List.set]
                    refine goG_read 58 hs0 (by rfl) (by rfl) ?_ (by rfl) (fun wz hSw => ?_) ?_
                    rotate_left
                    · (have x0 := keepB hSw E0.out); (have x1 := keepB hSw E1.out); go_simp
                      try with_reducible rfl
                    simp only [List.setIfInBounds_toArray, List.set]
                    refine goG_read 59 hs0 (by rfl) (by rfl) ?_ (by rfl) (fun wz hSw => ?_) ?_
                    rotate_left
                    · go_simp
                      try with_reducible rfl
                    simp only [List.setIfInBounds_toArray, List.set]
                    refine goG_read 60 hs0 (by rfl) (by rfl) ?_ (by rfl) (fun wz hSw => ?_) ?_
                    rotate_left
                    · (have x0 := keepB hSw E2.out); (have x1 := keepB hSw E3.out); go_simp
                      try with_reducible rfl
                    simp only [List.setIfInBounds_toArray, List.set]
                    refine goG_call 61 (by rfl) (by rfl) (by rfl) (by go_simp) (before_any (a := qa) (b := qb) (c := qc) (d := qd) (by omega) (by omega) (by omega) (by omega)) ?_
                    rintro e w21 ⟨rfl, hb21⟩
                    have hs21 := btr hs0 hb21
                    rw [T1.out]
                    refine ⟨_, rfl, fun _ => hs21, ?_⟩
                    simp only [List.setIfInBounds_toArray, List.set]
                    refine goG_read 62 hs21 (by rfl) (by rfl) ?_ (by rfl) (fun wz hSw => ?_) ?_
                    rotate_left
                    · go_simp
                      try with_reducible rfl
                    simp only [List.setIfInBounds_toArray, List.set]
                    refine goG_read 63 hs21 (by rfl) (by rfl) ?_ (by rfl) (fun wz hSw => ?_) ?_
                    rotate_left
                    · go_simp
                      try with_reducible rfl
                    simp only [List.setIfInBounds_toArray, List.set]
                    refine goG_read 64 hs21 (by rfl) (by rfl) ?_ (by rfl) (fun wz hSw => ?_) ?_
                    rotate_left
                    · go_simp
                      try with_reducible rfl
                    simp only [List.setIfInBounds_toArray, List.set]
                    refine goG_read 65 hs21 (by rfl) (by rfl) ?_ (by rfl) (fun wz hSw => ?_) ?_
                    rotate_left
                    · go_simp
                      try with_reducible rfl
                    simp only [List.setIfInBounds_toArray, List.set]
                    refine goG_read 66 hs21 (by rfl) (by rfl) ?_ (by rfl) (fun wz hSw => ?_) ?_
                    rotate_left
                    · go_simp
                      try with_reducible rfl
                    simp only [List.setIfInBounds_toArray, List.set]
                    refine goG_skip 67 hs21 (by rfl) (by rfl) (by rfl) ?_
                    simp only [List.setIfInBounds_toArray, List.set]
                    refine goG_skip 68 hs21 (by rfl) (by rfl) (by rfl) ?_
                    simp only [List.setIfInBounds_toArray, List.set]
                    refine goG_skip 69 hs21 (by rfl) (by rfl) (by rfl) ?_
                    simp only [List.setIfInBounds_toArray, List.set]
                    refine goG_skip 70 hs21 (by rfl) (by rfl) (by rfl) ?_
                    simp only [List.setIfInBounds_toArray, List.set]
                    refine goG_skip 71 hs21 (by rfl) (by rfl) (by rfl) ?_
                    simp only [List.setIfInBounds_toArray, List.set]
                    refine goG_skip 72 hs21 (by rfl) (by rfl) (by rfl) ?_
                    simp only [List.setIfInBounds_toArray, List.set]
                    refine goG_skip 73 hs21 (by rfl) (by rfl) (by rfl) ?_
                    simp only [List.setIfInBounds_toArray, List.set]
                    refine goG_skip 74 hs21 (by rfl) (by rfl) (by rfl) ?_
                    simp only [List.setIfInBounds_toArray, List.set]
                    refine goG_stepSkip 75 hs21 (by rfl) (by rfl) (by rfl) ?_
                    simp only [List.setIfInBounds_toArray, List.set]
                    refine goG_read 76 hs21 (by rfl) (by rfl) ?_ (by rfl) (fun wz hSw => ?_) ?_
                    rotate_left
                    · go_simp
                      try with_reducible rfl
                    simp only [List.setIfInBounds_toArray, List.set]
                    refine goG_read 77 hs21 (by rfl) (by rfl) ?_ (by rfl) (fun wz hSw => ?_) ?_
                    rotate_left
                    · go_simp
                      try with_reducible rfl
                    simp only [List.setIfInBounds_toArray, List.set]
                    refine goG_read 78 hs21 (by rfl) (by rfl) ?_ (by rfl) (fun wz hSw => ?_) ?_
                    rotate_left
                    · go_simp
                      try with_reducible rfl
                    simp only [List.setIfInBounds_toArray, List.set]
                    refine goG_read 79 hs21 (by rfl) (by rfl) ?_ (by rfl) (fun wz hSw => ?_) ?_
                    rotate_left
                    · go_simp
                      try with_reducible rfl
                    simp only [List.setIfInBounds_toArray, List.set]
                    refine goG_read 80 hs21 (by rfl) (by rfl) ?_ (by rfl) (fun wz hSw => ?_) ?_
                    rotate_left
                    · (have x0 := keepB hSw E4.out); go_simp
                      try with_reducible rfl
                    simp only [List.setIfInBounds_toArray, List.set]
                    refine goG_read 81 hs21 (by rfl) (by rfl) ?_ (by rfl) (fun wz hSw => ?_) ?_
                    rotate_left
                    · go_simp
                      try with_reducible rfl
                    simp only [List.setIfInBounds_toArray, List.set]
                    refine goG_read 82 hs21 (by rfl) (by rfl) ?_ (by rfl) (fun wz hSw => ?_) ?_
                    rotate_left
                    · go_simp
                      try with_reducible rfl
                    simp only [List.setIfInBounds_toArray, List.set]
                    refine goG_read 83 hs21 (by rfl) (by rfl) ?_ (by rfl) (fun wz hSw => ?_) ?_
                    rotate_left
                    · go_simp
                      try with_reducible rfl
                    simp only [List.setIfInBounds_toArray, List.set]
                    refine goG_skip 84 hs21 (by rfl) (by rfl) (by rfl) ?_
                    simp only [List.setIfInBounds_toArray, List.set]
                    refine goG_skip 85 hs21 (by rfl) (by rfl) (by rfl) ?_
                    simp only [List.setIfInBounds_toArray, List.set]
                    refine goG_skip 86 hs21 (by rfl) (by rfl) (by rfl) ?_
                    simp only [List.setIfInBounds_toArray, List.set]
                    refine goG_skip 88 hs21 (by rfl) (by rfl) (by rfl) ?_
                    simp only [List.setIfInBounds_toArray, List.set]
                    refine goG_skip 89 hs21 (by rfl) (by rfl) (by rfl) ?_
                    simp only [List.setIfInBounds_toArray, List.set]
                    refine goG_skip 90 hs21 (by rfl) (by rfl) (by rfl) ?_
                    simp only [List.setIfInBounds_toArray, List.set]
                    refine goG_skip 93 hs21 (by rfl) (by rfl) (by rfl) ?_
                    simp only [List.setIfInBounds_toArray, List.set]
                    refine goG_skip 94 hs21 (by rfl) (by rfl) (by rfl) ?_
                    simp only [List.setIfInBounds_toArray, List.set]
                    refine goG_stepSkip 87 hs21 (by rfl) (by rfl) (by rfl) ?_
                    simp only [List.setIfInBounds_toArray, List.set]
                    refine goG_stepSkip 91 hs21 (by rfl) (by rfl) (by rfl) ?_
                    simp only [List.setIfInBounds_toArray, List.set]
                    refine goG_skip 92 hs21 (by rfl) (by rfl) (by rfl) ?_
                    simp only [List.setIfInBounds_toArray, List.set]
                    refine goG_skip 95 hs21 (by rfl) (by rfl) (by rfl) ?_
                    simp only [List.setIfInBounds_toArray, List.set]
                    refine goG_read 96 hs21 (by rfl) (by rfl) ?_ (by rfl) (fun wz hSw => ?_) ?_
                    rotate_left
                    · go_simp
                      try with_reducible rfl
                    simp only [List.setIfInBounds_toArray, List.set]
                    change Exit.then _ _ _ _ _
                    rename_i hK
                    refine hK _ _ ?_
                    go_wp2_with fail
                    go_ret
                    exact ⟨by rw [HE4.out]; rfl, btr hbz (btr hbW hs21)⟩
                  · skip
                    have hc : decide (qn < 1) = false := decide_eq_false hcn
                    have hwu : IntKind.i64.wrap (u1 - u2) = u1 - u2 := IntWalk.i64_in _ (by omega)
                    by_cases hb4 : u1 - u2 = qn
                    · have z4 : (u1 - u2 != qn) = false := by rw [bne_eq_false_iff_eq]; exact hb4
                      have HBN := Lib.hid (badF_next HQ.out HB.out (show badQ t (pre L (0)) (qa, qb, qc, qd, qn) = false by unfold badQ pre; rw [if_pos rfl]; rw [B1.out]; simp [hc, show b4 t (qa, qb, qc, qd, qn) = false from (B4.out).trans z4]))
                      have hqq : 0 ≤ qn ∧ qn ≤ 12 := by omega
                      clear hb4 hcn
                      refine wp_region_trg (.read 0 (.read 1 (.read 2 (.read 3 (.step 4 (.read 5 (.read 6 (.read 7 (.read 8 (.read 9 (.read 10 (.read 11 (.read 12 (.read 13 (.read 14 (.read 15 (.read 16 (.read 17 (.step 18 (.read 19 (.read 20 (.read 21 (.read 22 (.read 23 (.read 24 (.read 25 (.read 26 (.read 27 (.read 28 (.read 29 (.read 31 (.read 32 (.read 33 (.read 36 (.read 37 (.step 30 (.step 34 (.read 35 (.read 38 (.read 39 .nil)))))))))))))))))))))))))))))))))))))))) [] (by kernel_rfl) (by rfl) (by kernel_rfl) (by kernel_rfl) (fun _ _ _ _ _ h => h) (fun W' => Below W.heap.size W W') ?_
                      change goG _ _ _ _ _ _ _ W.drew
                      refine goG_read 57 hs0 (by rfl) (by rfl) ?_ (by rfl) (fun wz hSw => ?_) ?_
                      rotate_left
                      · go_simp
                        try with_reducible rfl
                      simp only [List.setIfInBounds_toArray, List.set]
                      refine goG_read 58 hs0 (by rfl) (by rfl) ?_ (by rfl) (fun wz hSw => ?_) ?_
                      rotate_left
                      · (have x0 := keepB hSw E0.out); (have x1 := keepB hSw E1.out); go_simp
                        try with_reducible rfl
                      simp only [List.setIfInBounds_toArray, List.set]
                      refine goG_read 59 hs0 (by rfl) (by rfl) ?_ (by rfl) (fun wz hSw => ?_) ?_
                      rotate_left
                      · go_simp
                        try with_reducible rfl
                      simp only [List.setIfInBounds_toArray, List.set]
                      refine goG_read 60 hs0 (by rfl) (by rfl) ?_ (by rfl) (fun wz hSw => ?_) ?_
                      rotate_left
                      · (have x0 := keepB hSw E2.out); (have x1 := keepB hSw E3.out); go_simp
                        try with_reducible rfl
                      simp only [List.setIfInBounds_toArray, List.set]
                      refine goG_call 61 (by rfl) (by rfl) (by rfl) (by go_simp) (before_any (a := qa) (b := qb) (c := qc) (d := qd) (by omega) (by omega) (by omega) (by omega)) ?_
                      rintro e w21 ⟨rfl, hb21⟩
                      have hs21 := btr hs0 hb21
                      rw [T1.out]
                      refine ⟨_, rfl, fun _ => hs21, ?_⟩
                      simp only [List.setIfInBounds_toArray, List.set]
                      refine goG_read 62 hs21 (by rfl) (by rfl) ?_ (by rfl) (fun wz hSw => ?_) ?_
                      rotate_left
                      · go_simp
                        try with_reducible rfl
                      simp only [List.setIfInBounds_toArray, List.set]
                      refine goG_read 63 hs21 (by rfl) (by rfl) ?_ (by rfl) (fun wz hSw => ?_) ?_
                      rotate_left
                      · go_simp
                        try with_reducible rfl
                      simp only [List.setIfInBounds_toArray, List.set]
                      refine goG_read 64 hs21 (by rfl) (by rfl) ?_ (by rfl) (fun wz hSw => ?_) ?_
                      rotate_left
                      · go_simp
                        try with_reducible rfl
                      simp only [List.setIfInBounds_toArray, List.set]
                      refine goG_read 65 hs21 (by rfl) (by rfl) ?_ (by rfl) (fun wz hSw => ?_) ?_
                      rotate_left
                      · go_simp
                        try with_reducible rfl
                      simp only [List.setIfInBounds_toArray, List.set]
                      refine goG_read 66 hs21 (by rfl) (by rfl) ?_ (by rfl) (fun wz hSw => ?_) ?_
                      rotate_left
                      · go_simp
                        try with_reducible rfl
                      simp only [List.setIfInBounds_toArray, List.set]
                      refine goG_skip 67 hs21 (by rfl) (by rfl) (by rfl) ?_
                      simp only [List.setIfInBounds_toArray, List.set]
                      refine goG_skip 68 hs21 (by rfl) (by rfl) (by rfl) ?_
                      simp only [List.setIfInBounds_toArray, List.set]
                      refine goG_skip 69 hs21 (by rfl) (by rfl) (by rfl) ?_
                      simp only [List.setIfInBounds_toArray, List.set]
                      refine goG_skip 70 hs21 (by rfl) (by rfl) (by rfl) ?_
                      simp only [List.setIfInBounds_toArray, List.set]
                      refine goG_skip 71 hs21 (by rfl) (by rfl) (by rfl) ?_
                      simp only [List.setIfInBounds_toArray, List.set]
                      refine goG_skip 72 hs21 (by rfl) (by rfl) (by rfl) ?_
                      simp only [List.setIfInBounds_toArray, List.set]
                      refine goG_skip 73 hs21 (by rfl) (by rfl) (by rfl) ?_
                      simp only [List.setIfInBounds_toArray, List.set]
                      refine goG_skip 74 hs21 (by rfl) (by rfl) (by rfl) ?_
                      simp only [List.setIfInBounds_toArray, List.set]
                      refine goG_stepSkip 75 hs21 (by rfl) (by rfl) (by rfl) ?_
                      simp only [List.setIfInBounds_toArray, List.set]
                      refine goG_read 76 hs21 (by rfl) (by rfl) ?_ (by rfl) (fun wz hSw => ?_) ?_
                      rotate_left
                      · go_simp
                        try with_reducible rfl
                      simp only [List.setIfInBounds_toArray, List.set]
                      refine goG_read 77 hs21 (by rfl) (by rfl) ?_ (by rfl) (fun wz hSw => ?_) ?_
                      rotate_left
                      · go_simp
                        try with_reducible rfl
                      simp only [List.setIfInBounds_toArray, List.set]
                      refine goG_read 78 hs21 (by rfl) (by rfl) ?_ (by rfl) (fun wz hSw => ?_) ?_
                      rotate_left
                      · go_simp
                        try with_reducible rfl
                      simp only [List.setIfInBounds_toArray, List.set]
                      refine goG_read 79 hs21 (by rfl) (by rfl) ?_ (by rfl) (fun wz hSw => ?_) ?_
                      rotate_left
                      · go_simp
                        try with_reducible rfl
                      simp only [List.setIfInBounds_toArray, List.set]
                      refine goG_read 80 hs21 (by rfl) (by rfl) ?_ (by rfl) (fun wz hSw => ?_) ?_
                      rotate_left
                      · (have x0 := keepB hSw E4.out); go_simp
                        try with_reducible rfl
                      simp only [List.setIfInBounds_toArray, List.set]
                      refine goG_read 81 hs21 (by rfl) (by rfl) ?_ (by rfl) (fun wz hSw => ?_) ?_
                      rotate_left
                      · go_simp
                        try with_reducible rfl
                      simp only [List.setIfInBounds_toArray, List.set]
                      refine goG_read 82 hs21 (by rfl) (by rfl) ?_ (by rfl) (fun wz hSw => ?_) ?_
                      rotate_left
                      · go_simp
                        try with_reducible rfl
                      simp only [List.setIfInBounds_toArray, List.set]
                      refine goG_read 83 hs21 (by rfl) (by rfl) ?_ (by rfl) (fun wz hSw => ?_) ?_
                      rotate_left
                      · go_simp
                        try with_reducible rfl
                      simp only [List.setIfInBounds_toArray, List.set]
                      refine goG_read 84 hs21 (by rfl) (by rfl) ?_ (by rfl) (fun wz hSw => ?_) ?_
                      rotate_left
                      · go_simp
                        try with_reducible rfl
                      simp only [List.setIfInBounds_toArray, List.set]
                      refine goG_read 85 hs21 (by rfl) (by rfl) ?_ (by rfl) (fun wz hSw => ?_) ?_
                      rotate_left
                      · go_simp
                        try with_reducible rfl
                      simp only [List.setIfInBounds_toArray, List.set]
                      refine goG_read 86 hs21 (by rfl) (by rfl) ?_ (by rfl) (fun wz hSw => ?_) ?_
                      rotate_left
                      · (have x0 := keepB hSw E0.out); (have x1 := keepB hSw E1.out); go_simp
                        try with_reducible rfl
                      simp only [List.setIfInBounds_toArray, List.set]
                      refine goG_read 88 hs21 (by rfl) (by rfl) ?_ (by rfl) (fun wz hSw => ?_) ?_
                      rotate_left
                      · go_simp
                        try with_reducible rfl
                      simp only [List.setIfInBounds_toArray, List.set]
                      refine goG_read 89 hs21 (by rfl) (by rfl) ?_ (by rfl) (fun wz hSw => ?_) ?_
                      rotate_left
                      · go_simp
                        try with_reducible rfl
                      simp only [List.setIfInBounds_toArray, List.set]
                      refine goG_read 90 hs21 (by rfl) (by rfl) ?_ (by rfl) (fun wz hSw => ?_) ?_
                      rotate_left
                      · (have x0 := keepB hSw E2.out); (have x1 := keepB hSw E3.out); go_simp
                        try with_reducible rfl
                      simp only [List.setIfInBounds_toArray, List.set]
                      refine goG_read 93 hs21 (by rfl) (by rfl) ?_ (by rfl) (fun wz hSw => ?_) ?_
                      rotate_left
                      · go_simp
                        try with_reducible rfl
                      simp only [List.setIfInBounds_toArray, List.set]
                      refine goG_read 94 hs21 (by rfl) (by rfl) ?_ (by rfl) (fun wz hSw => ?_) ?_
                      rotate_left
                      · (have x0 := keepB hSw E4.out); go_simp
                        try with_reducible rfl
                      simp only [List.setIfInBounds_toArray, List.set]
                      refine goG_call 87 (by rfl) (by rfl) (by rfl) (by go_simp) (K1.out _ (btr hbW hs21)) ?_
                      rintro e w22 ⟨rfl, hb22⟩
                      have hs22 := btr hs21 hb22
                      refine ⟨_, rfl, fun _ => hs22, ?_⟩
                      simp only [List.setIfInBounds_toArray, List.set]
                      refine goG_call 91 (by rfl) (by rfl) (by rfl) (by go_simp) (K2.out _ (btr hbW hs22)) ?_
                      rintro e w23 ⟨rfl, hb23⟩
                      have hs23 := btr hs22 hb23
                      refine ⟨_, rfl, fun _ => hs23, ?_⟩
                      simp only [List.setIfInBounds_toArray, List.set]
                      refine goG_read 92 hs23 (by rfl) (by rfl) ?_ (by rfl) (fun wz hSw => ?_) ?_
                      rotate_left
                      · go_simp
                        try with_reducible rfl
                      simp only [List.setIfInBounds_toArray, List.set]
                      refine goG_read 95 hs23 (by rfl) (by rfl) ?_ (by rfl) (fun wz hSw => ?_) ?_
                      rotate_left
                      · go_simp
                        try with_reducible rfl
                      simp only [List.setIfInBounds_toArray, List.set]
                      refine goG_read 96 hs23 (by rfl) (by rfl) ?_ (by rfl) (fun wz hSw => ?_) ?_
                      rotate_left
                      · go_simp
                        try with_reducible rfl
                      simp only [List.setIfInBounds_toArray, List.set]
                      change Exit.then _ _ _ _ _
                      rename_i hK
                      refine hK _ _ ?_
                      have E5 := keepB hs23 E4.out
                      go_wp2_with fail
                      exact ⟨⟨0 + 1, by go_num, by omega, by rw [HSN.out], HBN, by rw [HSN.out]; omega, by rw [HSN.out]; omega, btr hbr (btr hbW hs23)⟩, by simp [intOf]; omega⟩
                    · have z4 : (u1 - u2 != qn) = true := by rw [bne_iff_ne]; exact hb4
                      have HE4 := Lib.hid (show ceE l L = 18 by rw [HE3.out, if_pos (badF_first HQ.out (show badQ t (pre L (0)) (qa, qb, qc, qd, qn) = true by unfold badQ pre; rw [if_pos rfl]; simp [show b4 t (qa, qb, qc, qd, qn) = true from (B4.out).trans z4]))])
                      clear hb4 hcn
                      refine wp_region_trg (.read 0 (.read 1 (.read 2 (.read 3 (.step 4 (.read 5 (.read 6 (.read 7 (.read 8 (.read 9 (.read 10 (.read 11 (.read 12 (.read 13 (.read 14 (.read 15 (.read 16 (.read 17 (.step 18 (.read 19 (.read 20 (.read 21 (.read 22 (.read 23 (.read 24 (.read 25 (.read 26 (.read 27 (.read 28 (.read 29 (.read 31 (.read 32 (.read 33 (.read 36 (.read 37 (.step 30 (.step 34 (.read 35 (.read 38 (.read 39 .nil)))))))))))))))))))))))))))))))))))))))) [] (by kernel_rfl) (by rfl) (by kernel_rfl) (by kernel_rfl) (fun _ _ _ _ _ h => h) (fun W' => Below W.heap.size W W') ?_
                      change goG _ _ _ _ _ _ _ W.drew
                      refine goG_read 57 hs0 (by rfl) (by rfl) ?_ (by rfl) (fun wz hSw => ?_) ?_
                      rotate_left
                      · go_simp
                        try with_reducible rfl
                      simp only [List.setIfInBounds_toArray, List.set]
                      refine goG_read 58 hs0 (by rfl) (by rfl) ?_ (by rfl) (fun wz hSw => ?_) ?_
                      rotate_left
                      · (have x0 := keepB hSw E0.out); (have x1 := keepB hSw E1.out); go_simp
                        try with_reducible rfl
                      simp only [List.setIfInBounds_toArray, List.set]
                      refine goG_read 59 hs0 (by rfl) (by rfl) ?_ (by rfl) (fun wz hSw => ?_) ?_
                      rotate_left
                      · go_simp
                        try with_reducible rfl
                      simp only [List.setIfInBounds_toArray, List.set]
                      refine goG_read 60 hs0 (by rfl) (by rfl) ?_ (by rfl) (fun wz hSw => ?_) ?_
                      rotate_left
                      · (have x0 := keepB hSw E2.out); (have x1 := keepB hSw E3.out); go_simp
                        try with_reducible rfl
                      simp only [List.setIfInBounds_toArray, List.set]
                      refine goG_call 61 (by rfl) (by rfl) (by rfl) (by go_simp) (before_any (a := qa) (b := qb) (c := qc) (d := qd) (by omega) (by omega) (by omega) (by omega)) ?_
                      rintro e w21 ⟨rfl, hb21⟩
                      have hs21 := btr hs0 hb21
                      rw [T1.out]
                      refine ⟨_, rfl, fun _ => hs21, ?_⟩
                      simp only [List.setIfInBounds_toArray, List.set]
                      refine goG_read 62 hs21 (by rfl) (by rfl) ?_ (by rfl) (fun wz hSw => ?_) ?_
                      rotate_left
                      · go_simp
                        try with_reducible rfl
                      simp only [List.setIfInBounds_toArray, List.set]
                      refine goG_read 63 hs21 (by rfl) (by rfl) ?_ (by rfl) (fun wz hSw => ?_) ?_
                      rotate_left
                      · go_simp
                        try with_reducible rfl
                      simp only [List.setIfInBounds_toArray, List.set]
                      refine goG_read 64 hs21 (by rfl) (by rfl) ?_ (by rfl) (fun wz hSw => ?_) ?_
                      rotate_left
                      · go_simp
                        try with_reducible rfl
                      simp only [List.setIfInBounds_toArray, List.set]
                      refine goG_read 65 hs21 (by rfl) (by rfl) ?_ (by rfl) (fun wz hSw => ?_) ?_
                      rotate_left
                      · go_simp
                        try with_reducible rfl
                      simp only [List.setIfInBounds_toArray, List.set]
                      refine goG_read 66 hs21 (by rfl) (by rfl) ?_ (by rfl) (fun wz hSw => ?_) ?_
                      rotate_left
                      · go_simp
                        try with_reducible rfl
                      simp only [List.setIfInBounds_toArray, List.set]
                      refine goG_skip 67 hs21 (by rfl) (by rfl) (by rfl) ?_
                      simp only [List.setIfInBounds_toArray, List.set]
                      refine goG_skip 68 hs21 (by rfl) (by rfl) (by rfl) ?_
                      simp only [List.setIfInBounds_toArray, List.set]
                      refine goG_skip 69 hs21 (by rfl) (by rfl) (by rfl) ?_
                      simp only [List.setIfInBounds_toArray, List.set]
                      refine goG_skip 70 hs21 (by rfl) (by rfl) (by rfl) ?_
                      simp only [List.setIfInBounds_toArray, List.set]
                      refine goG_skip 71 hs21 (by rfl) (by rfl) (by rfl) ?_
                      simp only [List.setIfInBounds_toArray, List.set]
                      refine goG_skip 72 hs21 (by rfl) (by rfl) (by rfl) ?_
                      simp only [List.setIfInBounds_toArray, List.set]
                      refine goG_skip 73 hs21 (by rfl) (by rfl) (by rfl) ?_
                      simp only [List.setIfInBounds_toArray, List.set]
                      refine goG_skip 74 hs21 (by rfl) (by rfl) (by rfl) ?_
                      simp only [List.setIfInBounds_toArray, List.set]
                      refine goG_stepSkip 75 hs21 (by rfl) (by rfl) (by rfl) ?_
                      simp only [List.setIfInBounds_toArray, List.set]
                      refine goG_read 76 hs21 (by rfl) (by rfl) ?_ (by rfl) (fun wz hSw => ?_) ?_
                      rotate_left
                      · go_simp
                        try with_reducible rfl
                      simp only [List.setIfInBounds_toArray, List.set]
                      refine goG_read 77 hs21 (by rfl) (by rfl) ?_ (by rfl) (fun wz hSw => ?_) ?_
                      rotate_left
                      · go_simp
                        try with_reducible rfl
                      simp only [List.setIfInBounds_toArray, List.set]
                      refine goG_read 78 hs21 (by rfl) (by rfl) ?_ (by rfl) (fun wz hSw => ?_) ?_
                      rotate_left
                      · go_simp
                        try with_reducible rfl
                      simp only [List.setIfInBounds_toArray, List.set]
                      refine goG_read 79 hs21 (by rfl) (by rfl) ?_ (by rfl) (fun wz hSw => ?_) ?_
                      rotate_left
                      · go_simp
                        try with_reducible rfl
                      simp only [List.setIfInBounds_toArray, List.set]
                      refine goG_read 80 hs21 (by rfl) (by rfl) ?_ (by rfl) (fun wz hSw => ?_) ?_
                      rotate_left
                      · (have x0 := keepB hSw E4.out); go_simp
                        try with_reducible rfl
                      simp only [List.setIfInBounds_toArray, List.set]
                      refine goG_read 81 hs21 (by rfl) (by rfl) ?_ (by rfl) (fun wz hSw => ?_) ?_
                      rotate_left
                      · go_simp
                        try with_reducible rfl
                      simp only [List.setIfInBounds_toArray, List.set]
                      refine goG_read 82 hs21 (by rfl) (by rfl) ?_ (by rfl) (fun wz hSw => ?_) ?_
                      rotate_left
                      · go_simp
                        try with_reducible rfl
                      simp only [List.setIfInBounds_toArray, List.set]
                      refine goG_read 83 hs21 (by rfl) (by rfl) ?_ (by rfl) (fun wz hSw => ?_) ?_
                      rotate_left
                      · go_simp
                        try with_reducible rfl
                      simp only [List.setIfInBounds_toArray, List.set]
                      refine goG_read 84 hs21 (by rfl) (by rfl) ?_ (by rfl) (fun wz hSw => ?_) ?_
                      rotate_left
                      · go_simp
                        try with_reducible rfl
                      simp only [List.setIfInBounds_toArray, List.set]
                      refine goG_read 85 hs21 (by rfl) (by rfl) ?_ (by rfl) (fun wz hSw => ?_) ?_
                      rotate_left
                      · go_simp
                        try with_reducible rfl
                      simp only [List.setIfInBounds_toArray, List.set]
                      refine goG_read 86 hs21 (by rfl) (by rfl) ?_ (by rfl) (fun wz hSw => ?_) ?_
                      rotate_left
                      · (have x0 := keepB hSw E0.out); (have x1 := keepB hSw E1.out); go_simp
                        try with_reducible rfl
                      simp only [List.setIfInBounds_toArray, List.set]
                      refine goG_read 88 hs21 (by rfl) (by rfl) ?_ (by rfl) (fun wz hSw => ?_) ?_
                      rotate_left
                      · go_simp
                        try with_reducible rfl
                      simp only [List.setIfInBounds_toArray, List.set]
                      refine goG_read 89 hs21 (by rfl) (by rfl) ?_ (by rfl) (fun wz hSw => ?_) ?_
                      rotate_left
                      · go_simp
                        try with_reducible rfl
                      simp only [List.setIfInBounds_toArray, List.set]
                      refine goG_read 90 hs21 (by rfl) (by rfl) ?_ (by rfl) (fun wz hSw => ?_) ?_
                      rotate_left
                      · (have x0 := keepB hSw E2.out); (have x1 := keepB hSw E3.out); go_simp
                        try with_reducible rfl
                      simp only [List.setIfInBounds_toArray, List.set]
                      refine goG_read 93 hs21 (by rfl) (by rfl) ?_ (by rfl) (fun wz hSw => ?_) ?_
                      rotate_left
                      · go_simp
                        try with_reducible rfl
                      simp only [List.setIfInBounds_toArray, List.set]
                      refine goG_read 94 hs21 (by rfl) (by rfl) ?_ (by rfl) (fun wz hSw => ?_) ?_
                      rotate_left
                      · (have x0 := keepB hSw E4.out); go_simp
                        try with_reducible rfl
                      simp only [List.setIfInBounds_toArray, List.set]
                      refine goG_call 87 (by rfl) (by rfl) (by rfl) (by go_simp) (K1.out _ (btr hbW hs21)) ?_
                      rintro e w22 ⟨rfl, hb22⟩
                      have hs22 := btr hs21 hb22
                      refine ⟨_, rfl, fun _ => hs22, ?_⟩
                      simp only [List.setIfInBounds_toArray, List.set]
                      refine goG_call 91 (by rfl) (by rfl) (by rfl) (by go_simp) (K2.out _ (btr hbW hs22)) ?_
                      rintro e w23 ⟨rfl, hb23⟩
                      have hs23 := btr hs22 hb23
                      refine ⟨_, rfl, fun _ => hs23, ?_⟩
                      simp only [List.setIfInBounds_toArray, List.set]
                      refine goG_read 92 hs23 (by rfl) (by rfl) ?_ (by rfl) (fun wz hSw => ?_) ?_
                      rotate_left
                      · go_simp
                        try with_reducible rfl
                      simp only [List.setIfInBounds_toArray, List.set]
                      refine goG_read 95 hs23 (by rfl) (by rfl) ?_ (by rfl) (fun wz hSw => ?_) ?_
                      rotate_left
                      · go_simp
                        try with_reducible rfl
                      simp only [List.setIfInBounds_toArray, List.set]
                      refine goG_read 96 hs23 (by rfl) (by rfl) ?_ (by rfl) (fun wz hSw => ?_) ?_
                      rotate_left
                      · go_simp
                        try with_reducible rfl
                      simp only [List.setIfInBounds_toArray, List.set]
                      change Exit.then _ _ _ _ _
                      rename_i hK
                      refine hK _ _ ?_
                      go_wp2_with fail
                      go_ret
                      exact ⟨by rw [HE4.out]; rfl, btr hbz (btr hbW hs23)⟩
                · obtain ⟨p, hpv⟩ : ∃ p, L[m]? = some p := ⟨_, List.getElem?_eq_getElem (by rw [HN.out]; omega)⟩
                  obtain ⟨b', off', eb, p0, p1, p2, p3, p4⟩ := (HL.out.below (btr hbz hbW)).at hpv
                  injection eb with eb
                  injection eb with eb1 eb2 eb3
                  subst eb1 eb2
                  clear eb3
                  have hp2 := HM.out p (List.mem_of_getElem? hpv)
                  have HPV := Lib.hid hpv
                  obtain ⟨pa, pb, pc, pd, pn⟩ := p
                  simp only at p2 p3 hp2
                  obtain ⟨y0, yy⟩ := twE_inv hp2
                  obtain ⟨y11, y12, y13, y14⟩ := cfE_zero yy
                  have V2 := Lib.hid p2
                  have V3 := Lib.hid p3
                  have hwm : IntKind.i64.wrap (m : Int) = m := IntWalk.i64_in _ (by omega)
                  have hmn : m < n' := by omega
                  clear hpv p0 p1 p2 p3 p4 hp2 yy y0
                  by_cases hl2 : qa * pd < pc * qb
                  · have T2 := Lib.hid (decide_eq_true hl2)
                    have HE4 := Lib.hid (show ceE l L = 18 by rw [HE3.out, if_pos (badF_first HQ.out (show badQ t (pre L (m + 1)) (qa, qb, qc, qd, qn) = true by unfold badQ pre; rw [if_neg (by omega), show m + 1 - 1 = m from rfl, HPV.out]; simp [show b2 (pa, pb, pc, pd, pn) (qa, qb, qc, qd, qn) = true from T2.out]))])
                    clear hl2
                    refine wp_region_trg (.read 0 (.read 1 (.read 2 (.read 3 (.step 4 (.read 5 (.read 6 (.read 7 (.read 8 (.read 9 (.read 10 (.read 11 (.read 12 (.read 13 (.read 14 (.read 15 (.read 16 (.read 17 (.step 18 (.read 19 (.read 20 (.read 21 (.read 22 (.read 23 (.read 24 (.read 25 (.read 26 (.read 27 (.read 28 (.read 29 (.read 31 (.read 32 (.read 33 (.read 36 (.read 37 (.step 30 (.step 34 (.read 35 (.read 38 (.read 39 .nil)))))))))))))))))))))))))))))))))))))))) [] (by kernel_rfl) (by rfl) (by kernel_rfl) (by kernel_rfl) (fun _ _ _ _ _ h => h) (fun W' => Below W.heap.size W W') ?_
                    change goG _ _ _ _ _ _ _ W.drew
                    refine goG_read 57 hs0 (by rfl) (by rfl) ?_ (by rfl) (fun wz hSw => ?_) ?_
                    rotate_left
                    · go_simp
                      try with_reducible rfl
                    simp only [List.setIfInBounds_toArray, List.set]
                    refine goG_read 58 hs0 (by rfl) (by rfl) ?_ (by rfl) (fun wz hSw => ?_) ?_
                    rotate_left
                    · (have x0 := keepB hSw E0.out); (have x1 := keepB hSw E1.out); go_simp
                      try with_reducible rfl
                    simp only [List.setIfInBounds_toArray, List.set]
                    refine goG_read 59 hs0 (by rfl) (by rfl) ?_ (by rfl) (fun wz hSw => ?_) ?_
                    rotate_left
                    · go_simp
                      try with_reducible rfl
                    simp only [List.setIfInBounds_toArray, List.set]
                    refine goG_read 60 hs0 (by rfl) (by rfl) ?_ (by rfl) (fun wz hSw => ?_) ?_
                    rotate_left
                    · (have x0 := keepB hSw E2.out); (have x1 := keepB hSw E3.out); go_simp
                      try with_reducible rfl
                    simp only [List.setIfInBounds_toArray, List.set]
                    refine goG_call 61 (by rfl) (by rfl) (by rfl) (by go_simp) (before_any (a := qa) (b := qb) (c := qc) (d := qd) (by omega) (by omega) (by omega) (by omega)) ?_
                    rintro e w21 ⟨rfl, hb21⟩
                    have hs21 := btr hs0 hb21
                    rw [T1.out]
                    refine ⟨_, rfl, fun _ => hs21, ?_⟩
                    simp only [List.setIfInBounds_toArray, List.set]
                    refine goG_read 62 hs21 (by rfl) (by rfl) ?_ (by rfl) (fun wz hSw => ?_) ?_
                    rotate_left
                    · go_simp
                      try with_reducible rfl
                    simp only [List.setIfInBounds_toArray, List.set]
                    refine goG_read 63 hs21 (by rfl) (by rfl) ?_ (by rfl) (fun wz hSw => ?_) ?_
                    rotate_left
                    · go_simp
                      try with_reducible rfl
                    simp only [List.setIfInBounds_toArray, List.set]
                    refine goG_read 64 hs21 (by rfl) (by rfl) ?_ (by rfl) (fun wz hSw => ?_) ?_
                    rotate_left
                    · go_simp
                      try with_reducible rfl
                    simp only [List.setIfInBounds_toArray, List.set]
                    refine goG_read 65 hs21 (by rfl) (by rfl) ?_ (by rfl) (fun wz hSw => ?_) ?_
                    rotate_left
                    · go_simp
                      try with_reducible rfl
                    simp only [List.setIfInBounds_toArray, List.set]
                    refine goG_read 66 hs21 (by rfl) (by rfl) ?_ (by rfl) (fun wz hSw => ?_) ?_
                    rotate_left
                    · go_simp
                      try with_reducible rfl
                    simp only [List.setIfInBounds_toArray, List.set]
                    refine goG_read 67 hs21 (by rfl) (by rfl) ?_ (by rfl) (fun wz hSw => ?_) ?_
                    rotate_left
                    · go_simp
                      try with_reducible rfl
                    simp only [List.setIfInBounds_toArray, List.set]
                    refine goG_read 68 hs21 (by rfl) (by rfl) ?_ (by rfl) (fun wz hSw => ?_) ?_
                    rotate_left
                    · (have x0 := keepB hSw E0.out); (have x1 := keepB hSw E1.out); go_simp
                      try with_reducible rfl
                    simp only [List.setIfInBounds_toArray, List.set]
                    refine goG_read 69 hs21 (by rfl) (by rfl) ?_ (by rfl) (fun wz hSw => ?_) ?_
                    rotate_left
                    · go_simp
                      try with_reducible rfl
                    simp only [List.setIfInBounds_toArray, List.set]
                    refine goG_read 70 hs21 (by rfl) (by rfl) ?_ (by rfl) (fun wz hSw => ?_) ?_
                    rotate_left
                    · go_simp
                      try with_reducible rfl
                    simp only [List.setIfInBounds_toArray, List.set]
                    refine goG_read 71 hs21 (by rfl) (by rfl) ?_ (by rfl) (fun wz hSw => ?_) ?_
                    rotate_left
                    · go_simp
                      try with_reducible rfl
                    simp only [List.setIfInBounds_toArray, List.set]
                    refine goG_read 72 hs21 (by rfl) (by rfl) ?_ (by rfl) (fun wz hSw => ?_) ?_
                    rotate_left
                    · go_simp
                      try with_reducible rfl
                    simp only [List.setIfInBounds_toArray, List.set]
                    refine goG_read 73 hs21 (by rfl) (by rfl) ?_ (by rfl) (fun wz hSw => ?_) ?_
                    rotate_left
                    · go_simp
                      try with_reducible rfl
                    simp only [List.setIfInBounds_toArray, List.set]
                    refine goG_read 74 hs21 (by rfl) (by rfl) ?_ (by rfl) (fun wz hSw => ?_) ?_
                    rotate_left
                    · (have x0 := keepB hSw V2.out); (have x1 := keepB hSw V3.out); go_simp
                      try with_reducible rfl
                    simp only [List.setIfInBounds_toArray, List.set]
                    refine goG_call 75 (by rfl) (by rfl) (by rfl) (by go_simp) (before_any (a := qa) (b := qb) (c := pc) (d := pd) (by omega) (by omega) (by omega) (by omega)) ?_
                    rintro e w22 ⟨rfl, hb22⟩
                    have hs22 := btr hs21 hb22
                    rw [T2.out]
                    refine ⟨_, rfl, fun _ => hs22, ?_⟩
                    simp only [List.setIfInBounds_toArray, List.set]
                    refine goG_read 76 hs22 (by rfl) (by rfl) ?_ (by rfl) (fun wz hSw => ?_) ?_
                    rotate_left
                    · go_simp
                      try with_reducible rfl
                    simp only [List.setIfInBounds_toArray, List.set]
                    refine goG_read 77 hs22 (by rfl) (by rfl) ?_ (by rfl) (fun wz hSw => ?_) ?_
                    rotate_left
                    · go_simp
                      try with_reducible rfl
                    simp only [List.setIfInBounds_toArray, List.set]
                    refine goG_read 78 hs22 (by rfl) (by rfl) ?_ (by rfl) (fun wz hSw => ?_) ?_
                    rotate_left
                    · go_simp
                      try with_reducible rfl
                    simp only [List.setIfInBounds_toArray, List.set]
                    refine goG_skip 79 hs22 (by rfl) (by rfl) (by rfl) ?_
                    simp only [List.setIfInBounds_toArray, List.set]
                    refine goG_skip 80 hs22 (by rfl) (by rfl) (by rfl) ?_
                    simp only [List.setIfInBounds_toArray, List.set]
                    refine goG_skip 81 hs22 (by rfl) (by rfl) (by rfl) ?_
                    simp only [List.setIfInBounds_toArray, List.set]
                    refine goG_read 82 hs22 (by rfl) (by rfl) ?_ (by rfl) (fun wz hSw => ?_) ?_
                    rotate_left
                    · go_simp
                      try with_reducible rfl
                    simp only [List.setIfInBounds_toArray, List.set]
                    refine goG_read 83 hs22 (by rfl) (by rfl) ?_ (by rfl) (fun wz hSw => ?_) ?_
                    rotate_left
                    · go_simp
                      try with_reducible rfl
                    simp only [List.setIfInBounds_toArray, List.set]
                    refine goG_skip 84 hs22 (by rfl) (by rfl) (by rfl) ?_
                    simp only [List.setIfInBounds_toArray, List.set]
                    refine goG_skip 85 hs22 (by rfl) (by rfl) (by rfl) ?_
                    simp only [List.setIfInBounds_toArray, List.set]
                    refine goG_skip 86 hs22 (by rfl) (by rfl) (by rfl) ?_
                    simp only [List.setIfInBounds_toArray, List.set]
                    refine goG_skip 88 hs22 (by rfl) (by rfl) (by rfl) ?_
                    simp only [List.setIfInBounds_toArray, List.set]
                    refine goG_skip 89 hs22 (by rfl) (by rfl) (by rfl) ?_
                    simp only [List.setIfInBounds_toArray, List.set]
                    refine goG_skip 90 hs22 (by rfl) (by rfl) (by rfl) ?_
                    simp only [List.setIfInBounds_toArray, List.set]
                    refine goG_skip 93 hs22 (by rfl) (by rfl) (by rfl) ?_
                    simp only [List.setIfInBounds_toArray, List.set]
                    refine goG_skip 94 hs22 (by rfl) (by rfl) (by rfl) ?_
                    simp only [List.setIfInBounds_toArray, List.set]
                    refine goG_stepSkip 87 hs22 (by rfl) (by rfl) (by rfl) ?_
                    simp only [List.setIfInBounds_toArray, List.set]
                    refine goG_stepSkip 91 hs22 (by rfl) (by rfl) (by rfl) ?_
                    simp only [List.setIfInBounds_toArray, List.set]
                    refine goG_skip 92 hs22 (by rfl) (by rfl) (by rfl) ?_
                    simp only [List.setIfInBounds_toArray, List.set]
                    refine goG_skip 95 hs22 (by rfl) (by rfl) (by rfl) ?_
                    simp only [List.setIfInBounds_toArray, List.set]
                    refine goG_read 96 hs22 (by rfl) (by rfl) ?_ (by rfl) (fun wz hSw => ?_) ?_
                    rotate_left
                    · go_simp
                      try with_reducible rfl
                    simp only [List.setIfInBounds_toArray, List.set]
                    change Exit.then _ _ _ _ _
                    rename_i hK
                    refine hK _ _ ?_
                    go_wp2_with fail
                    go_ret
                    exact ⟨by rw [HE4.out]; rfl, btr hbz (btr hbW hs22)⟩
                  · have T2 := Lib.hid (decide_eq_false hl2)
                    clear hl2
                    by_cases hcn : qn < 1
                    · have hc : decide (qn < 1) = true := decide_eq_true hcn
                      have HE4 := Lib.hid (show ceE l L = 18 by rw [HE3.out, if_pos (badF_first HQ.out (show badQ t (pre L (m + 1)) (qa, qb, qc, qd, qn) = true by unfold badQ pre; rw [if_neg (by omega), show m + 1 - 1 = m from rfl, HPV.out]; simp [hc]))])
                      clear hcn
                      refine wp_region_trg (.read 0 (.read 1 (.read 2 (.read 3 (.step 4 (.read 5 (.read 6 (.read 7 (.read 8 (.read 9 (.read 10 (.read 11 (.read 12 (.read 13 (.read 14 (.read 15 (.read 16 (.read 17 (.step 18 (.read 19 (.read 20 (.read 21 (.read 22 (.read 23 (.read 24 (.read 25 (.read 26 (.read 27 (.read 28 (.read 29 (.read 31 (.read 32 (.read 33 (.read 36 (.read 37 (.step 30 (.step 34 (.read 35 (.read 38 (.read 39 .nil)))))))))))))))))))))))))))))))))))))))) [] (by kernel_rfl) (by rfl) (by kernel_rfl) (by kernel_rfl) (fun _ _ _ _ _ h => h) (fun W' => Below W.heap.size W W') ?_
                      change goG _ _ _ _ _ _ _ W.drew
                      refine goG_read 57 hs0 (by rfl) (by rfl) ?_ (by rfl) (fun wz hSw => ?_) ?_
                      rotate_left
                      · go_simp
                        try with_reducible rfl
                      simp only [List.setIfInBounds_toArray, List.set]
                      refine goG_read 58 hs0 (by rfl) (by rfl) ?_ (by rfl) (fun wz hSw => ?_) ?_
                      rotate_left
                      · (have x0 := keepB hSw E0.out); (have x1 := keepB hSw E1.out); go_simp
                        try with_reducible rfl
                      simp only [List.setIfInBounds_toArray, List.set]
                      refine goG_read 59 hs0 (by rfl) (by rfl) ?_ (by rfl) (fun wz hSw => ?_) ?_
                      rotate_left
                      · go_simp
                        try with_reducible rfl
                      simp only [List.setIfInBounds_toArray, List.set]
                      refine goG_read 60 hs0 (by rfl) (by rfl) ?_ (by rfl) (fun wz hSw => ?_) ?_
                      rotate_left
                      · (have x0 := keepB hSw E2.out); (have x1 := keepB hSw E3.out); go_simp
                        try with_reducible rfl
                      simp only [List.setIfInBounds_toArray, List.set]
                      refine goG_call 61 (by rfl) (by rfl) (by rfl) (by go_simp) (before_any (a := qa) (b := qb) (c := qc) (d := qd) (by omega) (by omega) (by omega) (by omega)) ?_
                      rintro e w21 ⟨rfl, hb21⟩
                      have hs21 := btr hs0 hb21
                      rw [T1.out]
                      refine ⟨_, rfl, fun _ => hs21, ?_⟩
                      simp only [List.setIfInBounds_toArray, List.set]
                      refine goG_read 62 hs21 (by rfl) (by rfl) ?_ (by rfl) (fun wz hSw => ?_) ?_
                      rotate_left
                      · go_simp
                        try with_reducible rfl
                      simp only [List.setIfInBounds_toArray, List.set]
                      refine goG_read 63 hs21 (by rfl) (by rfl) ?_ (by rfl) (fun wz hSw => ?_) ?_
                      rotate_left
                      · go_simp
                        try with_reducible rfl
                      simp only [List.setIfInBounds_toArray, List.set]
                      refine goG_read 64 hs21 (by rfl) (by rfl) ?_ (by rfl) (fun wz hSw => ?_) ?_
                      rotate_left
                      · go_simp
                        try with_reducible rfl
                      simp only [List.setIfInBounds_toArray, List.set]
                      refine goG_read 65 hs21 (by rfl) (by rfl) ?_ (by rfl) (fun wz hSw => ?_) ?_
                      rotate_left
                      · go_simp
                        try with_reducible rfl
                      simp only [List.setIfInBounds_toArray, List.set]
                      refine goG_read 66 hs21 (by rfl) (by rfl) ?_ (by rfl) (fun wz hSw => ?_) ?_
                      rotate_left
                      · go_simp
                        try with_reducible rfl
                      simp only [List.setIfInBounds_toArray, List.set]
                      refine goG_read 67 hs21 (by rfl) (by rfl) ?_ (by rfl) (fun wz hSw => ?_) ?_
                      rotate_left
                      · go_simp
                        try with_reducible rfl
                      simp only [List.setIfInBounds_toArray, List.set]
                      refine goG_read 68 hs21 (by rfl) (by rfl) ?_ (by rfl) (fun wz hSw => ?_) ?_
                      rotate_left
                      · (have x0 := keepB hSw E0.out); (have x1 := keepB hSw E1.out); go_simp
                        try with_reducible rfl
                      simp only [List.setIfInBounds_toArray, List.set]
                      refine goG_read 69 hs21 (by rfl) (by rfl) ?_ (by rfl) (fun wz hSw => ?_) ?_
                      rotate_left
                      · go_simp
                        try with_reducible rfl
                      simp only [List.setIfInBounds_toArray, List.set]
                      refine goG_read 70 hs21 (by rfl) (by rfl) ?_ (by rfl) (fun wz hSw => ?_) ?_
                      rotate_left
                      · go_simp
                        try with_reducible rfl
                      simp only [List.setIfInBounds_toArray, List.set]
                      refine goG_read 71 hs21 (by rfl) (by rfl) ?_ (by rfl) (fun wz hSw => ?_) ?_
                      rotate_left
                      · go_simp
                        try with_reducible rfl
                      simp only [List.setIfInBounds_toArray, List.set]
                      refine goG_read 72 hs21 (by rfl) (by rfl) ?_ (by rfl) (fun wz hSw => ?_) ?_
                      rotate_left
                      · go_simp
                        try with_reducible rfl
                      simp only [List.setIfInBounds_toArray, List.set]
                      refine goG_read 73 hs21 (by rfl) (by rfl) ?_ (by rfl) (fun wz hSw => ?_) ?_
                      rotate_left
                      · go_simp
                        try with_reducible rfl
                      simp only [List.setIfInBounds_toArray, List.set]
                      refine goG_read 74 hs21 (by rfl) (by rfl) ?_ (by rfl) (fun wz hSw => ?_) ?_
                      rotate_left
                      · (have x0 := keepB hSw V2.out); (have x1 := keepB hSw V3.out); go_simp
                        try with_reducible rfl
                      simp only [List.setIfInBounds_toArray, List.set]
                      refine goG_call 75 (by rfl) (by rfl) (by rfl) (by go_simp) (before_any (a := qa) (b := qb) (c := pc) (d := pd) (by omega) (by omega) (by omega) (by omega)) ?_
                      rintro e w22 ⟨rfl, hb22⟩
                      have hs22 := btr hs21 hb22
                      rw [T2.out]
                      refine ⟨_, rfl, fun _ => hs22, ?_⟩
                      simp only [List.setIfInBounds_toArray, List.set]
                      refine goG_read 76 hs22 (by rfl) (by rfl) ?_ (by rfl) (fun wz hSw => ?_) ?_
                      rotate_left
                      · go_simp
                        try with_reducible rfl
                      simp only [List.setIfInBounds_toArray, List.set]
                      refine goG_read 77 hs22 (by rfl) (by rfl) ?_ (by rfl) (fun wz hSw => ?_) ?_
                      rotate_left
                      · go_simp
                        try with_reducible rfl
                      simp only [List.setIfInBounds_toArray, List.set]
                      refine goG_read 78 hs22 (by rfl) (by rfl) ?_ (by rfl) (fun wz hSw => ?_) ?_
                      rotate_left
                      · go_simp
                        try with_reducible rfl
                      simp only [List.setIfInBounds_toArray, List.set]
                      refine goG_read 79 hs22 (by rfl) (by rfl) ?_ (by rfl) (fun wz hSw => ?_) ?_
                      rotate_left
                      · go_simp
                        try with_reducible rfl
                      simp only [List.setIfInBounds_toArray, List.set]
                      refine goG_read 80 hs22 (by rfl) (by rfl) ?_ (by rfl) (fun wz hSw => ?_) ?_
                      rotate_left
                      · (have x0 := keepB hSw E4.out); go_simp
                        try with_reducible rfl
                      simp only [List.setIfInBounds_toArray, List.set]
                      refine goG_read 81 hs22 (by rfl) (by rfl) ?_ (by rfl) (fun wz hSw => ?_) ?_
                      rotate_left
                      · go_simp
                        try with_reducible rfl
                      simp only [List.setIfInBounds_toArray, List.set]
                      refine goG_read 82 hs22 (by rfl) (by rfl) ?_ (by rfl) (fun wz hSw => ?_) ?_
                      rotate_left
                      · go_simp
                        try with_reducible rfl
                      simp only [List.setIfInBounds_toArray, List.set]
                      refine goG_read 83 hs22 (by rfl) (by rfl) ?_ (by rfl) (fun wz hSw => ?_) ?_
                      rotate_left
                      · go_simp
                        try with_reducible rfl
                      simp only [List.setIfInBounds_toArray, List.set]
                      refine goG_skip 84 hs22 (by rfl) (by rfl) (by rfl) ?_
                      simp only [List.setIfInBounds_toArray, List.set]
                      refine goG_skip 85 hs22 (by rfl) (by rfl) (by rfl) ?_
                      simp only [List.setIfInBounds_toArray, List.set]
                      refine goG_skip 86 hs22 (by rfl) (by rfl) (by rfl) ?_
                      simp only [List.setIfInBounds_toArray, List.set]
                      refine goG_skip 88 hs22 (by rfl) (by rfl) (by rfl) ?_
                      simp only [List.setIfInBounds_toArray, List.set]
                      refine goG_skip 89 hs22 (by rfl) (by rfl) (by rfl) ?_
                      simp only [List.setIfInBounds_toArray, List.set]
                      refine goG_skip 90 hs22 (by rfl) (by rfl) (by rfl) ?_
                      simp only [List.setIfInBounds_toArray, List.set]
                      refine goG_skip 93 hs22 (by rfl) (by rfl) (by rfl) ?_
                      simp only [List.setIfInBounds_toArray, List.set]
                      refine goG_skip 94 hs22 (by rfl) (by rfl) (by rfl) ?_
                      simp only [List.setIfInBounds_toArray, List.set]
                      refine goG_stepSkip 87 hs22 (by rfl) (by rfl) (by rfl) ?_
                      simp only [List.setIfInBounds_toArray, List.set]
                      refine goG_stepSkip 91 hs22 (by rfl) (by rfl) (by rfl) ?_
                      simp only [List.setIfInBounds_toArray, List.set]
                      refine goG_skip 92 hs22 (by rfl) (by rfl) (by rfl) ?_
                      simp only [List.setIfInBounds_toArray, List.set]
                      refine goG_skip 95 hs22 (by rfl) (by rfl) (by rfl) ?_
                      simp only [List.setIfInBounds_toArray, List.set]
                      refine goG_read 96 hs22 (by rfl) (by rfl) ?_ (by rfl) (fun wz hSw => ?_) ?_
                      rotate_left
                      · go_simp
                        try with_reducible rfl
                      simp only [List.setIfInBounds_toArray, List.set]
                      change Exit.then _ _ _ _ _
                      rename_i hK
                      refine hK _ _ ?_
                      go_wp2_with fail
                      go_ret
                      exact ⟨by rw [HE4.out]; rfl, btr hbz (btr hbW hs22)⟩
                    · skip
                      have hc : decide (qn < 1) = false := decide_eq_false hcn
                      have hwu : IntKind.i64.wrap (u1 - u2) = u1 - u2 := IntWalk.i64_in _ (by omega)
                      by_cases hb4 : u1 - u2 = qn
                      · have z4 : (u1 - u2 != qn) = false := by rw [bne_eq_false_iff_eq]; exact hb4
                        have HBN := Lib.hid (badF_next HQ.out HB.out (show badQ t (pre L (m + 1)) (qa, qb, qc, qd, qn) = false by unfold badQ pre; rw [if_neg (by omega), show m + 1 - 1 = m from rfl, HPV.out]; rw [B1.out]; simp [show b2 (pa, pb, pc, pd, pn) (qa, qb, qc, qd, qn) = false from T2.out, hc, show b4 t (qa, qb, qc, qd, qn) = false from (B4.out).trans z4]))
                        have hqq : 0 ≤ qn ∧ qn ≤ 12 := by omega
                        clear hb4 hcn
                        refine wp_region_trg (.read 0 (.read 1 (.read 2 (.read 3 (.step 4 (.read 5 (.read 6 (.read 7 (.read 8 (.read 9 (.read 10 (.read 11 (.read 12 (.read 13 (.read 14 (.read 15 (.read 16 (.read 17 (.step 18 (.read 19 (.read 20 (.read 21 (.read 22 (.read 23 (.read 24 (.read 25 (.read 26 (.read 27 (.read 28 (.read 29 (.read 31 (.read 32 (.read 33 (.read 36 (.read 37 (.step 30 (.step 34 (.read 35 (.read 38 (.read 39 .nil)))))))))))))))))))))))))))))))))))))))) [] (by kernel_rfl) (by rfl) (by kernel_rfl) (by kernel_rfl) (fun _ _ _ _ _ h => h) (fun W' => Below W.heap.size W W') ?_
                        change goG _ _ _ _ _ _ _ W.drew
                        refine goG_read 57 hs0 (by rfl) (by rfl) ?_ (by rfl) (fun wz hSw => ?_) ?_
                        rotate_left
                        · go_simp
                          try with_reducible rfl
                        simp only [List.setIfInBounds_toArray, List.set]
                        refine goG_read 58 hs0 (by rfl) (by rfl) ?_ (by rfl) (fun wz hSw => ?_) ?_
                        rotate_left
                        · (have x0 := keepB hSw E0.out); (have x1 := keepB hSw E1.out); go_simp
                          try with_reducible rfl
                        simp only [List.setIfInBounds_toArray, List.set]
                        refine goG_read 59 hs0 (by rfl) (by rfl) ?_ (by rfl) (fun wz hSw => ?_) ?_
                        rotate_left
                        · go_simp
                          try with_reducible rfl
                        simp only [List.setIfInBounds_toArray, List.set]
                        refine goG_read 60 hs0 (by rfl) (by rfl) ?_ (by rfl) (fun wz hSw => ?_) ?_
                        rotate_left
                        · (have x0 := keepB hSw E2.out); (have x1 := keepB hSw E3.out); go_simp
                          try with_reducible rfl
                        simp only [List.setIfInBounds_toArray, List.set]
                        refine goG_call 61 (by rfl) (by rfl) (by rfl) (by go_simp) (before_any (a := qa) (b := qb) (c := qc) (d := qd) (by omega) (by omega) (by omega) (by omega)) ?_
                        rintro e w21 ⟨rfl, hb21⟩
                        have hs21 := btr hs0 hb21
                        rw [T1.out]
                        refine ⟨_, rfl, fun _ => hs21, ?_⟩
                        simp only [List.setIfInBounds_toArray, List.set]
                        refine goG_read 62 hs21 (by rfl) (by rfl) ?_ (by rfl) (fun wz hSw => ?_) ?_
                        rotate_left
                        · go_simp
                          try with_reducible rfl
                        simp only [List.setIfInBounds_toArray, List.set]
                        refine goG_read 63 hs21 (by rfl) (by rfl) ?_ (by rfl) (fun wz hSw => ?_) ?_
                        rotate_left
                        · go_simp
                          try with_reducible rfl
                        simp only [List.setIfInBounds_toArray, List.set]
                        refine goG_read 64 hs21 (by rfl) (by rfl) ?_ (by rfl) (fun wz hSw => ?_) ?_
                        rotate_left
                        · go_simp
                          try with_reducible rfl
                        simp only [List.setIfInBounds_toArray, List.set]
                        refine goG_read 65 hs21 (by rfl) (by rfl) ?_ (by rfl) (fun wz hSw => ?_) ?_
                        rotate_left
                        · go_simp
                          try with_reducible rfl
                        simp only [List.setIfInBounds_toArray, List.set]
                        refine goG_read 66 hs21 (by rfl) (by rfl) ?_ (by rfl) (fun wz hSw => ?_) ?_
                        rotate_left
                        · go_simp
                          try with_reducible rfl
                        simp only [List.setIfInBounds_toArray, List.set]
                        refine goG_read 67 hs21 (by rfl) (by rfl) ?_ (by rfl) (fun wz hSw => ?_) ?_
                        rotate_left
                        · go_simp
                          try with_reducible rfl
                        simp only [List.setIfInBounds_toArray, List.set]
                        refine goG_read 68 hs21 (by rfl) (by rfl) ?_ (by rfl) (fun wz hSw => ?_) ?_
                        rotate_left
                        · (have x0 := keepB hSw E0.out); (have x1 := keepB hSw E1.out); go_simp
                          try with_reducible rfl
                        simp only [List.setIfInBounds_toArray, List.set]
                        refine goG_read 69 hs21 (by rfl) (by rfl) ?_ (by rfl) (fun wz hSw => ?_) ?_
                        rotate_left
                        · go_simp
                          try with_reducible rfl
                        simp only [List.setIfInBounds_toArray, List.set]
                        refine goG_read 70 hs21 (by rfl) (by rfl) ?_ (by rfl) (fun wz hSw => ?_) ?_
                        rotate_left
                        · go_simp
                          try with_reducible rfl
                        simp only [List.setIfInBounds_toArray, List.set]
                        refine goG_read 71 hs21 (by rfl) (by rfl) ?_ (by rfl) (fun wz hSw => ?_) ?_
                        rotate_left
                        · go_simp
                          try with_reducible rfl
                        simp only [List.setIfInBounds_toArray, List.set]
                        refine goG_read 72 hs21 (by rfl) (by rfl) ?_ (by rfl) (fun wz hSw => ?_) ?_
                        rotate_left
                        · go_simp
                          try with_reducible rfl
                        simp only [List.setIfInBounds_toArray, List.set]
                        refine goG_read 73 hs21 (by rfl) (by rfl) ?_ (by rfl) (fun wz hSw => ?_) ?_
                        rotate_left
                        · go_simp
                          try with_reducible rfl
                        simp only [List.setIfInBounds_toArray, List.set]
                        refine goG_read 74 hs21 (by rfl) (by rfl) ?_ (by rfl) (fun wz hSw => ?_) ?_
                        rotate_left
                        · (have x0 := keepB hSw V2.out); (have x1 := keepB hSw V3.out); go_simp
                          try with_reducible rfl
                        simp only [List.setIfInBounds_toArray, List.set]
                        refine goG_call 75 (by rfl) (by rfl) (by rfl) (by go_simp) (before_any (a := qa) (b := qb) (c := pc) (d := pd) (by omega) (by omega) (by omega) (by omega)) ?_
                        rintro e w22 ⟨rfl, hb22⟩
                        have hs22 := btr hs21 hb22
                        rw [T2.out]
                        refine ⟨_, rfl, fun _ => hs22, ?_⟩
                        simp only [List.setIfInBounds_toArray, List.set]
                        refine goG_read 76 hs22 (by rfl) (by rfl) ?_ (by rfl) (fun wz hSw => ?_) ?_
                        rotate_left
                        · go_simp
                          try with_reducible rfl
                        simp only [List.setIfInBounds_toArray, List.set]
                        refine goG_read 77 hs22 (by rfl) (by rfl) ?_ (by rfl) (fun wz hSw => ?_) ?_
                        rotate_left
                        · go_simp
                          try with_reducible rfl
                        simp only [List.setIfInBounds_toArray, List.set]
                        refine goG_read 78 hs22 (by rfl) (by rfl) ?_ (by rfl) (fun wz hSw => ?_) ?_
                        rotate_left
                        · go_simp
                          try with_reducible rfl
                        simp only [List.setIfInBounds_toArray, List.set]
                        refine goG_read 79 hs22 (by rfl) (by rfl) ?_ (by rfl) (fun wz hSw => ?_) ?_
                        rotate_left
                        · go_simp
                          try with_reducible rfl
                        simp only [List.setIfInBounds_toArray, List.set]
                        refine goG_read 80 hs22 (by rfl) (by rfl) ?_ (by rfl) (fun wz hSw => ?_) ?_
                        rotate_left
                        · (have x0 := keepB hSw E4.out); go_simp
                          try with_reducible rfl
                        simp only [List.setIfInBounds_toArray, List.set]
                        refine goG_read 81 hs22 (by rfl) (by rfl) ?_ (by rfl) (fun wz hSw => ?_) ?_
                        rotate_left
                        · go_simp
                          try with_reducible rfl
                        simp only [List.setIfInBounds_toArray, List.set]
                        refine goG_read 82 hs22 (by rfl) (by rfl) ?_ (by rfl) (fun wz hSw => ?_) ?_
                        rotate_left
                        · go_simp
                          try with_reducible rfl
                        simp only [List.setIfInBounds_toArray, List.set]
                        refine goG_read 83 hs22 (by rfl) (by rfl) ?_ (by rfl) (fun wz hSw => ?_) ?_
                        rotate_left
                        · go_simp
                          try with_reducible rfl
                        simp only [List.setIfInBounds_toArray, List.set]
                        refine goG_read 84 hs22 (by rfl) (by rfl) ?_ (by rfl) (fun wz hSw => ?_) ?_
                        rotate_left
                        · go_simp
                          try with_reducible rfl
                        simp only [List.setIfInBounds_toArray, List.set]
                        refine goG_read 85 hs22 (by rfl) (by rfl) ?_ (by rfl) (fun wz hSw => ?_) ?_
                        rotate_left
                        · go_simp
                          try with_reducible rfl
                        simp only [List.setIfInBounds_toArray, List.set]
                        refine goG_read 86 hs22 (by rfl) (by rfl) ?_ (by rfl) (fun wz hSw => ?_) ?_
                        rotate_left
                        · (have x0 := keepB hSw E0.out); (have x1 := keepB hSw E1.out); go_simp
                          try with_reducible rfl
                        simp only [List.setIfInBounds_toArray, List.set]
                        refine goG_read 88 hs22 (by rfl) (by rfl) ?_ (by rfl) (fun wz hSw => ?_) ?_
                        rotate_left
                        · go_simp
                          try with_reducible rfl
                        simp only [List.setIfInBounds_toArray, List.set]
                        refine goG_read 89 hs22 (by rfl) (by rfl) ?_ (by rfl) (fun wz hSw => ?_) ?_
                        rotate_left
                        · go_simp
                          try with_reducible rfl
                        simp only [List.setIfInBounds_toArray, List.set]
                        refine goG_read 90 hs22 (by rfl) (by rfl) ?_ (by rfl) (fun wz hSw => ?_) ?_
                        rotate_left
                        · (have x0 := keepB hSw E2.out); (have x1 := keepB hSw E3.out); go_simp
                          try with_reducible rfl
                        simp only [List.setIfInBounds_toArray, List.set]
                        refine goG_read 93 hs22 (by rfl) (by rfl) ?_ (by rfl) (fun wz hSw => ?_) ?_
                        rotate_left
                        · go_simp
                          try with_reducible rfl
                        simp only [List.setIfInBounds_toArray, List.set]
                        refine goG_read 94 hs22 (by rfl) (by rfl) ?_ (by rfl) (fun wz hSw => ?_) ?_
                        rotate_left
                        · (have x0 := keepB hSw E4.out); go_simp
                          try with_reducible rfl
                        simp only [List.setIfInBounds_toArray, List.set]
                        refine goG_call 87 (by rfl) (by rfl) (by rfl) (by go_simp) (K1.out _ (btr hbW hs22)) ?_
                        rintro e w23 ⟨rfl, hb23⟩
                        have hs23 := btr hs22 hb23
                        refine ⟨_, rfl, fun _ => hs23, ?_⟩
                        simp only [List.setIfInBounds_toArray, List.set]
                        refine goG_call 91 (by rfl) (by rfl) (by rfl) (by go_simp) (K2.out _ (btr hbW hs23)) ?_
                        rintro e w24 ⟨rfl, hb24⟩
                        have hs24 := btr hs23 hb24
                        refine ⟨_, rfl, fun _ => hs24, ?_⟩
                        simp only [List.setIfInBounds_toArray, List.set]
                        refine goG_read 92 hs24 (by rfl) (by rfl) ?_ (by rfl) (fun wz hSw => ?_) ?_
                        rotate_left
                        · go_simp
                          try with_reducible rfl
                        simp only [List.setIfInBounds_toArray, List.set]
                        refine goG_read 95 hs24 (by rfl) (by rfl) ?_ (by rfl) (fun wz hSw => ?_) ?_
                        rotate_left
                        · go_simp
                          try with_reducible rfl
                        simp only [List.setIfInBounds_toArray, List.set]
                        refine goG_read 96 hs24 (by rfl) (by rfl) ?_ (by rfl) (fun wz hSw => ?_) ?_
                        rotate_left
                        · go_simp
                          try with_reducible rfl
                        simp only [List.setIfInBounds_toArray, List.set]
                        change Exit.then _ _ _ _ _
                        rename_i hK
                        refine hK _ _ ?_
                        have E5 := keepB hs24 E4.out
                        go_wp2_with fail
                        exact ⟨⟨m + 1 + 1, by go_num, by omega, by rw [HSN.out], HBN, by rw [HSN.out]; omega, by rw [HSN.out]; omega, btr hbr (btr hbW hs24)⟩, by simp [intOf]; omega⟩
                      · have z4 : (u1 - u2 != qn) = true := by rw [bne_iff_ne]; exact hb4
                        have HE4 := Lib.hid (show ceE l L = 18 by rw [HE3.out, if_pos (badF_first HQ.out (show badQ t (pre L (m + 1)) (qa, qb, qc, qd, qn) = true by unfold badQ pre; rw [if_neg (by omega), show m + 1 - 1 = m from rfl, HPV.out]; simp [show b4 t (qa, qb, qc, qd, qn) = true from (B4.out).trans z4]))])
                        clear hb4 hcn
                        refine wp_region_trg (.read 0 (.read 1 (.read 2 (.read 3 (.step 4 (.read 5 (.read 6 (.read 7 (.read 8 (.read 9 (.read 10 (.read 11 (.read 12 (.read 13 (.read 14 (.read 15 (.read 16 (.read 17 (.step 18 (.read 19 (.read 20 (.read 21 (.read 22 (.read 23 (.read 24 (.read 25 (.read 26 (.read 27 (.read 28 (.read 29 (.read 31 (.read 32 (.read 33 (.read 36 (.read 37 (.step 30 (.step 34 (.read 35 (.read 38 (.read 39 .nil)))))))))))))))))))))))))))))))))))))))) [] (by kernel_rfl) (by rfl) (by kernel_rfl) (by kernel_rfl) (fun _ _ _ _ _ h => h) (fun W' => Below W.heap.size W W') ?_
                        change goG _ _ _ _ _ _ _ W.drew
                        refine goG_read 57 hs0 (by rfl) (by rfl) ?_ (by rfl) (fun wz hSw => ?_) ?_
                        rotate_left
                        · go_simp
                          try with_reducible rfl
                        simp only [List.setIfInBounds_toArray, List.set]
                        refine goG_read 58 hs0 (by rfl) (by rfl) ?_ (by rfl) (fun wz hSw => ?_) ?_
                        rotate_left
                        · (have x0 := keepB hSw E0.out); (have x1 := keepB hSw E1.out); go_simp
                          try with_reducible rfl
                        simp only [List.setIfInBounds_toArray, List.set]
                        refine goG_read 59 hs0 (by rfl) (by rfl) ?_ (by rfl) (fun wz hSw => ?_) ?_
                        rotate_left
                        · go_simp
                          try with_reducible rfl
                        simp only [List.setIfInBounds_toArray, List.set]
                        refine goG_read 60 hs0 (by rfl) (by rfl) ?_ (by rfl) (fun wz hSw => ?_) ?_
                        rotate_left
                        · (have x0 := keepB hSw E2.out); (have x1 := keepB hSw E3.out); go_simp
                          try with_reducible rfl
                        simp only [List.setIfInBounds_toArray, List.set]
                        refine goG_call 61 (by rfl) (by rfl) (by rfl) (by go_simp) (before_any (a := qa) (b := qb) (c := qc) (d := qd) (by omega) (by omega) (by omega) (by omega)) ?_
                        rintro e w21 ⟨rfl, hb21⟩
                        have hs21 := btr hs0 hb21
                        rw [T1.out]
                        refine ⟨_, rfl, fun _ => hs21, ?_⟩
                        simp only [List.setIfInBounds_toArray, List.set]
                        refine goG_read 62 hs21 (by rfl) (by rfl) ?_ (by rfl) (fun wz hSw => ?_) ?_
                        rotate_left
                        · go_simp
                          try with_reducible rfl
                        simp only [List.setIfInBounds_toArray, List.set]
                        refine goG_read 63 hs21 (by rfl) (by rfl) ?_ (by rfl) (fun wz hSw => ?_) ?_
                        rotate_left
                        · go_simp
                          try with_reducible rfl
                        simp only [List.setIfInBounds_toArray, List.set]
                        refine goG_read 64 hs21 (by rfl) (by rfl) ?_ (by rfl) (fun wz hSw => ?_) ?_
                        rotate_left
                        · go_simp
                          try with_reducible rfl
                        simp only [List.setIfInBounds_toArray, List.set]
                        refine goG_read 65 hs21 (by rfl) (by rfl) ?_ (by rfl) (fun wz hSw => ?_) ?_
                        rotate_left
                        · go_simp
                          try with_reducible rfl
                        simp only [List.setIfInBounds_toArray, List.set]
                        refine goG_read 66 hs21 (by rfl) (by rfl) ?_ (by rfl) (fun wz hSw => ?_) ?_
                        rotate_left
                        · go_simp
                          try with_reducible rfl
                        simp only [List.setIfInBounds_toArray, List.set]
                        refine goG_read 67 hs21 (by rfl) (by rfl) ?_ (by rfl) (fun wz hSw => ?_) ?_
                        rotate_left
                        · go_simp
                          try with_reducible rfl
                        simp only [List.setIfInBounds_toArray, List.set]
                        refine goG_read 68 hs21 (by rfl) (by rfl) ?_ (by rfl) (fun wz hSw => ?_) ?_
                        rotate_left
                        · (have x0 := keepB hSw E0.out); (have x1 := keepB hSw E1.out); go_simp
                          try with_reducible rfl
                        simp only [List.setIfInBounds_toArray, List.set]
                        refine goG_read 69 hs21 (by rfl) (by rfl) ?_ (by rfl) (fun wz hSw => ?_) ?_
                        rotate_left
                        · go_simp
                          try with_reducible rfl
                        simp only [List.setIfInBounds_toArray, List.set]
                        refine goG_read 70 hs21 (by rfl) (by rfl) ?_ (by rfl) (fun wz hSw => ?_) ?_
                        rotate_left
                        · go_simp
                          try with_reducible rfl
                        simp only [List.setIfInBounds_toArray, List.set]
                        refine goG_read 71 hs21 (by rfl) (by rfl) ?_ (by rfl) (fun wz hSw => ?_) ?_
                        rotate_left
                        · go_simp
                          try with_reducible rfl
                        simp only [List.setIfInBounds_toArray, List.set]
                        refine goG_read 72 hs21 (by rfl) (by rfl) ?_ (by rfl) (fun wz hSw => ?_) ?_
                        rotate_left
                        · go_simp
                          try with_reducible rfl
                        simp only [List.setIfInBounds_toArray, List.set]
                        refine goG_read 73 hs21 (by rfl) (by rfl) ?_ (by rfl) (fun wz hSw => ?_) ?_
                        rotate_left
                        · go_simp
                          try with_reducible rfl
                        simp only [List.setIfInBounds_toArray, List.set]
                        refine goG_read 74 hs21 (by rfl) (by rfl) ?_ (by rfl) (fun wz hSw => ?_) ?_
                        rotate_left
                        · (have x0 := keepB hSw V2.out); (have x1 := keepB hSw V3.out); go_simp
                          try with_reducible rfl
                        simp only [List.setIfInBounds_toArray, List.set]
                        refine goG_call 75 (by rfl) (by rfl) (by rfl) (by go_simp) (before_any (a := qa) (b := qb) (c := pc) (d := pd) (by omega) (by omega) (by omega) (by omega)) ?_
                        rintro e w22 ⟨rfl, hb22⟩
                        have hs22 := btr hs21 hb22
                        rw [T2.out]
                        refine ⟨_, rfl, fun _ => hs22, ?_⟩
                        simp only [List.setIfInBounds_toArray, List.set]
                        refine goG_read 76 hs22 (by rfl) (by rfl) ?_ (by rfl) (fun wz hSw => ?_) ?_
                        rotate_left
                        · go_simp
                          try with_reducible rfl
                        simp only [List.setIfInBounds_toArray, List.set]
                        refine goG_read 77 hs22 (by rfl) (by rfl) ?_ (by rfl) (fun wz hSw => ?_) ?_
                        rotate_left
                        · go_simp
                          try with_reducible rfl
                        simp only [List.setIfInBounds_toArray, List.set]
                        refine goG_read 78 hs22 (by rfl) (by rfl) ?_ (by rfl) (fun wz hSw => ?_) ?_
                        rotate_left
                        · go_simp
                          try with_reducible rfl
                        simp only [List.setIfInBounds_toArray, List.set]
                        refine goG_read 79 hs22 (by rfl) (by rfl) ?_ (by rfl) (fun wz hSw => ?_) ?_
                        rotate_left
                        · go_simp
                          try with_reducible rfl
                        simp only [List.setIfInBounds_toArray, List.set]
                        refine goG_read 80 hs22 (by rfl) (by rfl) ?_ (by rfl) (fun wz hSw => ?_) ?_
                        rotate_left
                        · (have x0 := keepB hSw E4.out); go_simp
                          try with_reducible rfl
                        simp only [List.setIfInBounds_toArray, List.set]
                        refine goG_read 81 hs22 (by rfl) (by rfl) ?_ (by rfl) (fun wz hSw => ?_) ?_
                        rotate_left
                        · go_simp
                          try with_reducible rfl
                        simp only [List.setIfInBounds_toArray, List.set]
                        refine goG_read 82 hs22 (by rfl) (by rfl) ?_ (by rfl) (fun wz hSw => ?_) ?_
                        rotate_left
                        · go_simp
                          try with_reducible rfl
                        simp only [List.setIfInBounds_toArray, List.set]
                        refine goG_read 83 hs22 (by rfl) (by rfl) ?_ (by rfl) (fun wz hSw => ?_) ?_
                        rotate_left
                        · go_simp
                          try with_reducible rfl
                        simp only [List.setIfInBounds_toArray, List.set]
                        refine goG_read 84 hs22 (by rfl) (by rfl) ?_ (by rfl) (fun wz hSw => ?_) ?_
                        rotate_left
                        · go_simp
                          try with_reducible rfl
                        simp only [List.setIfInBounds_toArray, List.set]
                        refine goG_read 85 hs22 (by rfl) (by rfl) ?_ (by rfl) (fun wz hSw => ?_) ?_
                        rotate_left
                        · go_simp
                          try with_reducible rfl
                        simp only [List.setIfInBounds_toArray, List.set]
                        refine goG_read 86 hs22 (by rfl) (by rfl) ?_ (by rfl) (fun wz hSw => ?_) ?_
                        rotate_left
                        · (have x0 := keepB hSw E0.out); (have x1 := keepB hSw E1.out); go_simp
                          try with_reducible rfl
                        simp only [List.setIfInBounds_toArray, List.set]
                        refine goG_read 88 hs22 (by rfl) (by rfl) ?_ (by rfl) (fun wz hSw => ?_) ?_
                        rotate_left
                        · go_simp
                          try with_reducible rfl
                        simp only [List.setIfInBounds_toArray, List.set]
                        refine goG_read 89 hs22 (by rfl) (by rfl) ?_ (by rfl) (fun wz hSw => ?_) ?_
                        rotate_left
                        · go_simp
                          try with_reducible rfl
                        simp only [List.setIfInBounds_toArray, List.set]
                        refine goG_read 90 hs22 (by rfl) (by rfl) ?_ (by rfl) (fun wz hSw => ?_) ?_
                        rotate_left
                        · (have x0 := keepB hSw E2.out); (have x1 := keepB hSw E3.out); go_simp
                          try with_reducible rfl
                        simp only [List.setIfInBounds_toArray, List.set]
                        refine goG_read 93 hs22 (by rfl) (by rfl) ?_ (by rfl) (fun wz hSw => ?_) ?_
                        rotate_left
                        · go_simp
                          try with_reducible rfl
                        simp only [List.setIfInBounds_toArray, List.set]
                        refine goG_read 94 hs22 (by rfl) (by rfl) ?_ (by rfl) (fun wz hSw => ?_) ?_
                        rotate_left
                        · (have x0 := keepB hSw E4.out); go_simp
                          try with_reducible rfl
                        simp only [List.setIfInBounds_toArray, List.set]
                        refine goG_call 87 (by rfl) (by rfl) (by rfl) (by go_simp) (K1.out _ (btr hbW hs22)) ?_
                        rintro e w23 ⟨rfl, hb23⟩
                        have hs23 := btr hs22 hb23
                        refine ⟨_, rfl, fun _ => hs23, ?_⟩
                        simp only [List.setIfInBounds_toArray, List.set]
                        refine goG_call 91 (by rfl) (by rfl) (by rfl) (by go_simp) (K2.out _ (btr hbW hs23)) ?_
                        rintro e w24 ⟨rfl, hb24⟩
                        have hs24 := btr hs23 hb24
                        refine ⟨_, rfl, fun _ => hs24, ?_⟩
                        simp only [List.setIfInBounds_toArray, List.set]
                        refine goG_read 92 hs24 (by rfl) (by rfl) ?_ (by rfl) (fun wz hSw => ?_) ?_
                        rotate_left
                        · go_simp
                          try with_reducible rfl
                        simp only [List.setIfInBounds_toArray, List.set]
                        refine goG_read 95 hs24 (by rfl) (by rfl) ?_ (by rfl) (fun wz hSw => ?_) ?_
                        rotate_left
                        · go_simp
                          try with_reducible rfl
                        simp only [List.setIfInBounds_toArray, List.set]
                        refine goG_read 96 hs24 (by rfl) (by rfl) ?_ (by rfl) (fun wz hSw => ?_) ?_
                        rotate_left
                        · go_simp
                          try with_reducible rfl
                        simp only [List.setIfInBounds_toArray, List.set]
                        change Exit.then _ _ _ _ _
                        rename_i hK
                        refine hK _ _ ?_
                        go_wp2_with fail
                        go_ret
                        exact ⟨by rw [HE4.out]; rfl, btr hbz (btr hbW hs24)⟩
              · have T1 := Lib.hid (decide_eq_false hl1)
                have HE4 := Lib.hid (show ceE l L = 18 by rw [HE3.out, if_pos (badF_first HQ.out (show badQ t (pre L k) (qa, qb, qc, qd, qn) = true by unfold badQ; simp [show b1 (qa, qb, qc, qd, qn) = true by unfold b1; simp only; rw [T1.out]; rfl]))])
                clear hl1
                refine wp_region_trg (.read 0 (.read 1 (.read 2 (.read 3 (.step 4 (.read 5 (.read 6 (.read 7 (.read 8 (.read 9 (.read 10 (.read 11 (.read 12 (.read 13 (.read 14 (.read 15 (.read 16 (.read 17 (.step 18 (.read 19 (.read 20 (.read 21 (.read 22 (.read 23 (.read 24 (.read 25 (.read 26 (.read 27 (.read 28 (.read 29 (.read 31 (.read 32 (.read 33 (.read 36 (.read 37 (.step 30 (.step 34 (.read 35 (.read 38 (.read 39 .nil)))))))))))))))))))))))))))))))))))))))) [] (by kernel_rfl) (by rfl) (by kernel_rfl) (by kernel_rfl) (fun _ _ _ _ _ h => h) (fun W' => Below W.heap.size W W') ?_
                change goG _ _ _ _ _ _ _ W.drew
                refine goG_read 57 hs0 (by rfl) (by rfl) ?_ (by rfl) (fun wz hSw => ?_) ?_
                rotate_left
                · go_simp
                  try with_reducible rfl
                simp only [List.setIfInBounds_toArray, List.set]
                refine goG_read 58 hs0 (by rfl) (by rfl) ?_ (by rfl) (fun wz hSw => ?_) ?_
                rotate_left
                · (have x0 := keepB hSw E0.out); (have x1 := keepB hSw E1.out); go_simp
                  try with_reducible rfl
                simp only [List.setIfInBounds_toArray, List.set]
                refine goG_read 59 hs0 (by rfl) (by rfl) ?_ (by rfl) (fun wz hSw => ?_) ?_
                rotate_left
                · go_simp
                  try with_reducible rfl
                simp only [List.setIfInBounds_toArray, List.set]
                refine goG_read 60 hs0 (by rfl) (by rfl) ?_ (by rfl) (fun wz hSw => ?_) ?_
                rotate_left
                · (have x0 := keepB hSw E2.out); (have x1 := keepB hSw E3.out); go_simp
                  try with_reducible rfl
                simp only [List.setIfInBounds_toArray, List.set]
                refine goG_call 61 (by rfl) (by rfl) (by rfl) (by go_simp) (before_any (a := qa) (b := qb) (c := qc) (d := qd) (by omega) (by omega) (by omega) (by omega)) ?_
                rintro e w21 ⟨rfl, hb21⟩
                have hs21 := btr hs0 hb21
                rw [T1.out]
                refine ⟨_, rfl, fun _ => hs21, ?_⟩
                simp only [List.setIfInBounds_toArray, List.set]
                refine goG_read 62 hs21 (by rfl) (by rfl) ?_ (by rfl) (fun wz hSw => ?_) ?_
                rotate_left
                · go_simp
                  try with_reducible rfl
                simp only [List.setIfInBounds_toArray, List.set]
                refine goG_read 63 hs21 (by rfl) (by rfl) ?_ (by rfl) (fun wz hSw => ?_) ?_
                rotate_left
                · go_simp
                  try with_reducible rfl
                simp only [List.setIfInBounds_toArray, List.set]
                refine goG_skip 64 hs21 (by rfl) (by rfl) (by rfl) ?_
                simp only [List.setIfInBounds_toArray, List.set]
                refine goG_skip 65 hs21 (by rfl) (by rfl) (by rfl) ?_
                simp only [List.setIfInBounds_toArray, List.set]
                refine goG_skip 66 hs21 (by rfl) (by rfl) (by rfl) ?_
                simp only [List.setIfInBounds_toArray, List.set]
                refine goG_skip 67 hs21 (by rfl) (by rfl) (by rfl) ?_
                simp only [List.setIfInBounds_toArray, List.set]
                refine goG_skip 68 hs21 (by rfl) (by rfl) (by rfl) ?_
                simp only [List.setIfInBounds_toArray, List.set]
                refine goG_skip 69 hs21 (by rfl) (by rfl) (by rfl) ?_
                simp only [List.setIfInBounds_toArray, List.set]
                refine goG_skip 70 hs21 (by rfl) (by rfl) (by rfl) ?_
                simp only [List.setIfInBounds_toArray, List.set]
                refine goG_skip 71 hs21 (by rfl) (by rfl) (by rfl) ?_
                simp only [List.setIfInBounds_toArray, List.set]
                refine goG_skip 72 hs21 (by rfl) (by rfl) (by rfl) ?_
                simp only [List.setIfInBounds_toArray, List.set]
                refine goG_skip 73 hs21 (by rfl) (by rfl) (by rfl) ?_
                simp only [List.setIfInBounds_toArray, List.set]
                refine goG_skip 74 hs21 (by rfl) (by rfl) (by rfl) ?_
                simp only [List.setIfInBounds_toArray, List.set]
                refine goG_stepSkip 75 hs21 (by rfl) (by rfl) (by rfl) ?_
                simp only [List.setIfInBounds_toArray, List.set]
                refine goG_skip 76 hs21 (by rfl) (by rfl) (by rfl) ?_
                simp only [List.setIfInBounds_toArray, List.set]
                refine goG_read 77 hs21 (by rfl) (by rfl) ?_ (by rfl) (fun wz hSw => ?_) ?_
                rotate_left
                · go_simp
                  try with_reducible rfl
                simp only [List.setIfInBounds_toArray, List.set]
                refine goG_read 78 hs21 (by rfl) (by rfl) ?_ (by rfl) (fun wz hSw => ?_) ?_
                rotate_left
                · go_simp
                  try with_reducible rfl
                simp only [List.setIfInBounds_toArray, List.set]
                refine goG_skip 79 hs21 (by rfl) (by rfl) (by rfl) ?_
                simp only [List.setIfInBounds_toArray, List.set]
                refine goG_skip 80 hs21 (by rfl) (by rfl) (by rfl) ?_
                simp only [List.setIfInBounds_toArray, List.set]
                refine goG_skip 81 hs21 (by rfl) (by rfl) (by rfl) ?_
                simp only [List.setIfInBounds_toArray, List.set]
                refine goG_read 82 hs21 (by rfl) (by rfl) ?_ (by rfl) (fun wz hSw => ?_) ?_
                rotate_left
                · go_simp
                  try with_reducible rfl
                simp only [List.setIfInBounds_toArray, List.set]
                refine goG_read 83 hs21 (by rfl) (by rfl) ?_ (by rfl) (fun wz hSw => ?_) ?_
                rotate_left
                · go_simp
                  try with_reducible rfl
                simp only [List.setIfInBounds_toArray, List.set]
                refine goG_skip 84 hs21 (by rfl) (by rfl) (by rfl) ?_
                simp only [List.setIfInBounds_toArray, List.set]
                refine goG_skip 85 hs21 (by rfl) (by rfl) (by rfl) ?_
                simp only [List.setIfInBounds_toArray, List.set]
                refine goG_skip 86 hs21 (by rfl) (by rfl) (by rfl) ?_
                simp only [List.setIfInBounds_toArray, List.set]
                refine goG_skip 88 hs21 (by rfl) (by rfl) (by rfl) ?_
                simp only [List.setIfInBounds_toArray, List.set]
                refine goG_skip 89 hs21 (by rfl) (by rfl) (by rfl) ?_
                simp only [List.setIfInBounds_toArray, List.set]
                refine goG_skip 90 hs21 (by rfl) (by rfl) (by rfl) ?_
                simp only [List.setIfInBounds_toArray, List.set]
                refine goG_skip 93 hs21 (by rfl) (by rfl) (by rfl) ?_
                simp only [List.setIfInBounds_toArray, List.set]
                refine goG_skip 94 hs21 (by rfl) (by rfl) (by rfl) ?_
                simp only [List.setIfInBounds_toArray, List.set]
                refine goG_stepSkip 87 hs21 (by rfl) (by rfl) (by rfl) ?_
                simp only [List.setIfInBounds_toArray, List.set]
                refine goG_stepSkip 91 hs21 (by rfl) (by rfl) (by rfl) ?_
                simp only [List.setIfInBounds_toArray, List.set]
                refine goG_skip 92 hs21 (by rfl) (by rfl) (by rfl) ?_
                simp only [List.setIfInBounds_toArray, List.set]
                refine goG_skip 95 hs21 (by rfl) (by rfl) (by rfl) ?_
                simp only [List.setIfInBounds_toArray, List.set]
                refine goG_read 96 hs21 (by rfl) (by rfl) ?_ (by rfl) (fun wz hSw => ?_) ?_
                rotate_left
                · go_simp
                  try with_reducible rfl
                simp only [List.setIfInBounds_toArray, List.set]
                change Exit.then _ _ _ _ _
                rename_i hK
                refine hK _ _ ?_
                go_wp2_with fail
                go_ret
                exact ⟨by rw [HE4.out]; rfl, btr hbz (btr hbW hs21)⟩
            · obtain rfl : n' = k := by omega
              have e0 : L.take n' = L := List.take_of_length_le (by rw [HN.out]; exact Nat.le_refl _)
              rw [e0] at HB hs1 hs2 ⊢
              have HE4 := Lib.hid (show ceE l L = if sumC L = allR (ch t) then 0 else 18 by rw [HE3.out, if_neg (by rw [HB.out]; simp)])
              have HX := Lib.hid (fun w3 (hb : Below w2.heap.size w2 w3) => roots_good (HV.out.below hb) G1.out)
              obtain ⟨ll1, ll2⟩ := HLL.out
              generalize hr : allR (ch t) = r at *
              generalize sumC L = sc at *
              have HR2 := Lib.hid hr
              clear hr e0
              by_cases hz : sc = r
              · have HE5 := Lib.hid (show ceE l L = 0 by rw [HE4.out, if_pos hz])
                have z4 : (sc != r) = false := by rw [bne_eq_false_iff_eq]; exact hz
                clear hz
                go_wp2_with (go_at_call 37; go_must (refine (HX.out _ hbr).mono ?_); rintro e w9 ⟨rfl, hb9⟩)
                go_ret
                exact ⟨by rw [HE5.out]; rfl, btr hbz hb9⟩
              · have HE5 := Lib.hid (show ceE l L = 18 by rw [HE4.out, if_neg hz])
                have z4 : (sc != r) = true := by rw [bne_iff_ne]; exact hz
                clear hz
                go_wp2_with (go_at_call 37; go_must (refine (HX.out _ hbr).mono ?_); rintro e w9 ⟨rfl, hb9⟩)
                go_ret
                exact ⟨by rw [HE5.out]; rfl, btr hbz hb9⟩
  · have HR := Lib.hid (read_no h hd h1)
    have HE := Lib.hid (show ceE l L = d by unfold ceE; rw [if_pos (by rw [hd]; exact h1), hd])
    clear h hg hd hl
    generalize tz l = t at *
    go_enter Tryz.func17, Tryz.ntmps17
    go_wp2_with (go_at_call 30; go_must (refine HR.out.mono ?_); rintro e w1 ⟨rfl, hb1⟩)
    go_ret
    exact ⟨by rw [HE.out]; rfl, hb1⟩
end Go.Proofs.YtdmdagilopckgaaGreat
