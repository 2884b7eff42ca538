/- The reference's polynomials: Value. -/
import Derived.Test.YtdmdagilopckgaaGreatRff
import Derived.IntWalk
namespace Go.Proofs.YtdmdagilopckgaaGreat
open Go.RowKit

set_option maxRecDepth 100000 in
set_option maxHeartbeats 4000000 in
theorem qValue_any {A : Option Addr} {n c B : Nat} {l : List Int} {num den : Int} {w : World} (h : Pl IntB w (fun _ => True) A n c l) (hn : n ≤ 1000) (hB : Bd B l) (hB2 : B ≤ 500000000000) (hnum : num.natAbs ≤ 1000000000) (hden : den.natAbs ≤ 1000000000) :
    Calls Tryz.prog 26 #[.slice A n c, .agg #[.int .i64 num, .int .i64 den]] w fun e w' => e = .returned (.int .i64 (sgA' num den l)) ∧ Below w.heap.size w w' := by
  have hm := h.room
  unfold maxLen at hm
  have hc := h.cap
  have hl := Lib.hid h.len
  have w1n := wl_1 hnum
  have w1d := wl_1 hden
  have HHB := Lib.hid (fun j => wl_hv w1n w1d (l.drop j) (fun x hx => hB x (List.mem_of_mem_drop hx)))
  have HPB := Lib.hid (fun k => wl_pow w1d k)
  have HBD := Lib.hid hB
  have HWN := Lib.hid w1n
  have HWD := Lib.hid w1d
  have HOF := Lib.hid (fun (x : Int) (hx : x.natAbs ≤ 1000000000) w' => rOf_any x w' (by omega) (by omega))
  obtain ⟨W0, hW0⟩ : ∃ W0, W0 = w.alloc (.cells #[.int .i64 num, .int .i64 den] 24) := ⟨_, rfl⟩
  have hbW : Below w.heap.size w W0 := by rw [hW0]; exact below_al (Below.refl _ _) _
  have q0 := Lib.hid (show W0.cell? ⟨w.heap.size, 0, none⟩ = some (.int .i64 num) by rw [hW0]; go_simp)
  have q1 := Lib.hid (show W0.cell? ⟨w.heap.size, 1, none⟩ = some (.int .i64 den) by rw [hW0]; go_simp)
  have HP := Lib.hid (h.below hbW)
  have HW := Lib.hid hW0
  clear h hW0 hB w1n w1d
  go_enter Tryz.func26, Tryz.ntmps26
  go_wp2_with (first
    | (go_at_call 28; rw [← HW.out]; (with_reducible refine (HOF.out 0 (by omega) _).mono ?_); rintro e w1 ⟨v1, rfl, hv1, hb1⟩; obtain ⟨n1, A1, m1, c1, rfl, hi1⟩ := (nint_ni hv1).shape)
    | (go_at_call 28; (refine (HOF.out 1 (by omega) _).mono ?_); rintro e w2 ⟨v2, rfl, hv2, hb2⟩; obtain ⟨n2, A2, m2, c2, rfl, hi2⟩ := (nint_ni hv2).shape))
  have hbb : Below W0.heap.size W0 ((w2.alloc (.cells #[.bool n1, .slice A1 m1 c1] 63)).alloc (.cells #[.bool n2, .slice A2 m2 c2] 63)) := below_al (below_al (btr hb1 hb2) _) _
  have hv5 : Vi ((w2.alloc (.cells #[.bool n1, .slice A1 m1 c1] 63)).alloc (.cells #[.bool n2, .slice A2 m2 c2] 63)) w2.heap.size 0 := IArr.below (Vi.new (NI.below hi1 hb2)) (below_al (Below.refl _ _) _)
  have hv6 : Vi ((w2.alloc (.cells #[.bool n1, .slice A1 m1 c1] 63)).alloc (.cells #[.bool n2, .slice A2 m2 c2] 63)) (w2.heap.size + 1) 1 := by
    have h1 := Vi.new (w := w2.alloc (.cells #[.bool n1, .slice A1 m1 c1] 63)) (NI.below hi2 (below_al (Below.refl _ _) _))
    rw [show (w2.alloc (.cells #[.bool n1, .slice A1 m1 c1] 63)).heap.size = w2.heap.size + 1 by simp] at h1
    exact h1
  have hP5 : W0.heap.size ≤ w2.heap.size := (btr hb1 hb2).size
  generalize ((w2.alloc (.cells #[.bool n1, .slice A1 m1 c1] 63)).alloc (.cells #[.bool n2, .slice A2 m2 c2] 63)) = W2 at *
  obtain ⟨P6, hP6⟩ : ∃ P, P = w2.heap.size + 1 := ⟨_, rfl⟩
  rw [← hP6] at hv6 ⊢
  obtain ⟨P5, hP⟩ : ∃ P, P = w2.heap.size := ⟨_, rfl⟩
  rw [← hP] at hv5 hP5 hP6 ⊢
  have hne : P5 ≠ P6 := by omega
  have hP6' : W0.heap.size ≤ P6 := by omega
  clear hP6 hP hi1 hi2 hv1 hv2 hb1 hb2
  go_loopw [7] (fun iv wr => ∃ j : Nat, iv = .int .i64 ((j : Int) - 1) ∧ j ≤ n ∧ Vi wr P5 (hv num den (l.drop j)) ∧ Vi wr P6 (den ^ (n - j)) ∧ Below W0.heap.size W0 wr) (fun iv _ => (intOf iv + 1).toNat)
  case atStart => exact ⟨n, rfl, Nat.le_refl _, by rw [List.drop_eq_nil_of_le (by rw [hl.out]; exact Nat.le_refl _)]; exact hv5, by rw [Nat.sub_self, Int.pow_zero]; exact hv6, hbb⟩
  case round =>
    obtain ⟨j, rfl, hj, h5, h6, hbr⟩ := hrel
    clear hv5 hv6 hbb
    rcases j with _ | k
    · rw [List.drop_zero] at h5
      obtain ⟨sn, sB, sm, sk, s0, s1, s2, s3, s4⟩ := Vi.cells h5
      have hb0 := HHB.out 0
      rw [List.drop_zero, hl.out] at hb0
      have HS := Lib.hid (qSign_any (NIntV.b s2 (by omega)))
      have HE : Hid (sgA' num den l = cmpI (hv num den l) 0) := Lib.hid rfl
      obtain ⟨y, hy⟩ : ∃ y, y = cmpI (hv num den l) 0 := ⟨_, rfl⟩
      rw [← hy] at HE HS
      clear hy s2 s3 s4 h5 h6 hb0
      go_wp2_with (go_at_call 54; go_must (refine HS.out.mono ?_); rintro e w5 ⟨rfl, hb5⟩)
      go_ret
      exact ⟨by rw [HE.out]; rfl, btr hbW (btr hbr hb5)⟩
    · obtain ⟨sn, sB, sm, sk, s0, s1, s2, s3, s4⟩ := Vi.cells h5
      obtain ⟨pn, pB, pm, pk, p0, p1, p2, p3, p4⟩ := Vi.cells h6
      have hd := hv_drop (num := num) (den := den) (l := l) (j := k) (by rw [hl.out]; omega)
      rw [hl.out] at hd
      have hb0 := HHB.out (k + 1)
      have hbk := HHB.out k
      have hbp := HPB.out (n - (k + 1))
      have hbp2 := HPB.out (n - k)
      have hpw : den ^ (n - k) = den ^ (n - (k + 1)) * den := by rw [← Int.pow_succ]; congr 1; omega
      have hdl : (l.drop (k + 1)).length ≤ n ∧ (l.drop k).length ≤ n := by rw [List.length_drop, List.length_drop, hl.out]; omega
      obtain ⟨b, off, rfl, hbt, hcell⟩ := (HP.out.below hbr).cells (by omega)
      obtain ⟨jn, jB, jm, jk, j0, j1, j2⟩ := hcell k (by omega)
      have hgk := HBD.out _ (gz_mem (l := l) (j := k) (by rw [hl.out]; omega))
      have H5 := Lib.hid h5
      have H6 := Lib.hid h6
      have S0 := Lib.hid s0
      have S1 := Lib.hid s1
      have SI := Lib.hid (NIntV.b s2 (by omega))
      have R0 := Lib.hid p0
      have R1 := Lib.hid p1
      have RI := Lib.hid (NIntV.b p2 (by omega))
      have J0 := Lib.hid j0
      have J1 := Lib.hid j1
      have JI := Lib.hid j2
      have Q0 := Lib.hid (keepB hbr q0.out)
      have Q1 := Lib.hid (keepB hbr q1.out)
      obtain ⟨s, hs⟩ : ∃ s, s = hv num den (l.drop (k + 1)) := ⟨_, rfl⟩
      obtain ⟨pw, hpw2⟩ : ∃ pw, pw = den ^ (n - (k + 1)) := ⟨_, rfl⟩
      obtain ⟨s', hs'⟩ : ∃ s', s' = hv num den (l.drop k) := ⟨_, rfl⟩
      obtain ⟨pw', hpw'⟩ : ∃ pw', pw' = den ^ (n - k) := ⟨_, rfl⟩
      rw [← hs, ← hpw2, ← hs'] at hd
      rw [← hpw2, ← hpw'] at hpw
      rw [← hs] at hb0 SI H5
      rw [← hpw2] at hbp RI H6
      rw [← hs'] at hbk
      have HSE := Lib.hid hs'
      have HPE := Lib.hid hpw'
      have hm1 := wl_imul s num
      have hm2 := wl_imul (gz l k) pw
      have hwn := HWN.out
      have HM1 := Lib.hid (show wl (s * num).natAbs ≤ 1000000000000 by omega)
      have HM2 := Lib.hid (show wl (gz l k * pw).natAbs ≤ 1000000000000 by omega)
      have HWNB := Lib.hid (show wl num.natAbs ≤ 1000000000000 by omega)
      have HWDB := Lib.hid (show wl den.natAbs ≤ 1000000000000 by have := HWD.out; omega)
      have HAD : Hid (∀ w' v v', IntB w' v (s * num) → IntB w' v' (gz l k * pw) → Calls Tryz.prog 56 #[v, v'] w' (Gives w' fun w'' v => NIntV w'' (w'.heap.size ≤ ·) v s')) := Lib.hid (fun w' v v' h1 h2 => by rw [hd]; exact rAdd_any h1 h2)
      have HPM : Hid (∀ w' v v', IntB w' v pw → IntB w' v' den → Calls Tryz.prog 57 #[v, v'] w' (Gives w' fun w'' v => NIntV w'' (w'.heap.size ≤ ·) v pw')) := Lib.hid (fun w' v v' h1 h2 => by rw [hpw]; exact rMul_any h1 h2)
      have hP5l : P5 < wr.heap.size := H5.out.lt
      have hP6l : P6 < wr.heap.size := H6.out.lt
      have hkp : 0 ≤ (k : Int) := by omega
      have hkn : (k : Int) < n := by omega
      have hkw : IntKind.i64.wrap (k : Int) = k := IntWalk.i64_in _ (by omega)
      clear h5 h6 s0 s1 s2 s3 s4 p0 p1 p2 p3 p4 hcell hbt j0 j1 j2 hs hpw2 hs' hpw' hd hpw hb0 hbk hbp hbp2 hm1 hm2 hwn hgk hdl
      rw [show ((k + 1 : Nat) : Int) - 1 = (k : Int) by omega]
      go_wp2_with fail
      rename_i K1 hK
      have hs0 : Below wr.heap.size wr wr.drew := (Below.refl _ _).drew
      refine wp_region_trg (.read 0 (.read 1 (.read 2 (.read 5 (.read 6 (.read 7 (.read 8 (.read 9 (.step 3 (.step 4 (.step 10 (.step 11 (.step 12 .nil))))))))))))) [12] (by kernel_rfl) (by rfl) (by kernel_rfl) (by kernel_rfl) (fun _ _ _ _ _ h => h) (fun W' => Below wr.heap.size wr W') ?_
      change goG _ _ _ _ _ _ _ wr.drew
      refine goG_read 17 hs0 (by rfl) (by rfl) ?_ (by rfl) (fun wz hSw => ?_) ?_
      rotate_left
      · (have x0 := keepB hSw S0.out); (have x1 := keepB hSw S1.out); go_simp
        try with_reducible rfl
      simp only [List.setIfInBounds_toArray, List.set]
      refine goG_read 18 hs0 (by rfl) (by rfl) ?_ (by rfl) (fun wz hSw => ?_) ?_
      rotate_left
      · go_simp
        try with_reducible rfl
      simp only [List.setIfInBounds_toArray, List.set]
      refine goG_read 19 hs0 (by rfl) (by rfl) ?_ (by rfl) (fun wz hSw => ?_) ?_
      rotate_left
      · (have x0 := keepB hSw Q0.out); go_simp
        try with_reducible rfl
      simp only [List.setIfInBounds_toArray, List.set]
      refine goG_read 22 hs0 (by rfl) (by rfl) ?_ (by rfl) (fun wz hSw => ?_) ?_
      rotate_left
      · go_simp
        try with_reducible rfl
      simp only [List.setIfInBounds_toArray, List.set]
      refine goG_read 23 hs0 (by rfl) (by rfl) ?_ (by rfl) (fun wz hSw => ?_) ?_
      rotate_left
      · go_simp
        try with_reducible rfl
      simp only [List.setIfInBounds_toArray, List.set]
      refine goG_read 24 hs0 (by rfl) (by rfl) ?_ (by rfl) (fun wz hSw => ?_) ?_
      rotate_left
      · go_simp
        try with_reducible rfl
      simp only [List.setIfInBounds_toArray, List.set]
      refine goG_read 25 hs0 (by rfl) (by rfl) ?_ (by rfl) (fun wz hSw => ?_) ?_
      rotate_left
      · (have x0 := keepB hSw J0.out); (have x1 := keepB hSw J1.out); go_simp
        try with_reducible rfl
      simp only [List.setIfInBounds_toArray, List.set]
      refine goG_read 26 hs0 (by rfl) (by rfl) ?_ (by rfl) (fun wz hSw => ?_) ?_
      rotate_left
      · (have x0 := keepB hSw R0.out); (have x1 := keepB hSw R1.out); go_simp
        try with_reducible rfl
      simp only [List.setIfInBounds_toArray, List.set]
      refine goG_step (by rfl) ?_
      go_wp2_with (go_at_call 28; go_must (refine (HOF.out num hnum _).mono ?_); rintro e w5 ⟨v5, rfl, hv5, hb5⟩; obtain ⟨n5, A5, m5, c5, rfl, hi5⟩ := (nint_ni hv5).shape)
      have hs1 : Below wr.heap.size wr w5 := btr hs0 hb5
      refine ⟨fun _ => hs1, ?_⟩
      refine goG_step (by rfl) ?_
      go_wp2_with (go_at_call 57; go_must (refine (rMul_any (SI.out.below hs1) (NIntV.b hi5 HWNB.out)).mono ?_); rintro e w6 ⟨v6, rfl, hv6, hb6⟩; obtain ⟨n6, A6, m6, c6, rfl, hi6⟩ := (nint_ni hv6).shape)
      have hs2 : Below wr.heap.size wr w6 := btr hs1 hb6
      refine ⟨fun _ => hs2, ?_⟩
      refine goG_step (by rfl) ?_
      go_wp2_with (go_at_call 57; go_must (refine (rMul_any (JI.out.below hs2) (RI.out.below hs2)).mono ?_); rintro e w7 ⟨v7, rfl, hv7, hb7⟩; obtain ⟨n7, A7, m7, c7, rfl, hi7⟩ := (nint_ni hv7).shape)
      have hs3 : Below wr.heap.size wr w7 := btr hs2 hb7
      refine ⟨fun _ => hs3, ?_⟩
      refine goG_step (by rfl) ?_
      go_wp2_with (go_at_call 56; go_must (refine (HAD.out _ _ _ ((NIntV.b hi6 HM1.out).below hb7) (NIntV.b hi7 HM2.out)).mono ?_); rintro e w8 ⟨v8, rfl, hv8, hb8⟩; obtain ⟨n8, A8, m8, c8, rfl, hi8⟩ := (nint_ni hv8).shape)
      have hs4 : Below wr.heap.size wr w8 := btr hs3 hb8
      refine ⟨fun _ => hs4, ?_⟩
      have h5 : Vi w8 P5 s := IArr.below H5.out hs4
      have h6 : Vi w8 P6 pw := IArr.below H6.out hs4
      obtain ⟨sn', sB', sm', sk', s0, s1, s2, s3, s4⟩ := Vi.cells h5
      refine goG_step (by rfl) ?_
      go_wp2_with fail
      refine ⟨(fun h => by cases h), ?_⟩
      refine hK _ _ ?_
      clear hK
      have h5' := Vi.store h5 hi8
      have h6' := Vi.far h6 h5 (Ne.symm hne) (.bool n8) (.slice A8 m8 c8)
      have hbX : Below W0.heap.size wr ((w8.setCell ⟨P5, 0, none⟩ (.bool n8)).setCell ⟨P5, 1, none⟩ (.slice A8 m8 c8)) := ((hs4.mono hbr.size).setCell (show W0.heap.size ≤ P5 from hP5) _).setCell (show W0.heap.size ≤ P5 from hP5) _
      generalize ((w8.setCell ⟨P5, 0, none⟩ (.bool n8)).setCell ⟨P5, 1, none⟩ (.slice A8 m8 c8)) = W5 at *
      clear h5 h6 s0 s1 s2 s3 s4 hi8 hv8 hb8 hi7 hv7 hb7 hi6 hv6 hb6 hi5 hv5 hb5 hs1 hs2 hs3 hs4 hs0
      have hbY : Below W0.heap.size W0 W5 := hbr.trans hbX
      obtain ⟨pn', pB', pm', pk', p0, p1, p2, p3, p4⟩ := Vi.cells h6'
      have U0 := Lib.hid p0
      have U1 := Lib.hid p1
      have UI := Lib.hid (RI.out)
      have hpwb : wl pw.natAbs ≤ 1000000000000 := RI.out.wl
      have UI2 := Lib.hid (NIntV.b p2 hpwb)
      have D1 := Lib.hid (keepB hbY q1.out)
      have H6' := Lib.hid h6'
      have H5' := Lib.hid h5'
      clear p0 p1 p2 p3 p4 h5' h6' hpwb
      go_wp2_with fail
      rename_i K2 hK
      have ht0 : Below W5.heap.size W5 W5.drew := (Below.refl _ _).drew
      refine wp_region_trg (.read 0 (.read 1 (.read 2 (.step 3 (.step 4 (.step 5 .nil)))))) [5] (by kernel_rfl) (by rfl) (by kernel_rfl) (by kernel_rfl) (fun _ _ _ _ _ h => h) (fun W' => Below W5.heap.size W5 W') ?_
      change goG _ _ _ _ _ _ _ W5.drew
      refine goG_read 29 ht0 (by rfl) (by rfl) ?_ (by rfl) (fun wz hSw => ?_) ?_
      rotate_left
      · (have x0 := keepB hSw U0.out); (have x1 := keepB hSw U1.out); go_simp
        try with_reducible rfl
      simp only [List.setIfInBounds_toArray, List.set]
      refine goG_read 30 ht0 (by rfl) (by rfl) ?_ (by rfl) (fun wz hSw => ?_) ?_
      rotate_left
      · go_simp
        try with_reducible rfl
      simp only [List.setIfInBounds_toArray, List.set]
      refine goG_read 31 ht0 (by rfl) (by rfl) ?_ (by rfl) (fun wz hSw => ?_) ?_
      rotate_left
      · (have x0 := keepB hSw D1.out); go_simp
        try with_reducible rfl
      simp only [List.setIfInBounds_toArray, List.set]
      refine goG_step (by rfl) ?_
      go_wp2_with (go_at_call 28; go_must (refine (HOF.out den hden _).mono ?_); rintro e w5 ⟨v5, rfl, hv5, hb5⟩; obtain ⟨n5, A5, m5, c5, rfl, hi5⟩ := (nint_ni hv5).shape)
      have ht1 : Below W5.heap.size W5 w5 := btr ht0 hb5
      refine ⟨fun _ => ht1, ?_⟩
      refine goG_step (by rfl) ?_
      go_wp2_with (go_at_call 57; go_must (refine (HPM.out _ _ _ (UI2.out.below ht1) (NIntV.b hi5 HWDB.out)).mono ?_); rintro e w6 ⟨v6, rfl, hv6, hb6⟩; obtain ⟨n6, A6, m6, c6, rfl, hi6⟩ := (nint_ni hv6).shape)
      have ht2 : Below W5.heap.size W5 w6 := btr ht1 hb6
      refine ⟨fun _ => ht2, ?_⟩
      have g5 : Vi w6 P5 s' := IArr.below H5'.out ht2
      have g6 : Vi w6 P6 pw := IArr.below H6'.out ht2
      obtain ⟨sn', sB', sm', sk', s0, s1, s2, s3, s4⟩ := Vi.cells g6
      refine goG_step (by rfl) ?_
      go_wp2_with fail
      refine ⟨(fun h => by cases h), ?_⟩
      refine hK _ _ ?_
      clear hK
      have g6' := Vi.store g6 hi6
      have g5' := Vi.far g5 g6 hne (.bool n6) (.slice A6 m6 c6)
      have hbZ : Below W0.heap.size W0 ((w6.setCell ⟨P6, 0, none⟩ (.bool n6)).setCell ⟨P6, 1, none⟩ (.slice A6 m6 c6)) := ((hbY.trans (ht2.mono hbY.size)).setCell (show W0.heap.size ≤ P6 from hP6') _).setCell (show W0.heap.size ≤ P6 from hP6') _
      rw [HSE.out] at g5'
      rw [HPE.out] at g6'
      go_wp2_with fail
      exact ⟨⟨k, by simp, by omega, g5', g6', hbZ⟩, by simp [intOf]⟩
end Go.Proofs.YtdmdagilopckgaaGreat
