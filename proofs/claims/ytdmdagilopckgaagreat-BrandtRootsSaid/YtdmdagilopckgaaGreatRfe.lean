/- The reference's polynomials: Remainder. -/
import Derived.Test.YtdmdagilopckgaaGreatB6
import Derived.IntWalk
namespace Go.Proofs.YtdmdagilopckgaaGreat
open Go.RowKit

/-- The remainder without primitive parts in between. -/
def rm (f g : List Int) : List Int := rsF id f.length f g
theorem id_length (l : List Int) : (id l).length ≤ l.length := Nat.le_refl _
theorem rm_step {f g : List Int} (hg : 0 < g.length) (h : g.length ≤ f.length) : rm f g = rm (stp f g) g := rsF_step id_length hg h
theorem rm_stop {f g : List Int} (h : f.length < g.length) : rm f g = f := rsF_stop h _
theorem rm_length (f : List Int) {g : List Int} (hg : 0 < g.length) : (rm f g).length < g.length := rsF_length id_length hg _ _ (Nat.le_refl _)
theorem tz_rm {f g : List Int} (h : tz f = f) : tz (rm f g) = rm f g := tz_rsF (fun _ h => h) _ _ h
theorem Bd.rm {f g : List Int} {B C : Nat} (hg : 0 < g.length) (hc : Bd C g) (hf : Bd B f) : Bd (B + (f.length + 1 - g.length) * (C + 1)) (rm f g) := Bd.rsF id_length (fun _ _ h => h) hg hc _ _ _ (Nat.le_refl _) hf
/-- The bounds of a remainder, on the way. -/
def RmB (f g : List Int) : Prop := ∃ B C, Bd B f ∧ Bd C g ∧ B + (f.length + 1 - g.length) * (C + 1) ≤ 400000000000 ∧ C ≤ 400000000000
theorem RmB.le {f g : List Int} (h : RmB f g) : Bd 400000000000 f ∧ Bd 400000000000 g := by
  obtain ⟨B, C, h1, h2, h3, h4⟩ := h
  exact ⟨h1.mono (by omega), h2.mono h4⟩
theorem RmB.next {f g : List Int} (h : RmB f g) (hg : 0 < g.length) (hl : g.length ≤ f.length) : RmB (stp f g) g ∧ ∀ k y, (∃ j, j < f.length ∧ y = gz (f.map (· * ((ld g).natAbs : Int))) j - k ∧ (k = 0 ∨ ∃ i, i < g.length ∧ k = (if ld g < 0 then -(ld f) else ld f) * gz g i)) → wl y.natAbs ≤ 1000000000000 := by
  obtain ⟨B, C, h1, h2, h3, h4⟩ := h
  have hs := stp_length hl hg
  have hm : (stp f g).length + 1 - g.length + 1 ≤ f.length + 1 - g.length := by omega
  have hmul := Nat.mul_le_mul_right (C + 1) hm
  rw [Nat.add_mul, Nat.one_mul] at hmul
  refine ⟨⟨B + (C + 1), C, h1.stp h2 hl hg, h2, by omega, h4⟩, ?_⟩
  rintro k y ⟨j, hj, rfl, hk⟩
  have hB : B ≤ 400000000000 := by omega
  have w1 : wl (gz (f.map (· * ((ld g).natAbs : Int))) j).natAbs ≤ B + C := by
    rw [gz_map hj]
    have := wl_imul (gz f j) ((ld g).natAbs : Int)
    rw [Int.natAbs_natCast] at this
    have := h1 _ (gz_mem hj)
    have := h2 _ (ld_mem hg)
    omega
  have w2 : wl k.natAbs ≤ B + C := by
    rcases hk with rfl | ⟨i, hi, rfl⟩
    · exact Nat.zero_le _
    · have h5 := wl_imul (if ld g < 0 then -(ld f) else ld f) (gz g i)
      have h6 := h2 _ (gz_mem hi)
      have h7 : wl (if ld g < 0 then -(ld f) else ld f).natAbs ≤ B := by
        have := h1 _ (ld_mem (by omega))
        split
        · rw [Int.natAbs_neg]; exact this
        · exact this
      omega
  have := wl_sub (gz (f.map (· * ((ld g).natAbs : Int))) j) k
  omega

set_option maxHeartbeats 3000000 in
set_option maxRecDepth 100000 in
theorem Remainder_any {A A' : Option Addr} {n c n' c' : Nat} {f0 g0 : List Int} {w : World} (h : Pl IntB w (fun _ => True) A n c f0) (h' : Pl IntB w (fun _ => True) A' n' c' g0) (hn : n ≤ 1000000) (hn' : n' ≤ 1000000) (hg0 : 0 < (tz g0).length) (hlim : RmB (tz f0) (tz g0)) :
    Calls Tryz.prog 52 #[.slice A n c, .slice A' n' c'] w (Gives w fun w' v => PvD w' (w.heap.size ≤ ·) v (rm (tz f0) (tz g0))) := by
  have hm := h.room
  have hm' := h'.room
  unfold maxLen at hm hm'
  have hc := h.cap
  have hc' := h'.cap
  have HT := Lib.hid (qTrim_any h hn)
  have HT' := Lib.hid (fun w1 (hb : Below w.heap.size w w1) => qTrim_any (h'.below hb) hn')
  have hfl : (tz f0).length ≤ 1000000 := by have := tz_length_le f0; have := h.len; omega
  have hgl : (tz g0).length ≤ 1000000 := by have := tz_length_le g0; have := h'.len; omega
  have HFT := Lib.hid (tz_tz f0)
  have HGT := Lib.hid (tz_tz g0)
  obtain ⟨R, hR⟩ : ∃ R, R = rm (tz f0) (tz g0) := ⟨_, rfl⟩
  rw [← hR]
  have HR := Lib.hid hR
  clear h h' hR hn hn'
  generalize tz f0 = f1 at *
  generalize tz g0 = g at *
  have HLM := Lib.hid hlim
  clear hlim
  obtain ⟨p, hp⟩ : ∃ p, g.length = p + 1 := ⟨g.length - 1, by omega⟩
  have HPL := Lib.hid hp
  rw [hp] at hgl
  clear hp hg0
  go_enter Tryz.func52, Tryz.ntmps52
  go_wp2_with (first
    | (go_at_call 41; (with_reducible refine HT.out.mono ?_); rintro e w1 ⟨v1, rfl, hv1, hb1⟩; obtain ⟨A1, c1, rfl, hp1, hd1⟩ := hv1.get)
    | (go_at_call 41; (with_reducible refine (HT'.out _ hb1).mono ?_); rintro e w2 ⟨v2, rfl, ⟨A2, c2, rfl, hg2⟩, hb2⟩; rw [HPL.out] at hg2 ⊢; have hc2 := hg2.cap; have hr2 := hg2.room; unfold maxLen at hr2; obtain ⟨gb, goff, rfl, hgbt, hgc⟩ := hg2.cells (by omega); obtain ⟨gneg, gB, gm, gk, ge0, ge1, ge2⟩ := hgc p (by omega); clear hgc hgbt))
  have hlead : NI w2 (.agg #[.bool gneg, .slice gB gm gk]) (ld g) := by
    unfold ld
    rw [HPL.out]
    exact ge2.mono fun _ _ _ => trivial
  have hv5 := Vi.new hlead
  have hb12 := btr hb1 hb2
  have hbw : Below w.heap.size w (w2.alloc (.cells #[.bool gneg, .slice gB gm gk] 63)) := below_al hb12 _
  have hb2W : Below w2.heap.size w2 (w2.alloc (.cells #[.bool gneg, .slice gB gm gk] 63)) := below_al (Below.refl _ _) _
  have hp3 : PvD (w2.alloc (.cells #[.bool gneg, .slice gB gm gk] 63)) (w.heap.size ≤ ·) (.slice A1 f1.length c1) f1 := ((show PvD w1 (w.heap.size ≤ ·) _ _ from hd1).below hb2).below hb2W
  have hg3 : PvD (w2.alloc (.cells #[.bool gneg, .slice gB gm gk] 63)) (fun _ => True) (.slice (some ⟨gb, goff, none⟩) (p + 1) c2) g := (PvD.mono (hg2.d (D := (w1.heap.size ≤ ·)) fun _ h => h) (fun _ _ _ => trivial)).below hb2W
  obtain ⟨W0, hW0⟩ : ∃ W0, W0 = w2.alloc (.cells #[.bool gneg, .slice gB gm gk] 63) := ⟨_, rfl⟩
  obtain ⟨P5, hP5⟩ : ∃ P5, P5 = w2.heap.size := ⟨_, rfl⟩
  rw [← hW0] at hv5 hbw hp3 hg3 ⊢
  rw [← hP5] at hv5 ⊢
  clear hW0 hP5 hb2W hv1 hp1 hd1 hg2 hb1 hb2 hb12 ge0 ge1 ge2 hlead
  have HG := Lib.hid hg3
  have HV5 := Lib.hid hv5
  clear hg3 hv5
  go_loopw [0] (fun fv wr => ∃ (A : Option Addr) (c m : Nat) (f : List Int), fv = .slice A m c ∧ m = f.length ∧ PvD wr (w.heap.size ≤ ·) (.slice A m c) f ∧ Hid (tz f = f) ∧ Hid (R = rm f g) ∧ Hid (RmB f g) ∧ m ≤ 1000000 ∧ Below W0.heap.size W0 wr) (fun fv _ => lenOf fv)
  case atStart => exact ⟨_, _, _, f1, rfl, rfl, hp3, HFT, HR, HLM, hfl, Below.refl _ _⟩
  case round =>
    clear hp3 HFT HR HLM hfl
    obtain ⟨A4, c4, m, f, rfl, hml, hfd, HFT, HRR, HLM, hm6, hbr⟩ := hrel
    have HML := Lib.hid hml
    clear hml
    rcases Nat.lt_or_ge m (p + 1) with hlt | hge
    · have HE := Lib.hid (show R = f by rw [HRR.out, rm_stop (by rw [← HML.out, HPL.out]; exact hlt)])
      have HFD := Lib.hid hfd
      obtain ⟨hc4, hr4⟩ : m ≤ c4 ∧ c4 ≤ 9223372036854775807 := by
        obtain ⟨A9, c9, e9, h9⟩ := hfd
        injection e9 with e1 e2 e3
        subst e1 e2 e3
        have := h9.cap
        have := h9.room
        unfold maxLen at this
        omega
      clear hfd
      go_wp2_with fail
      go_ret
      exact ⟨_, rfl, by rw [HE.out]; exact HFD.out, btr hbw hbr⟩
    · obtain ⟨q, rfl⟩ : ∃ q, m = q + 1 := ⟨m - 1, by omega⟩
      obtain ⟨hc4, hr4, hfp⟩ : q + 1 ≤ c4 ∧ c4 ≤ 9223372036854775807 ∧ Pl NI wr (fun _ => True) A4 (q + 1) c4 f := by
        obtain ⟨A9, c9, e9, h9⟩ := hfd
        injection e9 with e1 e2 e3
        subst e1 e3
        rw [← e2] at h9
        have := h9.cap
        have hr := h9.room
        unfold maxLen at hr
        exact ⟨this, hr, (h9.mono fun _ _ _ => trivial).imp fun _ _ _ hx => NIntV.mono hx fun _ _ _ => trivial⟩
      obtain ⟨fb, foff, rfl, hfbt, hfc⟩ := hfp.cells (by omega)
      obtain ⟨fneg, fB, fm, fk, fe0, fe1, fe2⟩ := hfc q (by omega)
      clear hfc hfbt
      have hleadf : NI wr (.agg #[.bool fneg, .slice fB fm fk]) (ld f) := by
        unfold ld
        rw [← HML.out]
        exact fe2
      have HLF := Lib.hid hleadf
      have HFP := Lib.hid hfp
      have HFD := Lib.hid hfd
      have hbn := HLM.out.le
      have HBF := Lib.hid hbn.1
      have HBG := Lib.hid hbn.2
      have HNX := Lib.hid (HLM.out.next (by rw [HPL.out]; omega) (by rw [HPL.out, ← HML.out]; omega))
      have HR2 := Lib.hid (show R = rm (stp f g) g by rw [HRR.out, rm_step (by rw [HPL.out]; omega) (by rw [HPL.out, ← HML.out]; omega)])
      have HSL := Lib.hid (show (stp f g).length < q + 1 by rw [HML.out]; exact stp_length (by rw [HPL.out, ← HML.out]; omega) (by rw [HPL.out]; omega))
      have hv5 : Vi wr P5 (ld g) := IArr.below HV5.out hbr
      obtain ⟨ng5, B5, m5, k5, c50, c51, hi5, z50, z51⟩ := hv5.cells
      have HI5N := Lib.hid hi5
      have HI5 := Lib.hid (NIntV.b hi5 (Nat.le_trans (HBG.out _ (ld_mem (by rw [HPL.out]; omega))) (by omega)))
      obtain ⟨sv, hsv⟩ : ∃ sv, sv = cmpI (ld g) 0 := ⟨_, rfl⟩
      have HSG : Hid (∀ w' v, IntB w' v (ld g) → Calls Tryz.prog 54 #[v] w' fun e w'' => e = .returned (.int .i64 sv) ∧ Below w'.heap.size w' w'') := Lib.hid (fun w' v hv => by rw [hsv]; exact qSign_any hv)
      obtain ⟨y, hy⟩ : ∃ y, y = if ld g < 0 then -(ld f) else ld f := ⟨_, rfl⟩
      obtain ⟨s, hs⟩ : ∃ s, s = ((ld g).natAbs : Int) := ⟨_, rfl⟩
      have HYE := Lib.hid hy
      have HSE := Lib.hid hs
      have hC5 := Lib.hid c50
      have hC51 := Lib.hid c51
      have hqp : p ≤ q := by omega
      have hqp1 : (p : Int) ≤ q := by omega
      clear hfd hfp hleadf fe2 hbn hi5 z50 z51
      by_cases hneg : ld g < 0
      · skip
        have hbF : Below wr.heap.size wr (wr.alloc (.cells #[.bool fneg, .slice fB fm fk] 63)) := below_al (Below.refl _ _) _
        have da0 := keepB hbF c50
        have da1 := keepB hbF c51
        have HBF1 := Lib.hid (Nat.le_trans (HBF.out _ (ld_mem (by rw [← HML.out]; omega))) (show 400000000000 ≤ 1000000000000 by omega))

        have hneg1 := decide_eq_true (p := sv < 0) (by rw [hsv, cmpI_zero]; exact hneg)
        have HN1 : Hid (∀ w' v, IntB w' v (ld f) → Calls Tryz.prog 92 #[v] w' (Gives w' fun w'' v => NIntV w'' (w'.heap.size ≤ ·) v y)) := Lib.hid (fun w' v hv => by rw [hy, if_pos hneg]; exact rNeg_any hv)
        have HN2 : Hid (∀ w' v, IntB w' v (ld g) → Calls Tryz.prog 92 #[v] w' (Gives w' fun w'' v => NIntV w'' (w'.heap.size ≤ ·) v s)) := Lib.hid (fun w' v hv => by rw [show s = -(ld g) by rw [hs]; omega]; exact rNeg_any hv)
        clear hneg hsv hy hs
        go_upto_region 7 with (first
          | (go_at_call 54; (with_reducible refine (HSG.out _ _ (HI5.out.below hbF)).mono ?_); rintro e w5 ⟨rfl, hb5⟩; have hbA := btr hbF hb5; have hv6 : Vi w5 wr.heap.size (ld f) := IArr.below (Vi.new HLF.out) hb5; obtain ⟨xn, xB, xm, xk, x0, x1, hx6, xz0, xz1⟩ := Vi.cells hv6; have hq6 := NIntV.b hx6 HBF1.out)
          | (go_at_call 92; (with_reducible refine (HN1.out _ _ hq6).mono ?_); rintro e w6 ⟨v6, rfl, hv6', hb6⟩; obtain ⟨n6, A6, m6, c6, rfl, hi6⟩ := (nint_ni hv6').shape; have hbB := btr hbA hb6; have hv7 : Vi w6 wr.heap.size (ld f) := IArr.below hv6 hb6; have xy0 := keepB hb6 x0; have xy1 := keepB hb6 x1; have xz2 : w6.frozen? ⟨wr.heap.size, 0, none⟩ = false := IArr.frozen hv7 0; have xz3 : w6.frozen? ⟨wr.heap.size, 1, none⟩ = false := IArr.frozen hv7 1))
        have hvY := Vi.store hv7 hi6
        have hbC : Below wr.heap.size wr ((w6.setCell ⟨wr.heap.size, 0, none⟩ (.bool n6)).setCell ⟨wr.heap.size, 1, none⟩ (.slice A6 m6 c6)) := (hbB.setCell (Nat.le_refl _) _).setCell (Nat.le_refl _) _
        obtain ⟨W1, hW1⟩ : ∃ W1, W1 = (w6.setCell ⟨wr.heap.size, 0, none⟩ (.bool n6)).setCell ⟨wr.heap.size, 1, none⟩ (.slice A6 m6 c6) := ⟨_, rfl⟩
        rw [← hW1] at hvY hbC ⊢
        clear hW1 hv6 hv7 x0 x1 hx6 xz0 xz1 hq6 xy0 xy1 xz2 xz3 hb5 hb6 hbA hbB hv6' hi6 da0 da1
        have hP61 : wr.heap.size < W1.heap.size := hvY.lt
        have d0 := keepB hbC c50
        have d1 := keepB hbC c51
        have hbX : Below wr.heap.size wr (W1.alloc (.cells #[.bool ng5, .slice B5 m5 k5] 63)) := below_al hbC _
        have hv8 : Vi (W1.alloc (.cells #[.bool ng5, .slice B5 m5 k5] 63)) W1.heap.size (ld g) := Vi.new (NI.below HI5N.out hbC)
        have hw8 : Vi (W1.alloc (.cells #[.bool ng5, .slice B5 m5 k5] 63)) wr.heap.size y := IArr.below hvY (below_al (Below.refl _ _) _)
        have a0 := keepB hbX c50
        have a1 := keepB hbX c51
        go_upto_region 10 with (first
          | (go_at_call 54; (with_reducible refine (HSG.out _ _ (HI5.out.below hbX)).mono ?_); rintro e w7 ⟨rfl, hb7⟩; have hbD := btr hbX hb7; have e0 := keepB hbD c50; have e1 := keepB hbD c51; have hv9 : Vi w7 W1.heap.size (ld g) := IArr.below hv8 hb7; have hw9 : Vi w7 wr.heap.size y := IArr.below hw8 hb7)
          | (go_at_call 92; (with_reducible refine (HN2.out _ _ (HI5.out.below hbD)).mono ?_); rintro e w8 ⟨v8, rfl, hv8', hb8⟩; obtain ⟨n8, A8, m8, c8, rfl, hi8⟩ := (nint_ni hv8').shape; have hbE := btr hbD hb8; have hv10 : Vi w8 W1.heap.size (ld g) := IArr.below hv9 hb8; have hw10 : Vi w8 wr.heap.size y := IArr.below hw9 hb8; obtain ⟨xn, xB, xm, xk, x0, x1, hx6, xz0, xz1⟩ := Vi.cells hv10))
        have hvS := Vi.store hv10 hi8
        have hvY2 : Vi _ wr.heap.size y := Vi.far hw10 hv10 (by omega) (.bool n8) (.slice A8 m8 c8)
        have hbG : Below wr.heap.size wr ((w8.setCell ⟨W1.heap.size, 0, none⟩ (.bool n8)).setCell ⟨W1.heap.size, 1, none⟩ (.slice A8 m8 c8)) := (hbE.setCell (show wr.heap.size ≤ W1.heap.size from Nat.le_of_lt hP61) _).setCell (show wr.heap.size ≤ W1.heap.size from Nat.le_of_lt hP61) _
        obtain ⟨W2, hW2⟩ : ∃ W2, W2 = (w8.setCell ⟨W1.heap.size, 0, none⟩ (.bool n8)).setCell ⟨W1.heap.size, 1, none⟩ (.slice A8 m8 c8) := ⟨_, rfl⟩
        rw [← hW2] at hvS hvY2 hbG ⊢
        clear hW2 hbE hv10 hw10 x0 x1 hx6 xz0 xz1 hb7 hbD e0 e1 hv9 hw9 hb8 hv8' hi8 hv8 hw8 hbX hbC hvY d0 d1 HN1 HN2
        clear a0 a1
        obtain ⟨wo, rfl⟩ : ∃ wo : World, wo = wr := ⟨_, rfl⟩
        go_wp2_with fail
        rw [show (q : Int) + 1 - ((p : Int) + 1) = ((q - p : Nat) : Int) by omega]
        obtain ⟨fr, hfr⟩ : ∃ fr, fr = q - p := ⟨_, rfl⟩
        rw [← hfr]
        obtain ⟨M, hM⟩ : ∃ M, M = lsF y g fr (f.map (· * s)) := ⟨_, rfl⟩
        have hfl : f.length = q + 1 := HML.out.symm
        have hgl2 : g.length = p + 1 := HPL.out
        have HML2 := Lib.hid (show M.length = q + 1 by rw [hM, lsF_length, List.length_map, hfl])
        have HMG := Lib.hid (show ∀ i, i < q + 1 → gz M i = if fr ≤ i then gz f i * s - y * gz g (i - fr) else gz f i * s from fun i hi => by
          rw [hM, lsF_gz _ _ _ _ _ (by rw [List.length_map]; omega), gz_map (by omega)]
          by_cases h1 : fr ≤ i
          · rw [if_pos ⟨h1, by omega⟩, if_pos h1]
          · rw [if_neg (fun h => h1 h.1), if_neg h1])
        have HTM := Lib.hid (show tz M = stp f g by rw [hM, hfr, HYE.out, HSE.out]; unfold stp ls; rw [hfl, hgl2, Nat.add_sub_add_right])
        have HMB := Lib.hid (show Bd 1000000000000 M from fun x hx => by
          obtain ⟨j, hj, rfl⟩ := mem_gz hx
          rw [HML2.out] at hj
          rw [HMG.out j hj]
          have h1 := HNX.out.2
          split
          · rename_i h2
            exact h1 (y * gz g (j - fr)) _ ⟨j, by omega, by rw [gz_map (by omega), ← HSE.out], .inr ⟨j - fr, by omega, by rw [← HYE.out]⟩⟩
          · exact h1 0 _ ⟨j, by omega, by rw [gz_map (by omega), ← HSE.out]; omega, .inl rfl⟩)
        have HXB := Lib.hid (show ∀ i, i < q + 1 → wl (gz f i * s).natAbs ≤ 1000000000000 from fun i hi => HNX.out.2 0 _ ⟨i, by omega, by rw [gz_map (by omega), ← HSE.out]; omega, .inl rfl⟩)
        have HYB := Lib.hid (show wl y.natAbs ≤ 1000000000000 by
          have h1 := HBF1.out
          rw [HYE.out]
          split
          · rw [Int.natAbs_neg]; exact h1
          · exact h1)
        have HSB := Lib.hid (show wl s.natAbs ≤ 1000000000000 by
          have h1 := HBG.out _ (ld_mem (l := g) (by omega))
          rw [HSE.out, Int.natAbs_natCast]
          omega)
        have hfrq : fr + p = q := by omega
        clear hM hfr hfl hgl2
        obtain ⟨sn, sB, sm, sk, s0, s1, hsi, sz0, sz1⟩ := Vi.cells hvS
        obtain ⟨yn, yB, ym, yk, y0, y1, hyi, yz0, yz1⟩ := Vi.cells hvY2
        have S0 := Lib.hid s0
        have S1 := Lib.hid s1
        have SI := Lib.hid (NIntV.b hsi HSB.out)
        have Y0 := Lib.hid y0
        have Y1 := Lib.hid y1
        have YI := Lib.hid (NIntV.b hyi HYB.out)
        have hbW := btr hbr hbG
        clear s0 s1 hsi sz0 sz1 y0 y1 hyi yz0 yz1
        go_loopw [9, 10] (fun ov iv wr => ∃ i : Nat, iv = .int .i64 i ∧ i ≤ q + 1 ∧ OwnJ wr W2.heap.size ov (M.take i) ∧ Below W2.heap.size W2 wr) (fun _ iv _ => q + 1 - (intOf iv).toNat)
        case atStart => exact ⟨0, rfl, by omega, OwnJ.nil _ _, Below.refl _ _⟩
        case round =>
          obtain ⟨i, rfl, hi, hown, hbi⟩ := hrel
          have hlk : (M.take i).length = i := by rw [List.length_take, HML2.out]; omega
          have HLK := Lib.hid hlk
          obtain ⟨Ao, co, rfl, hco1, hco2⟩ := hown.slice_ hlk
          unfold maxLen at hco2
          clear hlk
          rcases Nat.lt_or_ge i (q + 1) with hiq | hiq
          · have hball := btr hbW hbi
            obtain ⟨b9, off9, e9, hbt9, hcell9⟩ := (HFP.out.below (btr hbG hbi)).cells (by omega)
            injection e9 with e9
            injection e9 with e91 e92 e93
            subst e91 e92
            clear e93
            obtain ⟨jn, jB, jm, jk, j0, j1, j2⟩ := hcell9 i hiq
            have J0 := Lib.hid j0
            have J1 := Lib.hid j1
            have JI := Lib.hid (NIntV.b j2 (Nat.le_trans (HBF.out _ (gz_mem (by rw [← HML.out]; exact hiq))) (by omega)))
            have HO := Lib.hid hown
            have hil : (i : Int) < q + 1 := by omega
            have T0 := Lib.hid (keepB hbi S0.out)
            have T1 := Lib.hid (keepB hbi S1.out)
            clear hcell9 hbt9 j0 j1 j2 hown
            go_wp2_with fail
            have hs0 : Below wr.heap.size wr wr.drew := (Below.refl _ _).drew
            refine wp_region_trg (.read 0 (.read 1 (.read 2 (.read 3 (.read 4 (.two 5 6 (.step 6 (.step 7 .nil)) (.step 5 (.step 7 .nil)))))))) [] (by kernel_rfl) (by rfl) (by kernel_rfl) (by kernel_rfl) (fun _ _ _ _ _ h => h) (fun W' => Below wr.heap.size wr W') ?_
            change goG _ _ _ _ _ _ _ wr.drew
            refine goG_read 55 hs0 (by rfl) (by rfl) ?_ (by rfl) (fun wz hSw => ?_) ?_
            rotate_left
            · go_simp
              try with_reducible rfl
            simp only [List.setIfInBounds_toArray, List.set]
            refine goG_read 56 hs0 (by rfl) (by rfl) ?_ (by rfl) (fun wz hSw => ?_) ?_
            rotate_left
            · go_simp
              try with_reducible rfl
            simp only [List.setIfInBounds_toArray, List.set]
            refine goG_read 57 hs0 (by rfl) (by rfl) ?_ (by rfl) (fun wz hSw => ?_) ?_
            rotate_left
            · go_simp
              try with_reducible rfl
            simp only [List.setIfInBounds_toArray, List.set]
            refine goG_read 58 hs0 (by rfl) (by rfl) ?_ (by rfl) (fun wz hSw => ?_) ?_
            rotate_left
            · (have x0 := keepB hSw J0.out); (have x1 := keepB hSw J1.out); go_simp
              try with_reducible rfl
            simp only [List.setIfInBounds_toArray, List.set]
            refine goG_read 59 hs0 (by rfl) (by rfl) ?_ (by rfl) (fun wz hSw => ?_) ?_
            rotate_left
            · (have x0 := keepB hSw T0.out); (have x1 := keepB hSw T1.out); go_simp
              try with_reducible rfl
            simp only [List.setIfInBounds_toArray, List.set]
            refine goG_two (by rfl) (by rfl) ?_ ?_
            · go_wp2_with (go_at_call 57; go_must (refine (rMul_any (JI.out.below hs0) (SI.out.below (btr hbi hs0))).mono ?_); rintro e w5 ⟨v5, rfl, hv5', hb5⟩; obtain ⟨n5, A5, m5', c5, rfl, hi5⟩ := (nint_ni hv5').shape)
              have hs1 := btr hs0 hb5
              refine ⟨fun _ => hs1, ?_⟩
              refine goG_step (by rfl) ?_
              go_wp2_with fail
              refine ⟨fun _ => below_al hs1 _, ?_⟩
              refine goG_step (by rfl) ?_
              go_wp2_with fail
              refine ⟨fun _ => below_al hs1 _, ?_⟩
              rename_i hK
              refine hK _ _ ?_
              have hs2 := below_al hs1 (.cells #[.bool n5, .slice A5 m5' c5] 63)
              have hx0 : (w5.alloc (.cells #[.bool n5, .slice A5 m5' c5] 63)).cell? ⟨w5.heap.size, 0, none⟩ = some (.bool n5) := by go_simp
              have hx1 : (w5.alloc (.cells #[.bool n5, .slice A5 m5' c5] 63)).cell? ⟨w5.heap.size, 1, none⟩ = some (.slice A5 m5' c5) := by go_simp
              have hz0 : (w5.alloc (.cells #[.bool n5, .slice A5 m5' c5] 63)).frozen? ⟨w5.heap.size, 0, none⟩ = false := by go_simp
              have hz1 : (w5.alloc (.cells #[.bool n5, .slice A5 m5' c5] 63)).frozen? ⟨w5.heap.size, 1, none⟩ = false := by go_simp
              have hXV : NIntV (w5.alloc (.cells #[.bool n5, .slice A5 m5' c5] 63)) (wr.heap.size ≤ ·) (.agg #[.bool n5, .slice A5 m5' c5]) (gz f i * s) := NIntV.below (hv5'.mono fun b hb _ => Nat.le_trans hs0.size hb) (below_al (Below.refl _ _) _)
              have hPs : wr.heap.size ≤ w5.heap.size := hs1.size
              generalize hW3 : w5.alloc (.cells #[.bool n5, .slice A5 m5' c5] 63) = W3 at *
              have hPl : w5.heap.size < W3.heap.size := by rw [← hW3]; simp
              generalize w5.heap.size = P at *
              clear hW3 hs1 hi5 hv5' hb5
              clear hK
              by_cases hfi : fr ≤ i
              · have hwi : IntKind.i64.wrap ((i : Int) - fr) = ((i - fr : Nat) : Int) := by rw [show (i : Int) - fr = ((i - fr : Nat) : Int) by omega]; exact IntWalk.i64_in _ (by omega)
                obtain ⟨t, ht⟩ : ∃ t, t = i - fr := ⟨_, rfl⟩
                rw [← ht] at hwi
                have htp : t < p + 1 := by omega
                have htp1 : (t : Int) < p + 1 := by omega
                obtain ⟨gA, gc, eg, hgp⟩ := HG.out
                injection eg with eg1 eg2 eg3
                subst eg1 eg3
                obtain ⟨b8, off8, e8, hbt8, hcell8⟩ := (hgp.below (btr hball hs2)).cells (by omega)
                injection e8 with e8
                injection e8 with e81 e82 e83
                subst e81 e82
                obtain ⟨rn, rB, rm', rk, r0, r1, r2⟩ := hcell8 t (by omega)
                have R0 := Lib.hid r0
                have R1 := Lib.hid r1
                have RI := Lib.hid (NIntV.b r2 (Nat.le_trans (HBG.out _ (gz_mem (by omega))) (by omega)))
                have X0 := Lib.hid hx0
                have X1 := Lib.hid hx1
                have XI := Lib.hid (NIntV.b hXV (HXB.out i hiq))
                have U0 := Lib.hid (keepB (btr hbi hs2) Y0.out)
                have U1 := Lib.hid (keepB (btr hbi hs2) Y1.out)
                have UI := Lib.hid (YI.out.below (btr hbi hs2))
                obtain ⟨xv, hxe⟩ : ∃ xv, xv = gz M i := ⟨_, rfl⟩
                have HSU : Hid (∀ w' v v', IntB w' v (gz f i * s) → IntB w' v' (y * gz g t) → Calls Tryz.prog 59 #[v, v'] w' (Gives w' fun w'' v => NIntV w'' (w'.heap.size ≤ ·) v xv)) := Lib.hid (fun w' v v' h1 h2 => by
                  have h3 := rSub_any h1 h2
                  rw [show gz f i * s - y * gz g t = xv by rw [hxe, HMG.out i hiq, if_pos hfi, ht]] at h3
                  exact h3)
                have HPB := Lib.hid (show wl (y * gz g t).natAbs ≤ 1000000000000 by
                  have h1 := wl_imul y (gz g t)
                  have h2 := HBG.out _ (gz_mem (l := g) (j := t) (by omega))
                  have h3 : wl y.natAbs ≤ 400000000000 := by
                    have h1 := HBF.out _ (ld_mem (l := f) (by rw [← HML.out]; omega))
                    rw [HYE.out]
                    split
                    · rw [Int.natAbs_neg]; exact h1
                    · exact h1
                  omega)
                clear hcell8 hbt8 r0 r1 r2 eg2 e83 hgp ht
                go_wp2_with fail
                have ht0 : Below W3.heap.size W3 W3.drew := (Below.refl _ _).drew
                refine wp_region_trg (.read 0 (.read 1 (.read 2 (.read 3 (.read 4 (.read 5 (.read 6 (.read 7 (.step 8 (.step 9 (.step 10 .nil))))))))))) [10] (by kernel_rfl) (by rfl) (by kernel_rfl) (by kernel_rfl) (fun _ _ _ _ _ h => h) (fun W' => Below W3.heap.size W3 W') ?_
                change goG _ _ _ _ _ _ _ W3.drew
                refine goG_read 64 ht0 (by rfl) (by rfl) ?_ (by rfl) (fun wz hSw => ?_) ?_
                rotate_left
                · (have x0 := keepB hSw X0.out); (have x1 := keepB hSw X1.out); go_simp
                  try with_reducible rfl
                simp only [List.setIfInBounds_toArray, List.set]
                refine goG_read 65 ht0 (by rfl) (by rfl) ?_ (by rfl) (fun wz hSw => ?_) ?_
                rotate_left
                · (have x0 := keepB hSw U0.out); (have x1 := keepB hSw U1.out); go_simp
                  try with_reducible rfl
                simp only [List.setIfInBounds_toArray, List.set]
                refine goG_read 66 ht0 (by rfl) (by rfl) ?_ (by rfl) (fun wz hSw => ?_) ?_
                rotate_left
                · go_simp
                  try with_reducible rfl
                simp only [List.setIfInBounds_toArray, List.set]
                refine goG_read 67 ht0 (by rfl) (by rfl) ?_ (by rfl) (fun wz hSw => ?_) ?_
                rotate_left
                · go_simp
                  try with_reducible rfl
                simp only [List.setIfInBounds_toArray, List.set]
                refine goG_read 68 ht0 (by rfl) (by rfl) ?_ (by rfl) (fun wz hSw => ?_) ?_
                rotate_left
                · go_simp
                  try with_reducible rfl
                simp only [List.setIfInBounds_toArray, List.set]
                refine goG_read 69 ht0 (by rfl) (by rfl) ?_ (by rfl) (fun wz hSw => ?_) ?_
                rotate_left
                · go_simp
                  try with_reducible rfl
                simp only [List.setIfInBounds_toArray, List.set]
                refine goG_read 70 ht0 (by rfl) (by rfl) ?_ (by rfl) (fun wz hSw => ?_) ?_
                rotate_left
                · go_simp
                  try with_reducible rfl
                simp only [List.setIfInBounds_toArray, List.set]
                refine goG_read 71 ht0 (by rfl) (by rfl) ?_ (by rfl) (fun wz hSw => ?_) ?_
                rotate_left
                · (have x0 := keepB hSw R0.out); (have x1 := keepB hSw R1.out); go_simp
                  try with_reducible rfl
                simp only [List.setIfInBounds_toArray, List.set]
                refine goG_step (by rfl) ?_
                go_wp2_with (go_at_call 57; go_must (refine (rMul_any (UI.out.below ht0) (RI.out.below ht0)).mono ?_); rintro e w5 ⟨v5, rfl, hv5', hb5⟩; obtain ⟨n6', A6', m6', c6', rfl, hi5⟩ := (nint_ni hv5').shape)
                have ht1 : Below W3.heap.size W3 w5 := btr ht0 hb5
                refine ⟨fun _ => ht1, ?_⟩
                refine goG_step (by rfl) ?_
                go_wp2_with (go_at_call 59; go_must (refine (HSU.out _ _ _ (XI.out.below ht1) (NIntV.b hi5 HPB.out)).mono ?_); rintro e w6 ⟨v6, rfl, hv6, hb6⟩; obtain ⟨n9, A9, m9, c9, rfl, hi6⟩ := (nint_ni hv6).shape)
                have ht2 : Below W3.heap.size W3 w6 := btr ht1 hb6
                refine ⟨fun _ => ht2, ?_⟩
                have k0 := keepB ht2 X0.out
                have k1 := keepB ht2 X1.out
                have f0 : w6.frozen? ⟨P, 0, none⟩ = false := ((bcell ht2).2 _ _ hPl).trans hz0
                have f1' : w6.frozen? ⟨P, 1, none⟩ = false := ((bcell ht2).2 _ _ hPl).trans hz1
                refine goG_step (by rfl) ?_
                go_wp2_with fail
                refine ⟨(fun h => by cases h), ?_⟩
                rename_i hK
                refine hK _ _ ?_
                clear hK
                have hPg : P < w5.heap.size := Nat.lt_of_lt_of_le hPl ht1.size
                have hs4 : Below wr.heap.size wr ((w6.setCell ⟨P, 0, none⟩ (.bool n9)).setCell ⟨P, 1, none⟩ (.slice A9 m9 c9)) := ((btr hs2 ht2).setCell (show wr.heap.size ≤ P from hPs) _).setCell (show wr.heap.size ≤ P from hPs) _
                have k2 : ((w6.setCell ⟨P, 0, none⟩ (.bool n9)).setCell ⟨P, 1, none⟩ (.slice A9 m9 c9)).cell? ⟨P, 0, none⟩ = some (.bool n9) := by go_simp
                have k3 : ((w6.setCell ⟨P, 0, none⟩ (.bool n9)).setCell ⟨P, 1, none⟩ (.slice A9 m9 c9)).cell? ⟨P, 1, none⟩ = some (.slice A9 m9 c9) := by go_simp
                replace hXV : NIntV ((w6.setCell ⟨P, 0, none⟩ (.bool n9)).setCell ⟨P, 1, none⟩ (.slice A9 m9 c9)) (wr.heap.size ≤ ·) (.agg #[.bool n9, .slice A9 m9 c9]) xv :=
                  NIntV.mono (NIntV.setCell (NIntV.setCell hv6 (by simp; omega) _) (by simp; omega) _) fun b hb _ => Nat.le_trans (btr hs2 ht1).size hb
                generalize ((w6.setCell ⟨P, 0, none⟩ (.bool n9)).setCell ⟨P, 1, none⟩ (.slice A9 m9 c9)) = W4 at *
                clear k0 k1 f0 f1' hv6 hi6 hb6 hi5 hv5' hb5 ht2 ht1 ht0 hx0 hx1 hz0 hz1
                have HY2 := Lib.hid (show M.take (i + 1) = M.take i ++ [xv] by rw [hxe, take_succ_gz (by rw [HML2.out]; omega)])
                have ho4 := HO.out.below hs4
                clear hxe
                go_wp2_with (at_builtin; go_must (refine wpList_pushJ _ rfl _ _ _ _ rfl W2.heap.size Tryz.underlying22 Tryz.underlying22 (.slice Ao i co) (M.take i) i HLK.out rfl ho4 _ A9 _ c9 xv rfl (hXV.mono fun b hb _ => ⟨Nat.le_trans hbi.size hb, HO.out.fresh hb⟩) (by omega) (Nat.le_trans hbi.size hs4.size) ?_); intro A7 c7 w7 hown7 hgr7 hb7)
                have hfin := (btr hbi hs4).trans hb7
                refine ⟨⟨i + 1, by go_num, by omega, by rw [HY2.out]; exact hown7, hfin⟩, by simp [intOf]; omega⟩
              · have hge : i < fr := by omega
                obtain ⟨xv, hxe⟩ : ∃ xv, xv = gz M i := ⟨_, rfl⟩
                replace hXV : NIntV W3 (wr.heap.size ≤ ·) (.agg #[.bool n5, .slice A5 m5' c5]) xv := by rw [hxe, HMG.out i hiq, if_neg hfi]; exact hXV
                have hs4 := hs2
                clear hfi hz0 hz1
                have HY2 := Lib.hid (show M.take (i + 1) = M.take i ++ [xv] by rw [hxe, take_succ_gz (by rw [HML2.out]; omega)])
                have ho4 := HO.out.below hs4
                clear hxe
                go_wp2_with (at_builtin; go_must (refine wpList_pushJ _ rfl _ _ _ _ rfl W2.heap.size Tryz.underlying22 Tryz.underlying22 (.slice Ao i co) (M.take i) i HLK.out rfl ho4 _ A5 _ c5 xv rfl (hXV.mono fun b hb _ => ⟨Nat.le_trans hbi.size hb, HO.out.fresh hb⟩) (by omega) (Nat.le_trans hbi.size hs4.size) ?_); intro A7 c7 w7 hown7 hgr7 hb7)
                have hfin := (btr hbi hs4).trans hb7
                refine ⟨⟨i + 1, by go_num, by omega, by rw [HY2.out]; exact hown7, hfin⟩, by simp [intOf]; omega⟩
            · go_wp2_with fail
              refine ⟨fun _ => below_al hs0 _, ?_⟩
              refine goG_step (by rfl) ?_
              go_wp2_with (go_at_call 57; go_must (refine (rMul_any (JI.out.below (below_al hs0 _)) (SI.out.below (btr hbi (below_al hs0 _)))).mono ?_); rintro e w5 ⟨v5, rfl, hv5', hb5⟩; obtain ⟨n5, A5, m5', c5, rfl, hi5⟩ := (nint_ni hv5').shape)
              have hs1 : Below wr.heap.size wr w5 := btr (below_al hs0 _) hb5
              refine ⟨fun _ => hs1, ?_⟩
              have hvz : Vi w5 wr.heap.size 0 := IArr.below (Vi.new (w := wr.drew) (NIntV.zero _ _)) hb5
              obtain ⟨zn, zB, zm, zk, zz0, zz1, zz2, zz3, zz4⟩ := Vi.cells hvz
              refine goG_step (by rfl) ?_
              go_wp2_with fail
              have hs2 : Below wr.heap.size wr ((w5.setCell ⟨wr.heap.size, 0, none⟩ (.bool n5)).setCell ⟨wr.heap.size, 1, none⟩ (.slice A5 m5' c5)) := (hs1.setCell (Nat.le_refl _) _).setCell (Nat.le_refl _) _
              refine ⟨fun _ => hs2, ?_⟩
              rename_i hK
              refine hK _ _ ?_
              have hPl0 : wr.heap.size < w5.heap.size := hvz.lt
              have hx0 : ((w5.setCell ⟨wr.heap.size, 0, none⟩ (.bool n5)).setCell ⟨wr.heap.size, 1, none⟩ (.slice A5 m5' c5)).cell? ⟨wr.heap.size, 0, none⟩ = some (.bool n5) := by go_simp
              have hx1 : ((w5.setCell ⟨wr.heap.size, 0, none⟩ (.bool n5)).setCell ⟨wr.heap.size, 1, none⟩ (.slice A5 m5' c5)).cell? ⟨wr.heap.size, 1, none⟩ = some (.slice A5 m5' c5) := by go_simp
              have hz0 : ((w5.setCell ⟨wr.heap.size, 0, none⟩ (.bool n5)).setCell ⟨wr.heap.size, 1, none⟩ (.slice A5 m5' c5)).frozen? ⟨wr.heap.size, 0, none⟩ = false := by go_simp
              have hz1 : ((w5.setCell ⟨wr.heap.size, 0, none⟩ (.bool n5)).setCell ⟨wr.heap.size, 1, none⟩ (.slice A5 m5' c5)).frozen? ⟨wr.heap.size, 1, none⟩ = false := by go_simp
              have hXV : NIntV ((w5.setCell ⟨wr.heap.size, 0, none⟩ (.bool n5)).setCell ⟨wr.heap.size, 1, none⟩ (.slice A5 m5' c5)) (wr.heap.size ≤ ·) (.agg #[.bool n5, .slice A5 m5' c5]) (gz f i * s) :=
                NIntV.mono (NIntV.setCell (NIntV.setCell (D := (wr.heap.size + 1 ≤ ·)) (hv5'.mono fun b hb _ => by simp at hb; exact hb) (by simp) _) (by simp) _) fun b hb _ => Nat.le_of_succ_le hb
              have hPl : wr.heap.size < ((w5.setCell ⟨wr.heap.size, 0, none⟩ (.bool n5)).setCell ⟨wr.heap.size, 1, none⟩ (.slice A5 m5' c5)).heap.size := by simpa using hPl0
              have hPs := Nat.le_refl wr.heap.size
              generalize ((w5.setCell ⟨wr.heap.size, 0, none⟩ (.bool n5)).setCell ⟨wr.heap.size, 1, none⟩ (.slice A5 m5' c5)) = W3 at *
              obtain ⟨P, hP⟩ : ∃ P, P = wr.heap.size := ⟨_, rfl⟩
              rw [← hP] at hx0 hx1 hz0 hz1 hPl ⊢
              replace hPs : wr.heap.size ≤ P := by omega
              clear hP hs1 hi5 hv5' hb5 hvz zz0 zz1 zz2 zz3 zz4 hPl0
              clear hK
              by_cases hfi : fr ≤ i
              · have hwi : IntKind.i64.wrap ((i : Int) - fr) = ((i - fr : Nat) : Int) := by rw [show (i : Int) - fr = ((i - fr : Nat) : Int) by omega]; exact IntWalk.i64_in _ (by omega)
                obtain ⟨t, ht⟩ : ∃ t, t = i - fr := ⟨_, rfl⟩
                rw [← ht] at hwi
                have htp : t < p + 1 := by omega
                have htp1 : (t : Int) < p + 1 := by omega
                obtain ⟨gA, gc, eg, hgp⟩ := HG.out
                injection eg with eg1 eg2 eg3
                subst eg1 eg3
                obtain ⟨b8, off8, e8, hbt8, hcell8⟩ := (hgp.below (btr hball hs2)).cells (by omega)
                injection e8 with e8
                injection e8 with e81 e82 e83
                subst e81 e82
                obtain ⟨rn, rB, rm', rk, r0, r1, r2⟩ := hcell8 t (by omega)
                have R0 := Lib.hid r0
                have R1 := Lib.hid r1
                have RI := Lib.hid (NIntV.b r2 (Nat.le_trans (HBG.out _ (gz_mem (by omega))) (by omega)))
                have X0 := Lib.hid hx0
                have X1 := Lib.hid hx1
                have XI := Lib.hid (NIntV.b hXV (HXB.out i hiq))
                have U0 := Lib.hid (keepB (btr hbi hs2) Y0.out)
                have U1 := Lib.hid (keepB (btr hbi hs2) Y1.out)
                have UI := Lib.hid (YI.out.below (btr hbi hs2))
                obtain ⟨xv, hxe⟩ : ∃ xv, xv = gz M i := ⟨_, rfl⟩
                have HSU : Hid (∀ w' v v', IntB w' v (gz f i * s) → IntB w' v' (y * gz g t) → Calls Tryz.prog 59 #[v, v'] w' (Gives w' fun w'' v => NIntV w'' (w'.heap.size ≤ ·) v xv)) := Lib.hid (fun w' v v' h1 h2 => by
                  have h3 := rSub_any h1 h2
                  rw [show gz f i * s - y * gz g t = xv by rw [hxe, HMG.out i hiq, if_pos hfi, ht]] at h3
                  exact h3)
                have HPB := Lib.hid (show wl (y * gz g t).natAbs ≤ 1000000000000 by
                  have h1 := wl_imul y (gz g t)
                  have h2 := HBG.out _ (gz_mem (l := g) (j := t) (by omega))
                  have h3 : wl y.natAbs ≤ 400000000000 := by
                    have h1 := HBF.out _ (ld_mem (l := f) (by rw [← HML.out]; omega))
                    rw [HYE.out]
                    split
                    · rw [Int.natAbs_neg]; exact h1
                    · exact h1
                  omega)
                clear hcell8 hbt8 r0 r1 r2 eg2 e83 hgp ht
                go_wp2_with fail
                have ht0 : Below W3.heap.size W3 W3.drew := (Below.refl _ _).drew
                refine wp_region_trg (.read 0 (.read 1 (.read 2 (.read 3 (.read 4 (.read 5 (.read 6 (.read 7 (.step 8 (.step 9 (.step 10 .nil))))))))))) [10] (by kernel_rfl) (by rfl) (by kernel_rfl) (by kernel_rfl) (fun _ _ _ _ _ h => h) (fun W' => Below W3.heap.size W3 W') ?_
                change goG _ _ _ _ _ _ _ W3.drew
                refine goG_read 64 ht0 (by rfl) (by rfl) ?_ (by rfl) (fun wz hSw => ?_) ?_
                rotate_left
                · (have x0 := keepB hSw X0.out); (have x1 := keepB hSw X1.out); go_simp
                  try with_reducible rfl
                simp only [List.setIfInBounds_toArray, List.set]
                refine goG_read 65 ht0 (by rfl) (by rfl) ?_ (by rfl) (fun wz hSw => ?_) ?_
                rotate_left
                · (have x0 := keepB hSw U0.out); (have x1 := keepB hSw U1.out); go_simp
                  try with_reducible rfl
                simp only [List.setIfInBounds_toArray, List.set]
                refine goG_read 66 ht0 (by rfl) (by rfl) ?_ (by rfl) (fun wz hSw => ?_) ?_
                rotate_left
                · go_simp
                  try with_reducible rfl
                simp only [List.setIfInBounds_toArray, List.set]
                refine goG_read 67 ht0 (by rfl) (by rfl) ?_ (by rfl) (fun wz hSw => ?_) ?_
                rotate_left
                · go_simp
                  try with_reducible rfl
                simp only [List.setIfInBounds_toArray, List.set]
                refine goG_read 68 ht0 (by rfl) (by rfl) ?_ (by rfl) (fun wz hSw => ?_) ?_
                rotate_left
                · go_simp
                  try with_reducible rfl
                simp only [List.setIfInBounds_toArray, List.set]
                refine goG_read 69 ht0 (by rfl) (by rfl) ?_ (by rfl) (fun wz hSw => ?_) ?_
                rotate_left
                · go_simp
                  try with_reducible rfl
                simp only [List.setIfInBounds_toArray, List.set]
                refine goG_read 70 ht0 (by rfl) (by rfl) ?_ (by rfl) (fun wz hSw => ?_) ?_
                rotate_left
                · go_simp
                  try with_reducible rfl
                simp only [List.setIfInBounds_toArray, List.set]
                refine goG_read 71 ht0 (by rfl) (by rfl) ?_ (by rfl) (fun wz hSw => ?_) ?_
                rotate_left
                · (have x0 := keepB hSw R0.out); (have x1 := keepB hSw R1.out); go_simp
                  try with_reducible rfl
                simp only [List.setIfInBounds_toArray, List.set]
                refine goG_step (by rfl) ?_
                go_wp2_with (go_at_call 57; go_must (refine (rMul_any (UI.out.below ht0) (RI.out.below ht0)).mono ?_); rintro e w5 ⟨v5, rfl, hv5', hb5⟩; obtain ⟨n6', A6', m6', c6', rfl, hi5⟩ := (nint_ni hv5').shape)
                have ht1 : Below W3.heap.size W3 w5 := btr ht0 hb5
                refine ⟨fun _ => ht1, ?_⟩
                refine goG_step (by rfl) ?_
                go_wp2_with (go_at_call 59; go_must (refine (HSU.out _ _ _ (XI.out.below ht1) (NIntV.b hi5 HPB.out)).mono ?_); rintro e w6 ⟨v6, rfl, hv6, hb6⟩; obtain ⟨n9, A9, m9, c9, rfl, hi6⟩ := (nint_ni hv6).shape)
                have ht2 : Below W3.heap.size W3 w6 := btr ht1 hb6
                refine ⟨fun _ => ht2, ?_⟩
                have k0 := keepB ht2 X0.out
                have k1 := keepB ht2 X1.out
                have f0 : w6.frozen? ⟨P, 0, none⟩ = false := ((bcell ht2).2 _ _ hPl).trans hz0
                have f1' : w6.frozen? ⟨P, 1, none⟩ = false := ((bcell ht2).2 _ _ hPl).trans hz1
                refine goG_step (by rfl) ?_
                go_wp2_with fail
                refine ⟨(fun h => by cases h), ?_⟩
                rename_i hK
                refine hK _ _ ?_
                clear hK
                have hPg : P < w5.heap.size := Nat.lt_of_lt_of_le hPl ht1.size
                have hs4 : Below wr.heap.size wr ((w6.setCell ⟨P, 0, none⟩ (.bool n9)).setCell ⟨P, 1, none⟩ (.slice A9 m9 c9)) := ((btr hs2 ht2).setCell (show wr.heap.size ≤ P from hPs) _).setCell (show wr.heap.size ≤ P from hPs) _
                have k2 : ((w6.setCell ⟨P, 0, none⟩ (.bool n9)).setCell ⟨P, 1, none⟩ (.slice A9 m9 c9)).cell? ⟨P, 0, none⟩ = some (.bool n9) := by go_simp
                have k3 : ((w6.setCell ⟨P, 0, none⟩ (.bool n9)).setCell ⟨P, 1, none⟩ (.slice A9 m9 c9)).cell? ⟨P, 1, none⟩ = some (.slice A9 m9 c9) := by go_simp
                replace hXV : NIntV ((w6.setCell ⟨P, 0, none⟩ (.bool n9)).setCell ⟨P, 1, none⟩ (.slice A9 m9 c9)) (wr.heap.size ≤ ·) (.agg #[.bool n9, .slice A9 m9 c9]) xv :=
                  NIntV.mono (NIntV.setCell (NIntV.setCell hv6 (by simp; omega) _) (by simp; omega) _) fun b hb _ => Nat.le_trans (btr hs2 ht1).size hb
                generalize ((w6.setCell ⟨P, 0, none⟩ (.bool n9)).setCell ⟨P, 1, none⟩ (.slice A9 m9 c9)) = W4 at *
                clear k0 k1 f0 f1' hv6 hi6 hb6 hi5 hv5' hb5 ht2 ht1 ht0 hx0 hx1 hz0 hz1
                have HY2 := Lib.hid (show M.take (i + 1) = M.take i ++ [xv] by rw [hxe, take_succ_gz (by rw [HML2.out]; omega)])
                have ho4 := HO.out.below hs4
                clear hxe
                go_wp2_with (at_builtin; go_must (refine wpList_pushJ _ rfl _ _ _ _ rfl W2.heap.size Tryz.underlying22 Tryz.underlying22 (.slice Ao i co) (M.take i) i HLK.out rfl ho4 _ A9 _ c9 xv rfl (hXV.mono fun b hb _ => ⟨Nat.le_trans hbi.size hb, HO.out.fresh hb⟩) (by omega) (Nat.le_trans hbi.size hs4.size) ?_); intro A7 c7 w7 hown7 hgr7 hb7)
                have hfin := (btr hbi hs4).trans hb7
                refine ⟨⟨i + 1, by go_num, by omega, by rw [HY2.out]; exact hown7, hfin⟩, by simp [intOf]; omega⟩
              · have hge : i < fr := by omega
                obtain ⟨xv, hxe⟩ : ∃ xv, xv = gz M i := ⟨_, rfl⟩
                replace hXV : NIntV W3 (wr.heap.size ≤ ·) (.agg #[.bool n5, .slice A5 m5' c5]) xv := by rw [hxe, HMG.out i hiq, if_neg hfi]; exact hXV
                have hs4 := hs2
                clear hfi hz0 hz1
                have HY2 := Lib.hid (show M.take (i + 1) = M.take i ++ [xv] by rw [hxe, take_succ_gz (by rw [HML2.out]; omega)])
                have ho4 := HO.out.below hs4
                clear hxe
                go_wp2_with (at_builtin; go_must (refine wpList_pushJ _ rfl _ _ _ _ rfl W2.heap.size Tryz.underlying22 Tryz.underlying22 (.slice Ao i co) (M.take i) i HLK.out rfl ho4 _ A5 _ c5 xv rfl (hXV.mono fun b hb _ => ⟨Nat.le_trans hbi.size hb, HO.out.fresh hb⟩) (by omega) (Nat.le_trans hbi.size hs4.size) ?_); intro A7 c7 w7 hown7 hgr7 hb7)
                have hfin := (btr hbi hs4).trans hb7
                refine ⟨⟨i + 1, by go_num, by omega, by rw [HY2.out]; exact hown7, hfin⟩, by simp [intOf]; omega⟩
          · obtain rfl : i = q + 1 := by omega
            have hown2 : OwnJ wr W2.heap.size (.slice Ao (q + 1) co) M := by
              rw [List.take_of_length_le (by rw [HML2.out]; omega)] at hown
              exact hown
            obtain ⟨A3, c3, e3, hp3⟩ := hown2.pv.b (B := 1000000000000) HMB.out (Nat.le_refl _)
            injection e3 with e4 e5 e6
            subst e4 e6
            have HC := Lib.hid (qTrim_any hp3 (by rw [HML2.out]; omega))
            rw [← e5, HTM.out] at HC
            have hsl := HSL.out
            have hall := btr hbW hbi
            have htz : tz (stp f g) = stp f g := by rw [← HTM.out]; exact tz_tz _
            have hwall : Below w.heap.size w wr := btr hbw hall
            have hlt : ¬ (((q + 1 : Nat) : Int) < q + 1) := by omega
            clear hown hown2 hp3 e5 hiq
            go_wp2_with (go_at_call 41; go_must (refine HC.out.mono ?_); rintro e w9 ⟨v9, rfl, ⟨A9, c9, rfl, hp9⟩, hb9⟩)
            refine ⟨⟨A9, c9, (stp f g).length, stp f g, rfl, rfl, ⟨A9, c9, rfl, (hp9.mono fun b hb _ => Nat.le_trans hwall.size hb).imp fun _ _ _ hx => NIntV.mono hx fun b hb _ => Nat.le_trans hwall.size hb⟩, Lib.hid htz, HR2, Lib.hid HNX.out.1, by omega, btr hall hb9⟩, by simp only [lenOf]; omega⟩
      · skip
        have hbF : Below wr.heap.size wr (wr.alloc (.cells #[.bool fneg, .slice fB fm fk] 63)) := below_al (Below.refl _ _) _
        have da0 := keepB hbF c50
        have da1 := keepB hbF c51
        have HBF1 := Lib.hid (Nat.le_trans (HBF.out _ (ld_mem (by rw [← HML.out]; omega))) (show 400000000000 ≤ 1000000000000 by omega))

        have hneg1 := decide_eq_false (p := sv < 0) (by rw [hsv, cmpI_zero]; exact hneg)
        have hye : y = ld f := by rw [hy, if_neg hneg]
        have hse : s = ld g := by rw [hs]; omega
        clear hneg hsv hy hs
        go_upto_region 7 with (go_at_call 54; (with_reducible refine (HSG.out _ _ (HI5.out.below hbF)).mono ?_); rintro e W1 ⟨rfl, hb5⟩)
        have hbC := btr hbF hb5
        have hvY : Vi W1 wr.heap.size y := by rw [hye]; exact IArr.below (Vi.new HLF.out) hb5
        clear hb5 da0 da1 hye
        have hP61 : wr.heap.size < W1.heap.size := hvY.lt
        have d0 := keepB hbC c50
        have d1 := keepB hbC c51
        have hbX : Below wr.heap.size wr (W1.alloc (.cells #[.bool ng5, .slice B5 m5 k5] 63)) := below_al hbC _
        have hv8 : Vi (W1.alloc (.cells #[.bool ng5, .slice B5 m5 k5] 63)) W1.heap.size (ld g) := Vi.new (NI.below HI5N.out hbC)
        have hw8 : Vi (W1.alloc (.cells #[.bool ng5, .slice B5 m5 k5] 63)) wr.heap.size y := IArr.below hvY (below_al (Below.refl _ _) _)
        have a0 := keepB hbX c50
        have a1 := keepB hbX c51
        rw [← hse] at hv8
        clear hse
        go_upto_region 10 with (go_at_call 54; (with_reducible refine (HSG.out _ _ (HI5.out.below hbX)).mono ?_); rintro e W2 ⟨rfl, hb7⟩)
        have hbG := btr hbX hb7
        have hvS : Vi W2 W1.heap.size s := IArr.below hv8 hb7
        have hvY2 : Vi W2 wr.heap.size y := IArr.below hw8 hb7
        clear hb7 hv8 hw8 hbX hbC hvY d0 d1
        clear a0 a1
        obtain ⟨wo, rfl⟩ : ∃ wo : World, wo = wr := ⟨_, rfl⟩
        go_wp2_with fail
        rw [show (q : Int) + 1 - ((p : Int) + 1) = ((q - p : Nat) : Int) by omega]
        obtain ⟨fr, hfr⟩ : ∃ fr, fr = q - p := ⟨_, rfl⟩
        rw [← hfr]
        obtain ⟨M, hM⟩ : ∃ M, M = lsF y g fr (f.map (· * s)) := ⟨_, rfl⟩
        have hfl : f.length = q + 1 := HML.out.symm
        have hgl2 : g.length = p + 1 := HPL.out
        have HML2 := Lib.hid (show M.length = q + 1 by rw [hM, lsF_length, List.length_map, hfl])
        have HMG := Lib.hid (show ∀ i, i < q + 1 → gz M i = if fr ≤ i then gz f i * s - y * gz g (i - fr) else gz f i * s from fun i hi => by
          rw [hM, lsF_gz _ _ _ _ _ (by rw [List.length_map]; omega), gz_map (by omega)]
          by_cases h1 : fr ≤ i
          · rw [if_pos ⟨h1, by omega⟩, if_pos h1]
          · rw [if_neg (fun h => h1 h.1), if_neg h1])
        have HTM := Lib.hid (show tz M = stp f g by rw [hM, hfr, HYE.out, HSE.out]; unfold stp ls; rw [hfl, hgl2, Nat.add_sub_add_right])
        have HMB := Lib.hid (show Bd 1000000000000 M from fun x hx => by
          obtain ⟨j, hj, rfl⟩ := mem_gz hx
          rw [HML2.out] at hj
          rw [HMG.out j hj]
          have h1 := HNX.out.2
          split
          · rename_i h2
            exact h1 (y * gz g (j - fr)) _ ⟨j, by omega, by rw [gz_map (by omega), ← HSE.out], .inr ⟨j - fr, by omega, by rw [← HYE.out]⟩⟩
          · exact h1 0 _ ⟨j, by omega, by rw [gz_map (by omega), ← HSE.out]; omega, .inl rfl⟩)
        have HXB := Lib.hid (show ∀ i, i < q + 1 → wl (gz f i * s).natAbs ≤ 1000000000000 from fun i hi => HNX.out.2 0 _ ⟨i, by omega, by rw [gz_map (by omega), ← HSE.out]; omega, .inl rfl⟩)
        have HYB := Lib.hid (show wl y.natAbs ≤ 1000000000000 by
          have h1 := HBF1.out
          rw [HYE.out]
          split
          · rw [Int.natAbs_neg]; exact h1
          · exact h1)
        have HSB := Lib.hid (show wl s.natAbs ≤ 1000000000000 by
          have h1 := HBG.out _ (ld_mem (l := g) (by omega))
          rw [HSE.out, Int.natAbs_natCast]
          omega)
        have hfrq : fr + p = q := by omega
        clear hM hfr hfl hgl2
        obtain ⟨sn, sB, sm, sk, s0, s1, hsi, sz0, sz1⟩ := Vi.cells hvS
        obtain ⟨yn, yB, ym, yk, y0, y1, hyi, yz0, yz1⟩ := Vi.cells hvY2
        have S0 := Lib.hid s0
        have S1 := Lib.hid s1
        have SI := Lib.hid (NIntV.b hsi HSB.out)
        have Y0 := Lib.hid y0
        have Y1 := Lib.hid y1
        have YI := Lib.hid (NIntV.b hyi HYB.out)
        have hbW := btr hbr hbG
        clear s0 s1 hsi sz0 sz1 y0 y1 hyi yz0 yz1
        go_loopw [9, 10] (fun ov iv wr => ∃ i : Nat, iv = .int .i64 i ∧ i ≤ q + 1 ∧ OwnJ wr W2.heap.size ov (M.take i) ∧ Below W2.heap.size W2 wr) (fun _ iv _ => q + 1 - (intOf iv).toNat)
        case atStart => exact ⟨0, rfl, by omega, OwnJ.nil _ _, Below.refl _ _⟩
        case round =>
          obtain ⟨i, rfl, hi, hown, hbi⟩ := hrel
          have hlk : (M.take i).length = i := by rw [List.length_take, HML2.out]; omega
          have HLK := Lib.hid hlk
          obtain ⟨Ao, co, rfl, hco1, hco2⟩ := hown.slice_ hlk
          unfold maxLen at hco2
          clear hlk
          rcases Nat.lt_or_ge i (q + 1) with hiq | hiq
          · have hball := btr hbW hbi
            obtain ⟨b9, off9, e9, hbt9, hcell9⟩ := (HFP.out.below (btr hbG hbi)).cells (by omega)
            injection e9 with e9
            injection e9 with e91 e92 e93
            subst e91 e92
            clear e93
            obtain ⟨jn, jB, jm, jk, j0, j1, j2⟩ := hcell9 i hiq
            have J0 := Lib.hid j0
            have J1 := Lib.hid j1
            have JI := Lib.hid (NIntV.b j2 (Nat.le_trans (HBF.out _ (gz_mem (by rw [← HML.out]; exact hiq))) (by omega)))
            have HO := Lib.hid hown
            have hil : (i : Int) < q + 1 := by omega
            have T0 := Lib.hid (keepB hbi S0.out)
            have T1 := Lib.hid (keepB hbi S1.out)
            clear hcell9 hbt9 j0 j1 j2 hown
            go_wp2_with fail
            have hs0 : Below wr.heap.size wr wr.drew := (Below.refl _ _).drew
            refine wp_region_trg (.read 0 (.read 1 (.read 2 (.read 3 (.read 4 (.two 5 6 (.step 6 (.step 7 .nil)) (.step 5 (.step 7 .nil)))))))) [] (by kernel_rfl) (by rfl) (by kernel_rfl) (by kernel_rfl) (fun _ _ _ _ _ h => h) (fun W' => Below wr.heap.size wr W') ?_
            change goG _ _ _ _ _ _ _ wr.drew
            refine goG_read 55 hs0 (by rfl) (by rfl) ?_ (by rfl) (fun wz hSw => ?_) ?_
            rotate_left
            · go_simp
              try with_reducible rfl
            simp only [List.setIfInBounds_toArray, List.set]
            refine goG_read 56 hs0 (by rfl) (by rfl) ?_ (by rfl) (fun wz hSw => ?_) ?_
            rotate_left
            · go_simp
              try with_reducible rfl
            simp only [List.setIfInBounds_toArray, List.set]
            refine goG_read 57 hs0 (by rfl) (by rfl) ?_ (by rfl) (fun wz hSw => ?_) ?_
            rotate_left
            · go_simp
              try with_reducible rfl
            simp only [List.setIfInBounds_toArray, List.set]
            refine goG_read 58 hs0 (by rfl) (by rfl) ?_ (by rfl) (fun wz hSw => ?_) ?_
            rotate_left
            · (have x0 := keepB hSw J0.out); (have x1 := keepB hSw J1.out); go_simp
              try with_reducible rfl
            simp only [List.setIfInBounds_toArray, List.set]
            refine goG_read 59 hs0 (by rfl) (by rfl) ?_ (by rfl) (fun wz hSw => ?_) ?_
            rotate_left
            · (have x0 := keepB hSw T0.out); (have x1 := keepB hSw T1.out); go_simp
              try with_reducible rfl
            simp only [List.setIfInBounds_toArray, List.set]
            refine goG_two (by rfl) (by rfl) ?_ ?_
            · go_wp2_with (go_at_call 57; go_must (refine (rMul_any (JI.out.below hs0) (SI.out.below (btr hbi hs0))).mono ?_); rintro e w5 ⟨v5, rfl, hv5', hb5⟩; obtain ⟨n5, A5, m5', c5, rfl, hi5⟩ := (nint_ni hv5').shape)
              have hs1 := btr hs0 hb5
              refine ⟨fun _ => hs1, ?_⟩
              refine goG_step (by rfl) ?_
              go_wp2_with fail
              refine ⟨fun _ => below_al hs1 _, ?_⟩
              refine goG_step (by rfl) ?_
              go_wp2_with fail
              refine ⟨fun _ => below_al hs1 _, ?_⟩
              rename_i hK
              refine hK _ _ ?_
              have hs2 := below_al hs1 (.cells #[.bool n5, .slice A5 m5' c5] 63)
              have hx0 : (w5.alloc (.cells #[.bool n5, .slice A5 m5' c5] 63)).cell? ⟨w5.heap.size, 0, none⟩ = some (.bool n5) := by go_simp
              have hx1 : (w5.alloc (.cells #[.bool n5, .slice A5 m5' c5] 63)).cell? ⟨w5.heap.size, 1, none⟩ = some (.slice A5 m5' c5) := by go_simp
              have hz0 : (w5.alloc (.cells #[.bool n5, .slice A5 m5' c5] 63)).frozen? ⟨w5.heap.size, 0, none⟩ = false := by go_simp
              have hz1 : (w5.alloc (.cells #[.bool n5, .slice A5 m5' c5] 63)).frozen? ⟨w5.heap.size, 1, none⟩ = false := by go_simp
              have hXV : NIntV (w5.alloc (.cells #[.bool n5, .slice A5 m5' c5] 63)) (wr.heap.size ≤ ·) (.agg #[.bool n5, .slice A5 m5' c5]) (gz f i * s) := NIntV.below (hv5'.mono fun b hb _ => Nat.le_trans hs0.size hb) (below_al (Below.refl _ _) _)
              have hPs : wr.heap.size ≤ w5.heap.size := hs1.size
              generalize hW3 : w5.alloc (.cells #[.bool n5, .slice A5 m5' c5] 63) = W3 at *
              have hPl : w5.heap.size < W3.heap.size := by rw [← hW3]; simp
              generalize w5.heap.size = P at *
              clear hW3 hs1 hi5 hv5' hb5
              clear hK
              by_cases hfi : fr ≤ i
              · have hwi : IntKind.i64.wrap ((i : Int) - fr) = ((i - fr : Nat) : Int) := by rw [show (i : Int) - fr = ((i - fr : Nat) : Int) by omega]; exact IntWalk.i64_in _ (by omega)
                obtain ⟨t, ht⟩ : ∃ t, t = i - fr := ⟨_, rfl⟩
                rw [← ht] at hwi
                have htp : t < p + 1 := by omega
                have htp1 : (t : Int) < p + 1 := by omega
                obtain ⟨gA, gc, eg, hgp⟩ := HG.out
                injection eg with eg1 eg2 eg3
                subst eg1 eg3
                obtain ⟨b8, off8, e8, hbt8, hcell8⟩ := (hgp.below (btr hball hs2)).cells (by omega)
                injection e8 with e8
                injection e8 with e81 e82 e83
                subst e81 e82
                obtain ⟨rn, rB, rm', rk, r0, r1, r2⟩ := hcell8 t (by omega)
                have R0 := Lib.hid r0
                have R1 := Lib.hid r1
                have RI := Lib.hid (NIntV.b r2 (Nat.le_trans (HBG.out _ (gz_mem (by omega))) (by omega)))
                have X0 := Lib.hid hx0
                have X1 := Lib.hid hx1
                have XI := Lib.hid (NIntV.b hXV (HXB.out i hiq))
                have U0 := Lib.hid (keepB (btr hbi hs2) Y0.out)
                have U1 := Lib.hid (keepB (btr hbi hs2) Y1.out)
                have UI := Lib.hid (YI.out.below (btr hbi hs2))
                obtain ⟨xv, hxe⟩ : ∃ xv, xv = gz M i := ⟨_, rfl⟩
                have HSU : Hid (∀ w' v v', IntB w' v (gz f i * s) → IntB w' v' (y * gz g t) → Calls Tryz.prog 59 #[v, v'] w' (Gives w' fun w'' v => NIntV w'' (w'.heap.size ≤ ·) v xv)) := Lib.hid (fun w' v v' h1 h2 => by
                  have h3 := rSub_any h1 h2
                  rw [show gz f i * s - y * gz g t = xv by rw [hxe, HMG.out i hiq, if_pos hfi, ht]] at h3
                  exact h3)
                have HPB := Lib.hid (show wl (y * gz g t).natAbs ≤ 1000000000000 by
                  have h1 := wl_imul y (gz g t)
                  have h2 := HBG.out _ (gz_mem (l := g) (j := t) (by omega))
                  have h3 : wl y.natAbs ≤ 400000000000 := by
                    have h1 := HBF.out _ (ld_mem (l := f) (by rw [← HML.out]; omega))
                    rw [HYE.out]
                    split
                    · rw [Int.natAbs_neg]; exact h1
                    · exact h1
                  omega)
                clear hcell8 hbt8 r0 r1 r2 eg2 e83 hgp ht
                go_wp2_with fail
                have ht0 : Below W3.heap.size W3 W3.drew := (Below.refl _ _).drew
                refine wp_region_trg (.read 0 (.read 1 (.read 2 (.read 3 (.read 4 (.read 5 (.read 6 (.read 7 (.step 8 (.step 9 (.step 10 .nil))))))))))) [10] (by kernel_rfl) (by rfl) (by kernel_rfl) (by kernel_rfl) (fun _ _ _ _ _ h => h) (fun W' => Below W3.heap.size W3 W') ?_
                change goG _ _ _ _ _ _ _ W3.drew
                refine goG_read 64 ht0 (by rfl) (by rfl) ?_ (by rfl) (fun wz hSw => ?_) ?_
                rotate_left
                · (have x0 := keepB hSw X0.out); (have x1 := keepB hSw X1.out); go_simp
                  try with_reducible rfl
                simp only [List.setIfInBounds_toArray, List.set]
                refine goG_read 65 ht0 (by rfl) (by rfl) ?_ (by rfl) (fun wz hSw => ?_) ?_
                rotate_left
                · (have x0 := keepB hSw U0.out); (have x1 := keepB hSw U1.out); go_simp
                  try with_reducible rfl
                simp only [List.setIfInBounds_toArray, List.set]
                refine goG_read 66 ht0 (by rfl) (by rfl) ?_ (by rfl) (fun wz hSw => ?_) ?_
                rotate_left
                · go_simp
                  try with_reducible rfl
                simp only [List.setIfInBounds_toArray, List.set]
                refine goG_read 67 ht0 (by rfl) (by rfl) ?_ (by rfl) (fun wz hSw => ?_) ?_
                rotate_left
                · go_simp
                  try with_reducible rfl
                simp only [List.setIfInBounds_toArray, List.set]
                refine goG_read 68 ht0 (by rfl) (by rfl) ?_ (by rfl) (fun wz hSw => ?_) ?_
                rotate_left
                · go_simp
                  try with_reducible rfl
                simp only [List.setIfInBounds_toArray, List.set]
                refine goG_read 69 ht0 (by rfl) (by rfl) ?_ (by rfl) (fun wz hSw => ?_) ?_
                rotate_left
                · go_simp
                  try with_reducible rfl
                simp only [List.setIfInBounds_toArray, List.set]
                refine goG_read 70 ht0 (by rfl) (by rfl) ?_ (by rfl) (fun wz hSw => ?_) ?_
                rotate_left
                · go_simp
                  try with_reducible rfl
                simp only [List.setIfInBounds_toArray, List.set]
                refine goG_read 71 ht0 (by rfl) (by rfl) ?_ (by rfl) (fun wz hSw => ?_) ?_
                rotate_left
                · (have x0 := keepB hSw R0.out); (have x1 := keepB hSw R1.out); go_simp
                  try with_reducible rfl
                simp only [List.setIfInBounds_toArray, List.set]
                refine goG_step (by rfl) ?_
                go_wp2_with (go_at_call 57; go_must (refine (rMul_any (UI.out.below ht0) (RI.out.below ht0)).mono ?_); rintro e w5 ⟨v5, rfl, hv5', hb5⟩; obtain ⟨n6', A6', m6', c6', rfl, hi5⟩ := (nint_ni hv5').shape)
                have ht1 : Below W3.heap.size W3 w5 := btr ht0 hb5
                refine ⟨fun _ => ht1, ?_⟩
                refine goG_step (by rfl) ?_
                go_wp2_with (go_at_call 59; go_must (refine (HSU.out _ _ _ (XI.out.below ht1) (NIntV.b hi5 HPB.out)).mono ?_); rintro e w6 ⟨v6, rfl, hv6, hb6⟩; obtain ⟨n9, A9, m9, c9, rfl, hi6⟩ := (nint_ni hv6).shape)
                have ht2 : Below W3.heap.size W3 w6 := btr ht1 hb6
                refine ⟨fun _ => ht2, ?_⟩
                have k0 := keepB ht2 X0.out
                have k1 := keepB ht2 X1.out
                have f0 : w6.frozen? ⟨P, 0, none⟩ = false := ((bcell ht2).2 _ _ hPl).trans hz0
                have f1' : w6.frozen? ⟨P, 1, none⟩ = false := ((bcell ht2).2 _ _ hPl).trans hz1
                refine goG_step (by rfl) ?_
                go_wp2_with fail
                refine ⟨(fun h => by cases h), ?_⟩
                rename_i hK
                refine hK _ _ ?_
                clear hK
                have hPg : P < w5.heap.size := Nat.lt_of_lt_of_le hPl ht1.size
                have hs4 : Below wr.heap.size wr ((w6.setCell ⟨P, 0, none⟩ (.bool n9)).setCell ⟨P, 1, none⟩ (.slice A9 m9 c9)) := ((btr hs2 ht2).setCell (show wr.heap.size ≤ P from hPs) _).setCell (show wr.heap.size ≤ P from hPs) _
                have k2 : ((w6.setCell ⟨P, 0, none⟩ (.bool n9)).setCell ⟨P, 1, none⟩ (.slice A9 m9 c9)).cell? ⟨P, 0, none⟩ = some (.bool n9) := by go_simp
                have k3 : ((w6.setCell ⟨P, 0, none⟩ (.bool n9)).setCell ⟨P, 1, none⟩ (.slice A9 m9 c9)).cell? ⟨P, 1, none⟩ = some (.slice A9 m9 c9) := by go_simp
                replace hXV : NIntV ((w6.setCell ⟨P, 0, none⟩ (.bool n9)).setCell ⟨P, 1, none⟩ (.slice A9 m9 c9)) (wr.heap.size ≤ ·) (.agg #[.bool n9, .slice A9 m9 c9]) xv :=
                  NIntV.mono (NIntV.setCell (NIntV.setCell hv6 (by simp; omega) _) (by simp; omega) _) fun b hb _ => Nat.le_trans (btr hs2 ht1).size hb
                generalize ((w6.setCell ⟨P, 0, none⟩ (.bool n9)).setCell ⟨P, 1, none⟩ (.slice A9 m9 c9)) = W4 at *
                clear k0 k1 f0 f1' hv6 hi6 hb6 hi5 hv5' hb5 ht2 ht1 ht0 hx0 hx1 hz0 hz1
                have HY2 := Lib.hid (show M.take (i + 1) = M.take i ++ [xv] by rw [hxe, take_succ_gz (by rw [HML2.out]; omega)])
                have ho4 := HO.out.below hs4
                clear hxe
                go_wp2_with (at_builtin; go_must (refine wpList_pushJ _ rfl _ _ _ _ rfl W2.heap.size Tryz.underlying22 Tryz.underlying22 (.slice Ao i co) (M.take i) i HLK.out rfl ho4 _ A9 _ c9 xv rfl (hXV.mono fun b hb _ => ⟨Nat.le_trans hbi.size hb, HO.out.fresh hb⟩) (by omega) (Nat.le_trans hbi.size hs4.size) ?_); intro A7 c7 w7 hown7 hgr7 hb7)
                have hfin := (btr hbi hs4).trans hb7
                refine ⟨⟨i + 1, by go_num, by omega, by rw [HY2.out]; exact hown7, hfin⟩, by simp [intOf]; omega⟩
              · have hge : i < fr := by omega
                obtain ⟨xv, hxe⟩ : ∃ xv, xv = gz M i := ⟨_, rfl⟩
                replace hXV : NIntV W3 (wr.heap.size ≤ ·) (.agg #[.bool n5, .slice A5 m5' c5]) xv := by rw [hxe, HMG.out i hiq, if_neg hfi]; exact hXV
                have hs4 := hs2
                clear hfi hz0 hz1
                have HY2 := Lib.hid (show M.take (i + 1) = M.take i ++ [xv] by rw [hxe, take_succ_gz (by rw [HML2.out]; omega)])
                have ho4 := HO.out.below hs4
                clear hxe
                go_wp2_with (at_builtin; go_must (refine wpList_pushJ _ rfl _ _ _ _ rfl W2.heap.size Tryz.underlying22 Tryz.underlying22 (.slice Ao i co) (M.take i) i HLK.out rfl ho4 _ A5 _ c5 xv rfl (hXV.mono fun b hb _ => ⟨Nat.le_trans hbi.size hb, HO.out.fresh hb⟩) (by omega) (Nat.le_trans hbi.size hs4.size) ?_); intro A7 c7 w7 hown7 hgr7 hb7)
                have hfin := (btr hbi hs4).trans hb7
                refine ⟨⟨i + 1, by go_num, by omega, by rw [HY2.out]; exact hown7, hfin⟩, by simp [intOf]; omega⟩
            · go_wp2_with fail
              refine ⟨fun _ => below_al hs0 _, ?_⟩
              refine goG_step (by rfl) ?_
              go_wp2_with (go_at_call 57; go_must (refine (rMul_any (JI.out.below (below_al hs0 _)) (SI.out.below (btr hbi (below_al hs0 _)))).mono ?_); rintro e w5 ⟨v5, rfl, hv5', hb5⟩; obtain ⟨n5, A5, m5', c5, rfl, hi5⟩ := (nint_ni hv5').shape)
              have hs1 : Below wr.heap.size wr w5 := btr (below_al hs0 _) hb5
              refine ⟨fun _ => hs1, ?_⟩
              have hvz : Vi w5 wr.heap.size 0 := IArr.below (Vi.new (w := wr.drew) (NIntV.zero _ _)) hb5
              obtain ⟨zn, zB, zm, zk, zz0, zz1, zz2, zz3, zz4⟩ := Vi.cells hvz
              refine goG_step (by rfl) ?_
              go_wp2_with fail
              have hs2 : Below wr.heap.size wr ((w5.setCell ⟨wr.heap.size, 0, none⟩ (.bool n5)).setCell ⟨wr.heap.size, 1, none⟩ (.slice A5 m5' c5)) := (hs1.setCell (Nat.le_refl _) _).setCell (Nat.le_refl _) _
              refine ⟨fun _ => hs2, ?_⟩
              rename_i hK
              refine hK _ _ ?_
              have hPl0 : wr.heap.size < w5.heap.size := hvz.lt
              have hx0 : ((w5.setCell ⟨wr.heap.size, 0, none⟩ (.bool n5)).setCell ⟨wr.heap.size, 1, none⟩ (.slice A5 m5' c5)).cell? ⟨wr.heap.size, 0, none⟩ = some (.bool n5) := by go_simp
              have hx1 : ((w5.setCell ⟨wr.heap.size, 0, none⟩ (.bool n5)).setCell ⟨wr.heap.size, 1, none⟩ (.slice A5 m5' c5)).cell? ⟨wr.heap.size, 1, none⟩ = some (.slice A5 m5' c5) := by go_simp
              have hz0 : ((w5.setCell ⟨wr.heap.size, 0, none⟩ (.bool n5)).setCell ⟨wr.heap.size, 1, none⟩ (.slice A5 m5' c5)).frozen? ⟨wr.heap.size, 0, none⟩ = false := by go_simp
              have hz1 : ((w5.setCell ⟨wr.heap.size, 0, none⟩ (.bool n5)).setCell ⟨wr.heap.size, 1, none⟩ (.slice A5 m5' c5)).frozen? ⟨wr.heap.size, 1, none⟩ = false := by go_simp
              have hXV : NIntV ((w5.setCell ⟨wr.heap.size, 0, none⟩ (.bool n5)).setCell ⟨wr.heap.size, 1, none⟩ (.slice A5 m5' c5)) (wr.heap.size ≤ ·) (.agg #[.bool n5, .slice A5 m5' c5]) (gz f i * s) :=
                NIntV.mono (NIntV.setCell (NIntV.setCell (D := (wr.heap.size + 1 ≤ ·)) (hv5'.mono fun b hb _ => by simp at hb; exact hb) (by simp) _) (by simp) _) fun b hb _ => Nat.le_of_succ_le hb
              have hPl : wr.heap.size < ((w5.setCell ⟨wr.heap.size, 0, none⟩ (.bool n5)).setCell ⟨wr.heap.size, 1, none⟩ (.slice A5 m5' c5)).heap.size := by simpa using hPl0
              have hPs := Nat.le_refl wr.heap.size
              generalize ((w5.setCell ⟨wr.heap.size, 0, none⟩ (.bool n5)).setCell ⟨wr.heap.size, 1, none⟩ (.slice A5 m5' c5)) = W3 at *
              obtain ⟨P, hP⟩ : ∃ P, P = wr.heap.size := ⟨_, rfl⟩
              rw [← hP] at hx0 hx1 hz0 hz1 hPl ⊢
              replace hPs : wr.heap.size ≤ P := by omega
              clear hP hs1 hi5 hv5' hb5 hvz zz0 zz1 zz2 zz3 zz4 hPl0
              clear hK
              by_cases hfi : fr ≤ i
              · have hwi : IntKind.i64.wrap ((i : Int) - fr) = ((i - fr : Nat) : Int) := by rw [show (i : Int) - fr = ((i - fr : Nat) : Int) by omega]; exact IntWalk.i64_in _ (by omega)
                obtain ⟨t, ht⟩ : ∃ t, t = i - fr := ⟨_, rfl⟩
                rw [← ht] at hwi
                have htp : t < p + 1 := by omega
                have htp1 : (t : Int) < p + 1 := by omega
                obtain ⟨gA, gc, eg, hgp⟩ := HG.out
                injection eg with eg1 eg2 eg3
                subst eg1 eg3
                obtain ⟨b8, off8, e8, hbt8, hcell8⟩ := (hgp.below (btr hball hs2)).cells (by omega)
                injection e8 with e8
                injection e8 with e81 e82 e83
                subst e81 e82
                obtain ⟨rn, rB, rm', rk, r0, r1, r2⟩ := hcell8 t (by omega)
                have R0 := Lib.hid r0
                have R1 := Lib.hid r1
                have RI := Lib.hid (NIntV.b r2 (Nat.le_trans (HBG.out _ (gz_mem (by omega))) (by omega)))
                have X0 := Lib.hid hx0
                have X1 := Lib.hid hx1
                have XI := Lib.hid (NIntV.b hXV (HXB.out i hiq))
                have U0 := Lib.hid (keepB (btr hbi hs2) Y0.out)
                have U1 := Lib.hid (keepB (btr hbi hs2) Y1.out)
                have UI := Lib.hid (YI.out.below (btr hbi hs2))
                obtain ⟨xv, hxe⟩ : ∃ xv, xv = gz M i := ⟨_, rfl⟩
                have HSU : Hid (∀ w' v v', IntB w' v (gz f i * s) → IntB w' v' (y * gz g t) → Calls Tryz.prog 59 #[v, v'] w' (Gives w' fun w'' v => NIntV w'' (w'.heap.size ≤ ·) v xv)) := Lib.hid (fun w' v v' h1 h2 => by
                  have h3 := rSub_any h1 h2
                  rw [show gz f i * s - y * gz g t = xv by rw [hxe, HMG.out i hiq, if_pos hfi, ht]] at h3
                  exact h3)
                have HPB := Lib.hid (show wl (y * gz g t).natAbs ≤ 1000000000000 by
                  have h1 := wl_imul y (gz g t)
                  have h2 := HBG.out _ (gz_mem (l := g) (j := t) (by omega))
                  have h3 : wl y.natAbs ≤ 400000000000 := by
                    have h1 := HBF.out _ (ld_mem (l := f) (by rw [← HML.out]; omega))
                    rw [HYE.out]
                    split
                    · rw [Int.natAbs_neg]; exact h1
                    · exact h1
                  omega)
                clear hcell8 hbt8 r0 r1 r2 eg2 e83 hgp ht
                go_wp2_with fail
                have ht0 : Below W3.heap.size W3 W3.drew := (Below.refl _ _).drew
                refine wp_region_trg (.read 0 (.read 1 (.read 2 (.read 3 (.read 4 (.read 5 (.read 6 (.read 7 (.step 8 (.step 9 (.step 10 .nil))))))))))) [10] (by kernel_rfl) (by rfl) (by kernel_rfl) (by kernel_rfl) (fun _ _ _ _ _ h => h) (fun W' => Below W3.heap.size W3 W') ?_
                change goG _ _ _ _ _ _ _ W3.drew
                refine goG_read 64 ht0 (by rfl) (by rfl) ?_ (by rfl) (fun wz hSw => ?_) ?_
                rotate_left
                · (have x0 := keepB hSw X0.out); (have x1 := keepB hSw X1.out); go_simp
                  try with_reducible rfl
                simp only [List.setIfInBounds_toArray, List.set]
                refine goG_read 65 ht0 (by rfl) (by rfl) ?_ (by rfl) (fun wz hSw => ?_) ?_
                rotate_left
                · (have x0 := keepB hSw U0.out); (have x1 := keepB hSw U1.out); go_simp
                  try with_reducible rfl
                simp only [List.setIfInBounds_toArray, List.set]
                refine goG_read 66 ht0 (by rfl) (by rfl) ?_ (by rfl) (fun wz hSw => ?_) ?_
                rotate_left
                · go_simp
                  try with_reducible rfl
                simp only [List.setIfInBounds_toArray, List.set]
                refine goG_read 67 ht0 (by rfl) (by rfl) ?_ (by rfl) (fun wz hSw => ?_) ?_
                rotate_left
                · go_simp
                  try with_reducible rfl
                simp only [List.setIfInBounds_toArray, List.set]
                refine goG_read 68 ht0 (by rfl) (by rfl) ?_ (by rfl) (fun wz hSw => ?_) ?_
                rotate_left
                · go_simp
                  try with_reducible rfl
                simp only [List.setIfInBounds_toArray, List.set]
                refine goG_read 69 ht0 (by rfl) (by rfl) ?_ (by rfl) (fun wz hSw => ?_) ?_
                rotate_left
                · go_simp
                  try with_reducible rfl
                simp only [List.setIfInBounds_toArray, List.set]
                refine goG_read 70 ht0 (by rfl) (by rfl) ?_ (by rfl) (fun wz hSw => ?_) ?_
                rotate_left
                · go_simp
                  try with_reducible rfl
                simp only [List.setIfInBounds_toArray, List.set]
                refine goG_read 71 ht0 (by rfl) (by rfl) ?_ (by rfl) (fun wz hSw => ?_) ?_
                rotate_left
                · (have x0 := keepB hSw R0.out); (have x1 := keepB hSw R1.out); go_simp
                  try with_reducible rfl
                simp only [List.setIfInBounds_toArray, List.set]
                refine goG_step (by rfl) ?_
                go_wp2_with (go_at_call 57; go_must (refine (rMul_any (UI.out.below ht0) (RI.out.below ht0)).mono ?_); rintro e w5 ⟨v5, rfl, hv5', hb5⟩; obtain ⟨n6', A6', m6', c6', rfl, hi5⟩ := (nint_ni hv5').shape)
                have ht1 : Below W3.heap.size W3 w5 := btr ht0 hb5
                refine ⟨fun _ => ht1, ?_⟩
                refine goG_step (by rfl) ?_
                go_wp2_with (go_at_call 59; go_must (refine (HSU.out _ _ _ (XI.out.below ht1) (NIntV.b hi5 HPB.out)).mono ?_); rintro e w6 ⟨v6, rfl, hv6, hb6⟩; obtain ⟨n9, A9, m9, c9, rfl, hi6⟩ := (nint_ni hv6).shape)
                have ht2 : Below W3.heap.size W3 w6 := btr ht1 hb6
                refine ⟨fun _ => ht2, ?_⟩
                have k0 := keepB ht2 X0.out
                have k1 := keepB ht2 X1.out
                have f0 : w6.frozen? ⟨P, 0, none⟩ = false := ((bcell ht2).2 _ _ hPl).trans hz0
                have f1' : w6.frozen? ⟨P, 1, none⟩ = false := ((bcell ht2).2 _ _ hPl).trans hz1
                refine goG_step (by rfl) ?_
                go_wp2_with fail
                refine ⟨(fun h => by cases h), ?_⟩
                rename_i hK
                refine hK _ _ ?_
                clear hK
                have hPg : P < w5.heap.size := Nat.lt_of_lt_of_le hPl ht1.size
                have hs4 : Below wr.heap.size wr ((w6.setCell ⟨P, 0, none⟩ (.bool n9)).setCell ⟨P, 1, none⟩ (.slice A9 m9 c9)) := ((btr hs2 ht2).setCell (show wr.heap.size ≤ P from hPs) _).setCell (show wr.heap.size ≤ P from hPs) _
                have k2 : ((w6.setCell ⟨P, 0, none⟩ (.bool n9)).setCell ⟨P, 1, none⟩ (.slice A9 m9 c9)).cell? ⟨P, 0, none⟩ = some (.bool n9) := by go_simp
                have k3 : ((w6.setCell ⟨P, 0, none⟩ (.bool n9)).setCell ⟨P, 1, none⟩ (.slice A9 m9 c9)).cell? ⟨P, 1, none⟩ = some (.slice A9 m9 c9) := by go_simp
                replace hXV : NIntV ((w6.setCell ⟨P, 0, none⟩ (.bool n9)).setCell ⟨P, 1, none⟩ (.slice A9 m9 c9)) (wr.heap.size ≤ ·) (.agg #[.bool n9, .slice A9 m9 c9]) xv :=
                  NIntV.mono (NIntV.setCell (NIntV.setCell hv6 (by simp; omega) _) (by simp; omega) _) fun b hb _ => Nat.le_trans (btr hs2 ht1).size hb
                generalize ((w6.setCell ⟨P, 0, none⟩ (.bool n9)).setCell ⟨P, 1, none⟩ (.slice A9 m9 c9)) = W4 at *
                clear k0 k1 f0 f1' hv6 hi6 hb6 hi5 hv5' hb5 ht2 ht1 ht0 hx0 hx1 hz0 hz1
                have HY2 := Lib.hid (show M.take (i + 1) = M.take i ++ [xv] by rw [hxe, take_succ_gz (by rw [HML2.out]; omega)])
                have ho4 := HO.out.below hs4
                clear hxe
                go_wp2_with (at_builtin; go_must (refine wpList_pushJ _ rfl _ _ _ _ rfl W2.heap.size Tryz.underlying22 Tryz.underlying22 (.slice Ao i co) (M.take i) i HLK.out rfl ho4 _ A9 _ c9 xv rfl (hXV.mono fun b hb _ => ⟨Nat.le_trans hbi.size hb, HO.out.fresh hb⟩) (by omega) (Nat.le_trans hbi.size hs4.size) ?_); intro A7 c7 w7 hown7 hgr7 hb7)
                have hfin := (btr hbi hs4).trans hb7
                refine ⟨⟨i + 1, by go_num, by omega, by rw [HY2.out]; exact hown7, hfin⟩, by simp [intOf]; omega⟩
              · have hge : i < fr := by omega
                obtain ⟨xv, hxe⟩ : ∃ xv, xv = gz M i := ⟨_, rfl⟩
                replace hXV : NIntV W3 (wr.heap.size ≤ ·) (.agg #[.bool n5, .slice A5 m5' c5]) xv := by rw [hxe, HMG.out i hiq, if_neg hfi]; exact hXV
                have hs4 := hs2
                clear hfi hz0 hz1
                have HY2 := Lib.hid (show M.take (i + 1) = M.take i ++ [xv] by rw [hxe, take_succ_gz (by rw [HML2.out]; omega)])
                have ho4 := HO.out.below hs4
                clear hxe
                go_wp2_with (at_builtin; go_must (refine wpList_pushJ _ rfl _ _ _ _ rfl W2.heap.size Tryz.underlying22 Tryz.underlying22 (.slice Ao i co) (M.take i) i HLK.out rfl ho4 _ A5 _ c5 xv rfl (hXV.mono fun b hb _ => ⟨Nat.le_trans hbi.size hb, HO.out.fresh hb⟩) (by omega) (Nat.le_trans hbi.size hs4.size) ?_); intro A7 c7 w7 hown7 hgr7 hb7)
                have hfin := (btr hbi hs4).trans hb7
                refine ⟨⟨i + 1, by go_num, by omega, by rw [HY2.out]; exact hown7, hfin⟩, by simp [intOf]; omega⟩
          · obtain rfl : i = q + 1 := by omega
            have hown2 : OwnJ wr W2.heap.size (.slice Ao (q + 1) co) M := by
              rw [List.take_of_length_le (by rw [HML2.out]; omega)] at hown
              exact hown
            obtain ⟨A3, c3, e3, hp3⟩ := hown2.pv.b (B := 1000000000000) HMB.out (Nat.le_refl _)
            injection e3 with e4 e5 e6
            subst e4 e6
            have HC := Lib.hid (qTrim_any hp3 (by rw [HML2.out]; omega))
            rw [← e5, HTM.out] at HC
            have hsl := HSL.out
            have hall := btr hbW hbi
            have htz : tz (stp f g) = stp f g := by rw [← HTM.out]; exact tz_tz _
            have hwall : Below w.heap.size w wr := btr hbw hall
            have hlt : ¬ (((q + 1 : Nat) : Int) < q + 1) := by omega
            clear hown hown2 hp3 e5 hiq
            go_wp2_with (go_at_call 41; go_must (refine HC.out.mono ?_); rintro e w9 ⟨v9, rfl, ⟨A9, c9, rfl, hp9⟩, hb9⟩)
            refine ⟨⟨A9, c9, (stp f g).length, stp f g, rfl, rfl, ⟨A9, c9, rfl, (hp9.mono fun b hb _ => Nat.le_trans hwall.size hb).imp fun _ _ _ hx => NIntV.mono hx fun b hb _ => Nat.le_trans hwall.size hb⟩, Lib.hid htz, HR2, Lib.hid HNX.out.1, by omega, btr hall hb9⟩, by simp only [lenOf]; omega⟩
end Go.Proofs.YtdmdagilopckgaaGreat
