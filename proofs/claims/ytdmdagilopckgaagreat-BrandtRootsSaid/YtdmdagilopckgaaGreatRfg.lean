/- The reference's polynomials: Divide. -/
import Derived.Test.YtdmdagilopckgaaGreatRff
import Derived.Test.YtdmdagilopckgaaGreatRgt
import Derived.IntWalk
namespace Go.Proofs.YtdmdagilopckgaaGreat
open Go.RowKit

def SBel (w W : World) : Prop := Below w.heap.size w W
/-- What the reference's Divide answers. -/
def RdvR (w : World) (o : Option (List Int)) (e : Ending) (w' : World) : Prop :=
  ∃ v, e = .returned (.tuple #[v, .bool o.isSome]) ∧ (∀ q, o = some q → PvD w' (w.heap.size ≤ ·) v q) ∧ Below w.heap.size w w'
theorem RdvR.yes {w w' : World} {o : Option (List Int)} {q : List Int} {v : Value} {e : Ending} (ho : o = some q) (he : e = .returned (.tuple #[v, .bool true])) (hv : PvD w' (w.heap.size ≤ ·) v q) (hb : Below w.heap.size w w') : RdvR w o e w' := by
  subst ho
  exact ⟨v, he, (fun q' h => by injection h with h; exact h ▸ hv), hb⟩
theorem RdvR.no {w w' : World} {o : Option (List Int)} {v : Value} {e : Ending} (ho : o = none) (he : e = .returned (.tuple #[v, .bool false])) (hb : Below w.heap.size w w') : RdvR w o e w' := by
  subst ho
  exact ⟨v, he, (fun q' h => by cases h), hb⟩
theorem OwnI.slice2 {w : World} {base : Nat} {v : Value} {l : List Int} (h : OwnI w base v l) {n : Nat} (hn : l.length = n) : ∃ A c, v = .slice A n c ∧ n ≤ c ∧ c ≤ 9223372036854775807 := by
  subst hn
  obtain ⟨xs, h1, _⟩ := h
  obtain ⟨A, c, e, h2, h3⟩ := own_slice h1
  unfold maxLen at h3
  exact ⟨A, c, e, h2, h3⟩
theorem OwnI.off {w : World} {base : Nat} {v : Value} {l : List Int} (h : OwnI w base v l) {b : Nat} (hb : b < base) : some b ≠ v.ownBlock := by
  obtain ⟨xs, h1, _⟩ := h
  intro e
  have := (h1.lt b e.symm).1
  omega
/-- The bounds of a division. -/
def OvB (f g O : List Int) : Prop := ∃ B C, Bd B f ∧ Bd C g ∧ B + (f.length + 1 - g.length) * (C + 1) ≤ 400000000000 ∧ C ≤ 400000000000 ∧ Bd 400000000000 O

theorem OvB.le {f g O : List Int} (h : OvB f g O) : Bd 400000000000 f ∧ Bd 400000000000 g ∧ Bd 400000000000 O := by
  obtain ⟨B, C, h1, h2, h3, h4, h5⟩ := h
  exact ⟨h1.mono (by omega), h2.mono h4, h5⟩
theorem OvB.next {f g O : List Int} (h : OvB f g O) (hg : 0 < g.length) (hl : g.length ≤ f.length) (hd : ld f % ld g = 0) : OvB (ls f (ld f / ld g) g (f.length - g.length)) g (O.set (f.length - g.length) (ld f / ld g)) ∧ Bd 1000000000000 (lsF (ld f / ld g) g (f.length - g.length) f) ∧ wl (ld f / ld g).natAbs ≤ 400000000000 := by
  obtain ⟨B, C, h1, h2, h3, h4, h5⟩ := h
  have hs := ls_down hl hg hd
  have hm : (ls f (ld f / ld g) g (f.length - g.length)).length + 1 - g.length + 1 ≤ f.length + 1 - g.length := by omega
  have hmul := Nat.mul_le_mul_right (C + 1) hm
  rw [Nat.add_mul, Nat.one_mul] at hmul
  have hy : wl (ld f / ld g).natAbs ≤ B := Nat.le_trans (wl_div _ _) (h1 _ (ld_mem (by omega)))
  refine ⟨⟨B + (C + 1), C, Bd.ls h1 h2 hy (by omega), h2, by omega, h4, Bd.set h5 (by omega)⟩, fun x hx => ?_, by omega⟩
  have := wl_lsF (B := B) (C := C) (Y := B) _ g (f.length - g.length) f h1 h2 hy (by omega) x hx
  omega
/-- Rows that lie off a block. -/
abbrev PvO (w : World) (base G : Nat) (v : Value) (l : List Int) : Prop := PvD w (fun b => base ≤ b ∧ b ≠ G) v l
theorem PvD.set2 {w : World} {base G o o' : Nat} {v : Value} {l : List Int} (h : PvO w base G v l) (u u' : Value) : PvO ((w.setCell ⟨G, o, none⟩ u).setCell ⟨G, o', none⟩ u') base G v l :=
  Foot.keep (R := PvD) h fun b hb _ => by
    rw [Below.heap_setCell _ _ _ _ (show b ≠ G from hb.2), Below.heap_setCell _ _ _ _ (show b ≠ G from hb.2)]

set_option maxHeartbeats 8000000 in
set_option maxRecDepth 100000 in
theorem qDivide_any {A A' : Option Addr} {n c n' c' : Nat} {f0 g0 : List Int} {w : World} (h : Pl IntB w (fun _ => True) A n c f0) (h' : Pl IntB w (fun _ => True) A' n' c' g0) (hn : n ≤ 1000) (hn' : n' ≤ 1000) (hg0 : 0 < (tz g0).length) (hlim : OvB (tz f0) (tz g0) []) :
    Calls Tryz.prog 27 #[.slice A n c, .slice A' n' c'] w (RdvR w (ov (tz f0) (tz g0))) := by
  have hm := h.room
  have hm' := h'.room
  unfold maxLen at hm hm'
  have hc := h.cap
  have hc' := h'.cap
  have HT := Lib.hid (qTrim_any h (by omega))
  have HT' := Lib.hid (fun w1 (hb : Below w.heap.size w w1) => qTrim_any (h'.below hb) (by omega))
  have hfl : (tz f0).length ≤ 1000 := by have := tz_length_le f0; have := h.len; omega
  have hgl : (tz g0).length ≤ 1000 := by have := tz_length_le g0; have := h'.len; omega
  have HFT := Lib.hid (tz_tz f0)
  have HGT := Lib.hid (tz_tz g0)
  obtain ⟨R, hR⟩ : ∃ R, R = ov (tz f0) (tz g0) := ⟨_, rfl⟩
  rw [← hR]
  have HR := Lib.hid hR
  clear h h' hR hn hn'
  generalize tz f0 = f1 at *
  generalize tz g0 = g at *
  have HLM := Lib.hid hlim
  clear hlim
  obtain ⟨p, hp⟩ : ∃ p, g.length = p + 1 := ⟨g.length - 1, by omega⟩
  have HPL := Lib.hid hp
  rw [hp] at hgl
  clear hp hg0
  obtain ⟨n1, hn1⟩ : ∃ n1, n1 = f1.length := ⟨_, rfl⟩
  rw [← hn1] at hfl
  have HN1 := Lib.hid hn1
  clear hn1
  obtain ⟨M, hM⟩ : ∃ M, M = n1 + 1 - (p + 1) := ⟨_, rfl⟩
  have hM2 : (if (0 : Int) < (n1 : Int) - ((p : Int) + 1) + 1 then (n1 : Int) - ((p : Int) + 1) + 1 else 0) = (M : Int) := by split <;> omega
  have HM := Lib.hid hM
  have hMb : M ≤ 1001 := by omega
  clear hM
  go_enter Tryz.func27, Tryz.ntmps27
  go_wp2_with (first
    | (go_at_call 41; (with_reducible refine HT.out.mono ?_); rintro e w1 ⟨v1, rfl, hv1, hb1⟩; obtain ⟨A1, c1, rfl, hc1, hr1, hd1⟩ := PvD.shape hv1 HN1.out.symm)
    | (go_at_call 41; (with_reducible refine (HT'.out _ hb1).mono ?_); rintro e w2 ⟨v2, rfl, hv2, hb2⟩; obtain ⟨A2, c2, rfl, hc2, hr2, hd2⟩ := PvD.shape hv2 HPL.out)
    | (at_make; go_must (refine wpList_make_arr _ rfl _ _ _ rfl 63 (.agg #[.bool false, .slice none 0 0]) 2 32 Tryz.underlying22 info_Int _ _ _ _ M rfl rfl (by go_simp) (by go_simp) (by omega) (by omega) ?_); intro w3 harr3 hb3 hs3))
  replace harr3 := IArr.made harr3
  obtain ⟨O0, hO0⟩ : ∃ O, O = List.replicate M (0 : Int) := ⟨_, rfl⟩
  rw [← hO0] at harr3
  have HOL := Lib.hid (show O0.length = M by rw [hO0, List.length_replicate])
  have HOV := Lib.hid (show R = ovF g f1.length f1 O0 by rw [HR.out, hO0, HM.out, HN1.out, ← HPL.out]; rfl)
  have HOB := Lib.hid (show OvB f1 g O0 by
    obtain ⟨B, C, h1, h2, h3, h4, _⟩ := HLM.out
    exact ⟨B, C, h1, h2, h3, h4, fun x hx => by rw [hO0] at hx; rw [(List.mem_replicate.1 hx).2]; exact Nat.zero_le _⟩)
  obtain ⟨G, hG⟩ : ∃ G, G = w2.heap.size := ⟨_, rfl⟩
  have HGE := Lib.hid hG
  have hb12 := btr hb1 hb2
  have hGw : w.heap.size ≤ G := by rw [hG]; exact hb12.size
  have hb3' : Below w2.heap.size w2 w3 := hb3
  have hf3 : PvO w3 w.heap.size G (.slice A1 n1 c1) f1 := PvD.below (PvD.mono (PvD.below hd1 hb2) fun b hb hl => ⟨hb, by omega⟩) hb3'
  have HG := Lib.hid hd2
  have HB12 := Lib.hid hb12
  rw [← hG] at harr3 hb3' ⊢
  clear hO0 hM2 hG hd1 hd2 hv1 hv2 hb1 hb2 hb12 hb3 hs3 HT HT' HLM
  go_loopw [0] (fun fv wr => ∃ (A : Option Addr) (c m : Nat) (f O : List Int), fv = .slice A m c ∧ m = f.length ∧ PvO wr w.heap.size G (.slice A m c) f ∧ Hid (tz f = f) ∧ Hid (R = ovF g f.length f O) ∧ Hid (OvB f g O) ∧ m ≤ n1 ∧ IArr wr G O ∧ Hid (O.length = M) ∧ Below G w2 wr) (fun fv _ => lenOf fv)
  case atStart => exact ⟨_, _, _, f1, O0, rfl, HN1.out, hf3, HFT, HOV, HOB, Nat.le_refl _, harr3, HOL, hb3'⟩
  case round =>
    clear hf3 HFT HOV HOB HOL harr3 hb3'
    obtain ⟨A4, c4, m, f, O, rfl, hml, hfd, HFT, HRR, HLM, hm6, hio, HOL, hbr⟩ := hrel
    have HML := Lib.hid hml
    have hGl := hio.lt
    have hbw : Below w.heap.size w wr := HB12.out.trans (hbr.mono hGw)
    obtain ⟨A9, c9, e9, hc4, hr4, _⟩ := PvD.shape hfd hml.symm
    injection e9 with e91 e92 e93
    subst e91 e93
    clear e92 hml
    rcases Nat.lt_or_ge m (p + 1) with hlt | hge
    · have hpb : Pl IntB wr (fun _ => True) (some ⟨G, 0, none⟩) M M O := by
        have h1 := hio.pl (D := fun _ => True) trivial (by rw [HOL.out]; unfold maxLen; omega)
        rw [HOL.out] at h1
        exact h1.imp fun v x hx hv => hv.b (Nat.le_trans (HLM.out.le.2.2 x hx) (by omega))
      have HC := Lib.hid (qTrim_any hpb (by omega))
      have HE := Lib.hid (show R = if f = [] then some (tz O) else none by rw [HRR.out, ovF_end (by rw [HPL.out, ← HML.out]; omega)])
      clear hpb hio hfd
      rcases m with _ | m
      · have HE2 := Lib.hid (show R = some (tz O) by rw [HE.out, if_pos (List.eq_nil_of_length_eq_zero HML.out.symm)])
        go_wp2_with (go_at_call 41; go_must (refine HC.out.mono ?_); rintro e w5 ⟨v5, rfl, hv5, hb5⟩)
        go_ret2
        exact RdvR.yes (v := v5) HE2.out rfl (hv5.up fun b hb => Nat.le_trans hbw.size hb) (btr hbw hb5)
      · have HE2 := Lib.hid (show R = none by rw [HE.out, if_neg (fun e => by have := HML.out; rw [e] at this; simp at this)])
        go_wp2_with (go_at_call 41; go_must (refine HC.out.mono ?_); rintro e w5 ⟨v5, rfl, hv5, hb5⟩)
        go_ret2
        exact RdvR.no (v := v5) HE2.out rfl (btr hbw hb5)
    · obtain ⟨q, rfl⟩ : ∃ q, m = q + 1 := ⟨m - 1, by omega⟩
      have HFD := Lib.hid hfd
      obtain ⟨fb, foff, fneg, fB, fm, fk, rfl, fe0, fe1, fe2⟩ := PvD.last hfd
      have hbr' : Below w2.heap.size w2 wr := by rw [← HGE.out]; exact hbr
      have hg2 := PvD.below HG.out hbr'
      obtain ⟨gb, goff, gneg, gB, gm, gk, rfl, ge0, ge1, ge2⟩ := PvD.last hg2
      have hbn := HLM.out.le
      have HBF := Lib.hid hbn.1
      have HBG := Lib.hid hbn.2.1
      have FI := Lib.hid (NIntV.b fe2 (Nat.le_trans (HBF.out _ (ld_mem (by rw [← HML.out]; omega))) (by omega)))
      have GI := Lib.hid (NIntV.b ge2 (Nat.le_trans (HBG.out _ (ld_mem (by rw [HPL.out]; omega))) (by omega)))
      have F0 := Lib.hid fe0
      have F1 := Lib.hid fe1
      have G0 := Lib.hid ge0
      have G1 := Lib.hid ge1
      have HIO := Lib.hid hio
      have hg0 : ld g ≠ 0 := ld_of_tz HGT.out (List.length_pos_iff.1 (by rw [HPL.out]; omega))
      have HDM := Lib.hid (fun (w' : World) v v' (h1 : IntB w' v (ld f)) (h2 : IntB w' v' (ld g)) => rDivMod_any h1 h2 hg0)
      have hqp : p ≤ q := by omega
      have hq1 : (q : Int) < q + 1 := by omega
      have hp1 : (p : Int) < p + 1 := by omega
      have hwq : IntKind.i64.wrap (q : Int) = q := IntWalk.i64_in _ (by omega)
      have hwp : IntKind.i64.wrap (p : Int) = p := IntWalk.i64_in _ (by omega)
      have HLG := Lib.hid hg0
      clear hfd hg2 hbn fe0 fe1 fe2 ge0 ge1 ge2 hio hg0
      go_wp2_with fail
      have hs0 : Below wr.heap.size wr wr.drew := (Below.refl _ _).drew
      rename_i K hK
      have key : ∀ (P7 P8 : Nat) (W : World) (X31 X44 X45 X46 X47 : Value), Below wr.heap.size wr W → Vi W P7 (ld f / ld g) → Vi W P8 (ld f % ld g) → wr.heap.size ≤ P7 → wr.heap.size ≤ P8 → P7 ≠ P8 → K { tmps := #[.slice (some ⟨fb, foff, none⟩) (q + 1) c4, .slice (some ⟨gb, goff, none⟩) (p + 1) c2, undef, undef, u4, u5, .slice (some ⟨G, 0, none⟩) M M, .pointer (some ⟨P7, 0, none⟩), .pointer (some ⟨P8, 0, none⟩), .int .i64 0, u10, u11, u12, u13, .slice A n c, .slice A1 n1 c1, .slice A' n' c', .slice (some ⟨gb, goff, none⟩) (p + 1) c2, .slice A1 n1 c1, .int .i64 n1, .slice (some ⟨gb, goff, none⟩) (p + 1) c2, .int .i64 ((p : Int) + 1), .int .i64 ((n1 : Int) - ((p : Int) + 1)), .int .i64 ((n1 : Int) - ((p : Int) + 1) + 1), .int .i64 M, .slice (some ⟨G, 0, none⟩) M M, .slice (some ⟨fb, foff, none⟩) (q + 1) c4, .int .i64 ((q : Int) + 1), .slice (some ⟨gb, goff, none⟩) (p + 1) c2, .int .i64 ((p : Int) + 1), .bool true, X31, .slice (some ⟨fb, foff, none⟩) (q + 1) c4, .slice (some ⟨fb, foff, none⟩) (q + 1) c4, .int .i64 ((q : Int) + 1), .int .i64 q, .pointer (some ⟨fb, foff + q * 2, none⟩), .agg #[.bool fneg, .slice fB fm fk], .slice (some ⟨gb, goff, none⟩) (p + 1) c2, .slice (some ⟨gb, goff, none⟩) (p + 1) c2, .int .i64 ((p : Int) + 1), .int .i64 p, .pointer (some ⟨gb, goff + p * 2, none⟩), .agg #[.bool gneg, .slice gB gm gk], X44, X45, X46, X47, u48, u49, u50, u51, u52, u53, u54, u55, u56, u57, u58, u59, u60, u61, u62, u63, u64, u65, u66, u67, u68, u69, u70, u71, u72, u73, u74, u75, u76, u77, u78, u79, u80, u81, u82, u83, u84, u85, u86, u87, u88, undef, undef, undef, undef, undef], defers := [] } W := by
        intro P7 P8 W X31 X44 X45 X46 X47 hbW hv7 hv8 l7 l8 hne
        refine hK _ _ ?_
        clear hK
        have hbW2 : Below w.heap.size w W := btr hbw hbW
        obtain ⟨rn, rB, rm', rk, r0, r1, r2, rz0, rz1⟩ := Vi.cells hv8
        obtain ⟨xn, xB, xm, xk, x0, x1, x2, xz0, xz1⟩ := Vi.cells hv7
        by_cases hd : ld f % ld g = 0
        rotate_left
        · have HE := Lib.hid (show R = none by rw [HRR.out, ovF_no (by rw [HPL.out]; omega) (by rw [HPL.out, ← HML.out]; omega) hd])
          have hrb : wl (ld f % ld g).natAbs ≤ 1000000000000 := by
            have h1 := Int.emod_nonneg (ld f) HLG.out
            have h2 := Int.emod_lt (ld f) HLG.out
            have h3 := HBG.out _ (ld_mem (l := g) (by rw [HPL.out]; omega))
            exact Nat.le_trans (wl_le (b := (ld g).natAbs) (by omega)) (by omega)
          have HSG := Lib.hid (qSign_any (NIntV.b r2 hrb))
          obtain ⟨sv, hsv⟩ : ∃ sv, sv = cmpI (ld f % ld g) 0 := ⟨_, rfl⟩
          have hs0 : (sv != 0) = true := by
            rw [bne_iff_ne, hsv]
            unfold cmpI
            split <;> (try split) <;> omega
          rw [← hsv] at HSG
          clear hsv hd hrb hv7 hv8 x2 r2
          go_wp2_with (go_at_call 54; go_must (refine HSG.out.mono ?_); rintro e w5 ⟨rfl, hb5⟩)
          go_ret2
          exact RdvR.no (v := .slice none 0 0) HE.out rfl (btr hbW2 hb5)
        · have hrb : wl (ld f % ld g).natAbs ≤ 1000000000000 := by rw [hd]; exact Nat.zero_le _
          have HSG := Lib.hid (qSign_any (NIntV.b r2 hrb))
          rw [hd] at HSG
          have HNX := Lib.hid (HLM.out.next (by rw [HPL.out]; omega) (by rw [HPL.out, ← HML.out]; omega) hd)
          have HR2 := Lib.hid (show R = ovF g (ls f (ld f / ld g) g (f.length - g.length)).length (ls f (ld f / ld g) g (f.length - g.length)) (O.set (f.length - g.length) (ld f / ld g)) by rw [HRR.out, ovF_step (by rw [HPL.out]; omega) (by rw [HPL.out, ← HML.out]; omega) hd])
          have HSL := Lib.hid (ls_down (p := f) (g := g) (by rw [HPL.out, ← HML.out]; omega) (by rw [HPL.out]; omega) hd)
          obtain ⟨fr, hfr⟩ : ∃ fr, fr = q - p := ⟨_, rfl⟩
          have hfe : f.length - g.length = fr := by rw [HPL.out, ← HML.out, hfr]; omega
          rw [hfe] at HNX HR2 HSL
          obtain ⟨x, hx⟩ : ∃ x, x = ld f / ld g := ⟨_, rfl⟩
          rw [← hx] at HNX HR2 HSL x2
          have HZ : Hid (cmpI 0 0 = 0) := Lib.hid rfl
          have hfM : fr < M := by have := HM.out; omega
          have hfrq : fr + p = q := by omega
          have hGP : G ≠ P7 := by omega
          clear hd hrb hv7 hv8 hfe hx r2
          go_upto_region 7 with (go_at_call 54; go_must (refine HSG.out.mono ?_); rintro e W1 ⟨rfl, hb5⟩; rw [HZ.out])
          have hb6 : Below wr.heap.size wr W1 := btr hbW hb5
          have HIO6 := Lib.hid (IArr.below HIO.out hb6)
          obtain ⟨og, oB, om, ok, o0, o1, _⟩ := IArr.cells HIO6.out (j := fr) (by rw [HOL.out]; exact hfM)
          have oz0 := IArr.frozen HIO6.out (fr * 2)
          have oz1 := IArr.frozen HIO6.out (fr * 2 + 1)
          have y0 := keepB hb5 x0
          have y1 := keepB hb5 x1
          have y2 := NI.below x2 hb5
          clear x0 x1 xz0 xz1 r0 r1 rz0 rz1 x2
          go_upto_region 8 with (fail)
          rw [show (q : Int) + 1 - ((p : Int) + 1) = (fr : Int) by omega]
          clear hfr
          go_upto_region 9 with (fail)
          have hset : IArr ((W1.setCell ⟨G, fr * 2, none⟩ (.bool xn)).setCell ⟨G, fr * 2 + 1, none⟩ (.slice xB xm xk)) G (O.set fr x) := IArr.set HIO6.out (i := fr) (by rw [HOL.out]; exact hfM) (y2.off HIO6.out)
          have hf2 : PvO ((W1.setCell ⟨G, fr * 2, none⟩ (.bool xn)).setCell ⟨G, fr * 2 + 1, none⟩ (.slice xB xm xk)) w.heap.size G (.slice (some ⟨fb, foff, none⟩) (q + 1) c4) f := PvD.set2 (PvD.below HFD.out hb6) _ _
          have y3 := NI.set2 (i := fr) (u := .bool xn) (u' := .slice xB xm xk) y2 HIO6.out
          have t0 : ((W1.setCell ⟨G, fr * 2, none⟩ (.bool xn)).setCell ⟨G, fr * 2 + 1, none⟩ (.slice xB xm xk)).cell? ⟨P7, 0, none⟩ = some (.bool xn) := by rw [World.cell?_setCell_other _ _ _ _ (by simp), World.cell?_setCell_other _ _ _ _ (by simp)]; exact y0
          have t1 : ((W1.setCell ⟨G, fr * 2, none⟩ (.bool xn)).setCell ⟨G, fr * 2 + 1, none⟩ (.slice xB xm xk)).cell? ⟨P7, 1, none⟩ = some (.slice xB xm xk) := by rw [World.cell?_setCell_other _ _ _ _ (by simp), World.cell?_setCell_other _ _ _ _ (by simp)]; exact y1
          have hbG : Below G wr ((W1.setCell ⟨G, fr * 2, none⟩ (.bool xn)).setCell ⟨G, fr * 2 + 1, none⟩ (.slice xB xm xk)) := ((hb6.mono (show G ≤ wr.heap.size from Nat.le_of_lt hGl)).setCell (Nat.le_refl _) _).setCell (Nat.le_refl _) _
          generalize ((W1.setCell ⟨G, fr * 2, none⟩ (.bool xn)).setCell ⟨G, fr * 2 + 1, none⟩ (.slice xB xm xk)) = W2 at *
          clear o0 o1 oz0 oz1 y0 y1 y2 hb5 hb6 HIO6
          have hbG2 : Below G w2 W2 := hbr.trans hbG
          have hbG3 : Below w2.heap.size w2 W2 := by rw [← HGE.out]; exact hbG2
          obtain ⟨N, hN⟩ : ∃ N, N = lsF x g fr f := ⟨_, rfl⟩
          have hfl : f.length = q + 1 := HML.out.symm
          have hgl2 : g.length = p + 1 := HPL.out
          have HML2 := Lib.hid (show N.length = q + 1 by rw [hN, lsF_length, hfl])
          have HMG := Lib.hid (show ∀ i, i < q + 1 → gz N i = if fr ≤ i then gz f i - x * gz g (i - fr) else gz f i from fun i hi => by
            rw [hN, lsF_gz _ _ _ _ _ (by omega)]
            by_cases h1 : fr ≤ i
            · rw [if_pos ⟨h1, by omega⟩, if_pos h1]
            · rw [if_neg (fun h => h1 h.1), if_neg h1])
          have HTM := Lib.hid (show tz N = ls f x g fr by rw [hN]; rfl)
          have HMB := Lib.hid (show Bd 1000000000000 N by rw [hN]; exact HNX.out.2.1)
          have HXB := Lib.hid (show wl x.natAbs ≤ 400000000000 from HNX.out.2.2)
          have T0 := Lib.hid t0
          have T1 := Lib.hid t1
          have TI := Lib.hid (NIntV.b y3 (Nat.le_trans HXB.out (by omega)))
          have HF2 := Lib.hid hf2
          have HS2 := Lib.hid hset
          clear hN hfl hgl2 t0 t1 y3 hf2 hset
          obtain ⟨wo, rfl⟩ : ∃ wo : World, wo = wr := ⟨_, rfl⟩
          go_wp2_with fail
          go_loopw [11, 12] (fun ov iv wr => ∃ i : Nat, iv = .int .i64 i ∧ i ≤ q + 1 ∧ OwnI wr W2.heap.size ov (N.take i) ∧ Below W2.heap.size W2 wr) (fun _ iv _ => q + 1 - (intOf iv).toNat)
          case atStart => exact ⟨0, rfl, by omega, OwnI.nil _ _, Below.refl _ _⟩
          case round =>
            obtain ⟨i, rfl, hi, hown, hbi⟩ := hrel
            have hlk : (N.take i).length = i := by rw [List.length_take, HML2.out]; omega
            have HLK := Lib.hid hlk
            obtain ⟨Ao, co, rfl, hco1, hco2⟩ := hown.slice2 hlk
            clear hlk
            rcases Nat.lt_or_ge i (q + 1) with hiq | hiq
            · obtain ⟨A9, c9, e9, hfp⟩ := HF2.out
              injection e9 with e91 e92 e93
              subst e91 e93
              obtain ⟨b9, off9, e8, hbt9, hcell9⟩ := hfp.cells (by rw [← HML.out]; omega)
              injection e8 with e8
              injection e8 with e81 e82 e83
              subst e81 e82
              clear e83 e92
              obtain ⟨jn, jB, jm, jk, j0', j1', j2'⟩ := hcell9 i (by rw [← HML.out]; exact hiq)
              have j0 := keepB hbi j0'
              have j1 := keepB hbi j1'
              have j2 : NIntV W2 (· < W2.heap.size) (.agg #[.bool jn, .slice jB jm jk]) (gz f i) := j2'.mono fun b _ hb => hb
              have J2 := Lib.hid (NIntV.below j2 hbi)
              have HO := Lib.hid hown
              have hil : (i : Int) < q + 1 := by omega
              have U0 := Lib.hid (keepB hbi T0.out)
              have U1 := Lib.hid (keepB hbi T1.out)
              clear hcell9 hbt9 j0' j1' j2' j2 hown hfp
              by_cases hfi : fr ≤ i
              · have hwi : IntKind.i64.wrap ((i : Int) - fr) = ((i - fr : Nat) : Int) := by rw [show (i : Int) - fr = ((i - fr : Nat) : Int) by omega]; exact IntWalk.i64_in _ (by omega)
                obtain ⟨t, ht⟩ : ∃ t, t = i - fr := ⟨_, rfl⟩
                rw [← ht] at hwi
                have htp : t < p + 1 := by omega
                have htp1 : (t : Int) < p + 1 := by omega
                obtain ⟨gA, gc, eg, hgp⟩ := PvD.below HG.out (btr hbG3 hbi)
                injection eg with eg1 eg2 eg3
                subst eg1 eg3
                obtain ⟨b8, off8, e8, hbt8, hcell8⟩ := hgp.cells (by rw [HPL.out]; omega)
                injection e8 with e8
                injection e8 with e81 e82 e83
                subst e81 e82
                obtain ⟨rn, rB, rm', rk, r0, r1, r2⟩ := hcell8 t (by rw [HPL.out]; omega)
                have hbA : Below wr.heap.size wr (wr.alloc (.cells #[.bool jn, .slice jB jm jk] 63)) := below_al (Below.refl _ _) _
                have R0 := Lib.hid (keepB hbA r0)
                have R1 := Lib.hid (keepB hbA r1)
                have RI := Lib.hid ((NIntV.b r2 (Nat.le_trans (HBG.out _ (gz_mem (by rw [HPL.out]; omega))) (by omega))).below hbA)
                have V0 := Lib.hid (keepB hbA U0.out)
                have V1 := Lib.hid (keepB hbA U1.out)
                have VI := Lib.hid ((TI.out.below hbi).below hbA)
                have X0 := Lib.hid (show (wr.alloc (.cells #[.bool jn, .slice jB jm jk] 63)).cell? ⟨wr.heap.size, 0, none⟩ = some (.bool jn) by go_simp)
                have X1 := Lib.hid (show (wr.alloc (.cells #[.bool jn, .slice jB jm jk] 63)).cell? ⟨wr.heap.size, 1, none⟩ = some (.slice jB jm jk) by go_simp)
                have Z0 := Lib.hid (show (wr.alloc (.cells #[.bool jn, .slice jB jm jk] 63)).frozen? ⟨wr.heap.size, 0, none⟩ = false by go_simp)
                have Z1 := Lib.hid (show (wr.alloc (.cells #[.bool jn, .slice jB jm jk] 63)).frozen? ⟨wr.heap.size, 1, none⟩ = false by go_simp)
                have XI := Lib.hid ((NIntV.b J2.out (Nat.le_trans (HBF.out _ (gz_mem (by rw [← HML.out]; exact hiq))) (by omega))).below hbA)
                obtain ⟨xv, hxe⟩ : ∃ xv, xv = gz N i := ⟨_, rfl⟩
                have HSU : Hid (∀ w' v v', IntB w' v (gz f i) → IntB w' v' (x * gz g t) → Calls Tryz.prog 59 #[v, v'] w' (Gives w' fun w'' v => NIntV w'' (w'.heap.size ≤ ·) v xv)) := Lib.hid (fun w' v v' h1 h2 => by
                  have h3 := rSub_any h1 h2
                  rw [show gz f i - x * gz g t = xv by rw [hxe, HMG.out i hiq, if_pos hfi, ht]] at h3
                  exact h3)
                have HPB := Lib.hid (show wl (x * gz g t).natAbs ≤ 1000000000000 by
                  have h1 := wl_imul x (gz g t)
                  have h2 := HBG.out _ (gz_mem (l := g) (j := t) (by rw [HPL.out]; omega))
                  have h3 := HXB.out
                  omega)
                have HY2 := Lib.hid (show N.take (i + 1) = N.take i ++ [xv] by rw [hxe, take_succ_gz (by rw [HML2.out]; omega)])
                clear hcell8 hbt8 r0 r1 r2 eg2 e83 hgp ht hxe
                go_wp2_with fail
                obtain ⟨W3, hW3⟩ : ∃ W3, W3 = wr.alloc (.cells #[.bool jn, .slice jB jm jk] 63) := ⟨_, rfl⟩
                rw [← hW3] at hbA R0 R1 RI V0 V1 VI X0 X1 Z0 Z1 XI ⊢
                have hPl : wr.heap.size < W3.heap.size := by rw [hW3]; simp
                clear hW3
                have ht0 : Below W3.heap.size W3 W3.drew := (Below.refl _ _).drew
                refine wp_region_trg (.read 0 (.read 1 (.read 2 (.read 3 (.read 4 (.read 5 (.read 6 (.read 7 (.step 8 (.step 9 (.step 10 .nil))))))))))) [10] (by kernel_rfl) (by rfl) (by kernel_rfl) (by kernel_rfl) (fun _ _ _ _ _ h => h) (fun W' => Below W3.heap.size W3 W') ?_
                change goG _ _ _ _ _ _ _ W3.drew
                refine goG_read 73 ht0 (by rfl) (by rfl) ?_ (by rfl) (fun wz hSw => ?_) ?_
                rotate_left
                · (have x0 := keepB hSw X0.out); (have x1 := keepB hSw X1.out); go_simp
                  try with_reducible rfl
                simp only [List.setIfInBounds_toArray, List.set]
                refine goG_read 74 ht0 (by rfl) (by rfl) ?_ (by rfl) (fun wz hSw => ?_) ?_
                rotate_left
                · (have x0 := keepB hSw V0.out); (have x1 := keepB hSw V1.out); go_simp
                  try with_reducible rfl
                simp only [List.setIfInBounds_toArray, List.set]
                refine goG_read 75 ht0 (by rfl) (by rfl) ?_ (by rfl) (fun wz hSw => ?_) ?_
                rotate_left
                · go_simp
                  try with_reducible rfl
                simp only [List.setIfInBounds_toArray, List.set]
                refine goG_read 76 ht0 (by rfl) (by rfl) ?_ (by rfl) (fun wz hSw => ?_) ?_
                rotate_left
                · go_simp
                  try with_reducible rfl
                simp only [List.setIfInBounds_toArray, List.set]
                refine goG_read 77 ht0 (by rfl) (by rfl) ?_ (by rfl) (fun wz hSw => ?_) ?_
                rotate_left
                · go_simp
                  try with_reducible rfl
                simp only [List.setIfInBounds_toArray, List.set]
                refine goG_read 78 ht0 (by rfl) (by rfl) ?_ (by rfl) (fun wz hSw => ?_) ?_
                rotate_left
                · go_simp
                  try with_reducible rfl
                simp only [List.setIfInBounds_toArray, List.set]
                refine goG_read 79 ht0 (by rfl) (by rfl) ?_ (by rfl) (fun wz hSw => ?_) ?_
                rotate_left
                · go_simp
                  try with_reducible rfl
                simp only [List.setIfInBounds_toArray, List.set]
                refine goG_read 80 ht0 (by rfl) (by rfl) ?_ (by rfl) (fun wz hSw => ?_) ?_
                rotate_left
                · (have x0 := keepB hSw R0.out); (have x1 := keepB hSw R1.out); go_simp
                  try with_reducible rfl
                simp only [List.setIfInBounds_toArray, List.set]
                refine goG_step (by rfl) ?_
                go_wp2_with (go_at_call 57; go_must (refine (rMul_any (VI.out.below ht0) (RI.out.below ht0)).mono ?_); rintro e w5 ⟨v5, rfl, hv5', hb5⟩; obtain ⟨n6', A6', m6', c6', rfl, hi5⟩ := (nint_ni hv5').shape)
                have ht1 : Below W3.heap.size W3 w5 := btr ht0 hb5
                refine ⟨fun _ => ht1, ?_⟩
                refine goG_step (by rfl) ?_
                go_wp2_with (go_at_call 59; go_must (refine (HSU.out _ _ _ (XI.out.below ht1) (NIntV.b hi5 HPB.out)).mono ?_); rintro e w6 ⟨v6, rfl, hv6, hb6⟩; obtain ⟨n9, A9, m9, c9, rfl, hi6⟩ := (nint_ni hv6).shape)
                have ht2 : Below W3.heap.size W3 w6 := btr ht1 hb6
                refine ⟨fun _ => ht2, ?_⟩
                have k0 := keepB ht2 X0.out
                have k1 := keepB ht2 X1.out
                have f0 : w6.frozen? ⟨wr.heap.size, 0, none⟩ = false := ((bcell ht2).2 _ _ hPl).trans Z0.out
                have f1' : w6.frozen? ⟨wr.heap.size, 1, none⟩ = false := ((bcell ht2).2 _ _ hPl).trans Z1.out
                refine goG_step (by rfl) ?_
                go_wp2_with fail
                refine ⟨(fun h => by cases h), ?_⟩
                rename_i hK
                refine hK _ _ ?_
                clear hK
                have hPg : wr.heap.size < w5.heap.size := Nat.lt_of_lt_of_le hPl ht1.size
                have hs4 : Below wr.heap.size wr ((w6.setCell ⟨wr.heap.size, 0, none⟩ (.bool n9)).setCell ⟨wr.heap.size, 1, none⟩ (.slice A9 m9 c9)) := ((btr hbA ht2).setCell (Nat.le_refl _) _).setCell (Nat.le_refl _) _
                have k2 : ((w6.setCell ⟨wr.heap.size, 0, none⟩ (.bool n9)).setCell ⟨wr.heap.size, 1, none⟩ (.slice A9 m9 c9)).cell? ⟨wr.heap.size, 0, none⟩ = some (.bool n9) := by go_simp
                have k3 : ((w6.setCell ⟨wr.heap.size, 0, none⟩ (.bool n9)).setCell ⟨wr.heap.size, 1, none⟩ (.slice A9 m9 c9)).cell? ⟨wr.heap.size, 1, none⟩ = some (.slice A9 m9 c9) := by go_simp
                have hXV : NIntV ((w6.setCell ⟨wr.heap.size, 0, none⟩ (.bool n9)).setCell ⟨wr.heap.size, 1, none⟩ (.slice A9 m9 c9)) (wr.heap.size ≤ ·) (.agg #[.bool n9, .slice A9 m9 c9]) xv :=
                  NIntV.mono (NIntV.setCell (NIntV.setCell hv6 (by simp; omega) _) (by simp; omega) _) fun b hb _ => Nat.le_trans (btr hbA ht1).size hb
                generalize ((w6.setCell ⟨wr.heap.size, 0, none⟩ (.bool n9)).setCell ⟨wr.heap.size, 1, none⟩ (.slice A9 m9 c9)) = W4 at *
                clear k0 k1 f0 f1' hv6 hi6 hb6 hi5 hv5' hb5 ht2 ht1 ht0 j0 j1
                have ho4 := HO.out.below hs4
                go_wp2_with (at_builtin; go_must (refine wpList_pushI _ rfl _ _ _ _ rfl W2.heap.size Tryz.underlying22 Tryz.underlying22 (.slice Ao i co) (N.take i) i HLK.out rfl ho4 _ A9 _ c9 xv rfl (hXV.mono fun b hb _ => HO.out.fresh hb) (by omega) (Nat.le_trans hbi.size hs4.size) ?_); intro A7 c7 w7 hown7 hgr7 hb7)
                have hfin := (btr hbi hs4).trans hb7
                exact ⟨⟨i + 1, by go_num, by omega, by rw [HY2.out]; exact hown7, hfin⟩, by simp [intOf]; omega⟩
              · have hge : i < fr := by omega
                have HY2 := Lib.hid (show N.take (i + 1) = N.take i ++ [gz f i] by rw [take_succ_gz (by rw [HML2.out]; omega), HMG.out i hiq, if_neg hfi])
                have hbA : Below wr.heap.size wr (wr.alloc (.cells #[.bool jn, .slice jB jm jk] 63)) := below_al (Below.refl _ _) _
                have HO4 := Lib.hid (HO.out.below hbA)
                have HXV := Lib.hid (NIntV.below J2.out hbA)
                have hsz : W2.heap.size ≤ (wr.alloc (.cells #[.bool jn, .slice jB jm jk] 63)).heap.size := Nat.le_trans hbi.size hbA.size
                have HNO := Lib.hid (fun b (hb : b < W2.heap.size) => HO.out.off hb)
                clear hfi
                go_upto_region 16 with (fail)
                have X0 : (wr.alloc (.cells #[.bool jn, .slice jB jm jk] 63)).cell? ⟨wr.heap.size, 0, none⟩ = some (.bool jn) := by go_simp
                have X1 : (wr.alloc (.cells #[.bool jn, .slice jB jm jk] 63)).cell? ⟨wr.heap.size, 1, none⟩ = some (.slice jB jm jk) := by go_simp
                obtain ⟨W3, hW3⟩ : ∃ W3, W3 = wr.alloc (.cells #[.bool jn, .slice jB jm jk] 63) := ⟨_, rfl⟩
                rw [← hW3] at hbA HO4 HXV hsz X0 X1 ⊢
                clear hW3
                go_wp2_with (at_builtin; go_must (refine wpList_pushI _ rfl _ _ _ _ rfl W2.heap.size Tryz.underlying22 Tryz.underlying22 (.slice Ao i co) (N.take i) i HLK.out rfl HO4.out _ jB _ jk (gz f i) rfl (HXV.out.mono fun b hb _ => HNO.out b hb) (by omega) hsz ?_); intro A7 c7 w7 hown7 hgr7 hb7)
                have hfin := (btr hbi hbA).trans hb7
                exact ⟨⟨i + 1, by go_num, by omega, by rw [HY2.out]; exact hown7, hfin⟩, by simp [intOf]; omega⟩
            · obtain rfl : i = q + 1 := by omega
              have hown2 : OwnI wr W2.heap.size (.slice Ao (q + 1) co) N := by
                rw [List.take_of_length_le (by rw [HML2.out]; omega)] at hown
                exact hown
              obtain ⟨A3, c3, e3, hp3⟩ := hown2.pl (by rw [HML2.out]; unfold maxLen; omega)
              injection e3 with e4 e5 e6
              subst e4 e6
              have HC := Lib.hid (qTrim_any ((hp3.mono (D' := fun _ => True) fun _ _ _ => trivial).b HMB.out (Nat.le_refl _)) (by rw [HML2.out]; omega))
              rw [← e5, HTM.out] at HC
              have hsl := HSL.out
              have hall : Below G w2 wr := hbG2.trans (hbi.mono (Nat.le_of_lt HS2.out.lt))
              have HT9 := Lib.hid (show tz (ls f x g fr) = ls f x g fr from tz_ls _ _ _ _)
              have hGs : G < wr.heap.size := Nat.lt_of_lt_of_le HS2.out.lt hbi.size
              have hlt : ¬ (((q + 1 : Nat) : Int) < q + 1) := by omega
              have HS3 := Lib.hid (IArr.below HS2.out hbi)
              clear hown hown2 hp3 e5 hiq
              go_wp2_with (go_at_call 41; go_must (refine HC.out.mono ?_); rintro e w9 ⟨v9, rfl, ⟨A9, c9, rfl, hp9⟩, hb9⟩)
              have hfinal : Below G w2 w9 := hall.trans (hb9.mono (Nat.le_of_lt hGs))
              have hwG : w.heap.size ≤ wr.heap.size := Nat.le_trans hGw (Nat.le_of_lt hGs)
              have hpv : PvO w9 w.heap.size G (.slice A9 (ls f x g fr).length c9) (ls f x g fr) := ⟨A9, c9, rfl, (hp9.mono (D' := fun b => w.heap.size ≤ b ∧ b ≠ G) fun b hb _ => ⟨Nat.le_trans hwG hb, Nat.ne_of_gt (Nat.lt_of_lt_of_le hGs hb)⟩).imp fun _ _ _ hx => NIntV.mono hx fun b hb _ => ⟨Nat.le_trans hwG hb, Nat.ne_of_gt (Nat.lt_of_lt_of_le hGs hb)⟩⟩
              have hLE : (ls f x g fr).length ≤ n1 := by have := HML.out; omega
              have HOS := Lib.hid (show (O.set fr x).length = M by rw [List.length_set]; exact HOL.out)
              have hio9 := IArr.below HS3.out hb9
              have HX9 := Lib.hid HNX.out.1
              have hmeas : (ls f x g fr).length < q + 1 := by have := HML.out; omega
              clear hp9 HC HNX HMB HTM HMG HF2 HIO HFD
              refine ⟨⟨A9, c9, (ls f x g fr).length, ls f x g fr, O.set fr x, rfl, rfl, hpv, HT9, HR2, HX9, hLE, hio9, HOS, hfinal⟩, ?_⟩
              simp only [lenOf]
              exact hmeas
      refine wp_region_tr4 (.read 0 (.read 1 (.read 2 (.read 3 (.read 4 (.read 5 (.read 6 (.read 7 (.read 8 (.read 9 (.read 10 (.read 11 (.three 12 17 18 (.read 13 (.read 14 (.read 15 (.read 16 (.two 17 18 (.step 18 (.step 19 (.step 20 (.step 21 .nil)))) (.step 17 (.step 19 (.step 20 (.step 21 .nil))))))))) (.two 12 18 (.read 13 (.read 14 (.read 15 (.read 16 (.step 18 (.step 19 (.step 20 (.step 21 .nil)))))))) (.step 12 (.read 13 (.read 14 (.read 15 (.read 16 (.step 19 (.step 20 (.step 21 .nil))))))))) (.two 12 17 (.read 13 (.read 14 (.read 15 (.read 16 (.step 17 (.step 19 (.step 20 (.step 21 .nil)))))))) (.step 12 (.read 13 (.read 14 (.read 15 (.read 16 (.step 19 (.step 20 (.step 21 .nil)))))))))))))))))))))) [] (by kernel_rfl) (by rfl) (by kernel_rfl) (by kernel_rfl) (fun _ _ _ _ _ h => h) (SBel wr) ?_
      change goT _ _ _ _ _ _ _ wr.drew
      refine goT_read 32 hs0 (by rfl) (by rfl) ?_ (by rfl) (fun wz hSw => ?_) ?_
      rotate_left
      · go_simp
        try with_reducible rfl
      simp only [List.setIfInBounds_toArray, List.set]
      refine goT_read 33 hs0 (by rfl) (by rfl) ?_ (by rfl) (fun wz hSw => ?_) ?_
      rotate_left
      · go_simp
        try with_reducible rfl
      simp only [List.setIfInBounds_toArray, List.set]
      refine goT_read 34 hs0 (by rfl) (by rfl) ?_ (by rfl) (fun wz hSw => ?_) ?_
      rotate_left
      · go_simp
        try with_reducible rfl
      simp only [List.setIfInBounds_toArray, List.set]
      refine goT_read 35 hs0 (by rfl) (by rfl) ?_ (by rfl) (fun wz hSw => ?_) ?_
      rotate_left
      · go_simp
        try with_reducible rfl
      simp only [List.setIfInBounds_toArray, List.set]
      refine goT_read 36 hs0 (by rfl) (by rfl) ?_ (by rfl) (fun wz hSw => ?_) ?_
      rotate_left
      · go_simp
        try with_reducible rfl
      simp only [List.setIfInBounds_toArray, List.set]
      refine goT_read 37 hs0 (by rfl) (by rfl) ?_ (by rfl) (fun wz hSw => ?_) ?_
      rotate_left
      · (have x0 := keepB hSw F0.out); (have x1 := keepB hSw F1.out); go_simp
        try with_reducible rfl
      simp only [List.setIfInBounds_toArray, List.set]
      refine goT_read 38 hs0 (by rfl) (by rfl) ?_ (by rfl) (fun wz hSw => ?_) ?_
      rotate_left
      · go_simp
        try with_reducible rfl
      simp only [List.setIfInBounds_toArray, List.set]
      refine goT_read 39 hs0 (by rfl) (by rfl) ?_ (by rfl) (fun wz hSw => ?_) ?_
      rotate_left
      · go_simp
        try with_reducible rfl
      simp only [List.setIfInBounds_toArray, List.set]
      refine goT_read 40 hs0 (by rfl) (by rfl) ?_ (by rfl) (fun wz hSw => ?_) ?_
      rotate_left
      · go_simp
        try with_reducible rfl
      simp only [List.setIfInBounds_toArray, List.set]
      refine goT_read 41 hs0 (by rfl) (by rfl) ?_ (by rfl) (fun wz hSw => ?_) ?_
      rotate_left
      · go_simp
        try with_reducible rfl
      simp only [List.setIfInBounds_toArray, List.set]
      refine goT_read 42 hs0 (by rfl) (by rfl) ?_ (by rfl) (fun wz hSw => ?_) ?_
      rotate_left
      · go_simp
        try with_reducible rfl
      simp only [List.setIfInBounds_toArray, List.set]
      refine goT_read 43 hs0 (by rfl) (by rfl) ?_ (by rfl) (fun wz hSw => ?_) ?_
      rotate_left
      · (have x0 := keepB hSw G0.out); (have x1 := keepB hSw G1.out); go_simp
        try with_reducible rfl
      simp only [List.setIfInBounds_toArray, List.set]
      refine goT_three (by rfl) (by rfl) (by rfl) ?_ ?_ ?_
      · go_wp2_with (go_at_call 58; go_must (refine (HDM.out _ _ _ (FI.out.below hs0) (GI.out.below hs0)).mono ?_); rintro e W0 ⟨vq, vr, rfl, hvq, hvr, hb5⟩; obtain ⟨nq, Aq, mq, cq, rfl, hq5⟩ := (nint_ni hvq).shape; obtain ⟨nr, Ar, mr, cr, rfl, hr5⟩ := (nint_ni hvr).shape)
        have hsL0 : Below wr.heap.size wr W0 := btr hs0 hb5
        clear hvq hvr hb5
        refine ⟨fun _ => hsL0, ?_⟩
        refine goT_read 31 hsL0 (by rfl) (by rfl) ?_ (by rfl) (fun wz hSw => ?_) ?_
        rotate_left
        · go_simp
          try with_reducible rfl
        simp only [List.setIfInBounds_toArray, List.set]
        refine goT_read 45 hsL0 (by rfl) (by rfl) ?_ (by rfl) (fun wz hSw => ?_) ?_
        rotate_left
        · go_simp
          try with_reducible rfl
        simp only [List.setIfInBounds_toArray, List.set]
        refine goT_read 46 hsL0 (by rfl) (by rfl) ?_ (by rfl) (fun wz hSw => ?_) ?_
        rotate_left
        · go_simp
          try with_reducible rfl
        simp only [List.setIfInBounds_toArray, List.set]
        refine goT_read 47 hsL0 (by rfl) (by rfl) ?_ (by rfl) (fun wz hSw => ?_) ?_
        rotate_left
        · go_simp
          try with_reducible rfl
        simp only [List.setIfInBounds_toArray, List.set]
        refine goT_two (by rfl) (by rfl) ?_ ?_
        · go_wp2_with fail
          refine ⟨fun _ => below_al hsL0 _, ?_⟩
          have hsL1 := below_al hsL0 (.cells #[.bool false, .slice none 0 0] 63)
          have hv7 : Vi (World.alloc W0 (.cells #[.bool false, .slice none 0 0] 63)) (World.heap W0).size 0 := Vi.new (w := W0) (NIntV.zero _ _)
          have l7 : wr.heap.size ≤ (World.heap W0).size := hsL0.size
          replace hq5 := NI.below hq5 (below_al (Below.refl _ _) (.cells #[.bool false, .slice none 0 0] 63))
          replace hr5 := NI.below hr5 (below_al (Below.refl _ _) (.cells #[.bool false, .slice none 0 0] 63))
          generalize hWW : World.alloc W0 (.cells #[.bool false, .slice none 0 0] 63) = W1 at *
          clear hWW
          generalize hPP : (World.heap W0).size = P7 at *
          clear hPP
          refine goT_step (by rfl) ?_
          go_wp2_with fail
          refine ⟨fun _ => below_al hsL1 _, ?_⟩
          have hsL2 := below_al hsL1 (.cells #[.bool false, .slice none 0 0] 63)
          have hv8 : Vi (World.alloc W1 (.cells #[.bool false, .slice none 0 0] 63)) (World.heap W1).size 0 := Vi.new (w := W1) (NIntV.zero _ _)
          have l8 : wr.heap.size ≤ (World.heap W1).size := hsL1.size
          have hne : P7 ≠ (World.heap W1).size := by have := IArr.lt hv7; omega
          replace hv7 : Vi (World.alloc W1 (.cells #[.bool false, .slice none 0 0] 63)) P7 0 := IArr.below hv7 (below_al (Below.refl _ _) _)
          replace hq5 := NI.below hq5 (below_al (Below.refl _ _) (.cells #[.bool false, .slice none 0 0] 63))
          replace hr5 := NI.below hr5 (below_al (Below.refl _ _) (.cells #[.bool false, .slice none 0 0] 63))
          generalize hWW : World.alloc W1 (.cells #[.bool false, .slice none 0 0] 63) = W2 at *
          clear hWW
          generalize hPP : (World.heap W1).size = P8 at *
          clear hPP
          obtain ⟨xn, xB, xm, xk, x0, x1, hx6, xz0, xz1⟩ := Vi.cells hv7
          refine goT_step (by rfl) ?_
          go_wp2_with fail
          have hsL3 : Below wr.heap.size wr ((W2.setCell ⟨P7, 0, none⟩ (.bool nq)).setCell ⟨P7, 1, none⟩ (.slice Aq mq cq)) := (hsL2.setCell (show wr.heap.size ≤ P7 from l7) _).setCell (show wr.heap.size ≤ P7 from l7) _
          refine ⟨fun _ => hsL3, ?_⟩
          have hw7 := Vi.store hv7 hq5
          have hw8 := Vi.far hv8 hv7 (Ne.symm hne) (.bool nq) (.slice Aq mq cq)
          have hr6 : NI ((W2.setCell ⟨P7, 0, none⟩ (.bool nq)).setCell ⟨P7, 1, none⟩ (.slice Aq mq cq)) (.agg #[.bool nr, .slice Ar mr cr]) (ld f % ld g) := (((hr5.off hv7).setCell (by simp) _).setCell (by simp) _).mono fun _ _ _ => trivial
          generalize ((W2.setCell ⟨P7, 0, none⟩ (.bool nq)).setCell ⟨P7, 1, none⟩ (.slice Aq mq cq)) = W3 at *
          clear x0 x1 hx6 xz0 xz1 hv7 hv8 hr5 hq5
          obtain ⟨xn, xB, xm, xk, x0, x1, hx6, xz0, xz1⟩ := Vi.cells hw8
          refine goT_step (by rfl) ?_
          go_wp2_with fail
          have hsL4 : Below wr.heap.size wr ((W3.setCell ⟨P8, 0, none⟩ (.bool nr)).setCell ⟨P8, 1, none⟩ (.slice Ar mr cr)) := (hsL3.setCell (show wr.heap.size ≤ P8 from l8) _).setCell (show wr.heap.size ≤ P8 from l8) _
          refine ⟨fun _ => hsL4, ?_⟩
          have hy8 := Vi.store hw8 hr6
          have hy7 := Vi.far hw7 hw8 hne (.bool nr) (.slice Ar mr cr)
          refine goT_step (by rfl) ?_
          go_wp2_with fail
          refine ⟨fun _ => hsL4, ?_⟩
          exact key _ _ _ _ _ _ _ _ hsL4 hy7 hy8 l7 l8 hne
        · go_wp2_with fail
          refine ⟨fun _ => below_al hsL0 _, ?_⟩
          have hsL1 := below_al hsL0 (.cells #[.bool false, .slice none 0 0] 63)
          have hv8 : Vi (World.alloc W0 (.cells #[.bool false, .slice none 0 0] 63)) (World.heap W0).size 0 := Vi.new (w := W0) (NIntV.zero _ _)
          have l8 : wr.heap.size ≤ (World.heap W0).size := hsL0.size
          replace hq5 := NI.below hq5 (below_al (Below.refl _ _) (.cells #[.bool false, .slice none 0 0] 63))
          replace hr5 := NI.below hr5 (below_al (Below.refl _ _) (.cells #[.bool false, .slice none 0 0] 63))
          generalize hWW : World.alloc W0 (.cells #[.bool false, .slice none 0 0] 63) = W1 at *
          clear hWW
          generalize hPP : (World.heap W0).size = P8 at *
          clear hPP
          refine goT_step (by rfl) ?_
          go_wp2_with fail
          refine ⟨fun _ => below_al hsL1 _, ?_⟩
          have hsL2 := below_al hsL1 (.cells #[.bool false, .slice none 0 0] 63)
          have hv7 : Vi (World.alloc W1 (.cells #[.bool false, .slice none 0 0] 63)) (World.heap W1).size 0 := Vi.new (w := W1) (NIntV.zero _ _)
          have l7 : wr.heap.size ≤ (World.heap W1).size := hsL1.size
          have hne : (World.heap W1).size ≠ P8 := by have := IArr.lt hv8; omega
          replace hv8 : Vi (World.alloc W1 (.cells #[.bool false, .slice none 0 0] 63)) P8 0 := IArr.below hv8 (below_al (Below.refl _ _) _)
          replace hq5 := NI.below hq5 (below_al (Below.refl _ _) (.cells #[.bool false, .slice none 0 0] 63))
          replace hr5 := NI.below hr5 (below_al (Below.refl _ _) (.cells #[.bool false, .slice none 0 0] 63))
          generalize hWW : World.alloc W1 (.cells #[.bool false, .slice none 0 0] 63) = W2 at *
          clear hWW
          generalize hPP : (World.heap W1).size = P7 at *
          clear hPP
          obtain ⟨xn, xB, xm, xk, x0, x1, hx6, xz0, xz1⟩ := Vi.cells hv7
          refine goT_step (by rfl) ?_
          go_wp2_with fail
          have hsL3 : Below wr.heap.size wr ((W2.setCell ⟨P7, 0, none⟩ (.bool nq)).setCell ⟨P7, 1, none⟩ (.slice Aq mq cq)) := (hsL2.setCell (show wr.heap.size ≤ P7 from l7) _).setCell (show wr.heap.size ≤ P7 from l7) _
          refine ⟨fun _ => hsL3, ?_⟩
          have hw7 := Vi.store hv7 hq5
          have hw8 := Vi.far hv8 hv7 (Ne.symm hne) (.bool nq) (.slice Aq mq cq)
          have hr6 : NI ((W2.setCell ⟨P7, 0, none⟩ (.bool nq)).setCell ⟨P7, 1, none⟩ (.slice Aq mq cq)) (.agg #[.bool nr, .slice Ar mr cr]) (ld f % ld g) := (((hr5.off hv7).setCell (by simp) _).setCell (by simp) _).mono fun _ _ _ => trivial
          generalize ((W2.setCell ⟨P7, 0, none⟩ (.bool nq)).setCell ⟨P7, 1, none⟩ (.slice Aq mq cq)) = W3 at *
          clear x0 x1 hx6 xz0 xz1 hv7 hv8 hr5 hq5
          obtain ⟨xn, xB, xm, xk, x0, x1, hx6, xz0, xz1⟩ := Vi.cells hw8
          refine goT_step (by rfl) ?_
          go_wp2_with fail
          have hsL4 : Below wr.heap.size wr ((W3.setCell ⟨P8, 0, none⟩ (.bool nr)).setCell ⟨P8, 1, none⟩ (.slice Ar mr cr)) := (hsL3.setCell (show wr.heap.size ≤ P8 from l8) _).setCell (show wr.heap.size ≤ P8 from l8) _
          refine ⟨fun _ => hsL4, ?_⟩
          have hy8 := Vi.store hw8 hr6
          have hy7 := Vi.far hw7 hw8 hne (.bool nr) (.slice Ar mr cr)
          refine goT_step (by rfl) ?_
          go_wp2_with fail
          refine ⟨fun _ => hsL4, ?_⟩
          exact key _ _ _ _ _ _ _ _ hsL4 hy7 hy8 l7 l8 hne
      · go_wp2_with fail
        have hsL0 : Below wr.heap.size wr (World.alloc wr (.cells #[.bool false, .slice none 0 0] 63)).drew := (below_al (Below.refl _ _) _).drew
        refine ⟨by first | exact fun _ => hsL0 | exact hsL0, ?_⟩
        have hv7 : Vi (World.alloc wr (.cells #[.bool false, .slice none 0 0] 63)).drew wr.heap.size 0 := IArr.below (Vi.new (w := wr) (NIntV.zero _ _)) ((Below.refl _ _).drew)
        generalize hWW : (World.alloc wr (.cells #[.bool false, .slice none 0 0] 63)).drew = W0 at *
        clear hWW
        obtain ⟨P7, hPP⟩ : ∃ P, P = wr.heap.size := ⟨_, rfl⟩
        rw [← hPP] at hv7 ⊢
        have l7 : wr.heap.size ≤ P7 := by rw [hPP]; exact Nat.le_refl _
        clear hPP
        refine goT_two (by rfl) (by rfl) ?_ ?_
        · go_wp2_with (go_at_call 58; go_must (refine (HDM.out _ _ _ (FI.out.below hsL0) (GI.out.below hsL0)).mono ?_); rintro e W1 ⟨vq, vr, rfl, hvq, hvr, hb5⟩; obtain ⟨nq, Aq, mq, cq, rfl, hq5⟩ := (nint_ni hvq).shape; obtain ⟨nr, Ar, mr, cr, rfl, hr5⟩ := (nint_ni hvr).shape)
          have hsL1 : Below wr.heap.size wr W1 := btr hsL0 hb5
          replace hv7 : Vi W1 P7 0 := IArr.below hv7 hb5
          clear hvq hvr hb5
          refine ⟨fun _ => hsL1, ?_⟩
          refine goT_read 31 hsL1 (by rfl) (by rfl) ?_ (by rfl) (fun wz hSw => ?_) ?_
          rotate_left
          · go_simp
            try with_reducible rfl
          simp only [List.setIfInBounds_toArray, List.set]
          refine goT_read 45 hsL1 (by rfl) (by rfl) ?_ (by rfl) (fun wz hSw => ?_) ?_
          rotate_left
          · go_simp
            try with_reducible rfl
          simp only [List.setIfInBounds_toArray, List.set]
          refine goT_read 46 hsL1 (by rfl) (by rfl) ?_ (by rfl) (fun wz hSw => ?_) ?_
          rotate_left
          · go_simp
            try with_reducible rfl
          simp only [List.setIfInBounds_toArray, List.set]
          refine goT_read 47 hsL1 (by rfl) (by rfl) ?_ (by rfl) (fun wz hSw => ?_) ?_
          rotate_left
          · go_simp
            try with_reducible rfl
          simp only [List.setIfInBounds_toArray, List.set]
          refine goT_step (by rfl) ?_
          go_wp2_with fail
          refine ⟨fun _ => below_al hsL1 _, ?_⟩
          have hsL2 := below_al hsL1 (.cells #[.bool false, .slice none 0 0] 63)
          have hv8 : Vi (World.alloc W1 (.cells #[.bool false, .slice none 0 0] 63)) (World.heap W1).size 0 := Vi.new (w := W1) (NIntV.zero _ _)
          have l8 : wr.heap.size ≤ (World.heap W1).size := hsL1.size
          have hne : P7 ≠ (World.heap W1).size := by have := IArr.lt hv7; omega
          replace hv7 : Vi (World.alloc W1 (.cells #[.bool false, .slice none 0 0] 63)) P7 0 := IArr.below hv7 (below_al (Below.refl _ _) _)
          replace hq5 := NI.below hq5 (below_al (Below.refl _ _) (.cells #[.bool false, .slice none 0 0] 63))
          replace hr5 := NI.below hr5 (below_al (Below.refl _ _) (.cells #[.bool false, .slice none 0 0] 63))
          generalize hWW : World.alloc W1 (.cells #[.bool false, .slice none 0 0] 63) = W2 at *
          clear hWW
          generalize hPP : (World.heap W1).size = P8 at *
          clear hPP
          obtain ⟨xn, xB, xm, xk, x0, x1, hx6, xz0, xz1⟩ := Vi.cells hv7
          refine goT_step (by rfl) ?_
          go_wp2_with fail
          have hsL3 : Below wr.heap.size wr ((W2.setCell ⟨P7, 0, none⟩ (.bool nq)).setCell ⟨P7, 1, none⟩ (.slice Aq mq cq)) := (hsL2.setCell (show wr.heap.size ≤ P7 from l7) _).setCell (show wr.heap.size ≤ P7 from l7) _
          refine ⟨fun _ => hsL3, ?_⟩
          have hw7 := Vi.store hv7 hq5
          have hw8 := Vi.far hv8 hv7 (Ne.symm hne) (.bool nq) (.slice Aq mq cq)
          have hr6 : NI ((W2.setCell ⟨P7, 0, none⟩ (.bool nq)).setCell ⟨P7, 1, none⟩ (.slice Aq mq cq)) (.agg #[.bool nr, .slice Ar mr cr]) (ld f % ld g) := (((hr5.off hv7).setCell (by simp) _).setCell (by simp) _).mono fun _ _ _ => trivial
          generalize ((W2.setCell ⟨P7, 0, none⟩ (.bool nq)).setCell ⟨P7, 1, none⟩ (.slice Aq mq cq)) = W3 at *
          clear x0 x1 hx6 xz0 xz1 hv7 hv8 hr5 hq5
          obtain ⟨xn, xB, xm, xk, x0, x1, hx6, xz0, xz1⟩ := Vi.cells hw8
          refine goT_step (by rfl) ?_
          go_wp2_with fail
          have hsL4 : Below wr.heap.size wr ((W3.setCell ⟨P8, 0, none⟩ (.bool nr)).setCell ⟨P8, 1, none⟩ (.slice Ar mr cr)) := (hsL3.setCell (show wr.heap.size ≤ P8 from l8) _).setCell (show wr.heap.size ≤ P8 from l8) _
          refine ⟨fun _ => hsL4, ?_⟩
          have hy8 := Vi.store hw8 hr6
          have hy7 := Vi.far hw7 hw8 hne (.bool nr) (.slice Ar mr cr)
          refine goT_step (by rfl) ?_
          go_wp2_with fail
          refine ⟨fun _ => hsL4, ?_⟩
          exact key _ _ _ _ _ _ _ _ hsL4 hy7 hy8 l7 l8 hne
        · go_wp2_with fail
          refine ⟨fun _ => below_al hsL0 _, ?_⟩
          have hsL1 := below_al hsL0 (.cells #[.bool false, .slice none 0 0] 63)
          have hv8 : Vi (World.alloc W0 (.cells #[.bool false, .slice none 0 0] 63)) (World.heap W0).size 0 := Vi.new (w := W0) (NIntV.zero _ _)
          have l8 : wr.heap.size ≤ (World.heap W0).size := hsL0.size
          have hne : P7 ≠ (World.heap W0).size := by have := IArr.lt hv7; omega
          replace hv7 : Vi (World.alloc W0 (.cells #[.bool false, .slice none 0 0] 63)) P7 0 := IArr.below hv7 (below_al (Below.refl _ _) _)
          generalize hWW : World.alloc W0 (.cells #[.bool false, .slice none 0 0] 63) = W1 at *
          clear hWW
          generalize hPP : (World.heap W0).size = P8 at *
          clear hPP
          refine goT_step (by rfl) ?_
          go_wp2_with (go_at_call 58; go_must (refine (HDM.out _ _ _ (FI.out.below hsL1) (GI.out.below hsL1)).mono ?_); rintro e W2 ⟨vq, vr, rfl, hvq, hvr, hb5⟩; obtain ⟨nq, Aq, mq, cq, rfl, hq5⟩ := (nint_ni hvq).shape; obtain ⟨nr, Ar, mr, cr, rfl, hr5⟩ := (nint_ni hvr).shape)
          have hsL2 : Below wr.heap.size wr W2 := btr hsL1 hb5
          replace hv7 : Vi W2 P7 0 := IArr.below hv7 hb5
          replace hv8 : Vi W2 P8 0 := IArr.below hv8 hb5
          clear hvq hvr hb5
          refine ⟨fun _ => hsL2, ?_⟩
          refine goT_read 31 hsL2 (by rfl) (by rfl) ?_ (by rfl) (fun wz hSw => ?_) ?_
          rotate_left
          · go_simp
            try with_reducible rfl
          simp only [List.setIfInBounds_toArray, List.set]
          refine goT_read 45 hsL2 (by rfl) (by rfl) ?_ (by rfl) (fun wz hSw => ?_) ?_
          rotate_left
          · go_simp
            try with_reducible rfl
          simp only [List.setIfInBounds_toArray, List.set]
          refine goT_read 46 hsL2 (by rfl) (by rfl) ?_ (by rfl) (fun wz hSw => ?_) ?_
          rotate_left
          · go_simp
            try with_reducible rfl
          simp only [List.setIfInBounds_toArray, List.set]
          refine goT_read 47 hsL2 (by rfl) (by rfl) ?_ (by rfl) (fun wz hSw => ?_) ?_
          rotate_left
          · go_simp
            try with_reducible rfl
          simp only [List.setIfInBounds_toArray, List.set]
          obtain ⟨xn, xB, xm, xk, x0, x1, hx6, xz0, xz1⟩ := Vi.cells hv7
          refine goT_step (by rfl) ?_
          go_wp2_with fail
          have hsL3 : Below wr.heap.size wr ((W2.setCell ⟨P7, 0, none⟩ (.bool nq)).setCell ⟨P7, 1, none⟩ (.slice Aq mq cq)) := (hsL2.setCell (show wr.heap.size ≤ P7 from l7) _).setCell (show wr.heap.size ≤ P7 from l7) _
          refine ⟨fun _ => hsL3, ?_⟩
          have hw7 := Vi.store hv7 hq5
          have hw8 := Vi.far hv8 hv7 (Ne.symm hne) (.bool nq) (.slice Aq mq cq)
          have hr6 : NI ((W2.setCell ⟨P7, 0, none⟩ (.bool nq)).setCell ⟨P7, 1, none⟩ (.slice Aq mq cq)) (.agg #[.bool nr, .slice Ar mr cr]) (ld f % ld g) := (((hr5.off hv7).setCell (by simp) _).setCell (by simp) _).mono fun _ _ _ => trivial
          generalize ((W2.setCell ⟨P7, 0, none⟩ (.bool nq)).setCell ⟨P7, 1, none⟩ (.slice Aq mq cq)) = W3 at *
          clear x0 x1 hx6 xz0 xz1 hv7 hv8 hr5 hq5
          obtain ⟨xn, xB, xm, xk, x0, x1, hx6, xz0, xz1⟩ := Vi.cells hw8
          refine goT_step (by rfl) ?_
          go_wp2_with fail
          have hsL4 : Below wr.heap.size wr ((W3.setCell ⟨P8, 0, none⟩ (.bool nr)).setCell ⟨P8, 1, none⟩ (.slice Ar mr cr)) := (hsL3.setCell (show wr.heap.size ≤ P8 from l8) _).setCell (show wr.heap.size ≤ P8 from l8) _
          refine ⟨fun _ => hsL4, ?_⟩
          have hy8 := Vi.store hw8 hr6
          have hy7 := Vi.far hw7 hw8 hne (.bool nr) (.slice Ar mr cr)
          refine goT_step (by rfl) ?_
          go_wp2_with fail
          refine ⟨fun _ => hsL4, ?_⟩
          exact key _ _ _ _ _ _ _ _ hsL4 hy7 hy8 l7 l8 hne
      · go_wp2_with fail
        have hsL0 : Below wr.heap.size wr (World.alloc wr (.cells #[.bool false, .slice none 0 0] 63)).drew := (below_al (Below.refl _ _) _).drew
        refine ⟨by first | exact fun _ => hsL0 | exact hsL0, ?_⟩
        have hv8 : Vi (World.alloc wr (.cells #[.bool false, .slice none 0 0] 63)).drew wr.heap.size 0 := IArr.below (Vi.new (w := wr) (NIntV.zero _ _)) ((Below.refl _ _).drew)
        generalize hWW : (World.alloc wr (.cells #[.bool false, .slice none 0 0] 63)).drew = W0 at *
        clear hWW
        obtain ⟨P8, hPP⟩ : ∃ P, P = wr.heap.size := ⟨_, rfl⟩
        rw [← hPP] at hv8 ⊢
        have l8 : wr.heap.size ≤ P8 := by rw [hPP]; exact Nat.le_refl _
        clear hPP
        refine goT_two (by rfl) (by rfl) ?_ ?_
        · go_wp2_with (go_at_call 58; go_must (refine (HDM.out _ _ _ (FI.out.below hsL0) (GI.out.below hsL0)).mono ?_); rintro e W1 ⟨vq, vr, rfl, hvq, hvr, hb5⟩; obtain ⟨nq, Aq, mq, cq, rfl, hq5⟩ := (nint_ni hvq).shape; obtain ⟨nr, Ar, mr, cr, rfl, hr5⟩ := (nint_ni hvr).shape)
          have hsL1 : Below wr.heap.size wr W1 := btr hsL0 hb5
          replace hv8 : Vi W1 P8 0 := IArr.below hv8 hb5
          clear hvq hvr hb5
          refine ⟨fun _ => hsL1, ?_⟩
          refine goT_read 31 hsL1 (by rfl) (by rfl) ?_ (by rfl) (fun wz hSw => ?_) ?_
          rotate_left
          · go_simp
            try with_reducible rfl
          simp only [List.setIfInBounds_toArray, List.set]
          refine goT_read 45 hsL1 (by rfl) (by rfl) ?_ (by rfl) (fun wz hSw => ?_) ?_
          rotate_left
          · go_simp
            try with_reducible rfl
          simp only [List.setIfInBounds_toArray, List.set]
          refine goT_read 46 hsL1 (by rfl) (by rfl) ?_ (by rfl) (fun wz hSw => ?_) ?_
          rotate_left
          · go_simp
            try with_reducible rfl
          simp only [List.setIfInBounds_toArray, List.set]
          refine goT_read 47 hsL1 (by rfl) (by rfl) ?_ (by rfl) (fun wz hSw => ?_) ?_
          rotate_left
          · go_simp
            try with_reducible rfl
          simp only [List.setIfInBounds_toArray, List.set]
          refine goT_step (by rfl) ?_
          go_wp2_with fail
          refine ⟨fun _ => below_al hsL1 _, ?_⟩
          have hsL2 := below_al hsL1 (.cells #[.bool false, .slice none 0 0] 63)
          have hv7 : Vi (World.alloc W1 (.cells #[.bool false, .slice none 0 0] 63)) (World.heap W1).size 0 := Vi.new (w := W1) (NIntV.zero _ _)
          have l7 : wr.heap.size ≤ (World.heap W1).size := hsL1.size
          have hne : (World.heap W1).size ≠ P8 := by have := IArr.lt hv8; omega
          replace hv8 : Vi (World.alloc W1 (.cells #[.bool false, .slice none 0 0] 63)) P8 0 := IArr.below hv8 (below_al (Below.refl _ _) _)
          replace hq5 := NI.below hq5 (below_al (Below.refl _ _) (.cells #[.bool false, .slice none 0 0] 63))
          replace hr5 := NI.below hr5 (below_al (Below.refl _ _) (.cells #[.bool false, .slice none 0 0] 63))
          generalize hWW : World.alloc W1 (.cells #[.bool false, .slice none 0 0] 63) = W2 at *
          clear hWW
          generalize hPP : (World.heap W1).size = P7 at *
          clear hPP
          obtain ⟨xn, xB, xm, xk, x0, x1, hx6, xz0, xz1⟩ := Vi.cells hv7
          refine goT_step (by rfl) ?_
          go_wp2_with fail
          have hsL3 : Below wr.heap.size wr ((W2.setCell ⟨P7, 0, none⟩ (.bool nq)).setCell ⟨P7, 1, none⟩ (.slice Aq mq cq)) := (hsL2.setCell (show wr.heap.size ≤ P7 from l7) _).setCell (show wr.heap.size ≤ P7 from l7) _
          refine ⟨fun _ => hsL3, ?_⟩
          have hw7 := Vi.store hv7 hq5
          have hw8 := Vi.far hv8 hv7 (Ne.symm hne) (.bool nq) (.slice Aq mq cq)
          have hr6 : NI ((W2.setCell ⟨P7, 0, none⟩ (.bool nq)).setCell ⟨P7, 1, none⟩ (.slice Aq mq cq)) (.agg #[.bool nr, .slice Ar mr cr]) (ld f % ld g) := (((hr5.off hv7).setCell (by simp) _).setCell (by simp) _).mono fun _ _ _ => trivial
          generalize ((W2.setCell ⟨P7, 0, none⟩ (.bool nq)).setCell ⟨P7, 1, none⟩ (.slice Aq mq cq)) = W3 at *
          clear x0 x1 hx6 xz0 xz1 hv7 hv8 hr5 hq5
          obtain ⟨xn, xB, xm, xk, x0, x1, hx6, xz0, xz1⟩ := Vi.cells hw8
          refine goT_step (by rfl) ?_
          go_wp2_with fail
          have hsL4 : Below wr.heap.size wr ((W3.setCell ⟨P8, 0, none⟩ (.bool nr)).setCell ⟨P8, 1, none⟩ (.slice Ar mr cr)) := (hsL3.setCell (show wr.heap.size ≤ P8 from l8) _).setCell (show wr.heap.size ≤ P8 from l8) _
          refine ⟨fun _ => hsL4, ?_⟩
          have hy8 := Vi.store hw8 hr6
          have hy7 := Vi.far hw7 hw8 hne (.bool nr) (.slice Ar mr cr)
          refine goT_step (by rfl) ?_
          go_wp2_with fail
          refine ⟨fun _ => hsL4, ?_⟩
          exact key _ _ _ _ _ _ _ _ hsL4 hy7 hy8 l7 l8 hne
        · go_wp2_with fail
          refine ⟨fun _ => below_al hsL0 _, ?_⟩
          have hsL1 := below_al hsL0 (.cells #[.bool false, .slice none 0 0] 63)
          have hv7 : Vi (World.alloc W0 (.cells #[.bool false, .slice none 0 0] 63)) (World.heap W0).size 0 := Vi.new (w := W0) (NIntV.zero _ _)
          have l7 : wr.heap.size ≤ (World.heap W0).size := hsL0.size
          have hne : (World.heap W0).size ≠ P8 := by have := IArr.lt hv8; omega
          replace hv8 : Vi (World.alloc W0 (.cells #[.bool false, .slice none 0 0] 63)) P8 0 := IArr.below hv8 (below_al (Below.refl _ _) _)
          generalize hWW : World.alloc W0 (.cells #[.bool false, .slice none 0 0] 63) = W1 at *
          clear hWW
          generalize hPP : (World.heap W0).size = P7 at *
          clear hPP
          refine goT_step (by rfl) ?_
          go_wp2_with (go_at_call 58; go_must (refine (HDM.out _ _ _ (FI.out.below hsL1) (GI.out.below hsL1)).mono ?_); rintro e W2 ⟨vq, vr, rfl, hvq, hvr, hb5⟩; obtain ⟨nq, Aq, mq, cq, rfl, hq5⟩ := (nint_ni hvq).shape; obtain ⟨nr, Ar, mr, cr, rfl, hr5⟩ := (nint_ni hvr).shape)
          have hsL2 : Below wr.heap.size wr W2 := btr hsL1 hb5
          replace hv7 : Vi W2 P7 0 := IArr.below hv7 hb5
          replace hv8 : Vi W2 P8 0 := IArr.below hv8 hb5
          clear hvq hvr hb5
          refine ⟨fun _ => hsL2, ?_⟩
          refine goT_read 31 hsL2 (by rfl) (by rfl) ?_ (by rfl) (fun wz hSw => ?_) ?_
          rotate_left
          · go_simp
            try with_reducible rfl
          simp only [List.setIfInBounds_toArray, List.set]
          refine goT_read 45 hsL2 (by rfl) (by rfl) ?_ (by rfl) (fun wz hSw => ?_) ?_
          rotate_left
          · go_simp
            try with_reducible rfl
          simp only [List.setIfInBounds_toArray, List.set]
          refine goT_read 46 hsL2 (by rfl) (by rfl) ?_ (by rfl) (fun wz hSw => ?_) ?_
          rotate_left
          · go_simp
            try with_reducible rfl
          simp only [List.setIfInBounds_toArray, List.set]
          refine goT_read 47 hsL2 (by rfl) (by rfl) ?_ (by rfl) (fun wz hSw => ?_) ?_
          rotate_left
          · go_simp
            try with_reducible rfl
          simp only [List.setIfInBounds_toArray, List.set]
          obtain ⟨xn, xB, xm, xk, x0, x1, hx6, xz0, xz1⟩ := Vi.cells hv7
          refine goT_step (by rfl) ?_
          go_wp2_with fail
          have hsL3 : Below wr.heap.size wr ((W2.setCell ⟨P7, 0, none⟩ (.bool nq)).setCell ⟨P7, 1, none⟩ (.slice Aq mq cq)) := (hsL2.setCell (show wr.heap.size ≤ P7 from l7) _).setCell (show wr.heap.size ≤ P7 from l7) _
          refine ⟨fun _ => hsL3, ?_⟩
          have hw7 := Vi.store hv7 hq5
          have hw8 := Vi.far hv8 hv7 (Ne.symm hne) (.bool nq) (.slice Aq mq cq)
          have hr6 : NI ((W2.setCell ⟨P7, 0, none⟩ (.bool nq)).setCell ⟨P7, 1, none⟩ (.slice Aq mq cq)) (.agg #[.bool nr, .slice Ar mr cr]) (ld f % ld g) := (((hr5.off hv7).setCell (by simp) _).setCell (by simp) _).mono fun _ _ _ => trivial
          generalize ((W2.setCell ⟨P7, 0, none⟩ (.bool nq)).setCell ⟨P7, 1, none⟩ (.slice Aq mq cq)) = W3 at *
          clear x0 x1 hx6 xz0 xz1 hv7 hv8 hr5 hq5
          obtain ⟨xn, xB, xm, xk, x0, x1, hx6, xz0, xz1⟩ := Vi.cells hw8
          refine goT_step (by rfl) ?_
          go_wp2_with fail
          have hsL4 : Below wr.heap.size wr ((W3.setCell ⟨P8, 0, none⟩ (.bool nr)).setCell ⟨P8, 1, none⟩ (.slice Ar mr cr)) := (hsL3.setCell (show wr.heap.size ≤ P8 from l8) _).setCell (show wr.heap.size ≤ P8 from l8) _
          refine ⟨fun _ => hsL4, ?_⟩
          have hy8 := Vi.store hw8 hr6
          have hy7 := Vi.far hw7 hw8 hne (.bool nr) (.slice Ar mr cr)
          refine goT_step (by rfl) ?_
          go_wp2_with fail
          refine ⟨fun _ => hsL4, ?_⟩
          exact key _ _ _ _ _ _ _ _ hsL4 hy7 hy8 l7 l8 hne
end Go.Proofs.YtdmdagilopckgaaGreat
