/- The reference's polynomials: Common. -/
import Derived.Test.YtdmdagilopckgaaGreatPzf
namespace Go.Proofs.YtdmdagilopckgaaGreat
open Go.RowKit

theorem EuI.rmb {c : Nat} {f g : List Int} (h : EuI c f g) (hg : 0 < g.length) (hc : c * 59605 ≤ 400000000000) : RmB f g := by
  obtain ⟨B, C, h1, h2, h3, h4, h5, _, _⟩ := h.lim hg
  exact ⟨B, C, h1, h2, by omega, by omega⟩
theorem ps_of {f : List Int} : ps f = if ld (pp f) < 0 then (pp f).map (- ·) else pp f := by
  unfold ps
  split
  · rw [ng_eq (tz_pp f)]
  · rfl
theorem PvD.up {w : World} {D D' : Nat → Prop} {v : Value} {l : List Int} (h : PvD w D v l) (hm : ∀ b, D b → D' b) : PvD w D' v l := h.mono fun b hb _ => hm b hb
/-- A row of integers, spelled with its length. -/
theorem PvD.shape {w : World} {D : Nat → Prop} {v : Value} {l : List Int} {n : Nat} (h : PvD w D v l) (hn : l.length = n) : ∃ A c, v = .slice A n c ∧ n ≤ c ∧ c ≤ 9223372036854775807 ∧ PvD w D (.slice A n c) l := by
  subst hn
  obtain ⟨A, c, e, hp⟩ := h
  have h1 := hp.cap
  have h2 := hp.room
  unfold maxLen at h2
  exact ⟨A, c, e, h1, h2, A, c, rfl, hp⟩
theorem PvD.ib {w : World} {D : Nat → Prop} {A : Option Addr} {n c B : Nat} {l : List Int} (h : PvD w D (.slice A n c) l) (hB : Bd B l) (h0 : B ≤ 1000000000000) : Pl IntB w (fun _ => True) A n c l := h.pl_.b hB h0
/-- The last element. -/
theorem PvD.last {w : World} {D : Nat → Prop} {A : Option Addr} {k c : Nat} {l : List Int} (h : PvD w D (.slice A (k + 1) c) l) : ∃ b off neg B m q, A = some ⟨b, off, none⟩ ∧ w.cell? ⟨b, off + k * 2, none⟩ = some (.bool neg) ∧ w.cell? ⟨b, off + k * 2 + 1, none⟩ = some (.slice B m q) ∧ NI w (.agg #[.bool neg, .slice B m q]) (ld l) := by
  have hp := h.pl_
  have hl := hp.len
  obtain ⟨b, off, e, _, hc⟩ := hp.cells (by omega)
  obtain ⟨neg, B, m, q, e0, e1, e2⟩ := hc k (by omega)
  exact ⟨b, off, neg, B, m, q, e, e0, e1, by unfold ld; rw [hl]; exact e2⟩

set_option maxRecDepth 100000 in
set_option maxHeartbeats 4000000 in
theorem Common_any {A A' : Option Addr} {n c n' c' : Nat} {f0 g0 : List Int} {w : World} (h : Pl IntB w (fun _ => True) A n c f0) (h' : Pl IntB w (fun _ => True) A' n' c' g0) (hn : n ≤ 1000000) (hn' : n' ≤ 1000000) (hI : EuI 5 (tz f0) (tz g0)) :
    Calls Tryz.prog 55 #[.slice A n c, .slice A' n' c'] w (Gives w fun w' v => PvD w' (w.heap.size ≤ ·) v (ps (eu (tz f0) (tz g0)))) := by
  have hm := h.room
  have hm' := h'.room
  unfold maxLen at hm hm'
  have hc := h.cap
  have hc' := h'.cap
  have HT := Lib.hid (qTrim_any h hn)
  have HT' := Lib.hid (fun w1 (hb : Below w.heap.size w w1) => qTrim_any (h'.below hb) hn')
  obtain ⟨R, hR⟩ : ∃ R, R = eu (tz f0) (tz g0) := ⟨_, rfl⟩
  rw [← hR]
  have HR := Lib.hid hR.symm
  have HI := Lib.hid hI
  clear h h' hR hn hn' hI
  generalize tz f0 = f1 at *
  generalize tz g0 = g1 at *
  go_enter Tryz.func55, Tryz.ntmps55
  go_wp2_with (first
    | (go_at_call 41; (with_reducible refine HT.out.mono ?_); rintro e w1 ⟨v1, rfl, hv1, hb1⟩; obtain ⟨A1, c1, rfl, hc1, hr1, hd1⟩ := PvD.shape hv1 rfl)
    | (go_at_call 41; (with_reducible refine (HT'.out _ hb1).mono ?_); rintro e w2 ⟨v2, rfl, hv2, hb2⟩; obtain ⟨A2, c2, rfl, hc2, hr2, hd2⟩ := PvD.shape hv2 rfl))
  have hd1' := (PvD.below hd1 hb2).up (D' := (w.heap.size ≤ ·)) fun _ h => h
  have hd2' := hd2.up (D' := (w.heap.size ≤ ·)) fun b hb => Nat.le_trans hb1.size hb
  have hb12 := btr hb1 hb2
  go_loopw [0, 1] (fun fv gv wr => ∃ (A c m A' c' m' : _) (f g : List Int), fv = .slice A m c ∧ gv = .slice A' m' c' ∧ m = f.length ∧ m' = g.length ∧ PvD wr (w.heap.size ≤ ·) (.slice A m c) f ∧ PvD wr (w.heap.size ≤ ·) (.slice A' m' c') g ∧ Hid (EuI 5 f g) ∧ Hid (eu f g = R) ∧ Below w.heap.size w wr) (fun _ gv _ => lenOf gv)
  case atStart => exact ⟨_, _, _, _, _, _, f1, g1, rfl, rfl, rfl, rfl, hd1', hd2', HI, HR, hb12⟩
  case round =>
    clear hv1 hv2 hd1 hd2 hb1 hb2 hb12 hd1' hd2' HI HR
    obtain ⟨A3, c3, m3, A4, c4, m4, f, g, rfl, rfl, hm3, hm4, hf, hg, HI, HE, hbr⟩ := hrel
    have HM3 := Lib.hid hm3
    have HM4 := Lib.hid hm4
    have hle := HI.out.len
    rw [← hm3, ← hm4] at hle
    clear hm3 hm4
    obtain ⟨A9, c9, e9, hc3, hr3, _⟩ := PvD.shape hf (HM3.out.symm)
    injection e9 with e91 e92 e93
    subst e91 e93
    clear e92
    obtain ⟨A9, c9, e9, hc4, hr4, _⟩ := PvD.shape hg (HM4.out.symm)
    injection e9 with e91 e92 e93
    subst e91 e93
    clear e92
    have HF := Lib.hid hf
    have HG := Lib.hid hg
    clear hf hg
    by_cases hm : 0 < m4
    · have hgl : 0 < g.length := by rw [← HM4.out]; exact hm
      have hrb := HI.out.rmb hgl (by omega)
      have hrbl := hrb.le
      have hrl := rm_length f hgl
      have htf := HI.out.norm.1
      have htg := HI.out.norm.2
      have htr := tz_rm (g := g) htf
      have hbr2 : Bd 400000000000 (rm f g) := by
        obtain ⟨B, C, h1, h2, h3, h4⟩ := hrb
        exact (Bd.rm hgl h2 h1).mono h3
      have HRM := Lib.hid (Remainder_any (HF.out.ib hrbl.1 (by omega)) (HG.out.ib hrbl.2 (by omega)) (by omega) (by omega) (by rw [htg]; exact hgl) (by rw [htf, htg]; exact hrb))
      rw [htf, htg] at HRM
      have HPE := Lib.hid (pp_rm (g := g) htf)
      have HCT := Lib.hid (fun h0 : rm f g ≠ [] => ct_of_tz htr h0)
      have HBR := Lib.hid hbr2
      have HN := Lib.hid (HI.out.next hgl).pp
      have HES := Lib.hid (eu_step (f := f) hgl)
      have HRL := Lib.hid hrl
      have HPL := Lib.hid (pp_length (rs f g))
      have HRSL := Lib.hid (rs_length f hgl)
      obtain ⟨k, hk⟩ : ∃ k, k = (pp (rs f g)).length := ⟨_, rfl⟩
      have HK := Lib.hid hk
      have hkl : k < m4 := by have := HPL.out; have := HRSL.out; have := HM4.out; omega
      clear hgl hrb hrbl hrl htf htg htr hbr2 hk
      go_wp2_with (first
        | (go_at_call 52; go_must (refine HRM.out.mono ?_); rintro e w5 ⟨v5, rfl, hv5, hb5⟩; obtain ⟨A5, c5, rfl, hc5, hr5, hd5⟩ := PvD.shape hv5 rfl; have hi5 := hd5.ib HBR.out (by omega))
        | (go_at_call 49; go_must (refine (Primitive_any hi5 (by have := HRL.out; have := HM4.out; omega) HCT.out).mono ?_); rintro e w6 ⟨v6, rfl, hv6, hb6⟩; rw [HPE.out] at hv6; obtain ⟨A6, c6, rfl, hc6, hr6, hd6⟩ := PvD.shape hv6 HK.out.symm))
      have hbw := btr hbr hb5
      exact ⟨⟨_, _, _, _, _, _, g, pp (rs f g), rfl, rfl, HM4.out, HK.out, PvD.below HG.out (btr hb5 hb6), hd6.up fun b hb => Nat.le_trans hbw.size hb, HN, Lib.hid (HES.out.symm.trans HE.out), btr hbw hb6⟩, by simp only [lenOf]; omega⟩
    · obtain rfl : m4 = 0 := by omega
      have hfr : f = R := by rw [← HE.out, eu_stop f (by rw [← HM4.out]; omega)]
      subst hfr
      have htf := HI.out.norm.1
      have hf0 : f ≠ [] := List.length_pos_iff.1 (by rw [← HM3.out]; omega)
      obtain ⟨k, hk⟩ : ∃ k, m3 = k + 1 := ⟨m3 - 1, by omega⟩
      subst hk
      have hbf := HI.out.bd.1
      have HPR := Lib.hid (Primitive_any (HF.out.ib hbf (by omega)) (by omega) (fun h0 => ct_of_tz htf h0))
      have HPL := Lib.hid (show (pp f).length = k + 1 by rw [pp_len htf, ← HM3.out])
      have HPB := Lib.hid (show Bd 1000000000000 (pp f) from hbf.pp.mono (by omega))
      have HPS := Lib.hid (@ps_of f)
      have hpl0 : 0 < (pp f).length := by rw [HPL.out]; omega
      clear htf hf0 hbf
      by_cases hneg : ld (pp f) < 0
      · have HFI := Lib.hid (show ps f = (pp f).map (- ·) by rw [HPS.out, if_pos hneg])
        obtain ⟨sv, hsv⟩ : ∃ sv, sv = cmpI (ld (pp f)) 0 := ⟨_, rfl⟩
        have hneg1 := decide_eq_true (p := sv < 0) (by rw [hsv, cmpI_zero]; exact hneg)
        have HSV := Lib.hid hsv
        have HLB := Lib.hid (HPB.out _ (ld_mem hpl0))
        clear hneg hsv hpl0
        go_wp2_with (first
          | (go_at_call 49; go_must (refine HPR.out.mono ?_); rintro e w5 ⟨v5, rfl, hv5, hb5⟩; obtain ⟨A5, c5, rfl, hc5, hr5, hd5⟩ := PvD.shape hv5 HPL.out; have hi5 := hd5.ib HPB.out (by omega); obtain ⟨lb, loff, ln, lB, lm, lq, rfl, l0, l1, l2⟩ := PvD.last hd5)
          | (go_at_call 54; go_must (refine (qSign_any (NIntV.b l2 HLB.out)).mono ?_); rw [← HSV.out]; rintro e w6 ⟨rfl, hb6⟩)
          | (go_at_call 51; go_must (refine (qNegative_any (hi5.below hb6) (by omega)).mono ?_); rintro e w7 ⟨v7, rfl, hv7, hb7⟩))
        go_ret
        have hall := btr hbr (btr hb5 hb6)
        exact ⟨_, rfl, by rw [HFI.out]; exact hv7.up fun b hb => Nat.le_trans hall.size hb, btr hall hb7⟩
      · have HFI := Lib.hid (show ps f = pp f by rw [HPS.out, if_neg hneg])
        obtain ⟨sv, hsv⟩ : ∃ sv, sv = cmpI (ld (pp f)) 0 := ⟨_, rfl⟩
        have hneg1 := decide_eq_false (p := sv < 0) (by rw [hsv, cmpI_zero]; exact hneg)
        have HSV := Lib.hid hsv
        have HLB := Lib.hid (HPB.out _ (ld_mem hpl0))
        clear hneg hsv hpl0
        go_wp2_with (first
          | (go_at_call 49; go_must (refine HPR.out.mono ?_); rintro e w5 ⟨v5, rfl, hv5, hb5⟩; obtain ⟨A5, c5, rfl, hc5, hr5, hd5⟩ := PvD.shape hv5 HPL.out; obtain ⟨lb, loff, ln, lB, lm, lq, rfl, l0, l1, l2⟩ := PvD.last hd5; have HD5 := Lib.hid hd5)
          | (go_at_call 54; go_must (refine (qSign_any (NIntV.b l2 HLB.out)).mono ?_); rw [← HSV.out]; rintro e w6 ⟨rfl, hb6⟩))
        go_ret
        have hall := btr hbr (btr hb5 hb6)
        exact ⟨_, rfl, by rw [HFI.out]; exact (PvD.below HD5.out hb6).up fun b hb => Nat.le_trans hbr.size hb, hall⟩
end Go.Proofs.YtdmdagilopckgaaGreat
