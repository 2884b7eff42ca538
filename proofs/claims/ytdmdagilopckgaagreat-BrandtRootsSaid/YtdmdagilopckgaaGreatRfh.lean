/- The reference's polynomials: Squarefree. -/
import Derived.Test.YtdmdagilopckgaaGreatRfg
namespace Go.Proofs.YtdmdagilopckgaaGreat
open Go.RowKit

set_option maxRecDepth 100000 in
set_option maxHeartbeats 4000000 in
theorem qSquarefree_any {A : Option Addr} {n c : Nat} {l : List Int} {w : World} (h : Pl IntB w (fun _ => True) A n c l) (hn : n ≤ 1000) (g : GoodP (tz l)) :
    Calls Tryz.prog 25 #[.slice A n c] w (Gives w fun w' v => PvD w' (w.heap.size ≤ ·) v (sq (tz l))) := by
  have hm := h.room
  unfold maxLen at hm
  have hc := h.cap
  have HT := Lib.hid (qTrim_any h (by omega))
  clear h
  generalize tz l = t at *
  have ht0 : t ≠ [] := List.length_pos_iff.1 g.pos
  have htn := g.norm
  obtain ⟨k, hk⟩ : ∃ k, t.length = k + 1 := ⟨t.length - 1, by have := g.pos; omega⟩
  have hk12 : k + 1 ≤ 12 := by have := g.le; omega
  have HK := Lib.hid hk
  have hpl : (pp t).length = k + 1 := by rw [pp_len htn, hk]
  have HPL := Lib.hid hpl
  have hbp : Bd 3 (pp t) := g.bd.pp
  have HPB := Lib.hid (show Bd 1000000000000 (pp t) from hbp.mono (by omega))
  have HCT := Lib.hid (fun h0 : t ≠ [] => ct_of_tz htn h0)
  have HTB := Lib.hid (show Bd 1000000000000 t from g.bd.mono (by omega))
  have hpsn := tz_ps t
  have hps0 := ps_ne htn ht0
  have hpsl : (ps t).length = k + 1 := by rw [ps_len htn, hk]
  have hpsb : Bd 3 (ps t) := g.bd.ps
  have HDB := Lib.hid (show Bd 1000000000000 (dv (ps t)) from (hpsb.dv (by omega)).mono (by omega))
  have HDT := Lib.hid (tz_dv (ps t))
  have hei := EuI.start (c := 5) hpsn (by omega) (by omega) hpsb (by omega)
  have HEI := Lib.hid hei
  obtain ⟨e0, hee⟩ := hei.eu
  have hdb := hee.bd.1.ps
  obtain ⟨hdn, hd0⟩ := eu_norm hpsn (tz_dv (ps t)) hps0
  have hdl := eu_norm hpsn (tz_dv (ps t)) hps0
  have HDN := Lib.hid (tz_ps (eu (ps t) (dv (ps t))))
  have HDP := Lib.hid (List.length_pos_iff.2 (ps_ne hdn hd0))
  have HDBD := Lib.hid (show Bd 298025 (ps (eu (ps t) (dv (ps t)))) from hdb)
  have hdle : (ps (eu (ps t) (dv (ps t)))).length ≤ 12 := by
    rw [ps_len hdn]
    have := hee.len
    omega
  have HOB := Lib.hid (show OvB (ps t) (ps (eu (ps t) (dv (ps t)))) [] by
    refine ⟨3, 298025, hpsb, hdb, ?_, by omega, fun x hx => by cases hx⟩
    have h2 : (ps t).length + 1 - (ps (eu (ps t) (dv (ps t)))).length ≤ 12 := by have := HDP.out; omega
    have h3 := Nat.mul_le_mul_right (298025 + 1) h2
    omega)
  have HSQ := Lib.hid (show ov (ps t) (ps (eu (ps t) (dv (ps t)))) = some (sq t) from g.sq)
  have HPSN := Lib.hid hpsn
  have HPSB := Lib.hid (show Bd 1000000000000 (ps t) from hpsb.mono (by omega))
  have HPSB9 := Lib.hid (show Bd 900000000000 (ps t) from hpsb.mono (by omega))
  have HPSL := Lib.hid hpsl
  have HPS := Lib.hid (@ps_of t)
  have hpl0 : 0 < (pp t).length := by omega
  have hdvl : (dv (ps t)).length ≤ 12 := by have := dv_length (ps t); omega
  clear g ht0 htn hpl hbp hpsn hps0 hpsl hpsb hei hee hdb hdn hd0 hdl hk
  generalize hde : ps (eu (ps t) (dv (ps t))) = d at *
  have HDE := Lib.hid hde
  clear hde
  have HREST := Lib.hid (fun (w1 : World) (A1 : Option Addr) (c1 : Nat) (h1 : PvD w1 (w.heap.size ≤ ·) (.slice A1 (k + 1) c1) (ps t)) => h1.ib HPSB.out (by omega))
  by_cases hneg : ld (pp t) < 0
  · have HFI := Lib.hid (show ps t = (pp t).map (- ·) by rw [HPS.out, if_pos hneg])
    obtain ⟨sv, hsv⟩ : ∃ sv, sv = cmpI (ld (pp t)) 0 := ⟨_, rfl⟩
    have hneg1 := decide_eq_true (p := sv < 0) (by rw [hsv, cmpI_zero]; exact hneg)
    have HSV := Lib.hid hsv
    have HLB := Lib.hid (HPB.out _ (ld_mem hpl0))
    clear hneg hsv hpl0
    go_enter Tryz.func25, Tryz.ntmps25
    go_wp2_with (first
      | (go_at_call 41; go_must (refine HT.out.mono ?_); rintro e w1 ⟨v1, rfl, hv1, hb1⟩; obtain ⟨A1, c1, rfl, hc1, hr1, hd1⟩ := PvD.shape hv1 HK.out; have hi1 := hd1.ib HTB.out (by omega))
      | (go_at_call 49; go_must (refine (Primitive_any hi1 (by omega) HCT.out).mono ?_); rintro e w5 ⟨v5, rfl, hv5, hb5⟩; obtain ⟨A5, c5, rfl, hc5, hr5, hd5⟩ := PvD.shape hv5 HPL.out; have hi5 := hd5.ib HPB.out (by omega); obtain ⟨lb, loff, ln, lB, lm, lq, rfl, l0, l1, l2⟩ := PvD.last hd5)
      | (go_at_call 54; go_must (refine (qSign_any (NIntV.b l2 HLB.out)).mono ?_); rw [← HSV.out]; rintro e w6 ⟨rfl, hb6⟩)
      | (go_at_call 51; go_must (refine (qNegative_any (hi5.below hb6) (by omega)).mono ?_); rintro e w7 ⟨v7, rfl, hv7, hb7⟩; rw [← HFI.out] at hv7; obtain ⟨A7, c7, rfl, hc7, hr7, hd7⟩ := PvD.shape hv7 HPSL.out; have hi7 := hd7.ib HPSB.out (by omega); have HD7 := Lib.hid hi7; clear hi7 hd7 hv7)
      | (go_at_call 50; go_must (refine (Derivative_any HD7.out (by omega) HPSB9.out).mono ?_); rintro e w8 ⟨v8, rfl, hv8, hb8⟩; obtain ⟨A8, c8, rfl, hc8, hr8, hd8⟩ := PvD.shape hv8 rfl; have hi8 := hd8.ib HDB.out (by omega))
      | (go_at_call 55; go_must (refine (Common_any (HD7.out.below hb8) hi8 (by omega) (by omega) (by rw [HPSN.out, HDT.out]; exact HEI.out)).mono ?_); rw [HPSN.out, HDT.out, HDE.out]; rintro e w9 ⟨v9, rfl, hv9, hb9⟩; obtain ⟨A9, c9, rfl, hc9, hr9, hd9⟩ := PvD.shape hv9 rfl; have hi9 := hd9.ib HDBD.out (by omega))
      | (go_at_call 27; go_must (refine (qDivide_any ((HD7.out.below hb8).below hb9) hi9 (by omega) (by omega) (by rw [HDN.out]; exact HDP.out) (by rw [HPSN.out, HDN.out]; exact HOB.out)).mono ?_); rw [HPSN.out, HDN.out, HSQ.out]; rintro e w10 ⟨v10, rfl, hv10, hb10⟩))
    go_ret
    have hall := btr hb1 (btr hb5 (btr hb6 (btr hb7 (btr hb8 hb9))))
    exact ⟨_, rfl, (hv10 _ rfl).up fun b hb => Nat.le_trans hall.size hb, btr hall hb10⟩
  · have HFI := Lib.hid (show ps t = pp t by rw [HPS.out, if_neg hneg])
    obtain ⟨sv, hsv⟩ : ∃ sv, sv = cmpI (ld (pp t)) 0 := ⟨_, rfl⟩
    have hneg1 := decide_eq_false (p := sv < 0) (by rw [hsv, cmpI_zero]; exact hneg)
    have HSV := Lib.hid hsv
    have HLB := Lib.hid (HPB.out _ (ld_mem hpl0))
    clear hneg hsv hpl0
    go_enter Tryz.func25, Tryz.ntmps25
    go_wp2_with (first
      | (go_at_call 41; go_must (refine HT.out.mono ?_); rintro e w1 ⟨v1, rfl, hv1, hb1⟩; obtain ⟨A1, c1, rfl, hc1, hr1, hd1⟩ := PvD.shape hv1 HK.out; have hi1 := hd1.ib HTB.out (by omega))
      | (go_at_call 49; go_must (refine (Primitive_any hi1 (by omega) HCT.out).mono ?_); rintro e w5 ⟨v5, rfl, hv5, hb5⟩; obtain ⟨A5, c5, rfl, hc5, hr5, hd5⟩ := PvD.shape hv5 HPL.out; have hi5 := hd5.ib HPB.out (by omega); rw [← HFI.out] at hi5; have HI5 := Lib.hid hi5; obtain ⟨lb, loff, ln, lB, lm, lq, rfl, l0, l1, l2⟩ := PvD.last hd5; clear hi5)
      | (go_at_call 54; go_must (refine (qSign_any (NIntV.b l2 HLB.out)).mono ?_); rw [← HSV.out]; rintro e w6 ⟨rfl, hb6⟩; have HD7 := Lib.hid (HI5.out.below hb6))
      | (go_at_call 50; go_must (refine (Derivative_any HD7.out (by omega) HPSB9.out).mono ?_); rintro e w8 ⟨v8, rfl, hv8, hb8⟩; obtain ⟨A8, c8, rfl, hc8, hr8, hd8⟩ := PvD.shape hv8 rfl; have hi8 := hd8.ib HDB.out (by omega))
      | (go_at_call 55; go_must (refine (Common_any (HD7.out.below hb8) hi8 (by omega) (by omega) (by rw [HPSN.out, HDT.out]; exact HEI.out)).mono ?_); rw [HPSN.out, HDT.out, HDE.out]; rintro e w9 ⟨v9, rfl, hv9, hb9⟩; obtain ⟨A9, c9, rfl, hc9, hr9, hd9⟩ := PvD.shape hv9 rfl; have hi9 := hd9.ib HDBD.out (by omega))
      | (go_at_call 27; go_must (refine (qDivide_any ((HD7.out.below hb8).below hb9) hi9 (by omega) (by omega) (by rw [HDN.out]; exact HDP.out) (by rw [HPSN.out, HDN.out]; exact HOB.out)).mono ?_); rw [HPSN.out, HDN.out, HSQ.out]; rintro e w10 ⟨v10, rfl, hv10, hb10⟩))
    go_ret
    have hall := btr hb1 (btr hb5 (btr hb6 (btr hb8 hb9)))
    exact ⟨_, rfl, (hv10 _ rfl).up fun b hb => Nat.le_trans hall.size hb, btr hall hb10⟩
end Go.Proofs.YtdmdagilopckgaaGreat
