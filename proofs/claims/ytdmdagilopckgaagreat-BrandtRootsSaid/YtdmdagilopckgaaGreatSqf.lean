/- Package brandt: the walk of squarefree. -/
import Derived.Test.YtdmdagilopckgaaGreatOvr
import Derived.Test.YtdmdagilopckgaaGreatEu
namespace Go.Proofs.YtdmdagilopckgaaGreat
open Go.RowKit

/-- A list of integers in memory, the value spelled with its length. -/
theorem PL.pl {w : World} {v : Value} {l : List Int} (h : PL w v l) : ∃ A c, v = .slice A l.length c ∧ Pl NI w (fun _ => True) A l.length c l := h
theorem Pl.len_of {w : World} {D : Nat → Prop} {A : Option Addr} {n c : Nat} {l : List Int} (h : Pl NI w D A n c l) : n = l.length := h.len.symm

theorem over_some {A A' : Option Addr} {n c n' c' B C : Nat} {l g q : List Int} {w : World} (h : Pl NI w (fun _ => True) A n c l) (hg : Pl NI w (fun _ => True) A' n' c' g) (hn : n ≤ 1000) (hn' : 0 < n') (hnn : n' ≤ 1000000) (hlt : tz l = l) (hgt : tz g = g) (hB : Bd B l) (hC : Bd C g) (hC2 : C ≤ 400000000000) (hlim : B + (n + 1 - n') * (C + 1) ≤ 400000000000) (hq : ov l g = some q) :
    Calls Tryz.prog 48 #[.slice A n c, .slice A' n' c'] w (fun e w' => ∃ v, e = .returned (.tuple #[v, .int .i64 0]) ∧ PL w' v q ∧ Below w.heap.size w w') := by
  refine (over_any h hg hn hn' hnn hlt hgt hB hC hC2 hlim).mono ?_
  rintro e w' (⟨q', v, h1, h2, h3, h4⟩ | ⟨h1, _⟩)
  · rw [hq] at h1
    injection h1 with h1
    subst h1
    exact ⟨v, h2, h3, h4⟩
  · rw [hq] at h1
    cases h1

set_option maxRecDepth 100000 in
set_option maxHeartbeats 4000000 in
theorem squarefree_any {A : Option Addr} {n c : Nat} {l q : List Int} {w : World} (h : Pl NI w (fun _ => True) A n c l) (hn : 0 < n) (hn12 : n ≤ 12) (hlt : tz l = l) (hB : Bd 3 l) (hq : sqo (ps l) = some q) :
    Calls Tryz.prog 46 #[.slice A n c] w (Gives w fun w' v => PL w' v q) := by
  have hl := h.len
  have h0 : l ≠ [] := List.length_pos_iff.1 (by omega)
  have HPO := Lib.hid (positive_any h (by omega) (fun x hx => Nat.le_trans (hB x hx) (by omega)) (fun _ => ct_of_tz hlt h0) (by rw [pp_len hlt]; omega))
  have hpl := ps_len hlt
  have htp := tz_ps l
  have hbp := hB.ps
  have hst := EuI.start (c := 5) htp (by omega) (by omega) hbp (by omega)
  have HQ := Lib.hid hq
  generalize ps l = p at *
  have hpn : p.length = n := by omega
  have HPN := Lib.hid hpn
  have HST := Lib.hid hst
  have HBP := Lib.hid hbp
  have HTP := Lib.hid htp
  clear h h0 hpl htp hbp hst hlt hB hq hpn hl
  go_enter Tryz.func46, Tryz.ntmps46
  go_wp2_with (first
    | (go_at_call 86; go_must (refine HPO.out.mono ?_); rintro e w1 ⟨v1, rfl, hv1, hb1⟩; obtain ⟨A1, c1, rfl, hp1⟩ := pv_shape (k := n) hv1 rfl HPN.out; have HV := Lib.hid hp1; clear hp1)
    | (go_at_call 68; go_must (refine (derivative_any HV.out (by omega) (fun x hx => Nat.le_trans (HBP.out x hx) (by omega))).mono ?_); rintro e w2 ⟨v2, rfl, hv2, hb2⟩; obtain ⟨A2, c2, rfl, hp2⟩ := pv_shape (k := (dv p).length) hv2 rfl rfl))
  have hv1' := HV.out.below hb2
  have hb12 := btr hb1 hb2
  have HEU := Lib.hid (show ∃ R, R = eu p (dv p) from ⟨_, rfl⟩)
  go_loopw [3, 4] (fun fv gv wr => ∃ (A c m A' c' m' : _) (f g : List Int), fv = .slice A m c ∧ gv = .slice A' m' c' ∧ Pl NI wr (fun _ => True) A m c f ∧ Pl NI wr (fun _ => True) A' m' c' g ∧ Hid (EuI 5 f g) ∧ Hid (eu f g = eu p (dv p)) ∧ Pl NI wr (fun _ => True) A1 n c1 p ∧ Below w.heap.size w wr) (fun _ gv _ => lenOf gv)
  case atStart => exact ⟨_, _, _, _, _, _, p, dv p, rfl, rfl, hv1', hp2, HST, Lib.hid rfl, hv1', hb12⟩
  case round =>
    clear hv1 hv2 hp2 hb1 hb2 hb12 hv1'
    obtain ⟨A3, c3, m3, A4, c4, m4, f, g, rfl, rfl, hf, hg, HI, HE, hpw, hbr⟩ := hrel
    have HPW := Lib.hid hpw
    clear hpw
    have hfl := hf.len
    have hgl := hg.len
    have hfr := hf.room
    have hgr := hg.room
    have hfc := hf.cap
    have hgc := hg.cap
    unfold maxLen at hfr hgr
    have hle := HI.out.len
    by_cases hm : 0 < m4
    · obtain ⟨B, C, b1, b2, b3, b4, b5, _, _⟩ := HI.out.lim (by omega)
      have HRS := Lib.hid (rest_any hf hg (by omega) hm HI.out.norm.1 HI.out.norm.2 b1 b2 (by omega) (by rw [hfl, hgl] at b3; omega))
      have HN := Lib.hid (HI.out.next (by omega))
      have HES := Lib.hid (eu_step (f := f) (g := g) (by omega))
      have HG := Lib.hid hg
      have HL := Lib.hid (rs_length f (g := g) (by omega))
      have hlim : ∀ x ∈ rs f g, wl x.natAbs ≤ 900000000000 := fun x hx => Nat.le_trans (HN.out.bd.2 x hx) (by omega)
      have HLIM := Lib.hid hlim
      clear hf hg b1 b2 b3 b4 b5 hlim
      go_wp2_with (first
        | (go_at_call 70; go_must (refine HRS.out.mono ?_); rintro e w5 ⟨v5, rfl, hv5, hb5⟩; obtain ⟨A5, c5, rfl, hp5⟩ := pv_shape (k := (rs f g).length) hv5 rfl rfl)
        | (go_at_call 69; go_must (refine (primitive_any hp5 (by have := HL.out; omega) HLIM.out (fun h0 => ct_of_tz HN.out.norm.2 h0)).mono ?_); rintro e w6 ⟨v6, rfl, hv6, hb6⟩; obtain ⟨A6, c6, rfl, hp6⟩ := pv_shape (k := (pp (rs f g)).length) hv6 rfl rfl))
      have hb56 := btr hb5 hb6
      have hpl := pp_length (rs f g)
      have hl2 := HL.out
      exact ⟨⟨_, _, _, _, _, _, g, pp (rs f g), rfl, rfl, HG.out.below hb56, hp6, Lib.hid HN.out.pp, Lib.hid (HES.out.symm.trans HE.out), HPW.out.below hb56, btr hbr hb56⟩, by simp only [lenOf]; omega⟩
    · have he : f = eu p (dv p) := (eu_stop f (g := g) (by omega)).symm.trans HE.out
      have HOV := Lib.hid (show ov p (ps f) = some q by rw [he]; exact HQ.out)
      have h0 : 0 < f.length := by omega
      have hb : Bd 298025 f := HI.out.bd.1
      have htf := HI.out.norm.1
      have HPF := Lib.hid (positive_any hf (by omega) (fun x hx => Nat.le_trans (hb x hx) (by omega)) (fun h => ct_of_tz htf h) (by rw [pp_len htf]; exact h0))
      have hpl := ps_len htf
      have htp := tz_ps f
      have hbp := hb.ps
      have hm3 : m3 = (ps f).length := by omega
      have hmul : (n + 1 - m3) * (298025 + 1) ≤ 12 * (298025 + 1) := Nat.mul_le_mul_right _ (by omega)
      clear hf hg he hb
      generalize ps f = d at *
      have HBD := Lib.hid hbp
      have HTD := Lib.hid htp
      have HMD := Lib.hid hm3
      clear hbp htp hm3
      have hb0 := HBP.out
      go_wp2_with (first
        | (go_at_call 86; go_must (refine HPF.out.mono ?_); rintro e w5 ⟨v5, rfl, hv5, hb5⟩; obtain ⟨A5, c5, rfl, hp5⟩ := pv_shape (k := m3) hv5 rfl HMD.out.symm; have HOV2 := Lib.hid (over_some (HPW.out.below hb5) hp5 (by omega) (by omega) (by omega) HTP.out HTD.out HBP.out HBD.out (by omega) (by omega) HOV.out); clear hp5 hv5)
        | (go_at_call 48; go_must (refine HOV2.out.mono ?_); rintro e w6 ⟨v6, rfl, hv6, hb6⟩))
      go_ret
      exact ⟨_, rfl, hv6, btr hbr (btr hb5 hb6)⟩
end Go.Proofs.YtdmdagilopckgaaGreat
