/- The reference's polynomials: Sturm. -/
import Derived.Test.YtdmdagilopckgaaGreatRfh
import Derived.Test.YtdmdagilopckgaaGreatSms
import Derived.Test.YtdmdagilopckgaaGreatExe
import Derived.Test.YtdmdagilopckgaaGreatRgu
import Derived.IntWalk
namespace Go.Proofs.YtdmdagilopckgaaGreat
open Go.RowKit

theorem OwnK.two {w : World} {T : TypeId} {base : Nat} {A : Option Addr} {n c : Nat} {P : List (List Int)} {f g : List Int} (h : OwnK PvD T w base (.slice A n c) (P ++ [f, g])) : ∃ b off Af cf Ag cg, A = some ⟨b, off, none⟩ ∧ n = P.length + 2 ∧ w.cell? ⟨b, off + P.length, none⟩ = some (.slice Af f.length cf) ∧ w.cell? ⟨b, off + (P.length + 1), none⟩ = some (.slice Ag g.length cg) ∧ PvD w (fun _ => True) (.slice Af f.length cf) f ∧ PvD w (fun _ => True) (.slice Ag g.length cg) g := by
  have hr := h.rows
  obtain ⟨b, off, u, e1, c1, p1⟩ := hr.at (i := P.length) (x := f) (by simp)
  obtain ⟨b', off', u', e2, c2, p2⟩ := hr.at (i := P.length + 1) (x := g) (by simp)
  rw [e1] at e2
  injection e2 with e2
  injection e2 with e3 e4
  subst e3 e4
  obtain ⟨Af, cf, rfl⟩ := p1.slice_
  obtain ⟨Ag, cg, rfl⟩ := p2.slice_
  exact ⟨b, off, Af, cf, Ag, cg, e1, by have := hr.room.1; simpa using this, c1, c2, p1, p2⟩

set_option maxRecDepth 100000 in
set_option maxHeartbeats 4000000 in
theorem qSturm_any {A : Option Addr} {n c : Nat} {l : List Int} {w : World} (h : Pl IntB w (fun _ => True) A n c l) (hn : n ≤ 1000) (g : GoodP (tz l)) :
    Calls Tryz.prog 23 #[.slice A n c] w (Gives w fun w' v => CV w' v (ch (tz l))) := by
  have HSQ := Lib.hid (qSquarefree_any h hn g)
  have hm := h.room
  unfold maxLen at hm
  have hc := h.cap
  have hql := g.sql
  have HQT := Lib.hid g.sqt
  have HQB := Lib.hid g.sqb
  have hcl := g.chl
  have HNE := Lib.hid g.ne
  have hCE : ch (tz l) = chs (sq (tz l)) := rfl
  rw [hCE]
  clear h g hn hCE
  generalize sq (tz l) = q at *
  have hq0 : 0 < q.length := List.length_pos_iff.2 (HNE.out q (by rw [chs_eq]; exact List.mem_cons_self ..))
  by_cases h1 : q.length = 1
  · have HE := Lib.hid (show chs q = [q] by rw [chs_eq, if_pos (by omega)])
    have HH1 := Lib.hid h1
    clear h1 hq0
    go_enter Tryz.func23, Tryz.ntmps23
    go_wp2_with (go_at_call 25; go_must (refine HSQ.out.mono ?_); rintro e w1 ⟨v1, rfl, hv1, hb1⟩; obtain ⟨A1, c1, rfl, hc1, hr1, hd1⟩ := PvD.shape hv1 HH1.out)
    go_ret
    exact ⟨_, rfl, by rw [HE.out]; exact (OwnK.made (base := 0) (Nat.zero_le _) (T := 22) (hd1.pl_.old)).rows, below_al hb1 _⟩
  · have hq1 : ¬ q.length ≤ 1 := by omega
    have HE := Lib.hid (show chs q = [q] ++ chn q (pp (dv q)) by rw [chs_eq, if_neg hq1]; rfl)
    have hst := (EuI.start (c := 4000002) HQT.out hq0 hql HQB.out (by omega)).pp
    have HST := Lib.hid hst
    have HQI := Lib.hid (show Bd 1000000000000 q from HQB.out.mono (by omega))
    have HQ9 := Lib.hid (show Bd 900000000000 q from HQB.out.mono (by omega))
    have HDB := Lib.hid (show Bd 1000000000000 (dv q) from (HQB.out.dv (by omega)).mono (by omega))
    have hdl := dv_length q
    have hpl := pp_length (dv q)
    have HDT := Lib.hid (tz_dv q)
    have z1 : ((q.length : Int) == 1) = false := beq_eq_false_iff_ne.2 (by omega)
    clear hst
    go_enter Tryz.func23, Tryz.ntmps23
    go_wp2_with (first
      | (go_at_call 25; go_must (refine HSQ.out.mono ?_); rintro e w1 ⟨v1, rfl, hv1, hb1⟩; obtain ⟨A1, c1, rfl, hc1, hr1, hd1⟩ := PvD.shape hv1 rfl; have hi1 := hd1.ib HQI.out (by omega); have HO1 := Lib.hid (OwnK.made (base := w.heap.size) (T := 22) hb1.size (hd1.pl_.old)); have HI1 := Lib.hid (hi1.below (below_al (Below.refl _ _) (.cells #[.slice A1 q.length c1] 22))); clear hi1 hd1 hv1)
      | (go_at_call 50; go_must (refine (Derivative_any HI1.out (by omega) HQ9.out).mono ?_); rintro e w2 ⟨v2, rfl, hv2, hb2⟩; obtain ⟨A2, c2, rfl, hc2, hr2, hd2⟩ := PvD.shape hv2 rfl; have hi2 := hd2.ib HDB.out (by omega))
      | (go_at_call 49; go_must (refine (Primitive_any hi2 (by omega) (fun h0 => ct_of_tz HDT.out h0)).mono ?_); rintro e w3 ⟨v3, rfl, hv3, hb3⟩; obtain ⟨A3, c3, rfl, hc3, hr3, hd3⟩ := PvD.shape hv3 rfl; have ho3 := (HO1.out.below hb2).below hb3; have hdd : PvD w3 (fun b => some b ≠ (Value.slice (some ⟨w1.heap.size, 0, none⟩) 1 1).ownBlock) (.slice A3 (pp (dv q)).length c3) (pp (dv q)) := hd3.mono (fun b hb _ e => by have h1 := hb2.size; simp [Value.ownBlock] at e; simp at h1; omega))
      | (at_builtin; go_must (refine wpList_pushK _ rfl _ _ _ _ (.slice none 0 0) 24 rfl Tryz.underlying49 Tryz.underlying49 info_Ints rfl (by omega) w.heap.size (.slice (some ⟨w1.heap.size, 0, none⟩) 1 1) [q] 1 rfl rfl ho3 _ (pp (dv q)) hdd rfl (by omega) (by have h1 := hb1.size; have h2 := hb2.size; have h3 := hb3.size; simp at h2; omega) ?_); intro A6 c6 w6 hown6 hgr6 hnw6 hb6))
    have hbw : Below w.heap.size w w6 := (btr (btr (below_al hb1 _) hb2) hb3).trans hb6
    obtain ⟨_, hco6⟩ : True ∧ c6 ≤ c6 := ⟨trivial, Nat.le_refl _⟩
    clear hd3 hi2 hd2 hv2 hv3 hdd ho3 HO1 HI1 hb1 hb2 hb3 hb6 hgr6 hnw6 hco6
    go_loopw [4] (fun ov wr => ∃ (P : List (List Int)) (f g : List Int) (A : Option Addr) (m c : Nat), ov = .slice A m c ∧ m = P.length + 2 ∧ OwnK PvD 22 wr w.heap.size (.slice A m c) (P ++ [f, g]) ∧ Hid (EuI 4000002 f g) ∧ Hid (chs q = (P ++ [f]) ++ chn f g) ∧ m ≤ 12 ∧ Below w.heap.size w wr) (fun ov _ => 20 - slN ov)
    case atStart => exact ⟨[], q, pp (dv q), _, _, _, rfl, rfl, hown6, HST, HE, by omega, hbw⟩
    case round =>
      obtain ⟨P, f, g, Ao, m, co, rfl, hm2, hown, HI, HL, hm12, hbr⟩ := hrel
      obtain ⟨b, off, Af, cf, Ag, cg, rfl, hmp, x0, x1, pf, pg⟩ := hown.two
      obtain ⟨A9, c9, e9, hco1, hco2⟩ := hown.slice
      injection e9 with e91 e92 e93
      subst e93
      unfold maxLen at hco2
      clear e91 e92 hmp
      obtain ⟨p, hp⟩ : ∃ p, p = P.length := ⟨_, rfl⟩
      rw [← hp] at hm2 x0 x1
      have HP := Lib.hid hp
      have hlen : (P ++ [f, g]).length = p + 2 := by rw [hp]; simp
      have HLEN := Lib.hid hlen
      rw [hlen] at hco1
      subst hm2
      obtain ⟨hfc, hfr⟩ : f.length ≤ cf ∧ cf ≤ 9223372036854775807 := by
        have h1 := pf.pl_.cap
        have h2 := pf.pl_.room
        unfold maxLen at h2
        exact ⟨h1, h2⟩
      obtain ⟨hgc, hgr⟩ : g.length ≤ cg ∧ cg ≤ 9223372036854775807 := by
        have h1 := pg.pl_.cap
        have h2 := pg.pl_.room
        unfold maxLen at h2
        exact ⟨h1, h2⟩
      have hgne : g ≠ [] := HNE.out g (by rw [HL.out, chn_eq]; exact List.mem_append_right _ (List.mem_cons_self ..))
      have hg0 : 0 < g.length := List.length_pos_iff.2 hgne
      have HO := Lib.hid hown
      clear hp hlen hown hgne
      by_cases hgl : g.length = 1
      · have HEE := Lib.hid (show chs q = P ++ [f, g] by rw [HL.out, chn_eq, if_pos (by omega), List.append_assoc]; rfl)
        have z2 : ((g.length : Int) == 1) = true := beq_iff_eq.2 (by omega)
        clear hgl pf pg
        go_wp2_with fail
        go_ret
        exact ⟨_, rfl, by rw [HEE.out]; exact HO.out.rows, hbr⟩
      · have z2 : ((g.length : Int) == 1) = false := beq_eq_false_iff_ne.2 (by omega)
        have hgl2 : ¬ g.length ≤ 1 := by omega
        have HLL := Lib.hid (show chs q = ((P ++ [f]) ++ [g]) ++ chn g (pp (ng (rs f g))) by rw [HL.out, chn_eq, if_neg hgl2]; simp)
        have hmm : p + 3 ≤ 12 := by
          have h1 := HLL.out
          have h2 : (chs q).length ≤ 12 := hcl
          rw [h1, chn_eq g] at h2
          simp at h2
          have := HP.out
          omega
        have htf := HI.out.norm.1
        have htg := HI.out.norm.2
        have hrb := HI.out.rmb hg0 (by omega)
        have hrbl := hrb.le
        have HFI := Lib.hid (pf.ib hrbl.1 (by omega))
        have HGI := Lib.hid (pg.ib hrbl.2 (by omega))
        have hle := HI.out.len
        have HRM := Lib.hid (fun w1 (hb : Below wr.heap.size wr w1) => Remainder_any (HFI.out.below hb) (HGI.out.below hb) (by omega) (by omega) (by rw [htg]; exact hg0) (by rw [htf, htg]; exact hrb))
        rw [htf, htg] at HRM
        have hrl := rm_length f hg0
        have htr := tz_rm (g := g) htf
        have hbrm : Bd 400000000000 (rm f g) := by
          obtain ⟨B, C, h1, h2, h3, h4⟩ := hrb
          exact (Bd.rm hg0 h2 h1).mono h3
        have HPE := Lib.hid (pp_rm_ng (g := g) htf)
        have htn : tz ((rm f g).map (- ·)) = (rm f g).map (- ·) := by
          have := ng_eq htr
          rw [← this]
          exact tz_ng _
        have HCT := Lib.hid (fun h0 : (rm f g).map (- ·) ≠ [] => ct_of_tz htn h0)
        have HBR := Lib.hid (show Bd 1000000000000 (rm f g) from hbrm.mono (by omega))
        have HBN := Lib.hid (show Bd 1000000000000 ((rm f g).map (- ·)) from fun x hx => by
          obtain ⟨y, hy, rfl⟩ := List.mem_map.1 hx
          rw [Int.natAbs_neg]
          exact Nat.le_trans (hbrm y hy) (by omega))
        have HML := Lib.hid (show ((rm f g).map (- ·)).length ≤ 1000000 by rw [List.length_map]; omega)
        have HN := Lib.hid (HI.out.next hg0).ng.pp
        obtain ⟨M, hM⟩ : ∃ M, M = (rm f g).map (- ·) := ⟨_, rfl⟩
        rw [← hM] at HPE HCT HBN HML
        have HMM := Lib.hid hM
        clear hM
        obtain ⟨G, hG⟩ : ∃ G, G = pp (ng (rs f g)) := ⟨_, rfl⟩
        rw [← hG] at HPE HN HLL
        clear hG
        have hwp : IntKind.i64.wrap (p : Int) = p := IntWalk.i64_in _ (by omega)
        have hwp1 : IntKind.i64.wrap ((p : Int) + 1) = p + 1 := IntWalk.i64_in _ (by omega)
        have hp0 : 0 ≤ (p : Int) := by omega
        have hp1 : 0 ≤ (p : Int) + 1 := by omega
        have hp2 : (p : Int) < p + 2 := by omega
        have hp3 : (p : Int) + 1 < p + 2 := by omega
        have hs1 : (p : Int) + 2 - 2 = p := by omega
        have hs2 : (p : Int) + 2 - 1 = p + 1 := by omega
        have hrl12 : (rm f g).length ≤ 12 := by omega
        clear hgl hgl2 htf htg hrb hrbl hle hrl htr hbrm htn pf pg
        go_wp2_with fail
        rename_i K1 hK
        have hS0 : wr.drew.cell? ⟨b, off + p, none⟩ = some (.slice Af f.length cf) ∧ wr.drew.cell? ⟨b, off + (p + 1), none⟩ = some (.slice Ag g.length cg) := ⟨x0, x1⟩
        have hb0 : Below wr.heap.size wr wr.drew := (Below.refl _ _).drew
        have X0 := Lib.hid x0
        have X1 := Lib.hid x1
        clear x0 x1
        refine wp_region_tr5 (.read 0 (.read 1 (.read 2 (.read 3 (.read 4 (.read 5 (.read 6 (.read 7 (.read 8 (.read 9 (.read 10 (.step 11 (.step 12 (.step 13 (.step 14 (.step 15 (.step 16 .nil))))))))))))))))) [15, 16] (by kernel_rfl) (by rfl) (by kernel_rfl) (by kernel_rfl) (fun _ _ _ _ _ h => h) (fun W' => W'.cell? ⟨b, off + p, none⟩ = some (.slice Af f.length cf) ∧ W'.cell? ⟨b, off + (p + 1), none⟩ = some (.slice Ag g.length cg)) ?_
        change goU _ _ _ _ _ _ _ wr.drew
        refine goU_read 30 hS0 (by rfl) (by rfl) ?_ (by rfl) (fun wz hSw => ?_) ?_
        rotate_left
        · go_simp
          try with_reducible rfl
        simp only [List.setIfInBounds_toArray, List.set]
        refine goU_read 31 hS0 (by rfl) (by rfl) ?_ (by rfl) (fun wz hSw => ?_) ?_
        rotate_left
        · go_simp
          try with_reducible rfl
        simp only [List.setIfInBounds_toArray, List.set]
        refine goU_read 32 hS0 (by rfl) (by rfl) ?_ (by rfl) (fun wz hSw => ?_) ?_
        rotate_left
        · go_simp
          try with_reducible rfl
        simp only [List.setIfInBounds_toArray, List.set]
        refine goU_read 33 hS0 (by rfl) (by rfl) ?_ (by rfl) (fun wz hSw => ?_) ?_
        rotate_left
        · go_simp
          try with_reducible rfl
        simp only [List.setIfInBounds_toArray, List.set]
        refine goU_read 34 hS0 (by rfl) (by rfl) ?_ (by rfl) (fun wz hSw => ?_) ?_
        rotate_left
        · go_simp
          try with_reducible rfl
        simp only [List.setIfInBounds_toArray, List.set]
        refine goU_read 35 hS0 (by rfl) (by rfl) ?_ (by rfl) (fun wz hSw => ?_) ?_
        rotate_left
        · (have y0 := hSw.1); go_simp
          try with_reducible rfl
        simp only [List.setIfInBounds_toArray, List.set]
        refine goU_read 36 hS0 (by rfl) (by rfl) ?_ (by rfl) (fun wz hSw => ?_) ?_
        rotate_left
        · go_simp
          try with_reducible rfl
        simp only [List.setIfInBounds_toArray, List.set]
        refine goU_read 37 hS0 (by rfl) (by rfl) ?_ (by rfl) (fun wz hSw => ?_) ?_
        rotate_left
        · go_simp
          try with_reducible rfl
        simp only [List.setIfInBounds_toArray, List.set]
        refine goU_read 38 hS0 (by rfl) (by rfl) ?_ (by rfl) (fun wz hSw => ?_) ?_
        rotate_left
        · go_simp
          try with_reducible rfl
        simp only [List.setIfInBounds_toArray, List.set]
        refine goU_read 39 hS0 (by rfl) (by rfl) ?_ (by rfl) (fun wz hSw => ?_) ?_
        rotate_left
        · go_simp
          try with_reducible rfl
        simp only [List.setIfInBounds_toArray, List.set]
        refine goU_read 40 hS0 (by rfl) (by rfl) ?_ (by rfl) (fun wz hSw => ?_) ?_
        rotate_left
        · (have y1 := hSw.2); go_simp
          try with_reducible rfl
        simp only [List.setIfInBounds_toArray, List.set]
        have HOd := Lib.hid (HO.out.below hb0)
        refine goU_step (by rfl) ?_
        go_wp2_with (go_at_call 52; go_must (refine (HRM.out _ hb0).mono ?_); rintro e w1' ⟨v1, rfl, hv1, hb1⟩; obtain ⟨B1, d1, rfl, hd1, hr1', hp1'⟩ := PvD.shape hv1 rfl; have hi1 := hp1'.ib HBR.out (by omega); clear hp1' hv1)
        have ht1 : Below wr.heap.size wr w1' := btr hb0 hb1
        refine ⟨fun _ => ⟨keepB ht1 X0.out, keepB ht1 X1.out⟩, ?_⟩
        refine goU_step (by rfl) ?_
        go_wp2_with (go_at_call 51; go_must (refine (qNegative_any hi1 (by omega)).mono ?_); rw [← HMM.out]; rintro e w2' ⟨v2, rfl, hv2, hb2⟩; obtain ⟨B2, d2, rfl, hd2, hr2', hp2'⟩ := PvD.shape hv2 rfl; have hi2 := hp2'.ib HBN.out (by omega); clear hp2' hv2)
        have ht2 : Below wr.heap.size wr w2' := btr ht1 hb2
        refine ⟨fun _ => ⟨keepB ht2 X0.out, keepB ht2 X1.out⟩, ?_⟩
        refine goU_step (by rfl) ?_
        go_wp2_with (go_at_call 49; go_must (refine (Primitive_any hi2 HML.out HCT.out).mono ?_); rw [HPE.out]; rintro e w3' ⟨v3, rfl, hv3, hb3⟩; obtain ⟨B3, d3, rfl, hd3, hr3', hp3'⟩ := PvD.shape hv3 rfl)
        have ht3 : Below wr.heap.size wr w3' := btr ht2 hb3
        refine ⟨fun _ => ⟨keepB ht3 X0.out, keepB ht3 X1.out⟩, ?_⟩
        refine goU_step (by rfl) ?_
        go_wp2_with fail
        have ht4 : Below wr.heap.size wr (w3'.alloc (.cells #[.slice B3 (G).length d3] 22)) := below_al ht3 _
        refine ⟨fun _ => ⟨keepB ht4 X0.out, keepB ht4 X1.out⟩, ?_⟩
        have HO3 := Lib.hid (HO.out.below ht3)
        have hpf := HO.out.newer hp3' (fun b' hb' => Nat.le_trans ht2.size hb')
        refine goU_step (by rfl) ?_
        refine wpList_pushK _ (by rfl) _ _ _ _ (.slice none 0 0) 24 (by rfl) Tryz.underlying49 Tryz.underlying49 info_Ints (by rfl) (by omega) w.heap.size (.slice (some ⟨b, off, none⟩) (p + 2) co) (P ++ [f, g]) (p + 2) HLEN.out (by rfl) HO3.out _ (G) hpf (by rfl) (by omega) (Nat.le_trans hbr.size ht3.size) ?_
        intro A7 c7 w7 hown7 hgr7 hnw7 hb7
        refine ⟨(fun h => by cases h), ?_⟩
        refine goU_step (by rfl) ?_
        go_wp2_with fail
        refine ⟨(fun h => by cases h), ?_⟩
        change Exit.inBlock 1 hK .normal _ _
        change hK .normal _ _
        go_roundw
        case rel =>
          refine ⟨_, _, _, _, _, _, _, _, _, _, _, _, _, _, _, _, _, _, _, _, _, _, _, _, _, _, _, _, _, ⟨P ++ [f], g, G, A7, p + 3, c7, rfl, ?_, ?_, HN, HLL, hmm, hbr.trans ((ht3.mono hbr.size).trans hb7)⟩, rfl⟩
          · rw [List.length_append, ← HP.out]
            rfl
          · have := hown7
            simpa only [List.append_assoc, List.cons_append, List.nil_append] using this
        case measure => simp [slN]; omega
end Go.Proofs.YtdmdagilopckgaaGreat
