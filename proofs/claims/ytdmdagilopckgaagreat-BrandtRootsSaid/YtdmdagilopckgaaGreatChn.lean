/- Package brandt: the walk of chain. -/
import Derived.Test.YtdmdagilopckgaaGreatSqf
import Derived.Test.YtdmdagilopckgaaGreatMxb
namespace Go.Proofs.YtdmdagilopckgaaGreat
open Go.RowKit

theorem Pl.old {w : World} {A : Option Addr} {n c : Nat} {l : List Int} (h : Pl NI w (fun _ => True) A n c l) : PvD w (· < w.heap.size) (.slice A n c) l := by
  have := h.len
  subst this
  refine ⟨A, c, rfl, (h.mono fun b _ hb => hb).imp fun v x _ hx => NIntV.mono hx fun b _ hb => hb⟩
theorem PvD.get {w : World} {D : Nat → Prop} {v : Value} {l : List Int} (h : PvD w D v l) : ∃ A c, v = .slice A l.length c ∧ Pl NI w (fun _ => True) A l.length c l ∧ PvD w D (.slice A l.length c) l := by
  obtain ⟨A, c, e, h1⟩ := h
  exact ⟨A, c, e, (h1.mono (fun _ _ _ => trivial)).imp fun v x _ hx => NIntV.mono hx fun _ _ _ => trivial, A, c, rfl, h1⟩
theorem info_poly : (Tryz.prog.info? 66).map (fun i => (i.zero, i.size, i.bytes)) = some (some (.slice none 0 0), 1, 24) := by kernel_rfl

/-- What lies off an own list stays where an append grows that list. -/
theorem PvD.grown {w w' : World} {ov ov' : Value} {v : Value} {l : List Int} (h : PvD w (fun b => some b ≠ ov.ownBlock) v l) (hg : w.grownBy w' ov.ownBlock) (hn : ∀ b, b < w.heap.size → some b ≠ ov.ownBlock → some b ≠ ov'.ownBlock) : PvD w' (fun b => some b ≠ ov'.ownBlock) v l := by
  have h1 : PvD w (fun b => some b ≠ ov.ownBlock ∧ b < w.heap.size) v l := h.mono fun b h1 h2 => ⟨h1, h2⟩
  exact (Foot.mono (Foot.keep (R := PvD) h1 fun b hd hb => hg.block b hb hd.1) fun b hd _ => hn b hd.2 hd.1)
theorem PvD.pl_ {w : World} {D : Nat → Prop} {A : Option Addr} {n c : Nat} {l : List Int} (h : PvD w D (.slice A n c) l) : Pl NI w (fun _ => True) A n c l := by
  obtain ⟨A', c', e, h1⟩ := h
  injection e with e1 e2 e3
  subst e1 e2 e3
  exact (h1.mono fun _ _ _ => trivial).imp fun v x _ hx => NIntV.mono hx fun _ _ _ => trivial
theorem OwnK.newer {α : Type} {R : World → (Nat → Prop) → Value → α → Prop} [Foot R] {T : TypeId} {w w' : World} {base : Nat} {v : Value} {L : List α} (h : OwnK R T w base v L) {D : Nat → Prop} {u : Value} {x : α} (hu : R w' D u x) (hd : ∀ b, D b → w.heap.size ≤ b) : R w' (fun b => some b ≠ v.ownBlock) u x :=
  Foot.mono hu fun b hb _ => h.fresh (hd b hb)

/-- A chain in memory. -/
abbrev CV (w : World) (v : Value) (L : List (List Int)) : Prop := RowsD PvD w (fun _ => True) v L

set_option maxRecDepth 100000 in
set_option maxHeartbeats 4000000 in
theorem chain_any {A : Option Addr} {n c : Nat} {l q : List Int} {w : World} (h : Pl NI w (fun _ => True) A n c l) (hq : Calls Tryz.prog 46 #[.slice A n c] w (Gives w fun w' v => PL w' v q)) (hqt : tz q = q) (hql : q.length ≤ 12) (hqb : Bd 4000000 q) (hne : ∀ h ∈ chs q, h ≠ []) :
    Calls Tryz.prog 33 #[.slice A n c] w (Gives w fun w' v => CV w' v (chs q)) := by
  have HSQ := Lib.hid hq
  have hl := h.len
  have hc := h.cap
  have hr := h.room
  unfold maxLen at hr
  have hq0 : 0 < q.length := List.length_pos_iff.2 (hne q (by rw [chs_eq]; exact List.mem_cons_self ..))
  have HNE := Lib.hid hne
  have HQT := Lib.hid hqt
  have HQB := Lib.hid hqb
  clear h hq hqt hqb hne
  by_cases h1 : q.length = 1
  · have HE := Lib.hid (show chs q = [q] by rw [chs_eq, if_pos (by omega)])
    go_enter Tryz.func33, Tryz.ntmps33
    go_wp2_with (first
      | (go_at_call 46; go_must (refine HSQ.out.mono ?_); rintro e w1 ⟨v1, rfl, hv1, hb1⟩; obtain ⟨A1, c1, rfl, hp1⟩ := pv_shape (k := 1) hv1 rfl h1; have hcc := hp1.cap; have hrr := hp1.room; unfold maxLen at hrr))
    go_ret
    exact ⟨_, rfl, by rw [HE.out]; exact (OwnK.made (base := 0) (Nat.zero_le _) (T := 66) hp1.old).rows, below_al hb1 _⟩
  · have hq1 : ¬ q.length ≤ 1 := by omega
    have HE := Lib.hid (show chs q = [q] ++ chn q (pp (dv q)) by rw [chs_eq, if_neg hq1]; rfl)
    have hst := (EuI.start (c := 4000002) HQT.out hq0 hql HQB.out (by omega)).pp
    have HST := Lib.hid hst
    have HDB := Lib.hid (HQB.out.dv (by omega))
    have hdl := dv_length q
    have hpl := pp_length (dv q)
    clear hst
    go_enter Tryz.func33, Tryz.ntmps33
    go_wp2_with (first
      | (go_at_call 46; go_must (refine HSQ.out.mono ?_); rintro e w1 ⟨v1, rfl, hv1, hb1⟩; obtain ⟨A1, c1, rfl, hp1⟩ := pv_shape (k := q.length) hv1 rfl rfl; have hcc := hp1.cap; have hrr := hp1.room; unfold maxLen at hrr; have HP1 := Lib.hid hp1; clear hp1)
      | (go_at_call 68; go_must (refine (derivative_any (HP1.out.below (below_al (Below.refl _ _) _)) (by omega) (fun x hx => Nat.le_trans (HQB.out x hx) (by omega))).mono ?_); rintro e w2 ⟨v2, rfl, hv2, hb2⟩; obtain ⟨A2, c2, rfl, hp2⟩ := pv_shape (k := (dv q).length) hv2 rfl rfl)
      | (go_at_call 69; go_must (refine (primitiveD_any hp2 (by omega) (fun x hx => Nat.le_trans (HDB.out x hx) (by omega)) (fun h0 => ct_of_tz (tz_dv _) h0)).mono ?_); rintro e w3 ⟨v3, rfl, hv3, hb3⟩; obtain ⟨A3, c3, rfl, hp3, hd3⟩ := hv3.get))
    have hown := OwnK.made (base := w.heap.size) (T := 66) (R := PvD) hb1.size HP1.out.old
    have hb23 := btr hb2 hb3
    have how := hown.below hb23
    have hbw := btr (below_al hb1 (.cells #[.slice A1 q.length c1] 66)) hb23
    have hfr : PvD w3 (fun b => some b ≠ (Value.slice (some ⟨w1.heap.size, 0, none⟩) 1 1).ownBlock) (.slice A3 (pp (dv q)).length c3) (pp (dv q)) := hd3.mono fun b (hb : w2.heap.size ≤ b) _ e => by
      have h1 := hb2.size
      simp [Value.ownBlock] at e
      simp at h1
      omega
    have hf3 : PvD w3 (fun b => some b ≠ (Value.slice (some ⟨w1.heap.size, 0, none⟩) 1 1).ownBlock) (.slice A1 q.length c1) q := Foot.mono (Foot.below (R := PvD) HP1.out.old (btr (below_al (Below.refl _ _) (.cells #[.slice A1 q.length c1] 66)) hb23)) fun b (hb : b < w1.heap.size) _ e => by
      simp [Value.ownBlock] at e
      omega
    generalize (Value.slice (some ⟨w1.heap.size, 0, none⟩) 1 1) = ov at *
    clear hown hd3 hb23 hb2 hb3 hv1 hv2 hv3 hp2 hb1 HP1
    have HL : Hid (chs q = [q] ++ chn q (pp (dv q))) := HE
    go_loopw [3, 4, 5] (fun fv ov gv wr => ∃ (A c m A' c' m' : _) (f g : List Int) (L : List (List Int)), fv = .slice A m c ∧ gv = .slice A' m' c' ∧ PvD wr (fun b => some b ≠ ov.ownBlock) (.slice A m c) f ∧ PvD wr (fun b => some b ≠ ov.ownBlock) (.slice A' m' c') g ∧ OwnK PvD 66 wr w.heap.size ov L ∧ Hid (EuI 4000002 f g) ∧ Hid (chs q = L ++ chn f g) ∧ Hid (L.length + g.length ≤ 12) ∧ Below w.heap.size w wr) (fun _ _ gv _ => lenOf gv)
    case atStart => exact ⟨_, _, _, _, _, _, q, pp (dv q), [q], rfl, rfl, hf3, hfr, how, HST, HE, Lib.hid (by simp only [List.length_singleton]; omega), hbw⟩
    case round =>
      clear hf3 hp3 hfr how HE HL HST hbw
      obtain ⟨A4, c4, m4, A5, c5, m5, f, g, L, rfl, rfl, hfd, hgd, hown, HI, HL, HN, hbr⟩ := hrel
      have hf := hfd.pl_
      have hg := hgd.pl_
      have hfl := hf.len
      have hgl := hg.len
      have hfr := hf.room
      have hgr := hg.room
      have hfc := hf.cap
      have hgc := hg.cap
      unfold maxLen at hfr hgr
      have hle := HI.out.len
      have hnl := HN.out
      have hgne : g ≠ [] := HNE.out g (by rw [HL.out, chn_eq]; exact List.mem_append_right _ (List.mem_cons_self ..))
      have hg0 : 0 < g.length := List.length_pos_iff.2 hgne
      obtain ⟨Ao, co, rfl, hco1, hco2⟩ := hown.slice
      unfold maxLen at hco2
      by_cases h1 : m5 = 1
      · subst h1
        have HEE := Lib.hid (show chs q = L ++ [g] by rw [HL.out, chn_eq, if_pos (by omega)])
        go_wp2_with (first
          | (at_builtin; go_must (refine wpList_pushK _ rfl _ _ _ _ (.slice none 0 0) 24 rfl Tryz.underlying71 Tryz.underlying71 info_poly rfl (by omega) w.heap.size (.slice Ao L.length co) L L.length rfl rfl hown _ g hgd rfl (by omega) hbr.size ?_); intro A6 c6 w6 hown6 hgr6 hnw6 hb6))
        go_ret
        exact ⟨_, rfl, by rw [HEE.out]; exact hown6.rows, hbr.trans hb6⟩
      · have HEE := Lib.hid (show chs q = (L ++ [g]) ++ chn g (pp (ng (rs f g))) by rw [HL.out, chn_eq, if_neg (by omega)]; simp)
        obtain ⟨B, C, b1, b2, b3, b4, b5, _, _⟩ := HI.out.lim hg0
        have hlim : B + (m4 + 1 - m5) * (C + 1) ≤ 400000000000 := by rw [hfl, hgl] at b3; omega
        have HB1 := Lib.hid b1
        have HB2 := Lib.hid b2
        have hnx := HI.out.next hg0
        have hrb := hnx.bd.2
        have HNX := Lib.hid hnx.ng.pp
        have HRB := Lib.hid (hrb.mono (C := 400000000000) (by omega))
        have HRT := Lib.hid hnx.norm.2
        have hrl := rs_length f hg0
        have hng := ng_length (rs f g)
        have hpn := pp_ng_length f hg0
        have HN0 := Lib.hid HI.out.norm
        clear hf hg b1 b2 b3 hnx hrb HI
        go_wp2_with (first
          | (at_builtin; go_must (refine wpList_pushK _ rfl _ _ _ _ (.slice none 0 0) 24 rfl Tryz.underlying71 Tryz.underlying71 info_poly rfl (by omega) w.heap.size (.slice Ao L.length co) L L.length rfl rfl hown _ g hgd rfl (by omega) hbr.size ?_); intro A6 c6 w6 hown6 hgr6 hnw6 hb6; have hg6 := hgd.grown (ov' := .slice A6 (L.length + 1) c6) hgr6 hnw6; have hf6 := hfd.grown (ov' := .slice A6 (L.length + 1) c6) hgr6 hnw6)
          | (go_at_call 70; go_must (refine (rest_any hf6.pl_ hg6.pl_ (by omega) (by omega) HN0.out.1 HN0.out.2 HB1.out HB2.out (by omega) hlim).mono ?_); rintro e w7 ⟨v7, rfl, hv7, hb7⟩; obtain ⟨A7, c7, rfl, hp7⟩ := pv_shape (k := (rs f g).length) hv7 rfl rfl)
          | (go_at_call 71; go_must (refine (each_neg (f := fun x => -x) hp7 (by omega) (fun w' v x hb hx hv => wNeg_any hv.int (Nat.le_trans (HRB.out x hx) (by omega))) (fun x hx => by rw [Int.natAbs_neg]; exact Nat.le_trans (HRB.out x hx) (by omega))).mono ?_); rintro e w8 ⟨v8, rfl, hv8, hb8⟩; obtain ⟨A8, c8, rfl, hp8⟩ := pv_shape (m := ng (rs f g)) (k := (ng (rs f g)).length) hv8 rfl rfl)
          | (go_at_call 69; go_must (refine (primitiveD_any hp8 (by omega) (fun x hx => Nat.le_trans (HRB.out.ng x hx) (by omega)) (fun h0 => ct_of_tz (tz_ng _) h0)).mono ?_); rintro e w9 ⟨v9, rfl, hv9, hb9⟩; obtain ⟨A9, c9, rfl, hp9, hd9⟩ := hv9.get))
        have hb79 := btr (btr hb7 hb8) hb9
        have hown9 := hown6.below hb79
        have hg9 : PvD w9 (fun b => some b ≠ (Value.slice A6 (L.length + 1) c6).ownBlock) (.slice A9 (pp (ng (rs f g))).length c9) (pp (ng (rs f g))) := hown6.newer (R := PvD) hd9 fun b (hb : w8.heap.size ≤ b) => Nat.le_trans (Nat.le_trans hb7.size hb8.size) hb
        exact ⟨⟨_, _, _, _, _, _, g, pp (ng (rs f g)), L ++ [g], rfl, rfl, hg6.below hb79, hg9, hown9, HNX, HEE, Lib.hid (by simp only [List.length_append, List.length_singleton]; omega), (hbr.trans hb6).trans (hb79.mono (Nat.le_trans hbr.size hb6.size))⟩, by simp only [lenOf]; omega⟩
end Go.Proofs.YtdmdagilopckgaaGreat
