/- Package brandt: the walk of over. -/
import Derived.Test.YtdmdagilopckgaaGreatRst
import Derived.Test.YtdmdagilopckgaaGreatOvp
namespace Go.Proofs.YtdmdagilopckgaaGreat
open Go.RowKit

/-- An array of integers of the call's own shares no block with the words of an integer. -/
theorem NI.off {w : World} {G : Nat} {O : List Int} {v : Value} {x : Int} (h : NI w v x) (hi : IArr w G O) : NIntV w (· ≠ G) v x := by
  obtain ⟨A, c, rfl, h⟩ := h
  refine ⟨A, c, rfl, h.len, h.cap, h.room, h.small, fun hn => ?_⟩
  obtain ⟨b, off, e, _, hc⟩ := h.cells hn
  refine ⟨b, off, e, fun hbG => ?_, hc⟩
  subst hbG
  have h0 := hc 0 hn
  rw [Nat.add_zero] at h0
  obtain ⟨xs, h1, h2⟩ := hi
  rw [h1.cell] at h0
  have hlt : off < xs.length := by
    rcases Nat.lt_or_ge off xs.length with h3 | h3
    · exact h3
    · rw [List.getElem?_eq_none h3] at h0; cases h0
  rw [h2.1] at hlt
  obtain ⟨neg, B, m, k, e0, e1, _⟩ := h2.2 (off / 2) (by omega)
  rcases Nat.mod_two_eq_zero_or_one off with h3 | h3
  · rw [show off / 2 * 2 = off by omega, h0] at e0; cases e0
  · rw [show off / 2 * 2 + 1 = off by omega, h0] at e1; cases e1
theorem NI.set2 {w : World} {G i : Nat} {O : List Int} {v u u' : Value} {x : Int} (h : NI w v x) (hi : IArr w G O) : NI ((w.setCell ⟨G, i * 2, none⟩ u).setCell ⟨G, i * 2 + 1, none⟩ u') v x :=
  (((h.off hi).setCell (by simp) _).setCell (by simp) _).mono fun _ _ _ => trivial
theorem Pl.set2 {w : World} {G i : Nat} {O l : List Int} {A : Option Addr} {n c : Nat} {u u' : Value} (h : Pl NI w (· ≠ G) A n c l) (hi : IArr w G O) : Pl NI ((w.setCell ⟨G, i * 2, none⟩ u).setCell ⟨G, i * 2 + 1, none⟩ u') (· ≠ G) A n c l :=
  ⟨h.len, h.cap, h.room, fun hn => by
    obtain ⟨b, off, e, hb, hc⟩ := h.cells hn
    have hk : ∀ o, ((w.setCell ⟨G, i * 2, none⟩ u).setCell ⟨G, i * 2 + 1, none⟩ u').cell? ⟨b, o, none⟩ = w.cell? ⟨b, o, none⟩ := fun o => by
      rw [World.cell?_setCell_other _ _ _ _ (fun e => hb (by injection e with e; exact e.symm)), World.cell?_setCell_other _ _ _ _ (fun e => hb (by injection e with e; exact e.symm))]
    refine ⟨b, off, e, hb, fun j hj => ?_⟩
    obtain ⟨neg, B, m, k, e0, e1, e2⟩ := hc j hj
    exact ⟨neg, B, m, k, (hk _).trans e0, (hk _).trans e1, e2.set2 hi⟩⟩

/-- What over answers. -/
def OvR (w : World) (o : Option (List Int)) (e : Ending) (w' : World) : Prop :=
  (∃ q v, o = some q ∧ e = .returned (.tuple #[v, .int .i64 0]) ∧ PL w' v q ∧ Below w.heap.size w w') ∨ (o = none ∧ e = .returned (.tuple #[.slice none 0 0, .int .i64 12]) ∧ Below w.heap.size w w')

set_option maxRecDepth 100000 in
set_option maxHeartbeats 4000000 in
theorem over_any {A A' : Option Addr} {n c n' c' B C : Nat} {l g : List Int} {w : World} (h : Pl NI w (fun _ => True) A n c l) (hg : Pl NI w (fun _ => True) A' n' c' g) (hn : n ≤ 1000) (hn' : 0 < n') (hnn : n' ≤ 1000000) (hlt : tz l = l) (hgt : tz g = g) (hB : Bd B l) (hC : Bd C g) (hC2 : C ≤ 400000000000) (hlim : B + (n + 1 - n') * (C + 1) ≤ 400000000000) :
    Calls Tryz.prog 48 #[.slice A n c, .slice A' n' c'] w (OvR w (ov l g)) := by
  have hl := h.len
  have hgl := hg.len
  have hld := hC _ (ld_mem (show 0 < g.length by omega))
  have hld0 := ld_of_tz hgt (List.length_pos_iff.1 (show 0 < g.length by omega))
  have HP := Lib.hid h
  have HG := Lib.hid hg
  have HLT := Lib.hid hlt
  have HB := Lib.hid hB
  have HC := Lib.hid hC
  have HLD := Lib.hid hld
  have HLD0 := Lib.hid hld0
  have hr := hg.room
  unfold maxLen at hr
  clear h hg hlt hgt hB hC hld hld0
  obtain ⟨M, hM⟩ : ∃ M, M = n + 1 - n' := ⟨_, rfl⟩
  have hM2 : (if (0 : Int) < (n : Int) - (n' : Int) + 1 then (n : Int) - (n' : Int) + 1 else 0) = (M : Int) := by split <;> omega
  have HM := Lib.hid hM
  have hMb : M ≤ 1001 := by omega
  clear hM
  go_enter Tryz.func48, Tryz.ntmps48
  go_upto_region 2 with (at_make; go_must (refine wpList_make_arr _ rfl _ _ _ rfl 63 (.agg #[.bool false, .slice none 0 0]) 2 32 Tryz.underlying22 info_Int _ _ _ _ M rfl rfl (by go_simp) (by go_simp) (by omega) (by omega) ?_); intro w1 harr1 hb1 hs1)
  replace harr1 := IArr.made harr1
  have e0 : (∃ O, O = List.replicate M (0 : Int)) := ⟨_, rfl⟩
  obtain ⟨O0, hO0⟩ := e0
  rw [← hO0] at harr1
  have HOL := Lib.hid (show O0.length = M by rw [hO0, List.length_replicate])
  have HOB := Lib.hid (show Bd 400000000000 O0 from fun x hx => by rw [hO0] at hx; rw [(List.mem_replicate.1 hx).2]; exact Nat.zero_le _)
  have HOV := Lib.hid (show ovF g l.length l O0 = ov l g by rw [hO0, HM.out, ← hl, ← hgl]; rfl)
  clear hM2 hO0
  have hG1 : w.heap.size < w1.heap.size := harr1.lt
  have hGw : w.heap.size ≤ w.heap.size := Nat.le_refl _
  obtain ⟨G, hG⟩ : ∃ G, G = w.heap.size := ⟨_, rfl⟩
  rw [← hG] at harr1 hG1 ⊢
  replace hGw : w.heap.size ≤ G := by omega
  clear hG
  go_loopw [0] (fun iv wr => ∃ (A : Option Addr) (k c : Nat) (p O : List Int), iv = .slice A k c ∧ k ≤ n ∧ Pl NI wr (· ≠ G) A k c p ∧ Hid (ovF g p.length p O = ov l g) ∧ Hid (tz p = p) ∧ Hid (Bd (B + (n - k) * (C + 1)) p) ∧ IArr wr G O ∧ Hid (O.length = M) ∧ Hid (Bd 400000000000 O) ∧ Below w.heap.size w wr) (fun iv _ => lenOf iv)
  case atStart => exact ⟨A, n, c, l, O0, rfl, Nat.le_refl _, (HP.out.mono (fun b _ hb => (by omega : b ≠ G))).below hb1, HOV, HLT, Lib.hid (HB.out.mono (by omega)), harr1, HOL, HOB, hb1⟩
  case round =>
    clear harr1 HOL HOB HOV hb1
    obtain ⟨A1, k, c1, p, O, rfl, hk, hp, HR, HT, HBP, hio, HOL, HOB, hbr⟩ := hrel
    have hpl := hp.len
    have hpr := hp.room
    unfold maxLen at hpr
    have hpc := hp.cap
    by_cases hkn : n' ≤ k
    rotate_left
    · by_cases hk0 : ¬ 0 < k
      · have HF := Lib.hid (show ov l g = some (tz O) by rw [← HR.out, ovF_end (by omega), if_pos (List.eq_nil_of_length_eq_zero (by omega))])
        have hpb : Pl IntB wr (fun _ => True) (some ⟨G, 0, none⟩) M M O := by
          have h1 := hio.pl (D := fun _ => True) trivial (by rw [HOL.out]; unfold maxLen; omega)
          rw [HOL.out] at h1
          exact h1.imp fun v x hx hv => hv.b (Nat.le_trans (HOB.out x hx) (by omega))
        have HPB := Lib.hid hpb
        clear hp hpb hio
        go_wp2_with (go_at_call 67; refine (normal_any HPB.out (by omega)).mono ?_; rintro e w2 ⟨v2, rfl, hv2, hb2⟩)
        go_ret2
        exact .inl ⟨_, _, HF.out, rfl, hv2.up fun _ _ => trivial, btr hbr hb2⟩
      · replace hk0 : 0 < k := by omega
        have HF := Lib.hid (show ov l g = none by rw [← HR.out, ovF_end (by omega), if_neg (by intro e; rw [e] at hpl; simp at hpl; omega)])
        clear hp hio
        go_wp2_with fail
        go_ret2
        exact .inr ⟨HF.out, rfl, hbr⟩
    · have HPP := Lib.hid hp
      have hne : 0 < p.length := by omega
      have hldp := HBP.out _ (ld_mem hne)
      have hmul : (n - k + 1) * (C + 1) ≤ (n + 1 - n') * (C + 1) := Nat.mul_le_mul_right _ (by omega)
      rw [Nat.succ_mul] at hmul
      have HLP := Lib.hid (show wl (ld p).natAbs ≤ 400000000000 by omega)
      have HLP2 := Lib.hid hldp
      clear hp hldp
      by_cases hd : ld p % ld g = 0
      · have HD := Lib.hid hd
        have zd : decide (ld p % ld g = 0) = true := decide_eq_true hd
        clear hd
        go_upto_region 7 with (first
          | (go_at_call 82; (with_reducible refine (lead_any (HPP.out.mono fun _ _ _ => trivial) (by omega)).mono ?_); rintro e w3 ⟨v3, rfl, hv3, hb4⟩)
          | (go_at_call 82; (refine (lead_any (HG.out.below (btr hbr hb4)) (by omega)).mono ?_); rintro e w4 ⟨v4, rfl, hv4, hb5⟩)
          | (go_at_call 87; (refine (DivMod_any (hv3.below hb5).int hv4.int (Nat.le_trans HLP.out (by omega)) (Nat.le_trans HLD.out (by omega)) HLD0.out).mono ?_); rintro e w5 ⟨vq, vr, rfl, hvq, hvr, hb6⟩; obtain ⟨negq, Aq, mq, cq, rfl, hq⟩ := (nint_ni hvq).shape; obtain ⟨negr, Ar, mr, cr, rfl, hr5⟩ := (nint_ni hvr).shape)
          | (go_at_call 88; (refine (Zero_any (hvr.below (below_al (below_al (Below.refl _ _) _) _))).mono ?_); rintro e w6 ⟨rfl, hb7⟩; obtain ⟨x0, x1, x2, x3⟩ := (Bx.new w5 negq Aq mq cq).below (btr (below_al (Below.refl _ _) _) hb7)))
        obtain ⟨f, hf⟩ : ∃ f, f = k - n' := ⟨_, rfl⟩
        have e0 : (k : Int) - (n' : Int) = (f : Int) := by omega
        rw [e0]
        have hB6 : Below wr.heap.size wr w6 := btr (btr (btr hb4 hb5) hb6) (btr (below_al (below_al (Below.refl _ _) _) _) hb7)
        have HF := Lib.hid hf
        have hfM : f < M := by have := HM.out; omega
        have hfk : f + n' = k := by omega
        clear hf e0
        have hio6 := hio.below hB6
        obtain ⟨neg0, B0, m0, q0, o0, o1, _⟩ := hio6.cells (j := f) (by rw [HOL.out]; exact hfM)
        have z0 := hio6.frozen (f * 2)
        have z1 := hio6.frozen (f * 2 + 1)
        have hGl := hio.lt
        have HIO := Lib.hid hio6
        have hne7 : G ≠ w5.heap.size := by have := (btr (btr hb4 hb5) hb6).size; omega
        clear hio hio6
        go_upto_region 8 with (fail)
        obtain ⟨W7, hW7⟩ : ∃ W7, W7 = (w6.setCell ⟨G, f * 2, none⟩ (.bool negq)).setCell ⟨G, f * 2 + 1, none⟩ (.slice Aq mq cq) := ⟨_, rfl⟩
        rw [← hW7]
        have y0 : W7.cell? ⟨w5.heap.size, 0, none⟩ = some (.bool negq) := by rw [hW7, World.cell?_setCell_other _ _ _ _ (by simp), World.cell?_setCell_other _ _ _ _ (by simp)]; exact x0
        have y1 : W7.cell? ⟨w5.heap.size, 1, none⟩ = some (.slice Aq mq cq) := by rw [hW7, World.cell?_setCell_other _ _ _ _ (by simp), World.cell?_setCell_other _ _ _ _ (by simp)]; exact x1
        have hb5' : Below w5.heap.size w5 w6 := btr (below_al (below_al (Below.refl _ _) _) _) hb7
        have hset := HIO.out.set (i := f) (by rw [HOL.out]; exact hfM) ((nint_ni (hvq.below hb5')).off HIO.out)
        have hpl7 := (HPP.out.below hB6).set2 (i := f) (u := .bool negq) (u' := .slice Aq mq cq) HIO.out
        have hq7 := (hq.below hb5').set2 (i := f) (u := .bool negq) (u' := .slice Aq mq cq) HIO.out
        have hB7 : Below w.heap.size w W7 := by rw [hW7]; exact ((btr hbr hB6).setCell hGw _).setCell hGw _
        rw [← hW7] at hset hpl7 hq7
        have HPL7 := Lib.hid hpl7
        have HQ7 := Lib.hid hq7
        have HSET := Lib.hid hset
        have hG7 := hset.lt
        clear hW7 hset hpl7 hq7 x0 x1 x2 x3 o0 o1 z0 z1 hvq hvr hq hr5 hv3 hv4
        have hwq := Nat.le_trans (wl_div (ld p) (ld g)) HLP2.out
        go_wp2_with (go_at_call 89; refine (less_any (HPL7.out.mono fun _ _ _ => trivial) (HG.out.below hB7) HQ7.out (by omega) (by omega) (by omega) (fun x hx => Nat.le_trans (HBP.out x hx) (by omega)) (fun x hx => Nat.le_trans (HC.out x hx) (by omega)) (by omega)).mono ?_; rintro e w8 ⟨v8, rfl, hv8, hb8⟩)
        have ef : p.length - g.length = f := by omega
        have hdn := ls_down (show g.length ≤ p.length by omega) (by omega) HD.out
        have hbd := HBP.out.ls HC.out (y := ld p / ld g) (f := f) hwq (by omega)
        rw [ef] at hdn
        have h5 : (n - k + 1) * (C + 1) ≤ (n - (ls p (ld p / ld g) g f).length) * (C + 1) := Nat.mul_le_mul_right _ (by omega)
        rw [Nat.succ_mul] at h5
        have hov := ovF_step (o := O) (show 0 < g.length by omega) (show g.length ≤ p.length by omega) HD.out
        rw [ef] at hov
        obtain ⟨A8, c8, rfl, hp8⟩ := hv8
        exact ⟨⟨A8, _, c8, _, _, rfl, by omega, hp8.mono (fun b hb _ => by have h1 : W7.heap.size ≤ b := hb; omega), Lib.hid (hov.symm.trans HR.out), Lib.hid (tz_ls _ _ _ _), Lib.hid (hbd.mono (by omega)), HSET.out.below hb8, Lib.hid (by rw [List.length_set]; exact HOL.out), Lib.hid (HOB.out.set (by omega)), btr hB7 hb8⟩, by simp only [lenOf]; omega⟩
      · have HD := Lib.hid (show ov l g = none by rw [← HR.out]; exact ovF_no (by omega) (by omega) hd)
        have zd : decide (ld p % ld g = 0) = false := decide_eq_false hd
        clear hd
        go_wp2_with (first
          | (go_at_call 82; (with_reducible refine (lead_any (HPP.out.mono fun _ _ _ => trivial) (by omega)).mono ?_); rintro e w3 ⟨v3, rfl, hv3, hb4⟩)
          | (go_at_call 82; (refine (lead_any (HG.out.below (btr hbr hb4)) (by omega)).mono ?_); rintro e w4 ⟨v4, rfl, hv4, hb5⟩)
          | (go_at_call 87; (refine (DivMod_any (hv3.below hb5).int hv4.int (Nat.le_trans HLP.out (by omega)) (Nat.le_trans HLD.out (by omega)) HLD0.out).mono ?_); rintro e w5 ⟨vq, vr, rfl, hvq, hvr, hb6⟩; obtain ⟨negq, Aq, mq, cq, rfl, hq⟩ := (nint_ni hvq).shape; obtain ⟨negr, Ar, mr, cr, rfl, hr5⟩ := (nint_ni hvr).shape)
          | (go_at_call 88; (refine (Zero_any (hvr.below (below_al (below_al (Below.refl _ _) _) _))).mono ?_); rintro e w6 ⟨rfl, hb7⟩))
        go_ret2
        exact .inr ⟨HD.out, rfl, btr hbr (btr (btr (btr hb4 hb5) hb6) (btr (below_al (below_al (Below.refl _ _) _) _) hb7))⟩
end Go.Proofs.YtdmdagilopckgaaGreat
