/- Package brandt: the walk of rest. -/
import Derived.Test.YtdmdagilopckgaaGreatRest
namespace Go.Proofs.YtdmdagilopckgaaGreat
open Go.RowKit

theorem NI.shape {w : World} {v : Value} {x : Int} (h : NI w v x) : ∃ neg A m c, v = .agg #[.bool neg, .slice A m c] ∧ NI w (.agg #[.bool neg, .slice A m c]) x := by
  obtain ⟨A, c, rfl, h⟩ := h
  exact ⟨_, A, _, c, rfl, A, c, rfl, h⟩
theorem nint_ni {w : World} {D : Nat → Prop} {v : Value} {x : Int} (h : NIntV w D v x) : NI w v x := h.mono fun _ _ _ => trivial
theorem PL.of {w : World} {D : Nat → Prop} {v : Value} {l : List Int} (h : PV w D v l) : PL w v l := h.up fun _ _ => trivial
def lenOf : Value → Nat
  | .slice _ n _ => n
  | _ => 0
theorem below_al {a b : World} (h : Below a.heap.size a b) (o : Obj) : Below a.heap.size a (b.alloc o) := h.alloc h.size o
theorem alloc_int (w : World) (neg : Bool) (A : Option Addr) (m c : Nat) : ∃ W, W = w.alloc (.cells #[.bool neg, .slice A m c] 63) ∧ Below w.heap.size w W ∧ W.cell? ⟨w.heap.size, 0, none⟩ = some (.bool neg) ∧ W.cell? ⟨w.heap.size, 1, none⟩ = some (.slice A m c) := ⟨_, rfl, (Below.refl _ _).alloc (Nat.le_refl _) _, by go_simp, by go_simp⟩

theorem pv_shape {w : World} {D : Nat → Prop} {v : Value} {l m : List Int} {k : Nat} (h : PV w D v l) (e : l = m) (hk : m.length = k) : ∃ A c, v = .slice A k c ∧ Pl NI w (fun _ => True) A k c m := by
  subst e hk
  obtain ⟨A, c, e, h⟩ := h
  exact ⟨A, c, e, h.mono fun _ _ _ => trivial⟩
/-- A variable of the type api.Int: block P. -/
def Bx (w : World) (P : Nat) (neg : Bool) (A : Option Addr) (m c : Nat) : Prop := w.cell? ⟨P, 0, none⟩ = some (.bool neg) ∧ w.cell? ⟨P, 1, none⟩ = some (.slice A m c) ∧ w.frozen? ⟨P, 0, none⟩ = false ∧ w.frozen? ⟨P, 1, none⟩ = false
theorem Bx.new (w : World) (neg : Bool) (A : Option Addr) (m c : Nat) : Bx (w.alloc (.cells #[.bool neg, .slice A m c] 63)) w.heap.size neg A m c := ⟨by go_simp, by go_simp, by go_simp, by go_simp⟩
theorem Bx.lt {w : World} {P : Nat} {neg : Bool} {A : Option Addr} {m c : Nat} (h : Bx w P neg A m c) : P < w.heap.size := cell_lt h.1
theorem Bx.below {w w' : World} {P : Nat} {neg : Bool} {A : Option Addr} {m c : Nat} (h : Bx w P neg A m c) (hb : Below w.heap.size w w') : Bx w' P neg A m c :=
  ⟨keepB hb h.1, keepB hb h.2.1, ((bcell hb).2 _ _ h.lt).trans h.2.2.1, ((bcell hb).2 _ _ h.lt).trans h.2.2.2⟩

set_option maxRecDepth 100000 in
set_option maxHeartbeats 4000000 in
theorem rest_any {A A' : Option Addr} {n c n' c' B C : Nat} {l g : List Int} {w : World} (h : Pl NI w (fun _ => True) A n c l) (hg : Pl NI w (fun _ => True) A' n' c' g) (hn : n ≤ 1000) (hn' : 0 < n') (hlt : tz l = l) (hgt : tz g = g) (hB : Bd B l) (hC : Bd C g) (hC2 : C ≤ 400000000000) (hlim : B + (n + 1 - n') * (C + 1) ≤ 400000000000) :
    Calls Tryz.prog 70 #[.slice A n c, .slice A' n' c'] w (Gives w fun w' v => PL w' v (rs l g)) := by
  have hl := h.len
  have hgl := hg.len
  have hld := hC _ (ld_mem (show 0 < g.length by omega))
  have hld0 := ld_of_tz hgt (List.length_pos_iff.1 (show 0 < g.length by omega))
  have HP := Lib.hid h
  have HG := Lib.hid hg
  have HLT := Lib.hid hlt
  have HB := Lib.hid hB
  have HC := Lib.hid hC
  have HLD := Lib.hid hld
  have HLD0 := Lib.hid hld0
  have hr := hg.room
  unfold maxLen at hr
  clear h hg hlt hgt hB hC hld hld0
  by_cases hs : ld g < 0
  · have t1 : cmpI (ld g) 0 < 0 := by rw [cmpI_zero]; exact hs
    have HY := Lib.hid (show ∀ x : Int, (if ld g < 0 then -x else x) = -x from fun x => if_pos hs)
    clear hs
    go_enter Tryz.func70, Tryz.ntmps70
    go_wp2_with (first
      | (go_at_call 82; go_must (refine (lead_any HG.out (by omega)).mono ?_); rintro e w1 ⟨v1, rfl, hv1, hb1⟩)
      | (go_at_call 66; go_must (refine (Size_any hv1.int (Nat.le_trans HLD.out (by omega))).mono ?_); rintro e w2 ⟨v2, rfl, hv2, hb2⟩; obtain ⟨neg2, A2, m2, c2, rfl, hn2⟩ := (nint_ni hv2).shape))
    obtain ⟨W, hW, hbW, c0, c1⟩ := alloc_int w2 neg2 A2 m2 c2
    have hcap : Cap W w2.heap.size (ld g).natAbs := ⟨_, _, _, _, c0, c1, hn2.below hbW⟩
    have hb3 := btr (btr hb1 hb2) hbW
    generalize w2.heap.size = P at *
    rw [← hW]
    clear hW c0 c1 hn2 hv2 hv1 hb1 hb2 hbW
    have HCAP := Lib.hid hcap
    have HL0 := Lib.hid (show ∃ R, R = rs l g from ⟨_, rfl⟩)
    go_loopw [0] (fun iv wr => ∃ (A : Option Addr) (k c : Nat) (p : List Int), iv = .slice A k c ∧ k ≤ n ∧ Pl NI wr (fun _ => True) A k c p ∧ Hid (rs p g = rs l g) ∧ Hid (tz p = p) ∧ Hid (Bd (B + (n - k) * (C + 1)) p) ∧ Cap wr P (ld g).natAbs ∧ Below w.heap.size w wr) (fun iv _ => lenOf iv)
    case atStart => exact ⟨A, n, c, l, rfl, Nat.le_refl _, HP.out.below hb3, Lib.hid rfl, HLT, Lib.hid (HB.out.mono (by omega)), hcap, hb3⟩
    case round =>
      clear hcap
      obtain ⟨A1, k, c1, p, rfl, hk, hp, HR, HT, HBP, hcp, hbr⟩ := hrel
      have hpl := hp.len
      have hpr := hp.room
      unfold maxLen at hpr
      have hpc := hp.cap
      have hgw := HG.out.below hbr
      by_cases hkn : n' ≤ k
      rotate_left
      · have HF := Lib.hid (show rs l g = p by rw [← HR.out]; exact rs_stop (by omega))
        have HPP := Lib.hid hp
        clear hp hgw hcp
        go_wp2_with fail
        go_ret
        exact ⟨_, rfl, ⟨A1, c1, by rw [HF.out, hpl]; rfl, by rw [HF.out, hpl]; exact HPP.out⟩, hbr⟩
      · have HPP := Lib.hid hp
        have hne : 0 < p.length := by omega
        have hldp := HBP.out _ (ld_mem hne)
        have hmul : (n - k + 1) * (C + 1) ≤ (n + 1 - n') * (C + 1) := Nat.mul_le_mul_right _ (by omega)
        rw [Nat.succ_mul] at hmul
        have HLP := Lib.hid (show wl (ld p).natAbs ≤ 400000000000 by omega)
        clear hldp hgw
        have HGB := Lib.hid hbr
        go_upto_region 7 with (first
          | (go_at_call 82; (with_reducible refine (lead_any HPP.out (by omega)).mono ?_); rintro e w3 ⟨v3, rfl, hv3, hb4⟩; obtain ⟨neg3, A3, m3, c3, rfl, hn3⟩ := hv3.shape)
          | (go_at_call 82; (refine (lead_any (HG.out.below (btr HGB.out (below_al hb4 _))) (by omega)).mono ?_); rintro e w4 ⟨v4, rfl, hv4, hb5⟩; have hx := (Bx.new w3 neg3 A3 m3 c3).below hb5)
          | (go_at_call 80; go_must (refine (Sign_any hv4.int (Nat.le_trans HLD.out (by omega))).mono ?_); rintro e w5 ⟨rfl, hb6⟩; obtain ⟨x0, x1, x2, x3⟩ := hx.below hb6)
          | (go_at_call 72; go_must (refine (wNeg_any (hn3.below (btr (btr (below_al (Below.refl _ _) _) hb5) hb6)).int (Nat.le_trans HLP.out (by omega))).mono ?_); rintro e w6 ⟨v6, rfl, hv6, hb7⟩; obtain ⟨neg6, A6, m6, c6, rfl, hn6⟩ := (nint_ni hv6).shape; obtain ⟨y0, y1, y2, y3⟩ := (hx.below hb6).below hb7))
        obtain ⟨W1, hW⟩ : ∃ W1, W1 = (w6.setCell ⟨w3.heap.size, 0, none⟩ (.bool neg6)).setCell ⟨w3.heap.size, 1, none⟩ (.slice A6 m6 c6) := ⟨_, rfl⟩
        rw [← hW]
        have hW1 : Below wr.heap.size wr W1 := by rw [hW]; exact ((btr (btr (btr (below_al hb4 _) hb5) hb6) hb7).setCell hb4.size _).setCell hb4.size _
        have hBx : Bx W1 w3.heap.size neg6 A6 m6 c6 := by rw [hW]; exact ⟨by go_simp, by go_simp, by go_simp, by go_simp⟩
        have hby : NI W1 (.agg #[.bool neg6, .slice A6 m6 c6]) (if ld g < 0 then -(ld p) else ld p) := by
          rw [hW, HY.out]
          have hn7 : NIntV w6 (· ≠ w3.heap.size) (.agg #[.bool neg6, .slice A6 m6 c6]) (-(ld p)) := hv6.mono fun b hb _ => by
            have h1 : w5.heap.size ≤ b := hb
            have h2 := hx.lt
            have h3 := hb6.size
            omega
          exact ((hn7.setCell (by simp) _).setCell (by simp) _).mono fun _ _ _ => trivial
        clear hW hv6 hn6 hb7 y0 y1 y2 y3
        generalize w3.heap.size = P3 at *
        have hb8 := btr hbr hW1
        have hs0 : Below W1.heap.size W1 W1.drew := (Below.refl _ _).drew
        have HE := Lib.hid (fun wz (hb : Below W1.heap.size W1 wz) => each_rest (f := fun x => x * ((ld g).natAbs : Int)) (HPP.out.below (btr hW1 hb)) (by omega) (.pointer (some ⟨P, 0, none⟩))
          (fun w' v x hb' hx hv => rest1_any hv (hcp.below (btr (btr hW1 hb) hb')) (Nat.le_trans (HBP.out x hx) (by omega)) (by rw [Int.natAbs_natCast]; exact Nat.le_trans HLD.out (by omega)))
          (fun x hx => Nat.le_trans ((HBP.out.map (C := C) (s := ((ld g).natAbs : Int)) (by rw [Int.natAbs_natCast]; exact HLD.out)) _ (List.mem_map.2 ⟨x, hx, rfl⟩)) (by omega)))
        have HBX := Lib.hid hBx
        have HBY := Lib.hid hby
        have HBY2 := Lib.hid (show wl (if ld g < 0 then -(ld p) else ld p).natAbs ≤ 400000000000 by first | (rw [HY.out]; exact HLP.out) | (rw [HY.out, Int.natAbs_neg]; exact HLP.out))
        have HCP := Lib.hid (hcp.below hW1)
        clear hBx hby hcp x0 x1 x2 x3 hx hv4 hn3 hv3 hb4 hb5 hb6 hW1
        refine wp_region_trg (.read 0 (.read 1 (.read 3 (.read 4 (.read 5 (.step 2 (.step 6 (.step 7 (.step 8 .nil))))))))) [] (by kernel_rfl) (by rfl) (by kernel_rfl) (by kernel_rfl) (fun _ _ _ _ _ h => h) (fun W => Below W1.heap.size W1 W) ?_
        change goG _ _ _ _ _ _ _ W1.drew
        refine goG_read 29 hs0 (by rfl) (by rfl) ?_ (by rfl) (fun wz hSw => ?_) ?_
        rotate_left
        · obtain ⟨x0, x1, _, _⟩ := HBX.out.below hSw; go_simp
          try with_reducible rfl
        simp only [List.setIfInBounds_toArray, List.set]
        refine goG_read 30 hs0 (by rfl) (by rfl) ?_ (by rfl) (fun wz hSw => ?_) ?_
        rotate_left
        · obtain ⟨x0, x1, _, _⟩ := HBX.out.below hSw; go_simp
          try with_reducible rfl
        simp only [List.setIfInBounds_toArray, List.set]
        refine goG_read 32 hs0 (by rfl) (by rfl) ?_ (by rfl) (fun wz hSw => ?_) ?_
        rotate_left
        · obtain ⟨x0, x1, _, _⟩ := HBX.out.below hSw; go_simp
          try with_reducible rfl
        simp only [List.setIfInBounds_toArray, List.set]
        refine goG_read 33 hs0 (by rfl) (by rfl) ?_ (by rfl) (fun wz hSw => ?_) ?_
        rotate_left
        · obtain ⟨x0, x1, _, _⟩ := HBX.out.below hSw; go_simp
          try with_reducible rfl
        simp only [List.setIfInBounds_toArray, List.set]
        refine goG_read 34 hs0 (by rfl) (by rfl) ?_ (by rfl) (fun wz hSw => ?_) ?_
        rotate_left
        · obtain ⟨x0, x1, _, _⟩ := HBX.out.below hSw; go_simp
          try with_reducible rfl
        simp only [List.setIfInBounds_toArray, List.set]
        refine goG_step (by rfl) ?_
        go_wp2_with (go_at_call 71; refine (HE.out _ hs0).mono ?_; rintro e w8 ⟨v8, rfl, hv8, hb9⟩)
        obtain ⟨A8, c8, rfl, hp8⟩ := pv_shape (k := k) hv8 (tz_scale HT.out (by have := HLD0.out; omega)) (by rw [List.length_map]; exact hpl)
        have hs1 := hs0.trans (hb9.mono hs0.size)
        refine ⟨fun _ => hs1, ?_⟩
        clear hv8
        have e0 : (k : Int) - (n' : Int) = ((k - n' : Nat) : Int) := by omega
        rw [e0]
        refine goG_step (by rfl) ?_
        go_wp2_with (go_at_call 89; refine (less_any hp8 (HG.out.below (btr hb8 hs1)) (HBY.out.below hs1) (by omega) (by omega) (by omega) (fun x hx => Nat.le_trans ((HBP.out.map (C := C) (s := ((ld g).natAbs : Int)) (by rw [Int.natAbs_natCast]; exact HLD.out)) x hx) (by omega)) (fun x hx => Nat.le_trans (HC.out x hx) (by omega)) HBY2.out).mono ?_; rintro e w9 ⟨v9, rfl, hv9, hb10⟩)
        have es : ls (p.map fun x => x * ((ld g).natAbs : Int)) (if ld g < 0 then -(ld p) else ld p) g (k - n') = stp p g := by unfold stp; rw [hpl, hgl]
        have hs2 := hs1.trans (hb10.mono hs1.size)
        obtain ⟨A9, c9, rfl, hp9⟩ := pv_shape (k := (stp p g).length) hv9 es rfl
        have HS9 := Lib.hid (stp_length (f := p) (g := g) (by omega) (by omega))
        have HB9 := Lib.hid (HBP.out.stp HC.out (show g.length ≤ p.length by omega) (by omega))
        have HSt := Lib.hid (rs_step (f := p) (g := g) (by omega) (by omega))
        refine ⟨fun _ => hs2, ?_⟩
        clear hv9 es
        refine goG_step (by rfl) ?_
        go_wp2_with (go_at_call 69; refine (primitive_any hp9 (by have := HS9.out; omega) (fun x hx => Nat.le_trans (HB9.out x hx) (by omega)) (fun h0 => ct_of_tz (tz_ls _ _ _ _) h0)).mono ?_; rintro e w10 ⟨v10, rfl, hv10, hb11⟩)
        have hs3 := hs2.trans (hb11.mono hs2.size)
        obtain ⟨A10, c10, rfl, hp10⟩ := pv_shape (k := (pp (stp p g)).length) hv10 rfl rfl
        refine ⟨fun _ => hs3, ?_⟩
        clear hv10
        refine goG_step (by rfl) ?_
        go_wp2_with fail
        refine ⟨fun _ => hs3, ?_⟩
        show Exit.inBlock _ _ .normal _ _
        go_wp2_with fail
        have hq := pp_length (stp p g)
        have hq2 := HS9.out
        have h5 : (n - k + 1) * (C + 1) ≤ (n - (pp (stp p g)).length) * (C + 1) := Nat.mul_le_mul_right _ (by omega)
        rw [Nat.succ_mul] at h5
        exact ⟨⟨A10, _, c10, pp (stp p g), rfl, by omega, hp10, Lib.hid (by rw [← HSt.out]; exact HR.out), Lib.hid (tz_pp _), Lib.hid (HB9.out.pp.mono (by omega)), HCP.out.below hs3, btr hb8 hs3⟩, by simp only [lenOf]; omega⟩
  · have t1 : decide (cmpI (ld g) 0 < 0) = false := decide_eq_false (by rw [cmpI_zero]; exact hs)
    have HY := Lib.hid (show ∀ x : Int, (if ld g < 0 then -x else x) = x from fun x => if_neg hs)
    clear hs
    go_enter Tryz.func70, Tryz.ntmps70
    go_wp2_with (first
      | (go_at_call 82; go_must (refine (lead_any HG.out (by omega)).mono ?_); rintro e w1 ⟨v1, rfl, hv1, hb1⟩)
      | (go_at_call 66; go_must (refine (Size_any hv1.int (Nat.le_trans HLD.out (by omega))).mono ?_); rintro e w2 ⟨v2, rfl, hv2, hb2⟩; obtain ⟨neg2, A2, m2, c2, rfl, hn2⟩ := (nint_ni hv2).shape))
    obtain ⟨W, hW, hbW, c0, c1⟩ := alloc_int w2 neg2 A2 m2 c2
    have hcap : Cap W w2.heap.size (ld g).natAbs := ⟨_, _, _, _, c0, c1, hn2.below hbW⟩
    have hb3 := btr (btr hb1 hb2) hbW
    generalize w2.heap.size = P at *
    rw [← hW]
    clear hW c0 c1 hn2 hv2 hv1 hb1 hb2 hbW
    have HCAP := Lib.hid hcap
    have HL0 := Lib.hid (show ∃ R, R = rs l g from ⟨_, rfl⟩)
    go_loopw [0] (fun iv wr => ∃ (A : Option Addr) (k c : Nat) (p : List Int), iv = .slice A k c ∧ k ≤ n ∧ Pl NI wr (fun _ => True) A k c p ∧ Hid (rs p g = rs l g) ∧ Hid (tz p = p) ∧ Hid (Bd (B + (n - k) * (C + 1)) p) ∧ Cap wr P (ld g).natAbs ∧ Below w.heap.size w wr) (fun iv _ => lenOf iv)
    case atStart => exact ⟨A, n, c, l, rfl, Nat.le_refl _, HP.out.below hb3, Lib.hid rfl, HLT, Lib.hid (HB.out.mono (by omega)), hcap, hb3⟩
    case round =>
      clear hcap
      obtain ⟨A1, k, c1, p, rfl, hk, hp, HR, HT, HBP, hcp, hbr⟩ := hrel
      have hpl := hp.len
      have hpr := hp.room
      unfold maxLen at hpr
      have hpc := hp.cap
      have hgw := HG.out.below hbr
      by_cases hkn : n' ≤ k
      rotate_left
      · have HF := Lib.hid (show rs l g = p by rw [← HR.out]; exact rs_stop (by omega))
        have HPP := Lib.hid hp
        clear hp hgw hcp
        go_wp2_with fail
        go_ret
        exact ⟨_, rfl, ⟨A1, c1, by rw [HF.out, hpl]; rfl, by rw [HF.out, hpl]; exact HPP.out⟩, hbr⟩
      · have HPP := Lib.hid hp
        have hne : 0 < p.length := by omega
        have hldp := HBP.out _ (ld_mem hne)
        have hmul : (n - k + 1) * (C + 1) ≤ (n + 1 - n') * (C + 1) := Nat.mul_le_mul_right _ (by omega)
        rw [Nat.succ_mul] at hmul
        have HLP := Lib.hid (show wl (ld p).natAbs ≤ 400000000000 by omega)
        clear hldp hgw
        have HGB := Lib.hid hbr
        go_upto_region 7 with (first
          | (go_at_call 82; (with_reducible refine (lead_any HPP.out (by omega)).mono ?_); rintro e w3 ⟨v3, rfl, hv3, hb4⟩; obtain ⟨neg3, A3, m3, c3, rfl, hn3⟩ := hv3.shape)
          | (go_at_call 82; (refine (lead_any (HG.out.below (btr HGB.out (below_al hb4 _))) (by omega)).mono ?_); rintro e w4 ⟨v4, rfl, hv4, hb5⟩; have hx := (Bx.new w3 neg3 A3 m3 c3).below hb5)
          | (go_at_call 80; go_must (refine (Sign_any hv4.int (Nat.le_trans HLD.out (by omega))).mono ?_); rintro e w5 ⟨rfl, hb6⟩; obtain ⟨x0, x1, x2, x3⟩ := hx.below hb6))
        obtain ⟨W1, hW⟩ : ∃ W1, W1 = w5 := ⟨_, rfl⟩
        rw [← hW]
        have hW1 : Below wr.heap.size wr W1 := by rw [hW]; exact btr (btr (below_al hb4 _) hb5) hb6
        obtain ⟨neg6, A6, m6, c6, hBx, hby⟩ : ∃ neg6 A6 m6 c6, Bx W1 w3.heap.size neg6 A6 m6 c6 ∧ NI W1 (.agg #[.bool neg6, .slice A6 m6 c6]) (if ld g < 0 then -(ld p) else ld p) := ⟨_, _, _, _, by rw [hW]; exact hx.below hb6, by rw [hW, HY.out]; exact hn3.below (btr (btr (below_al (Below.refl _ _) _) hb5) hb6)⟩
        clear hW
        generalize w3.heap.size = P3 at *
        have hb8 := btr hbr hW1
        have hs0 : Below W1.heap.size W1 W1.drew := (Below.refl _ _).drew
        have HE := Lib.hid (fun wz (hb : Below W1.heap.size W1 wz) => each_rest (f := fun x => x * ((ld g).natAbs : Int)) (HPP.out.below (btr hW1 hb)) (by omega) (.pointer (some ⟨P, 0, none⟩))
          (fun w' v x hb' hx hv => rest1_any hv (hcp.below (btr (btr hW1 hb) hb')) (Nat.le_trans (HBP.out x hx) (by omega)) (by rw [Int.natAbs_natCast]; exact Nat.le_trans HLD.out (by omega)))
          (fun x hx => Nat.le_trans ((HBP.out.map (C := C) (s := ((ld g).natAbs : Int)) (by rw [Int.natAbs_natCast]; exact HLD.out)) _ (List.mem_map.2 ⟨x, hx, rfl⟩)) (by omega)))
        have HBX := Lib.hid hBx
        have HBY := Lib.hid hby
        have HBY2 := Lib.hid (show wl (if ld g < 0 then -(ld p) else ld p).natAbs ≤ 400000000000 by first | (rw [HY.out]; exact HLP.out) | (rw [HY.out, Int.natAbs_neg]; exact HLP.out))
        have HCP := Lib.hid (hcp.below hW1)
        clear hBx hby hcp x0 x1 x2 x3 hx hv4 hn3 hv3 hb4 hb5 hb6 hW1
        refine wp_region_trg (.read 0 (.read 1 (.read 3 (.read 4 (.read 5 (.step 2 (.step 6 (.step 7 (.step 8 .nil))))))))) [] (by kernel_rfl) (by rfl) (by kernel_rfl) (by kernel_rfl) (fun _ _ _ _ _ h => h) (fun W => Below W1.heap.size W1 W) ?_
        change goG _ _ _ _ _ _ _ W1.drew
        refine goG_read 29 hs0 (by rfl) (by rfl) ?_ (by rfl) (fun wz hSw => ?_) ?_
        rotate_left
        · obtain ⟨x0, x1, _, _⟩ := HBX.out.below hSw; go_simp
          try with_reducible rfl
        simp only [List.setIfInBounds_toArray, List.set]
        refine goG_read 30 hs0 (by rfl) (by rfl) ?_ (by rfl) (fun wz hSw => ?_) ?_
        rotate_left
        · obtain ⟨x0, x1, _, _⟩ := HBX.out.below hSw; go_simp
          try with_reducible rfl
        simp only [List.setIfInBounds_toArray, List.set]
        refine goG_read 32 hs0 (by rfl) (by rfl) ?_ (by rfl) (fun wz hSw => ?_) ?_
        rotate_left
        · obtain ⟨x0, x1, _, _⟩ := HBX.out.below hSw; go_simp
          try with_reducible rfl
        simp only [List.setIfInBounds_toArray, List.set]
        refine goG_read 33 hs0 (by rfl) (by rfl) ?_ (by rfl) (fun wz hSw => ?_) ?_
        rotate_left
        · obtain ⟨x0, x1, _, _⟩ := HBX.out.below hSw; go_simp
          try with_reducible rfl
        simp only [List.setIfInBounds_toArray, List.set]
        refine goG_read 34 hs0 (by rfl) (by rfl) ?_ (by rfl) (fun wz hSw => ?_) ?_
        rotate_left
        · obtain ⟨x0, x1, _, _⟩ := HBX.out.below hSw; go_simp
          try with_reducible rfl
        simp only [List.setIfInBounds_toArray, List.set]
        refine goG_step (by rfl) ?_
        go_wp2_with (go_at_call 71; refine (HE.out _ hs0).mono ?_; rintro e w8 ⟨v8, rfl, hv8, hb9⟩)
        obtain ⟨A8, c8, rfl, hp8⟩ := pv_shape (k := k) hv8 (tz_scale HT.out (by have := HLD0.out; omega)) (by rw [List.length_map]; exact hpl)
        have hs1 := hs0.trans (hb9.mono hs0.size)
        refine ⟨fun _ => hs1, ?_⟩
        clear hv8
        have e0 : (k : Int) - (n' : Int) = ((k - n' : Nat) : Int) := by omega
        rw [e0]
        refine goG_step (by rfl) ?_
        go_wp2_with (go_at_call 89; refine (less_any hp8 (HG.out.below (btr hb8 hs1)) (HBY.out.below hs1) (by omega) (by omega) (by omega) (fun x hx => Nat.le_trans ((HBP.out.map (C := C) (s := ((ld g).natAbs : Int)) (by rw [Int.natAbs_natCast]; exact HLD.out)) x hx) (by omega)) (fun x hx => Nat.le_trans (HC.out x hx) (by omega)) HBY2.out).mono ?_; rintro e w9 ⟨v9, rfl, hv9, hb10⟩)
        have es : ls (p.map fun x => x * ((ld g).natAbs : Int)) (if ld g < 0 then -(ld p) else ld p) g (k - n') = stp p g := by unfold stp; rw [hpl, hgl]
        have hs2 := hs1.trans (hb10.mono hs1.size)
        obtain ⟨A9, c9, rfl, hp9⟩ := pv_shape (k := (stp p g).length) hv9 es rfl
        have HS9 := Lib.hid (stp_length (f := p) (g := g) (by omega) (by omega))
        have HB9 := Lib.hid (HBP.out.stp HC.out (show g.length ≤ p.length by omega) (by omega))
        have HSt := Lib.hid (rs_step (f := p) (g := g) (by omega) (by omega))
        refine ⟨fun _ => hs2, ?_⟩
        clear hv9 es
        refine goG_step (by rfl) ?_
        go_wp2_with (go_at_call 69; refine (primitive_any hp9 (by have := HS9.out; omega) (fun x hx => Nat.le_trans (HB9.out x hx) (by omega)) (fun h0 => ct_of_tz (tz_ls _ _ _ _) h0)).mono ?_; rintro e w10 ⟨v10, rfl, hv10, hb11⟩)
        have hs3 := hs2.trans (hb11.mono hs2.size)
        obtain ⟨A10, c10, rfl, hp10⟩ := pv_shape (k := (pp (stp p g)).length) hv10 rfl rfl
        refine ⟨fun _ => hs3, ?_⟩
        clear hv10
        refine goG_step (by rfl) ?_
        go_wp2_with fail
        refine ⟨fun _ => hs3, ?_⟩
        show Exit.inBlock _ _ .normal _ _
        go_wp2_with fail
        have hq := pp_length (stp p g)
        have hq2 := HS9.out
        have h5 : (n - k + 1) * (C + 1) ≤ (n - (pp (stp p g)).length) * (C + 1) := Nat.mul_le_mul_right _ (by omega)
        rw [Nat.succ_mul] at h5
        exact ⟨⟨A10, _, c10, pp (stp p g), rfl, by omega, hp10, Lib.hid (by rw [← HSt.out]; exact HR.out), Lib.hid (tz_pp _), Lib.hid (HB9.out.pp.mono (by omega)), HCP.out.below hs3, btr hb8 hs3⟩, by simp only [lenOf]; omega⟩
end Go.Proofs.YtdmdagilopckgaaGreat
