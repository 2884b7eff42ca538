/- Package ideal: the norm of a net (norm). Plain: what package wide does with positive definite matrices, step by step: values, reduction (Bring), stages, the walk over short vectors. -/
import Derived.Test.YtdjpeimecfhdjaaGreatXo
import Derived.Test.YtdjpeimecfhdjaaGreatXe
namespace Go.Proofs.YtdjpeimecfhdjaaGreat
open Go.RowKit
def nrmR (i : Nat) (l : List Int) (g : Int) : Nat → Int
 | 0 => g
 | j + 1 => (Int.gcd (nrmR i l g j) (if i = j then gz l j / 2 else gz l j) : Int)
def nrmM (G : List (List Int)) : Nat → Int
 | 0 => 0
 | i + 1 => nrmR i (rw_ G i) (nrmM G i) (rw_ G i).length
theorem wl_nrmR {B i : Nat} {l : List Int} {g : Int} (hg : wl g.natAbs ≤ B) (hl : ∀ j, wl (gz l j).natAbs ≤ B) (j : Nat) : wl (nrmR i l g j).natAbs ≤ B := by
 induction j with
 | zero => exact hg
 | succ j ih =>
  unfold nrmR
  rw [Int.natAbs_natCast]
  refine wl_gcd _ _ ih ?_
  split
  ·exact Nat.le_trans (wl_div _ _) (hl j)
  ·exact hl j
theorem wl_nrmM {B : Nat} {G : List (List Int)} (hG : ∀ i j, wl (gz (rw_ G i) j).natAbs ≤ B) (i : Nat) : wl (nrmM G i).natAbs ≤ B := by
 induction i with
 | zero => unfold nrmM; rw [wl_zero0]; omega
 | succ i ih => unfold nrmM; exact wl_nrmR ih (hG i) _
theorem Bx.arr {w : World} {P : Nat} {D : Nat → Prop} {g : Int} (h : Bx w P D g) : P < w.heap.size := by
 obtain ⟨_, _, _, _, h1, _⟩ := h
 exact h1.lt
theorem gcd_ne {a b : Int} (hb : b ≠ 0) : (Int.gcd a b : Int) ≠ 0 := fun h => hb (Int.gcd_eq_zero_iff.1 (Int.ofNat_eq_zero.mp h)).2
set_option maxRecDepth 100000 in
set_option maxHeartbeats 4000000 in
theorem norm_any {w : World} {lo : Nat} {v : Value} {aA aB d : Int} {R : List (List Int)} (h : NetI w lo v aA aB R d) (h1 : -1000 ≤ aA ∧ aA ≤ 1000) (h2 : -1000 ≤ aB ∧ aB ≤ 1000) (hl : R.length = 4) (h4 : ∀ l ∈ R, l.length = 4) (hf : fitM R = true) (hft : fitM (tms R (formL aA aB)) = true) (hfg : fitM (gramL aA aB R) = true) (hfd : fit d = true) (hd0 : d ≠ 0) :
  Calls Tryz.prog 100 #[v] w (Gives w fun w' v => FrV w' (w.heap.size ≤ ·) v (nrmM (gramL aA aB R) 4 / (Int.gcd (nrmM (gramL aA aB R) 4) (d * d) : Int)) (d * d / (Int.gcd (nrmM (gramL aA aB R) 4) (d * d) : Int))) := by
 have hN := h
 obtain ⟨A, c, n1, A2, m2, c2, rfl, hR, hd⟩ := h
 obtain ⟨W, hW⟩ : ∃ W, W = ((w.alloc (.cells #[.int .i64 aA, .int .i64 aB, .slice A R.length c, .bool n1, .slice A2 m2 c2] 136)).alloc (.cells #[.bool false, .slice none 0 0, .bool false, .slice none 0 0] 140)).alloc (.cells #[.bool false, .slice none 0 0] 40) := ⟨_, rfl⟩
 obtain ⟨Rr, hRr⟩ : ∃ Rr, Rr = w.heap.size + 1 := ⟨_, rfl⟩
 obtain ⟨Gb, hGb⟩ : ∃ Gb, Gb = w.heap.size + 1 + 1 := ⟨_, rfl⟩
 have hbW : Below w.heap.size w W := by rw [hW]; exact (((Below.refl _ _).alloc (Nat.le_refl _) _).alloc (by simp) _).alloc (by simp; omega) _
 have b0 : W.cell? ⟨w.heap.size, 0, none⟩ = some (.int .i64 aA) := by rw [hW]; go_simp
 have b1 : W.cell? ⟨w.heap.size, 1, none⟩ = some (.int .i64 aB) := by rw [hW]; go_simp
 have b2 : W.cell? ⟨w.heap.size, 2, none⟩ = some (.slice A R.length c) := by rw [hW]; go_simp
 have b3 : W.cell? ⟨w.heap.size, 3, none⟩ = some (.bool n1) := by rw [hW]; go_simp
 have b4 : W.cell? ⟨w.heap.size, 4, none⟩ = some (.slice A2 m2 c2) := by rw [hW]; go_simp
 have hRA : Arr W Rr 140 [.bool false, .slice none 0 0, .bool false, .slice none 0 0] := by
  rw [hW, hRr]
  have h1 := (Arr.new (w.alloc (.cells #[.int .i64 aA, .int .i64 aB, .slice A R.length c, .bool n1, .slice A2 m2 c2] 136)) 140 [.bool false, .slice none 0 0, .bool false, .slice none 0 0]).alloc (.cells #[.bool false, .slice none 0 0] 40)
  simpa using h1
 have hGA : Arr W Gb 40 [.bool false, .slice none 0 0] := by
  rw [hW, hGb]
  have h1 := Arr.new ((w.alloc (.cells #[.int .i64 aA, .int .i64 aB, .slice A R.length c, .bool n1, .slice A2 m2 c2] 136)).alloc (.cells #[.bool false, .slice none 0 0, .bool false, .slice none 0 0] 140)) 40 [.bool false, .slice none 0 0]
  simpa using h1
 have hP0 : w.heap.size < W.heap.size := cell_lt b0
 have hR0 : Rr < W.heap.size := hRA.lt
 have hG0 : Gb < W.heap.size := hGA.lt
 have hwR : w.heap.size < Rr := by omega
 have hwG : Rr < Gb := by omega
 have HRA := Lib.hid hRA
 have hBX : Bx W Gb (fun b => b ≠ Gb) 0 := ⟨false, none, 0, 0, hGA, NIntV.zero _ _⟩
 have HWW := Lib.hid hW
 have HRR := Lib.hid hRr
 have HGG := Lib.hid hGb
 have HGR := Lib.hid (gram_any (hN.below hbW) h1 h2 hl h4 hf hft)
 have HD := Lib.hid ((hd.mono (D' := (· < w.heap.size)) fun b _ hl => hl).below hbW)
 have hgl : (gramL aA aB R).length = 4 := by unfold gramL tms; rw [List.length_map, List.length_map, hl]
 have hgr : ∀ i, i < 4 → (rw_ (gramL aA aB R) i).length = 4 := fun i hi => by
  have := rw_mem (L := gramL aA aB R) (i := i) (by rw [hgl]; exact hi)
  unfold gramL tms at this
  obtain ⟨r, hr, e⟩ := List.mem_map.1 this
  unfold gramL tms
  rw [← e, rowT_length]
  have hl0 : (rw_ R 0).length = 4 := h4 _ (rw_mem (by rw [hl]; omega))
  have hm := rw_mem (L := trs R) (i := 0) (by rw [trs_length, hl0]; omega)
  obtain ⟨k, hk, e2⟩ := List.mem_map.1 hm
  rw [← e2, List.length_map, hl]
 have hwG2 : ∀ i j, wl (gz (rw_ (gramL aA aB R) i) j).natAbs ≤ 4000 := fun i j => fit_wl (fitR_gz (fitM_rw hfg i) j)
 generalize hGM : gramL aA aB R = GM at *
 have HGL := Lib.hid hgl
 have HGRW := Lib.hid hgr
 have HWG := Lib.hid hwG2
 have HWD := Lib.hid (fit_wl hfd)
 have HD0 := Lib.hid hd0
 clear hW hRr hGb hRA hGA hR hd hf h4 hft h1 h2 hl hgl hgr hwG2 hGM hN hfd hd0 hfg
 generalize R.length = q at *
 go_enter Tryz.func100, Tryz.ntmps100
 go_upto_region 2 with (fail)
 rw [← HWW.out, ← HGG.out, ← HRR.out]
 go_upto_region 3 with (go_at_call 161; go_must (refine HGR.out.mono ?_); rintro e wg ⟨vg, rfl, hvg, hbg⟩; obtain ⟨Ag, cg, rfl⟩ := RowsD.slice_ hvg (n := 4) HGL.out)
 have hBg : Bx wg Gb (fun b => b ≠ Gb) 0 := hBX.below hbg
 have HVG := Lib.hid (RowsD.mono (D' := fun b => b ≠ Gb) hvg fun b (hb : _ ≤ b) _ => by omega)
 have HBG := Lib.hid hbg
 clear hvg hBX hbg
 go_loopw [12] (fun iv wr => ∃ i : Nat, iv = .int .i64 i ∧ i ≤ 4 ∧ Bx wr Gb (fun b => b ≠ Gb) (nrmM GM i) ∧ Frm (· = Gb) wg wr) (fun iv _ => 4 - (intOf iv).toNat)
 case atStart => exact ⟨0, rfl, by omega, hBg, Frm.refl _ _⟩
 case round =>
  obtain ⟨i, rfl, hi, hbx, hfr⟩ := hrel
  clear hBg
  rcases Nat.lt_or_ge i 4 with hiq | hiq
  ·obtain ⟨wo, rfl⟩ : ∃ wo, wo = wr := ⟨_, rfl⟩
   obtain ⟨b, off, u, rfl, hc, hu⟩ := RowsD.at (hfr.foot HVG.out fun b hb e => hb e) (rw_some (L := GM) (i := i) (by rw [HGL.out]; exact hiq))
   obtain ⟨Au, cu, rfl, hpu⟩ := hu
   have hpv : PvD wo (fun b => b ≠ Gb) (.slice Au (rw_ GM i).length cu) (rw_ GM i) := ⟨Au, cu, rfl, hpu⟩
   rw [HGRW.out i hiq] at hpv hc
   have HPV := Lib.hid hpv
   have HST := Lib.hid (show nrmM GM (i + 1) = nrmR i (rw_ GM i) (nrmM GM i) 4 by unfold nrmM; rw [HGRW.out i hiq]; cases i <;> rfl)
   have HFR := Lib.hid hfr
   clear hpv hpu hfr
   have a1 : (0 : Int) ≤ (i : Int) := by omega
   have a2 : (i : Int) < 4 := by omega
   go_wp2_with fail
   go_loopw [19] (fun jv wr => ∃ j : Nat, jv = .int .i64 j ∧ j ≤ 4 ∧ Bx wr Gb (fun b => b ≠ Gb) (nrmR i (rw_ GM i) (nrmM GM i) j) ∧ Frm (· = Gb) wo wr) (fun jv _ => 4 - (intOf jv).toNat)
   case atStart => exact ⟨0, rfl, by omega, hbx, Frm.refl _ _⟩
   case round =>
    obtain ⟨j, rfl, hj, hbx, hfi⟩ := hrel
    rcases Nat.lt_or_ge j 4 with hjn | hjn
    ·obtain ⟨b1, off1, neg, B, m, k, rfl, _, e0, e1, e2⟩ := PvD.at (hfi.foot HPV.out fun b hb e => hb e) hjn
     obtain ⟨neg2, B2, m3, k2, hp, hv⟩ := hbx
     have hwl1 := wl_nrmR (i := i) (l := rw_ GM i) (wl_nrmM HWG.out i) (HWG.out i) j
     have hwl2 := HWG.out i j
     obtain ⟨W2, hW2⟩ : ∃ W2, W2 = wr.alloc (.cells #[.bool neg, .slice B m k] 40) := ⟨_, rfl⟩
     obtain ⟨X, hX⟩ : ∃ X, X = wr.heap.size := ⟨_, rfl⟩
     have HB2 : Below wr.heap.size wr W2 := by rw [hW2]; exact (Below.refl _ _).alloc (Nat.le_refl _) _
     have hXA : Arr W2 X 40 [.bool neg, .slice B m k] := by rw [hW2, hX]; exact Arr.new wr _ [.bool neg, .slice B m k]
     obtain ⟨x0, x1, _, _⟩ := hXA.c2
     have HW2 := Lib.hid hW2
     have HX := Lib.hid hX
     obtain ⟨p0, p1, _, _⟩ := (hp.below' HB2).c2
     have hGX : Gb < X := by rw [hX]; exact hp.lt
     have HPA := Lib.hid (hp.below' HB2)
     have HXA := Lib.hid hXA
     have HV := Lib.hid ((hv.mono (D' := fun b => b ≠ Gb ∧ b ≠ X) fun b hb hl => ⟨hb, by omega⟩).below HB2)
     have hoX : wo.heap.size ≤ X := by rw [hX]; exact hfi.size
     have HE2 := Lib.hid (e2.below HB2)
     have HFI := Lib.hid (hfi.over HB2)
     have HWL1 := Lib.hid hwl1
     have HWL2 := Lib.hid hwl2
     have hG2 : Gb < W2.heap.size := (hp.below' HB2).lt
     have hX2 : X < W2.heap.size := hXA.lt
     clear hp hv e2 hwl1 hwl2 hfi hXA hW2 hX HB2
     have a3 : (0 : Int) ≤ (j : Int) := by omega
     have a4 : (j : Int) < 4 := by omega
     by_cases hij : i = j
     ·have HST2 := Lib.hid (show nrmR i (rw_ GM i) (nrmM GM i) (j + 1) = (Int.gcd (nrmR i (rw_ GM i) (nrmM GM i) j) (gz (rw_ GM i) j / 2) : Int) by show (Int.gcd _ (if i = j then _ else _) : Int) = _; rw [if_pos hij])
      have q1 : ((i : Int) == (j : Int)) = true := beq_iff_eq.mpr (by omega)
      have q2 : decide ((i : Int) = (j : Int)) = true := decide_eq_true (by omega)
      clear hij q2
      go_upto_region 9 with (fail)
      clear q1
      rw [← HW2.out, ← HX.out]
      have hs0 : Below W2.heap.size W2 W2.drew := (Below.refl _ _).drew
      refine wp_region_tq5 (.read 0 (.step 1 (.step 2 (.step 3 .nil)))) [3] (by kernel_rfl) (by rfl) (by kernel_rfl) (by kernel_rfl) (fun V => Below W2.heap.size W2 V) ?_
      change goU _ _ _ _ _ _ _ W2.drew
      refine goU_read 27 hs0 (by rfl) (by rfl) ?_ (by rfl) (fun wz hSw => ?_) ?_
      rotate_left
      ·have y0 := keepW hSw hX2 x0; have y1 := keepW hSw hX2 x1; go_simp
       try with_reducible rfl
      simp only [sIB, List.set]
      refine goU_call 28 (by rfl) (by rfl) (by rfl) (by go_simp) (Of_any 2 W2.drew (by omega) (by omega)) ?_
      rintro e w4 ⟨v4, rfl, hv4, hb4⟩
      have hs1 := hs0.trans (hb4.mono hs0.size)
      refine ⟨_, rfl, fun _ => hs1, ?_⟩
      simp only [sIB, List.set]
      refine goU_call 29 (by rfl) (by rfl) (by rfl) (by go_simp) (wQuo_any (HE2.out.below hs1).int hv4.int (Nat.le_trans HWL2.out (by omega)) (by decide) (by decide)) ?_
      rintro e w5 ⟨v5, rfl, hv5, hb5⟩
      obtain ⟨n5, A5, m5, c5, rfl, hw5⟩ := hv5.shp
      have hs2 := hs1.trans (hb5.mono hs1.size)
      refine ⟨_, rfl, fun _ => hs2, ?_⟩
      simp only [sIB, List.set]
      clear hv4 hv5
      have hA := keepA HXA.out hs2 hX2
      obtain ⟨r0, r1, f0, f1⟩ := hA.c2
      refine goU_step (by rfl) ?_
      go_wp2_with fail
      try (refine ⟨fun h => absurd h (by decide), ?_⟩)
      refine goU_nilN ?_
      obtain ⟨w6, hw6⟩ : ∃ V, V = (w5.setCell ⟨X, 0, none⟩ (.bool n5)).setCell ⟨X, 1, none⟩ (.slice A5 m5 c5) := ⟨_, rfl⟩
      have hfx : Frm (· = X) w5 w6 := by rw [hw6]; exact (Frm.setCell (O := (· = X)) (p := ⟨X, 0, none⟩) (fun _ => rfl) _).trans (Frm.setCell (O := (· = X)) (p := ⟨X, 1, none⟩) (fun _ => rfl) _)
      have hXA6 : Arr w6 X 40 [.bool n5, .slice A5 m5 c5] := by rw [hw6]; exact hA.put2 _ _
      obtain ⟨s0, s1, _, _⟩ := hXA6.c2
      rw [← hw6]
      have hPG6 : Arr w6 Gb 40 [.bool neg2, .slice B2 m3 k2] := hfx.arr (keepA HPA.out hs2 hG2) (fun e => by omega)
      obtain ⟨g0, g1, _, _⟩ := hPG6.c2
      have HV6 := Lib.hid (hfx.nint (HV.out.below hs2) fun b hb e => hb.2 e)
      have HW6 := Lib.hid (hfx.nint hw5 fun b (hb : _ ≤ b) e => by have := hs1.size; omega)
      have hf5 := HFI.out.over hs2
      have HFI := Lib.hid (show Frm (· = Gb) wo w6 from ⟨hfx.os.trans hf5.os, hfx.tape.trans hf5.tape, hfx.output.trans hf5.output, Nat.le_trans hf5.size hfx.size, fun b hb hne => (hfx.block b (Nat.lt_of_lt_of_le hb hf5.size) (fun e => by have e : b = X := e; omega)).trans (hf5.block b hb hne)⟩)
      have HPA := Lib.hid hPG6
      have hwl3 := wl_div (gz (rw_ GM i) j) 2
      have hwl4 := HWL2.out
      clear hw6 hfx hXA6 hPG6 hf5 hA r0 r1 f0 f1 hw5 p0 p1 x0 x1 e0 e1
      go_wp2_with (go_at_call 162; go_must (refine (Gcd_any HV6.out.int HW6.out.int (Nat.le_trans HWL1.out (by omega)) (by omega)).mono ?_); rintro e w7 ⟨v7, rfl, hv7, hb7⟩; obtain ⟨n9, A9, m9, c9, rfl, hw9⟩ := hv7.shp; clear hv7; obtain ⟨t0, t1, u0, u1⟩ := (HPA.out.below' hb7).c2)
      go_round
      case rel => exact ⟨j + 1, by go_num, by omega, by rw [HST2.out]; exact Bx.put (HPA.out.below' hb7) (hw9.dd fun b h1 => by have h1 : _ ≤ b := h1; have := HPA.out.lt; omega) (fun h => h rfl), (HFI.out.over hb7).trans ((Frm.setCell (O := (· = Gb)) (p := ⟨Gb, 0, none⟩) (fun _ => rfl) _).trans (Frm.setCell (O := (· = Gb)) (p := ⟨Gb, 1, none⟩) (fun _ => rfl) _))⟩
      case measure => simp [intOf]; omega
     ·have HST2 := Lib.hid (show nrmR i (rw_ GM i) (nrmM GM i) (j + 1) = (Int.gcd (nrmR i (rw_ GM i) (nrmM GM i) j) (gz (rw_ GM i) j) : Int) by show (Int.gcd _ (if i = j then _ else _) : Int) = _; rw [if_neg hij])
      have q1 : ((i : Int) == (j : Int)) = false := by simpa using (show ¬ (i : Int) = (j : Int) by omega)
      have q2 : ¬ (i : Int) = (j : Int) := by omega
      clear hij
      go_upto_region 10 with (fail)
      rw [← HW2.out, ← HX.out]
      go_wp2_with (go_at_call 162; go_must (refine (Gcd_any HV.out.int HE2.out.int (Nat.le_trans HWL1.out (by omega)) (Nat.le_trans HWL2.out (by omega))).mono ?_); rintro e w3 ⟨v3, rfl, hv3, hb7⟩; obtain ⟨n9, A9, m9, c9, rfl, hw9⟩ := hv3.shp; clear hv3; obtain ⟨t0, t1, u0, u1⟩ := (HPA.out.below' hb7).c2)
      go_round
      case rel => exact ⟨j + 1, by go_num, by omega, by rw [HST2.out]; exact Bx.put (HPA.out.below' hb7) (hw9.dd fun b h1 => by have h1 : _ ≤ b := h1; have := HPA.out.lt; omega) (fun h => h rfl), (HFI.out.over hb7).trans ((Frm.setCell (O := (· = Gb)) (p := ⟨Gb, 0, none⟩) (fun _ => rfl) _).trans (Frm.setCell (O := (· = Gb)) (p := ⟨Gb, 1, none⟩) (fun _ => rfl) _))⟩
      case measure => simp [intOf]; omega
    ·obtain rfl : j = 4 := by omega
     rw [← HST.out] at hbx
     go_wp2_with fail
     go_round
     case rel => exact ⟨i + 1, by go_num, by omega, hbx, HFR.out.trans hfi⟩
     case measure => simp [intOf]; omega
  ·obtain rfl : i = 4 := by omega
   go_upto_region 13 with (fail)
   obtain ⟨neg2, B2, m3, k2, hp, hv⟩ := hbx
   obtain ⟨p0, p1, _, _⟩ := hp.c2
   have hPG : w.heap.size ≠ Gb := by omega
   have hRG : Rr ≠ Gb := by omega
   have hPg : w.heap.size < wg.heap.size := Nat.lt_of_lt_of_le hP0 HBG.out.size
   have d0 := (hfr.cell hPg hPG (o := 3)).trans (keepW HBG.out hP0 b3)
   have d1 := (hfr.cell hPg hPG (o := 4)).trans (keepW HBG.out hP0 b4)
   have hGw : Gb < wr.heap.size := hp.lt
   have hPw : w.heap.size < wr.heap.size := Nat.lt_of_lt_of_le hPg hfr.size
   have HRW := Lib.hid (hfr.arr (keepA HRA.out HBG.out hR0) hRG)
   have hRw : Rr < wr.heap.size := HRW.out.lt
   have HDR := Lib.hid (hfr.nint (HD.out.below HBG.out) fun b (hb : b < w.heap.size) e => by omega)
   have HGV := Lib.hid hv
   have HWN := Lib.hid (wl_nrmM HWG.out 4)
   have hwd := HWD.out
   have hwm := wl_mulI d d
   have HDD := Lib.hid (show d * d ≠ 0 from Int.mul_ne_zero HD0.out HD0.out)
   have hs0 : Below wr.heap.size wr wr.drew := (Below.refl _ _).drew
   refine wp_region_tq5 (.read 0 (.read 1 (.read 2 (.read 3 (.read 4 (.step 5 (.read 6 (.step 7 (.step 8 .nil))))))))) [8] (by kernel_rfl) (by rfl) (by kernel_rfl) (by kernel_rfl) (fun V => Below wr.heap.size wr V) ?_
   change goU _ _ _ _ _ _ _ wr.drew
   refine goU_read 35 hs0 (by rfl) (by rfl) ?_ (by rfl) (fun wz hSw => ?_) ?_
   rotate_left
   ·have y0 := keepW hSw hGw p0; have y1 := keepW hSw hGw p1; have y2 := keepW hSw hPw d0; have y3 := keepW hSw hPw d1; go_simp
    try with_reducible rfl
   simp only [sIB, List.set]
   refine goU_read 36 hs0 (by rfl) (by rfl) ?_ (by rfl) (fun wz hSw => ?_) ?_
   rotate_left
   ·have y0 := keepW hSw hGw p0; have y1 := keepW hSw hGw p1; have y2 := keepW hSw hPw d0; have y3 := keepW hSw hPw d1; go_simp
    try with_reducible rfl
   simp only [sIB, List.set]
   refine goU_read 37 hs0 (by rfl) (by rfl) ?_ (by rfl) (fun wz hSw => ?_) ?_
   rotate_left
   ·have y0 := keepW hSw hGw p0; have y1 := keepW hSw hGw p1; have y2 := keepW hSw hPw d0; have y3 := keepW hSw hPw d1; go_simp
    try with_reducible rfl
   simp only [sIB, List.set]
   refine goU_read 38 hs0 (by rfl) (by rfl) ?_ (by rfl) (fun wz hSw => ?_) ?_
   rotate_left
   ·have y0 := keepW hSw hGw p0; have y1 := keepW hSw hGw p1; have y2 := keepW hSw hPw d0; have y3 := keepW hSw hPw d1; go_simp
    try with_reducible rfl
   simp only [sIB, List.set]
   refine goU_read 39 hs0 (by rfl) (by rfl) ?_ (by rfl) (fun wz hSw => ?_) ?_
   rotate_left
   ·have y0 := keepW hSw hGw p0; have y1 := keepW hSw hGw p1; have y2 := keepW hSw hPw d0; have y3 := keepW hSw hPw d1; go_simp
    try with_reducible rfl
   simp only [sIB, List.set]
   refine goU_call 40 (by rfl) (by rfl) (by rfl) (by go_simp) (Mul_any (HDR.out.below hs0).int (HDR.out.below hs0).int (by omega) (by omega)) ?_
   rintro e w4 ⟨v4, rfl, hv4, hb4⟩
   obtain ⟨n4, A4, m4, c4, rfl, hw4⟩ := hv4.shp
   have hs1 := hs0.trans (hb4.mono hs0.size)
   refine ⟨_, rfl, fun _ => hs1, ?_⟩
   simp only [sIB, List.set]
   refine goU_read 41 hs1 (by rfl) (by rfl) ?_ (by rfl) (fun wz hSw => ?_) ?_
   rotate_left
   ·go_simp
    try with_reducible rfl
   simp only [sIB, List.set]
   refine goU_call 42 (by rfl) (by rfl) (by rfl) (by go_simp) (lowest_any (D := fun _ => True) (v := .agg #[.bool neg2, .slice B2 m3 k2, .bool n4, .slice A4 m4 c4]) ⟨neg2, B2, m3, k2, n4, A4, m4, c4, rfl, (HGV.out.below hs1).tt, hw4.tt⟩ (Nat.le_trans HWN.out (by omega)) (by omega) (gcd_ne HDD.out)) ?_
   rintro e w5 ⟨v5, rfl, ⟨n5, A5, m5, c5, n6, A6, m6, c6, rfl, hx5, hx6⟩, hb5⟩
   have hs2 := hs1.trans (hb5.mono hs1.size)
   refine ⟨_, rfl, fun _ => hs2, ?_⟩
   simp only [sIB, List.set]
   have hA := keepA HRW.out hs2 hRw
   have r0 := hA.rd (i := 0) rfl
   have r1 := hA.rd (i := 1) rfl
   have r2 := hA.rd (i := 2) rfl
   have r3 := hA.rd (i := 3) rfl
   have f0 := hA.frozen 0
   have f1 := hA.frozen 1
   have f2 := hA.frozen 2
   have f3 := hA.frozen 3
   have HV5 := Lib.hid hx5
   have HV6 := Lib.hid hx6
   clear hx5 hx6 hv4 hw4 hv hp
   refine goU_step (by rfl) ?_
   go_wp2_with fail
   try (refine ⟨fun h => absurd h (by decide), ?_⟩)
   refine goU_nilN ?_
   go_wp2_with fail
   refine bodyPost_ret (v := .agg #[.bool n5, .slice A5 m5 c5, .bool n6, .slice A6 m6 c6]) (by simp [results, Tryz.results100, go_sem, r0, r1, r2, r3]) rfl ⟨_, rfl, ⟨n5, A5, m5, c5, n6, A6, m6, c6, rfl, ?_, ?_⟩, ?_⟩
   all_goals have hfr9 : ∀ (i : Nat) (u : Value) (V : World), Frm (· = Rr) V (V.setCell ⟨Rr, i, none⟩ u) := fun i u V => Frm.setCell (O := (· = Rr)) (p := ⟨Rr, i, none⟩) (fun _ => rfl) u
   all_goals have q4 := hs1.size
   ·refine NIntV.mono (Frm.nint ((((hfr9 _ _ _).trans (hfr9 _ _ _)).trans (hfr9 _ _ _)).trans (hfr9 _ _ _)) HV5.out fun b (hb : _ ≤ b) e => ?_) fun b (hb : _ ≤ b) _ => ?_
    ·omega
    ·show w.heap.size ≤ b
     omega
   ·refine NIntV.mono (Frm.nint ((((hfr9 _ _ _).trans (hfr9 _ _ _)).trans (hfr9 _ _ _)).trans (hfr9 _ _ _)) HV6.out fun b (hb : _ ≤ b) e => ?_) fun b (hb : _ ≤ b) _ => ?_
    ·omega
    ·show w.heap.size ≤ b
     omega
   ·have hwg : Below w.heap.size w wg := hbW.trans (HBG.out.mono hbW.size)
    have hwr : Below w.heap.size w wr := hwg.trans (hfr.below hwg.size fun b e => by omega)
    exact (hwr.trans (hs2.mono hwr.size)).trans (Frm.below ((((hfr9 _ _ _).trans (hfr9 _ _ _)).trans (hfr9 _ _ _)).trans (hfr9 _ _ _)) (by have := hs2.size; omega) fun b e => by rw [e]; omega)
end Go.Proofs.YtdjpeimecfhdjaaGreat

namespace Go.Proofs.YtdjpeimecfhdjaaGreat
open Go.RowKit
def vrS (g y : List Int) (a s : Int) : Nat → Int
 | 0 => s
 | k + 1 => vrS g y a s k + a * gz g k * gz y k
def vlS (g : List (List Int)) (x y : List Int) : Nat → Int
 | 0 => 0
 | i + 1 => vrS (rw_ g i) y (gz x i) (vlS g x y i) y.length
def vl (g : List (List Int)) (x y : List Int) : Int := vlS g x y x.length
theorem vrS_zero (g y : List Int) (s : Int) (k : Nat) : vrS g y 0 s k = s := by
 induction k with
 | zero => rfl
 | succ k ih => rw [vrS, ih]; omega
def unitL (n : Nat) : List (List Int) := (List.range n).map fun i => (List.replicate n 0).set i 1
def nxt (g : List (List Int)) : List (List Int) := (List.range (g.length - 1)).map fun i => (List.range (g.length - 1)).map fun k => gm g 0 0 * gm g (i + 1) (k + 1) - gm g 0 (i + 1) * gm g 0 (k + 1)
def isq (m : Nat) : Nat := Nat.sqrtAux m
where
 Nat.sqrtAux (m : Nat) : Nat := go m (m.log2 / 2 + 1) 0
 go (m : Nat) : Nat → Nat → Nat
  | 0, r => if (r + 1) * (r + 1) ≤ m then r + 1 else r
  | b + 1, r => go m b (if (r + 2 ^ (b + 1)) * (r + 2 ^ (b + 1)) ≤ m then r + 2 ^ (b + 1) else r)
end Go.Proofs.YtdjpeimecfhdjaaGreat
