/- Package wide: the walk over short vectors: the loop over an element's numbers. Package wide: the walk over short vectors. -/
import Derived.Test.YtdjpeimecfhdjaaGreatXw
namespace Go.Proofs.YtdjpeimecfhdjaaGreat
open Go.RowKit
theorem Cs.clr {w : World} {D : Nat → Prop} {xs : List Value} {l : List Int} {P : Nat} {x : Int} (h : Cs w D xs l) (hP : BT w P x) : Cs w (fun b => D b ∧ b ≠ P) xs l := ⟨h.1, fun j hj => by
 obtain ⟨neg, B, m, k, h1, h2, h3⟩ := h.2 j hj
 obtain ⟨_, _, _, _, h4, _⟩ := hP
 exact ⟨neg, B, m, k, h1, h2, h3.clr h4⟩⟩
theorem OwnR.other {w w' : World} {D : Nat → Prop} {v : Value} {l : List Int} {P : Nat} {x : Int} (h : OwnR w 0 D v l) (hP : BT w P x) (hf : Frm (· = P) w w') (hv : v.ownBlock ≠ some P) : OwnR w' 0 D v l := by
 obtain ⟨xs, h1, h2⟩ := h
 have h3 : OwnR w 0 (fun b => D b ∧ b ≠ P) v l := ⟨xs, h1, h2.clr hP⟩
 exact (h3.frm hf (fun b hb => hb.2) fun b hb e => hv (by rw [hb, e])).mono fun b hb _ => hb.1
theorem Bx.other {w w' : World} {D : Nat → Prop} {P Q : Nat} {x y : Int} (h : Bx w P D x) (hQ : BT w Q y) (hf : Frm (· = Q) w w') (hne : P ≠ Q) : Bx w' P D x := by
 obtain ⟨_, _, _, _, h1, h2⟩ := h
 obtain ⟨_, _, _, _, h3, _⟩ := hQ
 exact ⟨_, _, _, _, hf.arr h1 hne, (hf.nint (h2.clr h3) fun b hb => hb.2).mono fun _ hb _ => hb.1⟩
theorem BT.no64 {w : World} {P : Nat} {x : Int} (h : BT w P x) : ¬ i64B w P := fun h2 => by
 obtain ⟨_, _, _, _, h1, _⟩ := h
 obtain ⟨y, hy⟩ := h2.2 0 _ (Arr.cell h1 0)
 cases hy
theorem WkA.put {σ : Type} {p : WkP} {k : Nat} {Inv : σ → World → Prop} {step : List Int → Int → σ → Option σ} (Y : Yielder k p.l p.B p.M Inv step) {s : σ} {xs : List Int} {w : World} (hA : WkA p Inv s xs w) {j : Nat} (hj : j < xs.length) {neg : Bool} {B : Option Addr} {m c : Nat} {v : Int} (hN : NIntV w p.N (.agg #[.bool neg, .slice B m c]) v) :
  WkA p Inv s (xs.set j v) ((w.setCell ⟨p.GX, j * 2, none⟩ (.bool neg)).setCell ⟨p.GX, j * 2 + 1, none⟩ (.slice B m c)) ∧ Frm (· = p.GX) w ((w.setCell ⟨p.GX, j * 2, none⟩ (.bool neg)).setCell ⟨p.GX, j * 2 + 1, none⟩ (.slice B m c)) := by
 have hf : Frm (· = p.GX) w ((w.setCell ⟨p.GX, j * 2, none⟩ (.bool neg)).setCell ⟨p.GX, j * 2 + 1, none⟩ (.slice B m c)) := (Frm.setCell (O := (· = p.GX)) (p := ⟨p.GX, j * 2, none⟩) (fun _ => rfl) _).trans (Frm.setCell (O := (· = p.GX)) (p := ⟨p.GX, j * 2 + 1, none⟩) (fun _ => rfl) _)
 exact ⟨⟨hA.I.keep (FrZ.of (hf.mono fun b _ e => .inr e)), hA.X.set (fun h => h (.inr rfl)) hj hN, Y.stable _ _ _ hA.V (hf.mono fun b _ e => ⟨e ▸ hA.GB, fun hm => hA.X.no64 (g := p.GX) (by omega) rfl (e ▸ hm)⟩), hA.G, hA.GB, Nat.le_trans hA.SB hf.size⟩, hf⟩
theorem set_back {xs : List Int} {j : Nat} {y : Int} (hj : j < xs.length) (h0 : gz xs j = 0) : (xs.set j y).set j 0 = xs := by
 rw [List.set_set]
 refine List.ext_getElem (by simp) fun i h1 h2 => ?_
 rw [List.getElem_set]
 split
 ·rename_i e
  subst e
  have : gz xs j = xs[j] := by unfold gz List.getD; rw [List.getElem?_eq_getElem hj]; rfl
  rw [← this, h0]
 ·rfl
theorem fit_mid {a b n : Int} (ha : fit a = true) (hb : fit b = true) (h1 : a ≤ n) (h2 : n ≤ b) : fit n = true := by
 have h3 := fit_iff.1 ha
 have h4 := fit_iff.1 hb
 refine fit_iff.2 ?_
 generalize limN = L at *
 omega
noncomputable def loop2C : Code := (blkOf 2 ((Tryz.f189.body).getD .skip)).getD .skip
set_option maxRecDepth 100000 in
set_option maxHeartbeats 4000000 in
theorem loop2_any {σ : Type} {p : WkP} {k : Nat} {Inv : σ → World → Prop} {step : List Int → Int → σ → Option σ} (Y : Yielder k p.l p.B p.M Inv step) {j : Nat}
  (IH : ∀ (xs : List Int) (s s' : σ) (w : World), WkA p Inv s xs w → xs.length = p.n → (∀ i, i < j → gz xs i = 0) → wkW p.T p.H p.b step j xs s = some s' → Calls Tryz.prog 189 #[.int .i64 ((j : Int) - 1), .pointer (some ⟨p.y, 0, none⟩), .pointer (some ⟨p.x, 0, none⟩), .pointer (some ⟨p.t, 0, none⟩), .pointer (some ⟨p.h, 0, none⟩), .pointer (some ⟨p.a, 0, none⟩), .pointer (some ⟨p.k, 0, none⟩)] w (WkPost p Inv s' xs w))
  {s s' : σ} {xs : List Int} {w0 w : World} {Q : Exit → Act → World → Prop} {P7 P8 : Nat} {low high : Int} {t7 t8 t9 t10 t11 t12 t13 t14 t15 t16 t19 t20 t21 t22 t23 t24 t25 t26 t27 t28 t29 t30 t31 t32 t33 t34 t35 t36 t37 t38 t39 t40 t41 t42 t43 t44 t45 t46 t47 t48 t49 t50 t51 t52 t53 t54 t55 t56 t57 t58 t59 t60 t61 t62 t63 t64 t65 t66 t67 t68 t69 t70 t71 t72 t73 t74 t75 t76 t77 t78 t79 t80 t81 t82 t83 t84 t85 t86 t87 t88 t89 t90 t91 t92 t93 t94 t95 t96 t97 t98 t99 t100 t101 t102 t103 t104 t105 t106 t107 t108 t109 t110 t111 t112 t113 t114 t115 t116 t117 t118 t119 t120 t121 t122 t123 t124 t125 t126 t127 t128 t129 t130 t131 t132 t133 : Value}
  (hA0 : WkA p Inv s xs w0) (hl : xs.length = p.n) (hj : j < p.n) (hn1 : p.n ≤ 1000) (hz : ∀ i, i < j → gz xs i = 0) (hF : FrZ p.B p.Z w0 w) (hX : OwnR w 0 p.N (.slice (some ⟨p.GX, 0, none⟩) p.n p.n) xs) (hV : Inv s w)
  (h7 : Bx w P7 p.N high) (h8 : Bx w P8 p.N low) (h7w : w0.heap.size ≤ P7) (h8w : w0.heap.size ≤ P8) (hne : P7 ≠ P8) (hfl : fit low = true) (hfh : fit high = true)
  (hlp : lpW (fun n s => wkW p.T p.H p.b step j (xs.set j n) s) (high + 1 - low).toNat low s = some s')
  (hQ : ∀ (w' : World) (y : Int) (u8 u18 u113 u114 u115 u116 u117 u118 u119 u120 u121 u122 u123 u124 u125 u126 u127 u128 u129 : Value), WkA p Inv s' (xs.set j y) w' → FrZ p.B p.Z w0 w' → Q .normal ⟨#[.int .i64 (j : Nat), .pointer (some ⟨p.y, 0, none⟩), .pointer (some ⟨p.x, 0, none⟩), .pointer (some ⟨p.t, 0, none⟩), .pointer (some ⟨p.h, 0, none⟩), .pointer (some ⟨p.a, 0, none⟩), .pointer (some ⟨p.k, 0, none⟩), t7, u8, t9, t10, t11, t12, t13, t14, t15, t16, .pointer (some ⟨P7, 0, none⟩), u18, t19, t20, t21, t22, t23, t24, t25, t26, t27, t28, t29, t30, t31, t32, t33, t34, t35, t36, t37, t38, t39, t40, t41, t42, t43, t44, t45, t46, t47, t48, t49, t50, t51, t52, t53, t54, t55, t56, t57, t58, t59, t60, t61, t62, t63, t64, t65, t66, t67, t68, t69, t70, t71, t72, t73, t74, t75, t76, t77, t78, t79, t80, t81, t82, t83, t84, t85, t86, t87, t88, t89, t90, t91, t92, t93, t94, t95, t96, t97, t98, t99, t100, t101, t102, t103, t104, t105, t106, t107, t108, t109, t110, t111, t112, u113, u114, u115, u116, u117, u118, u119, u120, u121, u122, u123, u124, u125, u126, u127, u128, u129, t130, t131, t132, t133], []⟩ w') :
  (loop2C).wp Tryz.prog Q ⟨#[.int .i64 (j : Nat), .pointer (some ⟨p.y, 0, none⟩), .pointer (some ⟨p.x, 0, none⟩), .pointer (some ⟨p.t, 0, none⟩), .pointer (some ⟨p.h, 0, none⟩), .pointer (some ⟨p.a, 0, none⟩), .pointer (some ⟨p.k, 0, none⟩), t7, t8, t9, t10, t11, t12, t13, t14, t15, t16, .pointer (some ⟨P7, 0, none⟩), .pointer (some ⟨P8, 0, none⟩), t19, t20, t21, t22, t23, t24, t25, t26, t27, t28, t29, t30, t31, t32, t33, t34, t35, t36, t37, t38, t39, t40, t41, t42, t43, t44, t45, t46, t47, t48, t49, t50, t51, t52, t53, t54, t55, t56, t57, t58, t59, t60, t61, t62, t63, t64, t65, t66, t67, t68, t69, t70, t71, t72, t73, t74, t75, t76, t77, t78, t79, t80, t81, t82, t83, t84, t85, t86, t87, t88, t89, t90, t91, t92, t93, t94, t95, t96, t97, t98, t99, t100, t101, t102, t103, t104, t105, t106, t107, t108, t109, t110, t111, t112, t113, t114, t115, t116, t117, t118, t119, t120, t121, t122, t123, t124, t125, t126, t127, t128, t129, t130, t131, t132, t133], []⟩ w := by
 have HQ := Lib.hid hQ
 have HY := Lib.hid Y
 have HIH := Lib.hid IH
 have HA0 := Lib.hid hA0
 have HZ : Hid (∀ b, w0.heap.size ≤ b → p.N b) := Lib.hid (WkP.lt Y hA0)
 have HZL : Hid (∀ i, i < j → gz xs i = 0) := Lib.hid hz
 have HFM : Hid (∀ n : Int, low ≤ n → n ≤ high → wl n.natAbs ≤ 4000) := Lib.hid fun n h1 h2 => fit_wl (fit_mid hfl hfh h1 h2)
 have hwh := fit_wl hfh
 obtain ⟨m0, hm0⟩ : ∃ m0, m0 = (high + 1 - low).toNat := ⟨_, rfl⟩
 rw [← hm0] at hlp
 have HXL := Lib.hid hl
 have HST : Hid (∃ y, OwnR w 0 p.N (.slice (some ⟨p.GX, 0, none⟩) p.n p.n) (xs.set j y)) := Lib.hid ⟨gz xs j, by
  have e : xs.set j (gz xs j) = xs := by
   refine List.ext_getElem (by simp) fun i h1 h2 => ?_
   rw [List.getElem_set]
   split
   ·rename_i e
    subst e
    unfold gz List.getD
    rw [List.getElem?_eq_getElem h2]
    rfl
   ·rfl
  rw [e]
  exact hX⟩
 have HM0 := Lib.hid hm0
 have HLP := Lib.hid hlp
 have HF := Lib.hid hF
 have HV := Lib.hid hV
 have H7 := Lib.hid h7
 have H8 := Lib.hid h8
 have hwl : wl low.natAbs ≤ 10000 := by have := fit_wl hfl; omega
 clear hQ Y IH hA0 hz hfl hfh hl hX hm0 hlp hF hV h7 h8
 show Code.wp _ (Code.block 2 _) _ _ _
 go_wp2_with fail
 go_loopg [18] m0 (fun m uv wr => ∃ (P : Nat) (n y : Int) (s1 : σ), uv = .pointer (some ⟨P, 0, none⟩) ∧ w0.heap.size ≤ P ∧ P7 ≠ P ∧ Bx wr P p.N n ∧ Bx wr P7 p.N high ∧ Hid (m = (high + 1 - n).toNat) ∧ low ≤ n ∧ wl n.natAbs ≤ 10000 ∧ Hid (lpW (fun n s => wkW p.T p.H p.b step j (xs.set j n) s) m n s1 = some s') ∧ FrZ p.B p.Z w0 wr ∧ OwnR wr 0 p.N (.slice (some ⟨p.GX, 0, none⟩) p.n p.n) (xs.set j y) ∧ Inv s1 wr)
 case atStart =>
  obtain ⟨y, hy⟩ := HST.out
  exact ⟨P8, low, y, s, rfl, h8w, hne, H8.out, H7.out, HM0, by omega, hwl, HLP, HF.out, hy, HV.out⟩
 case round =>
  obtain ⟨P, n, y, s1, rfl, hPw, hP7, hB, hB7, hm, hln, hwn, hlp, hf, hx, hv⟩ := hrel
  clear HST HM0 HLP HF HV H7 H8
  have hA : WkA p Inv s1 (xs.set j y) wr := ⟨HA0.out.I.keep hf, hx, hv, HA0.out.G, HA0.out.GB, Nat.le_trans HA0.out.SB hf.size⟩
  obtain ⟨nb, Ab, mb, cb, hPA, hPN⟩ := hB
  obtain ⟨n7, A7, m7, c7, h7A, h7N⟩ := hB7
  obtain ⟨r0, r1, f0, f1⟩ := hPA.c2
  obtain ⟨q0, q1, g0, g1⟩ := h7A.c2
  have HPA := Lib.hid hPA
  have HPN := Lib.hid hPN
  have H7A := Lib.hid h7A
  have H7N := Lib.hid h7N
  have HA := Lib.hid hA
  have HFR := Lib.hid hf
  clear hf hx hv hA hPA hPN h7A h7N
  rcases Nat.eq_zero_or_pos gk with h0 | h0
  ·have hlt : high < n := by have := hm.out; omega
   have hc : cmpI n high = 1 := by unfold cmpI; rw [if_neg (by omega), if_neg (by omega)]
   have HC := Lib.hid (Cmp_any HPN.out.int H7N.out.int (by omega) (by omega))
   rw [hc] at HC
   have HS := Lib.hid (show s1 = s' by have h := hlp.out; rw [h0] at h; unfold lpW at h; injection h)
   clear hm hlp h0
   go_wp2_with (go_at_call 102; go_must (refine HC.out.mono ?_); rintro e w1 ⟨rfl, hb1⟩)
   exact HQ.out _ y _ _ _ _ _ _ _ _ _ _ _ _ _ _ _ _ _ _ _ (HS.out ▸ WkP.below HY.out HA.out hb1) (HFR.out.over hb1)
  ·obtain ⟨m, hmm⟩ : ∃ m, gk = m + 1 := ⟨gk - 1, by omega⟩
   subst hmm
   obtain ⟨s2, hs2, hs3⟩ := lpW_succ hlp.out
   have hle : n ≤ high := by have := hm.out; omega
   have HM2 := Lib.hid (show m = (high + 1 - (n + 1)).toNat by have := hm.out; omega)
   have hfn := HFM.out n hln hle
   have hcl : cmpI n high = -1 ∨ cmpI n high = 0 := by unfold cmpI; split; exact .inl rfl; rw [if_pos (by omega)]; exact .inr rfl
   obtain ⟨cc, hcc⟩ : ∃ cc, cc = cmpI n high := ⟨_, rfl⟩
   have hcc0 : cc ≤ 0 := by omega
   have HC := Lib.hid (Cmp_any HPN.out.int H7N.out.int (by omega) (by omega))
   rw [← hcc] at HC
   have HS2 := Lib.hid hs2
   have HS3 := Lib.hid hs3
   have HW1 := Lib.hid (show wl (n + 1).natAbs ≤ 10000 by
    have w1l := wl_addI n 1
    have hw1 : wl (1 : Int).natAbs = 1 := by decide +kernel
    omega)
   clear hm hlp h0 hs2 hs3 hcl hcc
   go_upto_region 19 with (go_at_call 102; go_must (refine HC.out.mono ?_); rintro e w1 ⟨rfl, hb1⟩)
   have hA1 := WkP.below HY.out HA.out hb1
   have e2 := hA1.I.cx
   have k0 := keepB hb1 r0
   have k1 := keepB hb1 r1
   have hxl2 : (xs.set j y).length = p.n := by rw [List.length_set]; exact HXL.out
   obtain ⟨gg, cap, eg, y2, y3, y4, y5, hfz, y6⟩ := hA1.X.at (by omega)
   injection eg with eg y7 y8
   injection eg with eg
   injection eg with eg y9 y10
   subst eg
   obtain ⟨nx, Bq, mx, kx, x0, x1, y11⟩ := y6 j (by omega)
   clear y2 y3 y4 y5 y6 y7 y8 y9 y10 y11
   have z0 := hfz (j * 2)
   have z1 := hfz (j * 2 + 1)
   have a1 : (0 : Int) ≤ (j : Int) := by omega
   have a2 : (j : Int) < (p.n : Int) := by omega
   have HP1 := Lib.hid ((HPN.out).below hb1)
   obtain ⟨hA2, hf2⟩ := WkA.put HY.out hA1 (j := j) (by omega) HP1.out
   rw [List.set_set] at hA2
   obtain ⟨WA, hWA⟩ : ∃ V, V = (w1.setCell ⟨p.GX, j * 2, none⟩ (.bool nb)).setCell ⟨p.GX, j * 2 + 1, none⟩ (.slice Ab mb cb) := ⟨_, rfl⟩
   rw [← hWA] at hA2 hf2
   have HWA := Lib.hid hWA
   have ek : WA.cell? ⟨p.k, 0, none⟩ = some _ := hA2.I.ck
   have HA2 := Lib.hid hA2
   have HF2 := Lib.hid (show FrZ p.B p.Z w0 WA from (HFR.out.over hb1).trans (FrZ.of (hf2.mono fun b _ e => .inr e)))
   have hPG : P ≠ p.GX := fun e => HZ.out P hPw (.inr e)
   have h7G : P7 ≠ p.GX := fun e => HZ.out P7 h7w (.inr e)
   have HPA2 := Lib.hid (hf2.arr (keepA HPA.out hb1 HPA.out.lt) hPG)
   have HPN2 := Lib.hid (hf2.nint HP1.out fun b hb e => hb (.inr e))
   have H7A2 := Lib.hid (hf2.arr (keepA H7A.out hb1 H7A.out.lt) h7G)
   have H7N2 := Lib.hid (hf2.nint (H7N.out.below hb1) fun b hb e => hb (.inr e))
   have HCL := Lib.hid (HIH.out (xs.set j n) s1 s2 WA hA2 (by rw [List.length_set]; exact HXL.out) (fun i hi => by
    have h := HZL.out i hi
    unfold gz List.getD at h ⊢
    rw [List.getElem?_set_ne (by omega)]
    exact h) HS2.out)
   clear hWA hA2 hf2 hA1 hfz hxl2 HPA HPN H7A H7N HA HFR r0 r1 f0 f1 q0 q1 g0 g1
   go_upto_region 20 with (fail)
   rw [← HWA.out]
   go_upto_region 18 with (go_at_call 189; go_must (refine HCL.out.mono ?_); rintro e w2 ⟨rfl, hA3, hF3⟩; have HPA3 := hF3.arr HPA2.out (HZ.out P hPw); obtain ⟨r0, r1, f0, f1⟩ := HPA3.c2)
   obtain ⟨W3, hW3⟩ : ∃ V, V = w2.alloc (.cells #[.bool nb, .slice Ab mb cb] 40) := ⟨_, rfl⟩
   obtain ⟨PN, hPNe⟩ : ∃ B, B = w2.heap.size := ⟨_, rfl⟩
   rw [← hW3, ← hPNe]
   have hb3 : Below w2.heap.size w2 W3 := by rw [hW3]; exact (Below.refl _ _).alloc (Nat.le_refl _) _
   have hAN : Arr W3 PN 40 [.bool nb, .slice Ab mb cb] := by rw [hW3, hPNe]; exact Arr.new w2 _ [.bool nb, .slice Ab mb cb]
   have h02 : w0.heap.size ≤ w2.heap.size := Nat.le_trans HF2.out.size hF3.size
   have hPN0 : w0.heap.size ≤ PN := by rw [hPNe]; exact h02
   have hBN : Bx W3 PN p.N n := ⟨nb, Ab, mb, cb, hAN, (hF3.nint HPN2.out fun b hb => hb).below hb3⟩
   have h7l : P7 < w2.heap.size := Nat.lt_of_lt_of_le H7A2.out.lt hF3.size
   have hB7 : Bx W3 P7 p.N high := Bx.below ⟨n7, A7, m7, c7, hF3.arr H7A2.out (HZ.out P7 h7w), hF3.nint H7N2.out fun b hb => hb⟩ hb3
   have hNe : P7 ≠ PN := by rw [hPNe]; exact Nat.ne_of_lt h7l
   have hA4 := WkP.below HY.out hA3 hb3
   have hF4 := (HF2.out.trans hF3).over hb3
   have hNG : p.GX ≠ PN := by
    have : p.GX < w2.heap.size := (hA3.X.lt (g := p.GX) rfl).2
    omega
   have HBN := Lib.hid hBN
   have HB7 := Lib.hid hB7
   have HA4 := Lib.hid hA4
   have HF4 := Lib.hid hF4
   have hW30 : w0.heap.size ≤ W3.heap.size := Nat.le_trans h02 hb3.size
   have hl3 : wl n.natAbs ≤ 100000 := by omega
   clear hW3 hPNe hAN hBN hB7 hA4 hF4 hA3 hF3 HPA3 r0 r1 f0 f1 hb3 ek
   refine reg18 HBN.out.bt hl3 ?_
   intro w4 u7 u8 u9 hB4 hf4
   rename_i K hK
   refine hK _ _ ?_
   go_wp2_with fail
   go_roundg m
   case measure => omega
   case rel =>
    refine ⟨PN, n + 1, n, s2, rfl, hPN0, hNe, Bx.mono hB4 fun b hb _ => HZ.out b (Nat.le_trans hW30 hb), HB7.out.other HBN.out.bt hf4 hNe, HM2, by omega, HW1.out, HS3, HF4.out.past hf4 (fun b e => by rw [e]; exact hPN0), HA4.out.X.other HBN.out.bt hf4 ?_, HY.out.stable _ _ _ HA4.out.V (hf4.mono fun b _ e => ⟨e ▸ Nat.le_trans HA0.out.SB hPN0, fun hm => HBN.out.bt.no64 (e ▸ hm)⟩)⟩
    intro e
    have e : some p.GX = some PN := e
    injection e with e
    exact hNG e
end Go.Proofs.YtdjpeimecfhdjaaGreat

namespace Go.Proofs.YtdjpeimecfhdjaaGreat
open Go.RowKit
theorem WkA.other {σ : Type} {p : WkP} {k : Nat} {Inv : σ → World → Prop} {step : List Int → Int → σ → Option σ} (Y : Yielder k p.l p.B p.M Inv step) {s0 s : σ} {xs0 xs : List Int} {w0 w w' : World} {P : Nat} {x : Int} (h0 : WkA p Inv s0 xs0 w0) (hA : WkA p Inv s xs w) (hF : FrZ p.B p.Z w0 w) (hPw : w0.heap.size ≤ P) (hP : BT w P x) (hf : Frm (· = P) w w') : WkA p Inv s xs w' ∧ FrZ p.B p.Z w0 w' := by
 have h2 : FrZ p.B p.Z w0 w' := hF.past hf fun b e => by rw [e]; exact hPw
 have hN := WkP.lt Y h0 P hPw
 refine ⟨⟨h0.I.keep h2, hA.X.other hP hf fun e => ?_, Y.stable _ _ _ hA.V (hf.mono fun b _ e => ⟨e ▸ Nat.le_trans h0.SB hPw, fun hm => hP.no64 (e ▸ hm)⟩), hA.G, hA.GB, Nat.le_trans h0.SB h2.size⟩, h2⟩
 have e : some p.GX = some P := e
 injection e with e
 exact hN (.inr e.symm)
theorem wl_rsS {g : List (List Int)} {x : List Int} (hg : fitM g = true) (hx : fitR x = true) (j t : Nat) : wl (rsS g x j t).natAbs ≤ 9000 + t := by
 induction t with
 | zero => unfold rsS; rw [wl_zero0]; omega
 | succ t ih =>
  unfold rsS
  have h1 := wl_addI (rsS g x j t) (gm g 0 (t + 1) * gz x (j + 1 + t))
  have h2 := wl_mulI (gm g 0 (t + 1)) (gz x (j + 1 + t))
  have h3 := fit_wl (fitM_gm hg 0 (t + 1))
  have h4 := fit_wl (fitR_gz hx (j + 1 + t))
  omega
theorem wl_mono {m n : Nat} (h : m ≤ n) : wl m ≤ wl n := dig_length_le (by omega) (Nat.lt_of_le_of_lt h (by
 have := val_lt (b := 4294967296) (l := dig 4294967296 n) (dig_lt (by omega) n)
 rw [val_dig_w] at this
 exact this))
theorem ndRoom_last {G : List (List Int)} {b : Int} {x : List Int} {j : Nat} (h : x.length ≤ j + 1) : ndRoom G b x j = gm (gS G j) 0 0 * bS G b j := by
 unfold ndRoom
 rw [List.drop_eq_nil_of_le h]
 show _ - 0 = _
 omega
set_option maxRecDepth 100000 in
set_option maxHeartbeats 4000000 in
theorem node_any {σ : Type} {p : WkP} {k : Nat} {Inv : σ → World → Prop} {step : List Int → Int → σ → Option σ} (Y : Yielder k p.l p.B p.M Inv step) (hS : WkS p) {j : Nat} (hj : j < p.n)
  (IH : ∀ (xs : List Int) (s s' : σ) (w : World), WkA p Inv s xs w → xs.length = p.n → (∀ i, i < j → gz xs i = 0) → wkW p.T p.H p.b step j xs s = some s' → Calls Tryz.prog 189 #[.int .i64 ((j : Int) - 1), .pointer (some ⟨p.y, 0, none⟩), .pointer (some ⟨p.x, 0, none⟩), .pointer (some ⟨p.t, 0, none⟩), .pointer (some ⟨p.h, 0, none⟩), .pointer (some ⟨p.a, 0, none⟩), .pointer (some ⟨p.k, 0, none⟩)] w (WkPost p Inv s' xs w))
  {s s' : σ} {xs : List Int} {w : World} (hA : WkA p Inv s xs w) (hl : xs.length = p.n) (hz : ∀ i, i < j + 1 → gz xs i = 0) (hw : wkW p.T p.H p.b step (j + 1) xs s = some s') :
  Calls Tryz.prog 189 #[.int .i64 (j : Nat), .pointer (some ⟨p.y, 0, none⟩), .pointer (some ⟨p.x, 0, none⟩), .pointer (some ⟨p.t, 0, none⟩), .pointer (some ⟨p.h, 0, none⟩), .pointer (some ⟨p.a, 0, none⟩), .pointer (some ⟨p.k, 0, none⟩)] w (WkPost p Inv s' xs w) := by
 obtain ⟨hok, hlp⟩ := wkW_succ hw
 obtain ⟨hf0, hr0, hrt1, hrt2, hfx, hfl, hfh⟩ := ndOK_iff hok
 have HY := Lib.hid Y
 have HIH := Lib.hid IH
 have HA := Lib.hid hA
 have HS := Lib.hid hS
 have HZL := Lib.hid (show ∀ i, i < j → gz xs i = 0 from fun i hi => hz i (by omega))
 have HZJ := Lib.hid (hz j (by omega))
 have HXL := Lib.hid hl
 have HFX := Lib.hid hfx
 have HFL : Hid (∀ _ : Unit, fit (ndLow p.H p.b xs j) = true) := Lib.hid fun _ => hfl
 have HFH : Hid (∀ _ : Unit, fit (ndHigh p.H p.b xs j) = true) := Lib.hid fun _ => hfh
 have HLP := Lib.hid hlp
 have HRT := Lib.hid (And.intro hr0 (And.intro hrt1 hrt2))
 have cx := hA.I.cx
 have ca := hA.I.ca
 obtain ⟨bA, offA, A1, q1, c1, nst, Bst, mst, kst, eA, k2, k3, k4, hG, hB⟩ := hA.I.A.at (stL_at (g := p.H) (b := p.b) hj)
 rw [eA] at ca
 replace hG : RowsD PvD w p.N (.slice A1 q1 c1) (gS p.H j) := hG
 replace hB : NIntV w p.N (.agg #[.bool nst, .slice Bst mst kst]) (bS p.H p.b j) := hB
 have hshp := gS_shp (RowsD.room hA.I.H).1.symm hS.H j
 have hq1 : q1 = p.n - j := by rw [(RowsD.room hG).1, hshp.1]
 have hq0 : (0 : Int) < (q1 : Int) := by omega
 have hft := hS.fit j hj
 have hrl : (rw_ (gS p.H j) 0).length = p.n - j := hshp.2 _ (rw_mem (by rw [hshp.1]; omega))
 obtain ⟨bM, offM, u, eM, hcu, hu⟩ := RowsD.at hG (rw_some (L := gS p.H j) (i := 0) (by rw [hshp.1]; omega))
 obtain ⟨Au, cu, rfl⟩ := hu.slice_
 rw [hrl] at hcu hu
 obtain ⟨bu, ou, eu, hgc⟩ := PvD.all hu (by omega)
 obtain ⟨ng, Ag, mg, cg, g1, g2, g3⟩ := hgc 0 (by omega)
 subst eM eu
 rw [Nat.add_zero] at hcu
 rw [Nat.zero_mul, Nat.add_zero] at g1 g2
 clear hgc eA
 have hn1 := hS.n1
 have hnj : (0 : Int) < ((p.n - j : Nat) : Int) := by omega
 have hbW1 : Below w.heap.size w (w.alloc (.cells #[.slice (some ⟨bM, offM, none⟩) q1 c1, .bool nst, .slice Bst mst kst] 223)) := (Below.refl _ _).alloc (Nat.le_refl _) _
 have hcu1 := keepB hbW1 hcu
 have g11 := keepB hbW1 g1
 have g12 := keepB hbW1 g2
 obtain ⟨S9, h9⟩ : ∃ S9, S9 = w.heap.size := ⟨_, rfl⟩
 obtain ⟨S10, h10⟩ : ∃ S10, S10 = w.heap.size + 1 := ⟨_, rfl⟩
 obtain ⟨W2, hW2⟩ : ∃ V, V = (w.alloc (.cells #[.slice (some ⟨bM, offM, none⟩) q1 c1, .bool nst, .slice Bst mst kst] 223)).alloc (.cells #[.bool ng, .slice Ag mg cg] 40) := ⟨_, rfl⟩
 have hb2 : Below w.heap.size w W2 := by rw [hW2]; exact hbW1.alloc (by simp) _
 have h9A : Arr W2 S9 223 [.slice (some ⟨bM, offM, none⟩) q1 c1, .bool nst, .slice Bst mst kst] := by rw [hW2, h9]; exact (Arr.new w _ [.slice (some ⟨bM, offM, none⟩) q1 c1, .bool nst, .slice Bst mst kst]).alloc _
 have h10A : Arr W2 S10 40 [.bool ng, .slice Ag mg cg] := by
  rw [hW2, h10]
  have := Arr.new (w.alloc (.cells #[.slice (some ⟨bM, offM, none⟩) q1 c1, .bool nst, .slice Bst mst kst] 223)) 40 [.bool ng, .slice Ag mg cg]
  simpa using this
 have a1 : (0 : Int) ≤ (j : Int) := by omega
 have a2 : (j : Int) < (p.n : Int) := by omega
 have hwf : wl (gz (rw_ (gS p.H j) 0) 0).natAbs ≤ 4000 := fit_wl (fitM_gm hft.1 0 0)
 have hwb := fit_wl hft.2
 have HMUL := Lib.hid (Mul_any (g3.below hb2).int (hB.below hb2).int (by omega) (by omega))
 have H9 := Lib.hid h9
 have H10 := Lib.hid h10
 have HW2 := Lib.hid hW2
 have HG := Lib.hid hG
 have HFT := Lib.hid hft.1
 have HB2 := Lib.hid hb2
 have H9A := Lib.hid h9A
 have H10A := Lib.hid h10A
 have HNF := Lib.hid (g3.below hb2)
 have HRL := Lib.hid hrl
 have HQ1 := Lib.hid hq1
 have HWM := Lib.hid (show wl (gz (rw_ (gS p.H j) 0) 0 * bS p.H p.b j).natAbs ≤ 9000 by have := wl_mulI (gz (rw_ (gS p.H j) 0) 0) (bS p.H p.b j); omega)
 have HWF := Lib.hid hwf
 clear hok hlp hr0 hrt1 hrt2 hfx hfl hfh Y IH hA hS hz hw hl hG hB hshp hft hrl hu g3 h9 h10 hW2 hb2 h9A h10A hwf hwb hq1 hbW1
 go_enter Tryz.func189, Tryz.ntmps189
 go_upto_region 5 with (fail)
 rw [← H10.out, ← H9.out]
 rw [← HW2.out]
 have s0 := H9A.out.cell 0
 have s1 := H9A.out.cell 1
 have s2 := H9A.out.cell 2
 obtain ⟨f0, f1, f2, f3⟩ := H10A.out.c2
 go_upto_region 6 with (go_at_call 101; go_must (refine HMUL.out.mono ?_); rintro e W3 ⟨v3, rfl, hx3, hb3⟩; obtain ⟨n3, A3, m3, c3, rfl, hx3⟩ := hx3.shp)
 obtain ⟨P11, h11e⟩ : ∃ B, B = W3.heap.size := ⟨_, rfl⟩
 obtain ⟨P12, h12e⟩ : ∃ B, B = W3.heap.size + 1 := ⟨_, rfl⟩
 obtain ⟨W4, hW4⟩ : ∃ V, V = (W3.alloc (.cells #[.bool n3, .slice A3 m3 c3] 40)).alloc (.cells #[.bool false, .slice none 0 0] 40) := ⟨_, rfl⟩
 rw [← h12e, ← h11e]
 rw [← hW4]
 have hb34 : Below W3.heap.size W3 W4 := by rw [hW4]; exact ((Below.refl _ _).alloc (Nat.le_refl _) _).alloc (by simp) _
 have h11A : Arr W4 P11 40 [.bool n3, .slice A3 m3 c3] := by rw [hW4, h11e]; exact (Arr.new W3 _ [.bool n3, .slice A3 m3 c3]).alloc _
 have h12A : Arr W4 P12 40 [.bool false, .slice none 0 0] := by
  rw [hW4, h12e]
  have := Arr.new (W3.alloc (.cells #[.bool n3, .slice A3 m3 c3] 40)) 40 [.bool false, .slice none 0 0]
  simpa using this
 have hb24 : Below W2.heap.size W2 W4 := hb3.trans (hb34.mono hb3.size)
 have hb04 : Below w.heap.size w W4 := HB2.out.trans (hb24.mono HB2.out.size)
 have h11 : BT W4 P11 (gm (gS p.H j) 0 0 * bS p.H p.b j) := ⟨n3, A3, m3, c3, h11A, (hx3.below hb34).mono fun _ _ _ => trivial⟩
 have h12 : BT W4 P12 0 := ⟨_, _, _, _, h12A, NIntV.zero _ _⟩
 have hFB : BT W4 S10 (gm (gS p.H j) 0 0) := ⟨ng, Ag, mg, cg, keepA H10A.out hb24 H10A.out.lt, (HNF.out.below hb24).mono fun _ _ _ => trivial⟩
 have h9A4 := keepA H9A.out hb24 H9A.out.lt
 have hAT := WkP.below HY.out HA.out hb04
 have hFT : FrZ p.B p.Z w W4 := FrZ.of_below hb04
 have h9l : S9 < W3.heap.size := Nat.lt_of_lt_of_le H9A.out.lt hb3.size
 have h10l : S10 < W3.heap.size := Nat.lt_of_lt_of_le H10A.out.lt hb3.size
 have h03 : w.heap.size ≤ W3.heap.size := Nat.le_trans HB2.out.size hb3.size
 have h11w : w.heap.size ≤ P11 := by omega
 have h12w : w.heap.size ≤ P12 := by omega
 have hx1112 : P11 ≠ P12 := by omega
 have hx1011 : S10 ≠ P11 := by omega
 have hx1012 : S10 ≠ P12 := by omega
 have hx911 : S9 ≠ P11 := by omega
 have hx912 : S9 ≠ P12 := by omega
 clear h11e h12e hW4 hb34 h11A h12A hb24 hb04 hx3 hb3 s0 s1 s2 f0 f1 f2 f3 h9l h10l h03 cx
 have cx := hAT.I.cx
 replace ca := hAT.I.ca
 have HRS := Lib.hid (wl_rsS HFT.out HFX.out j)
 rcases Nat.lt_or_ge (j + 1) p.n with hJ | hJ
 ·obtain ⟨J, hJe⟩ : ∃ J, J = j + 1 := ⟨_, rfl⟩
  have HJ := Lib.hid hJe
  have hJi : (j : Int) + 1 < (p.n : Int) := by omega
  have hJn : J < p.n := by omega
  have HWR : Hid (wl (ndRoom p.H p.b xs j).natAbs ≤ 1100000) := Lib.hid (by
   have h1 := wl_addI (gm (gS p.H j) 0 0 * bS p.H p.b j) (-(vl (gS p.H (j + 1)) (xs.drop (j + 1)) (xs.drop (j + 1))))
   have h2 := wl_vl (HS.out.fit (j + 1) hJ).1 (fitR_drop HFX.out (j + 1)) (by rw [List.length_drop, HXL.out]; omega)
   have h3 := HWM.out
   have h4 := wl_neg (vl (gS p.H (j + 1)) (xs.drop (j + 1)) (xs.drop (j + 1)))
   rw [← Int.sub_eq_add_neg] at h1
   unfold ndRoom
   unfold gm at h1 ⊢
   omega)
  have HROOM : Hid (gm (gS p.H j) 0 0 * bS p.H p.b j - vl (gS p.H J) (xs.drop J) (xs.drop J) = ndRoom p.H p.b xs j) := Lib.hid (by rw [hJe]; rfl)
  have H11 := Lib.hid h11
  have H12 := Lib.hid h12
  have HFB := Lib.hid hFB
  have HAT := Lib.hid hAT
  have HFT2 := Lib.hid hFT
  have H94 := Lib.hid h9A4
  have hw11 : wl (gm (gS p.H j) 0 0 * bS p.H p.b j).natAbs ≤ 100000 := by have := HWM.out; unfold gm; omega
  have HAX : Hid (PvD W4 (fun _ => True) (.slice (some ⟨p.GX, 0, none⟩) p.n p.n) xs) := Lib.hid (hAT.X.pvd fun _ _ => trivial)
  clear hJe h11 h12 hFB hAT hFT h9A4
  go_upto_region 7 with (fail)
  refine reg7 (p := p) (xs := xs) (j := j) (J := J) HAT.out.I HAX.out HS.out HJ hJn H11.out hw11 HFX.out ?_
  intro w7 t1 t2 t3 t4 t5 t6 t7 t8 t9 t10 t11 t12 t13 t14 t15 t16 t17 hB11 hf7
  rename_i K hK
  refine hK _ _ ?_
  rw [HROOM.out] at hB11
  obtain ⟨hA7, hF7⟩ := WkA.other HY.out HA.out HAT.out HFT2.out h11w H11.out hf7
  have h127 := H12.out.other H11.out hf7 (fun e => hx1112 e.symm)
  have hFB7 := HFB.out.other H11.out hf7 hx1011
  have h97 := hf7.arr H94.out hx911
  have HB11 := Lib.hid hB11.bt
  have HFB7 := Lib.hid hFB7
  have H97 := Lib.hid h97
  have HA7 := Lib.hid hA7
  have HF7 := Lib.hid hF7
  have H127 := Lib.hid h127
  clear hB11 hf7 hA7 hF7 h127 hFB7 h97 H11 H12 HFB HAT HFT2 H94 HAX cx ca
  go_wp2_with fail
  go_loopw [13] (fun kv wr => ∃ t : Nat, kv = .int .i64 ((J + t : Nat) : Int) ∧ J + t ≤ p.n ∧ BT wr P12 (rsS (gS p.H j) xs j t) ∧ Frm (· = P12) w7 wr) (fun kv _ => p.n - (intOf kv).toNat)
  case atStart => exact ⟨0, by have := HJ.out; first | rfl | (congr 1; omega), by omega, H127.out, Frm.refl _ _⟩
  case round =>
   obtain ⟨t, rfl, htn, hB12, hfr⟩ := hrel
   obtain ⟨kk, hkk⟩ : ∃ kk, kk = J + t := ⟨_, rfl⟩
   rw [← hkk]
   have hKK := Lib.hid (show kk = j + (t + 1) by have := HJ.out; omega)
   have HKT := Lib.hid hkk
   obtain ⟨hAr, hFr⟩ := WkA.other HY.out HA.out HA7.out HF7.out h12w H127.out hfr
   have hFBr := HFB7.out.other H127.out hfr hx1012
   have h11r := HB11.out.other H127.out hfr hx1112
   have h9r := hfr.arr H97.out hx912
   have cx := hAr.I.cx
   rcases Nat.lt_or_ge kk p.n with hk | hk
   ·have hki : (kk : Int) < (p.n : Int) := by omega
    have h90 : wr.cell? ⟨S9, 0, none⟩ = some (.slice (some ⟨bM, offM, none⟩) q1 c1) := h9r.cell 0
    have HGr := Lib.hid (RowsD.t ((hAr.I.A.at (stL_at (g := p.H) (b := p.b) hj)) |> fun _ => (FrZ.rows (O := p.Z) hFr HG.out fun _ h => h)))
    have HAXr : Hid (PvD wr (fun _ => True) (.slice (some ⟨p.GX, 0, none⟩) p.n p.n) xs) := Lib.hid (hAr.X.pvd fun _ _ => trivial)
    have HIr := Lib.hid hAr.I
    have HBr := Lib.hid hB12
    have hwr : wl (rsS (gS p.H j) xs j t).natAbs ≤ 100000 := by have := HRS.out t; omega
    have htl : t + 1 < p.n - j := by have := hKK.out; omega
    have hq1p : 0 < q1 := by omega
    have HSTEP := Lib.hid (show rsS (gS p.H j) xs j t + gm (gS p.H j) 0 (t + 1) * gz xs kk = rsS (gS p.H j) xs j (t + 1) by
     rw [show kk = j + 1 + t by have := hKK.out; omega]
     rfl)
    have HFRR := Lib.hid hfr
    have hkJ : J + (t + 1) ≤ p.n := by have := HKT.out; omega
    clear hkk hAr hFr hFBr h11r h9r hB12 hfr
    go_upto_region 11 with (fail)
    refine reg11 (p := p) (xs := xs) (t := t + 1) (n := p.n - j) HIr.out HAXr.out HS.out hKK htl hk h90 HGr.out hq1p HRL.out HFT.out HBr.out hwr HFX.out ?_
    intro w8 t1 t2 t3 t4 t5 t6 t7 t8 t9 t10 t11 t12 t13 t14 t15 t16 hB8 hf8
    rename_i K hK
    refine hK _ _ ?_
    rw [HSTEP.out] at hB8
    go_wp2_with fail
    go_roundw
    case rel => exact ⟨t + 1, by have := HKT.out; first | rfl | (congr 1; omega), hkJ, hB8.bt, HFRR.out.trans hf8⟩
    case measure => simp [intOf]; omega
   ·have hki : ¬ (kk : Int) < (p.n : Int) := by omega
    have hkk2 : ¬ kk < p.n := by omega
    have HREST : Hid (rsS (gS p.H j) xs j t = ndRest p.H xs j) := Lib.hid (by
     unfold ndRest
     rw [HXL.out, show p.n - 1 - j = t by have := hKK.out; have := HKT.out; omega])
    rw [HREST.out] at hB12
    have HWS : Hid (wl (ndRest p.H xs j).natAbs ≤ 50000) := Lib.hid (by rw [← HREST.out]; have := HRS.out t; have := hKK.out; omega)
    have HF0 := Lib.hid hf0
    obtain ⟨WT, rfl⟩ : ∃ V, V = wr := ⟨_, rfl⟩
    have h11 := h11r
    have h12 := hB12
    have hFB := hFBr
    have hAT := hAr
    have hFT := hFr
    clear hkk h11r hB12 hFBr hAr hFr h9r hfr HFB7 H97 HA7 HF7 H127 HB11
    obtain ⟨nr, Ar, mr, cr, hPr, hNr⟩ := h11
    obtain ⟨r0, r1, _, _⟩ := hPr.c2
    have HRR := Lib.hid (Root_any (w := WT) (m := (ndRoom p.H p.b xs j).toNat) (by rw [Int.toNat_of_nonneg HRT.out.1]; exact hNr) (by rw [show (ndRoom p.H p.b xs j).toNat = (ndRoom p.H p.b xs j).natAbs by have := HRT.out.1; omega]; have := HWR.out; omega))
    have H12 := Lib.hid h12
    have HFB := Lib.hid hFB
    have HAT := Lib.hid hAT
    have HFT2 := Lib.hid hFT
    have HWT := Lib.hid (show w.heap.size ≤ WT.heap.size from hFT.size)
    clear h12 hFB hAT hFT hNr hPr
    go_upto_region 15 with (go_at_call 191; go_must (refine HRR.out.mono ?_); rintro e W5 ⟨v5, rt, rfl, hx5, hb5, hrt1, hrt2⟩; obtain ⟨n5, A5, m5, c5, rfl, hx5⟩ := hx5.shp)
    obtain ⟨P14, h14⟩ : ∃ B, B = W5.heap.size := ⟨_, rfl⟩
    obtain ⟨W6, hW6⟩ : ∃ V, V = W5.alloc (.cells #[.bool n5, .slice A5 m5 c5] 40) := ⟨_, rfl⟩
    rw [← h14, ← hW6]
    have hb6 : Below W5.heap.size W5 W6 := by rw [hW6]; exact (Below.refl _ _).alloc (Nat.le_refl _) _
    have h14A : Arr W6 P14 40 [.bool n5, .slice A5 m5 c5] := by rw [hW6, h14]; exact Arr.new W5 _ [.bool n5, .slice A5 m5 c5]
    have hrt : (rt : Int) = (ndRt p.H p.b xs j : Int) := by rw [root_unique hrt1 hrt2 HRT.out.2.1 HRT.out.2.2]
    have hB14 : BT W6 P14 (ndRt p.H p.b xs j) := ⟨n5, A5, m5, c5, h14A, (hx5.below hb6).mono (fun _ _ _ => trivial) |>.cast hrt⟩
    have hbT6 : Below WT.heap.size WT W6 := hb5.trans (hb6.mono hb5.size)
    have hAT6 := WkP.below HY.out HAT.out hbT6
    have hFT6 := HFT2.out.over hbT6
    have hwt : wl (ndRt p.H p.b xs j : Int).natAbs ≤ 2000000 := by
     have h1 : wl (ndRt p.H p.b xs j) ≤ wl (ndRoom p.H p.b xs j).toNat := wl_mono (Nat.le_trans (Nat.le_mul_self _) HRT.out.2.1)
     rw [show (ndRoom p.H p.b xs j).toNat = (ndRoom p.H p.b xs j).natAbs by have := HRT.out.1; omega] at h1
     have := HWR.out
     rw [Int.natAbs_natCast]
     omega
    have HAT6 := Lib.hid hAT6
    have HFT6 := Lib.hid hFT6
    have h6w : w.heap.size ≤ W6.heap.size := hFT6.size
    have hF6 := HFB.out.below hbT6
    have hR6 := H12.out.below hbT6
    clear h14 hW6 hb6 h14A hx5 hrt1 hrt2 hrt hb5 hbT6 hAT6 hFT6 r0 r1
    refine reg15 hF6 hR6 hB14 HF0.out (by have := HWF.out; unfold gm; omega) (by have := HWS.out; omega) hwt ?_
    intro w7 P16 P17 t1 t2 t3 t4 t5 t6 t7 t8 t9 t10 t11 hB16 hB17 hne hw16 hw17 hb7
    rename_i K hK
    refine hK _ _ ?_
    have HA7 := Lib.hid (WkP.below HY.out HAT6.out hb7)
    have HF7 := Lib.hid (HFT6.out.over hb7)
    replace hB16 : Bx w7 P16 (W6.heap.size ≤ ·) (ndLow p.H p.b xs j) := hB16
    replace hB17 : Bx w7 P17 (W6.heap.size ≤ ·) (ndHigh p.H p.b xs j) := hB17
    obtain ⟨n6, A6, m6, c6, h16A, h16N⟩ := hB16
    obtain ⟨l0, l1, _, _⟩ := h16A.c2
    obtain ⟨P18, h18⟩ : ∃ B, B = w7.heap.size := ⟨_, rfl⟩
    obtain ⟨W8, hW8⟩ : ∃ V, V = w7.alloc (.cells #[.bool n6, .slice A6 m6 c6] 40) := ⟨_, rfl⟩
    have hb8 : Below w7.heap.size w7 W8 := by rw [hW8]; exact (Below.refl _ _).alloc (Nat.le_refl _) _
    have h18A : Arr W8 P18 40 [.bool n6, .slice A6 m6 c6] := by rw [hW8, h18]; exact Arr.new w7 _ [.bool n6, .slice A6 m6 c6]
    have h7w : w.heap.size ≤ w7.heap.size := Nat.le_trans h6w hb7.size
    have HNN : Hid (∀ b, w.heap.size ≤ b → p.N b) := Lib.hid (WkP.lt HY.out HA.out)
    have hB18 : Bx W8 P18 p.N (ndLow p.H p.b xs j) := ⟨n6, A6, m6, c6, h18A, (h16N.below hb8).mono fun b hb _ => HNN.out b (Nat.le_trans h6w hb)⟩
    have h17l : P17 < w7.heap.size := hB17.bt.lt
    have hB17' : Bx W8 P17 p.N (ndHigh p.H p.b xs j) := (hB17.below hb8).mono fun b hb _ => HNN.out b (Nat.le_trans h6w hb)
    have hne8 : P17 ≠ P18 := by rw [h18]; exact Nat.ne_of_lt h17l
    have h17w : w.heap.size ≤ P17 := Nat.le_trans h6w hw17
    have h18w : w.heap.size ≤ P18 := by rw [h18]; exact h7w
    have HA8 := Lib.hid (WkP.below HY.out HA7.out hb8)
    have HF8 := Lib.hid (HF7.out.over hb8)
    have H18 := Lib.hid h18
    have HW8 := Lib.hid hW8
    have HB18 := Lib.hid hB18
    have HB17 := Lib.hid hB17'
    clear h18 hW8 hb8 h18A hB18 hB17 hB17' h16A h16N hb7 hF6 hR6 hB14 hne
    go_upto_block 2 with (fail)
    rw [← H18.out]
    rw [← HW8.out]
    refine loop2_any HY.out HIH.out (xs := xs) (s := s) (s' := s') (w0 := w) (low := ndLow p.H p.b xs j) (high := ndHigh p.H p.b xs j) HA.out HXL.out hj hn1 HZL.out HF8.out HA8.out.X HA8.out.V HB17.out HB18.out h17w h18w hne8 (HFL.out ()) (HFH.out ()) HLP.out ?_
    intro w9 y z1 z2 z3 z4 z5 z6 z7 z8 z9 z10 z11 z12 z13 z14 z15 z16 z17 z18 z19 hA9 hF9
    rename_i K2 hK2
    refine hK2 _ _ ?_
    have cx9 := hA9.I.cx
    have hxl9 : j < (xs.set j y).length := by rw [List.length_set, HXL.out]; exact hj
    obtain ⟨gg, cap, eg, y2, y3, y4, y5, hfz, y6⟩ := hA9.X.at (by omega)
    injection eg with eg y7 y8
    injection eg with eg
    injection eg with eg y9 y10
    subst eg
    obtain ⟨nx, Bq, mx, kx, x0, x1, y11⟩ := y6 j hxl9
    have z0 := hfz (j * 2)
    have zz1 := hfz (j * 2 + 1)
    have hput := WkA.put HY.out hA9 (j := j) hxl9 (NIntV.zero w9 p.N)
    rw [set_back (by rw [HXL.out]; exact hj) HZJ.out] at hput
    obtain ⟨hA10, hf10⟩ := hput
    have HA10 := Lib.hid hA10
    have HF10 := Lib.hid (hF9.trans (FrZ.of (hf10.mono fun b _ e => .inr e)))
    clear y2 y3 y4 y5 y6 y7 y8 y9 y10 y11 hfz hA10 hf10 hA9 hF9 hxl9
    go_wp2_with fail
    go_ret
    exact ⟨rfl, HA10.out, HF10.out⟩
 ·have hJi : ¬ (j : Int) + 1 < (p.n : Int) := by omega
  have hJn2 : ¬ j + 1 < p.n := by omega
  have HRM := Lib.hid (show ndRoom p.H p.b xs j = gm (gS p.H j) 0 0 * bS p.H p.b j from ndRoom_last (by rw [HXL.out]; exact hJ))
  have HWR : Hid (wl (ndRoom p.H p.b xs j).natAbs ≤ 1100000) := Lib.hid (by rw [HRM.out]; have := HWM.out; unfold gm; omega)
  have HREST : Hid (ndRest p.H xs j = 0) := Lib.hid (by
   unfold ndRest
   rw [HXL.out, show p.n - 1 - j = 0 by omega]
   rfl)
  have HWS : Hid (wl (ndRest p.H xs j).natAbs ≤ 50000) := Lib.hid (by rw [HREST.out, wl_zero0]; omega)
  have HF0 := Lib.hid hf0
  rw [← HRM.out] at h11
  rw [← HREST.out] at h12
  obtain ⟨WT, rfl⟩ : ∃ V, V = W4 := ⟨_, rfl⟩
  clear h9A4
  obtain ⟨nr, Ar, mr, cr, hPr, hNr⟩ := h11
  obtain ⟨r0, r1, _, _⟩ := hPr.c2
  have HRR := Lib.hid (Root_any (w := WT) (m := (ndRoom p.H p.b xs j).toNat) (by rw [Int.toNat_of_nonneg HRT.out.1]; exact hNr) (by rw [show (ndRoom p.H p.b xs j).toNat = (ndRoom p.H p.b xs j).natAbs by have := HRT.out.1; omega]; have := HWR.out; omega))
  have H12 := Lib.hid h12
  have HFB := Lib.hid hFB
  have HAT := Lib.hid hAT
  have HFT2 := Lib.hid hFT
  have HWT := Lib.hid (show w.heap.size ≤ WT.heap.size from hFT.size)
  clear h12 hFB hAT hFT hNr hPr
  go_upto_region 15 with (go_at_call 191; go_must (refine HRR.out.mono ?_); rintro e W5 ⟨v5, rt, rfl, hx5, hb5, hrt1, hrt2⟩; obtain ⟨n5, A5, m5, c5, rfl, hx5⟩ := hx5.shp)
  obtain ⟨P14, h14⟩ : ∃ B, B = W5.heap.size := ⟨_, rfl⟩
  obtain ⟨W6, hW6⟩ : ∃ V, V = W5.alloc (.cells #[.bool n5, .slice A5 m5 c5] 40) := ⟨_, rfl⟩
  rw [← h14, ← hW6]
  have hb6 : Below W5.heap.size W5 W6 := by rw [hW6]; exact (Below.refl _ _).alloc (Nat.le_refl _) _
  have h14A : Arr W6 P14 40 [.bool n5, .slice A5 m5 c5] := by rw [hW6, h14]; exact Arr.new W5 _ [.bool n5, .slice A5 m5 c5]
  have hrt : (rt : Int) = (ndRt p.H p.b xs j : Int) := by rw [root_unique hrt1 hrt2 HRT.out.2.1 HRT.out.2.2]
  have hB14 : BT W6 P14 (ndRt p.H p.b xs j) := ⟨n5, A5, m5, c5, h14A, (hx5.below hb6).mono (fun _ _ _ => trivial) |>.cast hrt⟩
  have hbT6 : Below WT.heap.size WT W6 := hb5.trans (hb6.mono hb5.size)
  have hAT6 := WkP.below HY.out HAT.out hbT6
  have hFT6 := HFT2.out.over hbT6
  have hwt : wl (ndRt p.H p.b xs j : Int).natAbs ≤ 2000000 := by
   have h1 : wl (ndRt p.H p.b xs j) ≤ wl (ndRoom p.H p.b xs j).toNat := wl_mono (Nat.le_trans (Nat.le_mul_self _) HRT.out.2.1)
   rw [show (ndRoom p.H p.b xs j).toNat = (ndRoom p.H p.b xs j).natAbs by have := HRT.out.1; omega] at h1
   have := HWR.out
   rw [Int.natAbs_natCast]
   omega
  have HAT6 := Lib.hid hAT6
  have HFT6 := Lib.hid hFT6
  have h6w : w.heap.size ≤ W6.heap.size := hFT6.size
  have hF6 := HFB.out.below hbT6
  have hR6 := H12.out.below hbT6
  clear h14 hW6 hb6 h14A hx5 hrt1 hrt2 hrt hb5 hbT6 hAT6 hFT6 r0 r1
  refine reg15 hF6 hR6 hB14 HF0.out (by have := HWF.out; unfold gm; omega) (by have := HWS.out; omega) hwt ?_
  intro w7 P16 P17 t1 t2 t3 t4 t5 t6 t7 t8 t9 t10 t11 hB16 hB17 hne hw16 hw17 hb7
  rename_i K hK
  refine hK _ _ ?_
  have HA7 := Lib.hid (WkP.below HY.out HAT6.out hb7)
  have HF7 := Lib.hid (HFT6.out.over hb7)
  replace hB16 : Bx w7 P16 (W6.heap.size ≤ ·) (ndLow p.H p.b xs j) := hB16
  replace hB17 : Bx w7 P17 (W6.heap.size ≤ ·) (ndHigh p.H p.b xs j) := hB17
  obtain ⟨n6, A6, m6, c6, h16A, h16N⟩ := hB16
  obtain ⟨l0, l1, _, _⟩ := h16A.c2
  obtain ⟨P18, h18⟩ : ∃ B, B = w7.heap.size := ⟨_, rfl⟩
  obtain ⟨W8, hW8⟩ : ∃ V, V = w7.alloc (.cells #[.bool n6, .slice A6 m6 c6] 40) := ⟨_, rfl⟩
  have hb8 : Below w7.heap.size w7 W8 := by rw [hW8]; exact (Below.refl _ _).alloc (Nat.le_refl _) _
  have h18A : Arr W8 P18 40 [.bool n6, .slice A6 m6 c6] := by rw [hW8, h18]; exact Arr.new w7 _ [.bool n6, .slice A6 m6 c6]
  have h7w : w.heap.size ≤ w7.heap.size := Nat.le_trans h6w hb7.size
  have HNN : Hid (∀ b, w.heap.size ≤ b → p.N b) := Lib.hid (WkP.lt HY.out HA.out)
  have hB18 : Bx W8 P18 p.N (ndLow p.H p.b xs j) := ⟨n6, A6, m6, c6, h18A, (h16N.below hb8).mono fun b hb _ => HNN.out b (Nat.le_trans h6w hb)⟩
  have h17l : P17 < w7.heap.size := hB17.bt.lt
  have hB17' : Bx W8 P17 p.N (ndHigh p.H p.b xs j) := (hB17.below hb8).mono fun b hb _ => HNN.out b (Nat.le_trans h6w hb)
  have hne8 : P17 ≠ P18 := by rw [h18]; exact Nat.ne_of_lt h17l
  have h17w : w.heap.size ≤ P17 := Nat.le_trans h6w hw17
  have h18w : w.heap.size ≤ P18 := by rw [h18]; exact h7w
  have HA8 := Lib.hid (WkP.below HY.out HA7.out hb8)
  have HF8 := Lib.hid (HF7.out.over hb8)
  have H18 := Lib.hid h18
  have HW8 := Lib.hid hW8
  have HB18 := Lib.hid hB18
  have HB17 := Lib.hid hB17'
  clear h18 hW8 hb8 h18A hB18 hB17 hB17' h16A h16N hb7 hF6 hR6 hB14 hne
  go_upto_block 2 with (fail)
  rw [← H18.out]
  rw [← HW8.out]
  refine loop2_any HY.out HIH.out (xs := xs) (s := s) (s' := s') (w0 := w) (low := ndLow p.H p.b xs j) (high := ndHigh p.H p.b xs j) HA.out HXL.out hj hn1 HZL.out HF8.out HA8.out.X HA8.out.V HB17.out HB18.out h17w h18w hne8 (HFL.out ()) (HFH.out ()) HLP.out ?_
  intro w9 y z1 z2 z3 z4 z5 z6 z7 z8 z9 z10 z11 z12 z13 z14 z15 z16 z17 z18 z19 hA9 hF9
  rename_i K2 hK2
  refine hK2 _ _ ?_
  have cx9 := hA9.I.cx
  have hxl9 : j < (xs.set j y).length := by rw [List.length_set, HXL.out]; exact hj
  obtain ⟨gg, cap, eg, y2, y3, y4, y5, hfz, y6⟩ := hA9.X.at (by omega)
  injection eg with eg y7 y8
  injection eg with eg
  injection eg with eg y9 y10
  subst eg
  obtain ⟨nx, Bq, mx, kx, x0, x1, y11⟩ := y6 j hxl9
  have z0 := hfz (j * 2)
  have zz1 := hfz (j * 2 + 1)
  have hput := WkA.put HY.out hA9 (j := j) hxl9 (NIntV.zero w9 p.N)
  rw [set_back (by rw [HXL.out]; exact hj) HZJ.out] at hput
  obtain ⟨hA10, hf10⟩ := hput
  have HA10 := Lib.hid hA10
  have HF10 := Lib.hid (hF9.trans (FrZ.of (hf10.mono fun b _ e => .inr e)))
  clear y2 y3 y4 y5 y6 y7 y8 y9 y10 y11 hfz hA10 hf10 hA9 hF9 hxl9
  go_wp2_with fail
  go_ret
  exact ⟨rfl, HA10.out, HF10.out⟩
theorem walk_any {σ : Type} {p : WkP} {k : Nat} {Inv : σ → World → Prop} {step : List Int → Int → σ → Option σ} (Y : Yielder k p.l p.B p.M Inv step) (hS : WkS p) : ∀ (j : Nat), j ≤ p.n → ∀ (xs : List Int) (s s' : σ) (w : World), WkA p Inv s xs w → xs.length = p.n → (∀ i, i < j → gz xs i = 0) → wkW p.T p.H p.b step j xs s = some s' →
  Calls Tryz.prog 189 #[.int .i64 ((j : Int) - 1), .pointer (some ⟨p.y, 0, none⟩), .pointer (some ⟨p.x, 0, none⟩), .pointer (some ⟨p.t, 0, none⟩), .pointer (some ⟨p.h, 0, none⟩), .pointer (some ⟨p.a, 0, none⟩), .pointer (some ⟨p.k, 0, none⟩)] w (WkPost p Inv s' xs w)
 | 0, _, xs, s, s', w, hA, hl, _, hw => by
  obtain ⟨hf, hst⟩ := wkW_zero hw
  exact leaf_any Y hS hA hl hf hst
 | j + 1, hj, xs, s, s', w, hA, hl, hz, hw => by
  have h := node_any Y hS (by omega : j < p.n) (walk_any Y hS j (by omega)) hA hl hz hw
  rw [show (((j + 1 : Nat) : Int) - 1) = (j : Int) by omega]
  exact h
end Go.Proofs.YtdjpeimecfhdjaaGreat
