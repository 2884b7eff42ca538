/- Package wide: parts of Reduce: the scan of a column for its least element, two rows change places, multiples of a row taken from others. -/
import Derived.Test.YtdjpeimecfhdjaaGreatXf
namespace Go.Proofs.YtdjpeimecfhdjaaGreat
open Go.RowKit
noncomputable def redBlk (n : Nat) : Code := (blkOf n ((Tryz.f205.body).getD .skip)).getD .skip
noncomputable def redReg (n : Nat) : Code := (regOf n ((Tryz.f205.body).getD .skip)).getD .skip
theorem MatX.el {w : World} {base B q n : Nat} {us : List Value} {D : Nat → Prop} {L : List (List Int)} (h : MatX w base B us D L) (hs : Shp q n L) {i c : Nat} (hi : i < q) (hc : c < n) :
  ∃ g cap neg A m k, us[i]? = some (.slice (some ⟨g, 0, none⟩) n cap) ∧ w.cell? ⟨B, i, none⟩ = some (.slice (some ⟨g, 0, none⟩) n cap) ∧ n ≤ cap ∧ cap ≤ maxLen ∧ g < w.heap.size ∧ w.cell? ⟨g, c * 2, none⟩ = some (.bool neg) ∧ w.cell? ⟨g, c * 2 + 1, none⟩ = some (.slice A m k) ∧ NIntV w D (.agg #[.bool neg, .slice A m k]) (gm L i c) := by
 obtain ⟨u, h1, h2, h3⟩ := h.at (rw_some (L := L) (i := i) (by rw [hs.1]; exact hi))
 have hl := hs.rw hi
 obtain ⟨g, cap, rfl, h4, h5, h6, h7, _, h8⟩ := h3.at (by omega)
 rw [hl] at h1 h2 h6
 obtain ⟨neg, A, m, k, e0, e1, e2⟩ := h8 c (by omega)
 exact ⟨g, cap, neg, A, m, k, h1, h2, h6, h7, h5, e0, e1, e2⟩
theorem keepW {B : Nat} {W w1 : World} {P o : Nat} {u : Value} (hb : Below B W w1) (hP : P < B) (h : W.cell? ⟨P, o, none⟩ = some u) : w1.cell? ⟨P, o, none⟩ = some u := (hb.cell (p := ⟨P, o, none⟩) hP).trans h
set_option maxRecDepth 100000 in
set_option maxHeartbeats 8000000 in
theorem scan_loop {w : World} {Q : Exit → Act → World → Prop} {base B q n cp c r : Nat} {us : List Value} {D : Nat → Prop} {L : List (List Int)} {t1 t2 t3 t4 t10 t11 t12 t13 t14 t15 t16 t17 t18 t19 t20 t21 t22 t23 t24 t25 t26 t27 t28 t29 t30 t31 t32 t33 t34 t35 t36 t37 t38 t39 t40 t41 t42 t43 t44 t45 t46 t47 t48 t49 t50 t51 t52 t53 t54 t55 t56 t57 t58 t59 t60 t61 t62 t63 t64 t65 t66 t67 t68 t69 t70 t71 t72 t73 t74 t75 t76 t77 t78 t79 t80 t81 t82 t83 t84 t85 t86 t87 t88 t89 t90 t91 t92 t93 t94 t95 t96 t97 t98 t99 t100 t101 t102 t103 t104 t105 t106 t107 t108 t109 t110 t111 t112 t113 t114 t115 t116 t117 t118 t119 t120 t121 t122 t123 t124 t125 t126 t127 t128 t129 t130 t131 t132 t133 t134 t135 t136 t137 t138 t139 t140 t141 t142 t143 t144 t145 t146 t147 t148 t149 t150 t151 t152 t153 t154 t155 t156 t157 t158 t159 t160 t161 t162 t163 t164 t165 t166 t167 t168 t169 t170 t171 t172 t173 t174 t175 t176 t177 : Value}
  (hm : MatX w base B us D L) (hs : Shp q n L) (hf : fitM L = true) (hc : c < n) (hr : r ≤ q) (hq : q ≤ 1000000)
  (hQ : ∀ (w' : World) (u9 u24 u25 u26 u27 u28 u29 u30 u31 u32 u33 u34 u35 u36 u37 u38 u39 u40 u41 u42 u43 u44 u45 u46 u47 u48 u49 u50 u51 u52 u53 u54 u55 u56 u57 u58 u59 u60 u61 u62 : Value), Below w.heap.size w w' → Q .normal ⟨#[.slice (some ⟨B, 0, none⟩) q cp, t1, t2, t3, t4, .int .i64 (r : Nat), .int .i64 (c : Nat), .int .i64 (atI (scan L c r (q - r)).1), .int .i64 ((scan L c r (q - r)).2 : Nat), u9, t10, t11, t12, t13, t14, t15, t16, t17, t18, t19, t20, t21, t22, t23, u24, u25, u26, u27, u28, u29, u30, u31, u32, u33, u34, u35, u36, u37, u38, u39, u40, u41, u42, u43, u44, u45, u46, u47, u48, u49, u50, u51, u52, u53, u54, u55, u56, u57, u58, u59, u60, u61, u62, t63, t64, t65, t66, t67, t68, t69, t70, t71, t72, t73, t74, t75, t76, t77, t78, t79, t80, t81, t82, t83, t84, t85, t86, t87, t88, t89, t90, t91, t92, t93, t94, t95, t96, t97, t98, t99, t100, t101, t102, t103, t104, t105, t106, t107, t108, t109, t110, t111, t112, t113, t114, t115, t116, t117, t118, t119, t120, t121, t122, t123, t124, t125, t126, t127, t128, t129, t130, t131, t132, t133, t134, t135, t136, t137, t138, t139, t140, t141, t142, t143, t144, t145, t146, t147, t148, t149, t150, t151, t152, t153, t154, t155, t156, t157, t158, t159, t160, t161, t162, t163, t164, t165, t166, t167, t168, t169, t170, t171, t172, t173, t174, t175, t176, t177], []⟩ w') :
  (redBlk 4).wp Tryz.prog Q ⟨#[.slice (some ⟨B, 0, none⟩) q cp, t1, t2, t3, t4, .int .i64 (r : Nat), .int .i64 (c : Nat), .int .i64 (-1), .int .i64 0, .int .i64 (r : Nat), t10, t11, t12, t13, t14, t15, t16, t17, t18, t19, t20, t21, t22, t23, t24, t25, t26, t27, t28, t29, t30, t31, t32, t33, t34, t35, t36, t37, t38, t39, t40, t41, t42, t43, t44, t45, t46, t47, t48, t49, t50, t51, t52, t53, t54, t55, t56, t57, t58, t59, t60, t61, t62, t63, t64, t65, t66, t67, t68, t69, t70, t71, t72, t73, t74, t75, t76, t77, t78, t79, t80, t81, t82, t83, t84, t85, t86, t87, t88, t89, t90, t91, t92, t93, t94, t95, t96, t97, t98, t99, t100, t101, t102, t103, t104, t105, t106, t107, t108, t109, t110, t111, t112, t113, t114, t115, t116, t117, t118, t119, t120, t121, t122, t123, t124, t125, t126, t127, t128, t129, t130, t131, t132, t133, t134, t135, t136, t137, t138, t139, t140, t141, t142, t143, t144, t145, t146, t147, t148, t149, t150, t151, t152, t153, t154, t155, t156, t157, t158, t159, t160, t161, t162, t163, t164, t165, t166, t167, t168, t169, t170, t171, t172, t173, t174, t175, t176, t177], []⟩ w := by
 have HQ := Lib.hid hQ
 have HS := Lib.hid hs
 have HF := Lib.hid hf
 have HM := Lib.hid hm
 have hBl : B < w.heap.size := hm.lt
 clear hQ hs hf hm
 show Code.wp _ (Code.block 4 _) _ _ _
 go_wp2_with fail
 go_loopw [7, 8, 9] (fun av ov iv wr => ∃ j i : Nat, j ≤ q - r ∧ Hid (i = r + j) ∧ av = .int .i64 (atI (scan L c r j).1) ∧ ov = .int .i64 ((scan L c r j).2 : Nat) ∧ iv = .int .i64 (i : Nat) ∧ Below w.heap.size w wr) (fun _ _ iv _ => q - (intOf iv).toNat)
 case atStart => exact ⟨0, r, by omega, Lib.hid rfl, rfl, rfl, rfl, Below.refl _ _⟩
 case round =>
  obtain ⟨j, i, hj, HI, rfl, rfl, rfl, hb⟩ := hrel
  have hi := HI.out
  rcases Nat.lt_or_ge j (q - r) with hjq | hjq
  ·obtain ⟨g, cap, neg, A, m, k, h1, h2, hcap, hcm, hg, e0, e1, e2⟩ := HM.out.el HS.out (i := i) (c := c) (by omega) hc
   have k2 := keepW hb hBl h2
   have k0 := keepW hb hg e0
   have k1 := keepW hb hg e1
   have H2 := Lib.hid h2
   have H0 := Lib.hid e0
   have H1 := Lib.hid e1
   have hw1 := fit_wl (fitM_gm HF.out i c)
   have HZ := Lib.hid (fun w' (hb' : Below w.heap.size w w') => Zero_any (e2.below hb'))
   have HSZ := Lib.hid (fun w' (hb' : Below w.heap.size w w') => Size_any (e2.below hb').int (by omega))
   have a1 : (0 : Int) ≤ (i : Int) := by omega
   have a2 : (i : Int) < (q : Int) := by omega
   have a3 : (0 : Int) ≤ (c : Int) := by omega
   have a4 : (c : Int) < (n : Int) := by omega
   have hsc := scan_le L c r j
   have hEQ : scan L c r (j + 1) = if gm L i c = 0 then scan L c r j else (match (scan L c r j).1 with | none => some i | some a => if (gm L i c).natAbs < (gm L a c).natAbs then some i else some a, (scan L c r j).2 + 1) := by rw [hi]; rfl
   have hlt := @scan_lt L c r j
   have hwx : wl ((gm L i c).natAbs : Int).natAbs ≤ 4000 := by rw [Int.natAbs_natCast]; exact hw1
   have hi1 : i + 1 = r + (j + 1) := by omega
   have hjq2 : j + 1 ≤ q - r := by omega
   have hmz : q - (i + 1) < q - i := by omega
   have haq : ∀ a, a < r + j → a < q := fun a ha => by omega
   clear hi hjq h1 h2 e0 e1 e2 hcap hcm
   generalize hsv : scan L c r j = sv at *
   obtain ⟨oa, oc⟩ := sv
   clear hsv
   simp only at hEQ hlt hsc ⊢
   by_cases h0 : gm L i c = 0
   ·have HE := Lib.hid (hEQ.trans (if_pos h0))
    clear hEQ hlt
    go_wp2_with (go_at_call 166; go_must (refine (HZ.out _ hb).mono ?_); rintro e w3 ⟨rfl, hb3⟩)
    go_roundw
    case rel => exact ⟨j + 1, i + 1, hjq2, Lib.hid hi1, by rw [HE.out], by rw [HE.out], by go_num, hb.trans (hb3.mono hb.size)⟩
    case measure => simp only [intOf]; omega
   ·have HE := Lib.hid (hEQ.trans (if_neg h0))
    clear hEQ
    have hoc : IntKind.i64.wrap ((oc : Int) + 1) = ((oc + 1 : Nat) : Int) := IntWalk.i64_in _ (by omega)
    rcases oa with _ | a
    ·simp only [atI]
     have hdc : decide ((-1 : Int) < 0) = true := rfl
     clear hlt HSZ hw1 hwx haq
     go_wp2_with (go_at_call 166; go_must (refine (HZ.out _ hb).mono ?_); rintro e w3 ⟨rfl, hb3⟩)
     have hs0 : Below w.heap.size w w3.drew := (hb.trans (hb3.mono hb.size)).drew
     clear hb3 hb
     refine wp_region_trq (.read 0 (.read 1 (.read 2 (.read 3 (.read 4 (.read 5 (.read 6 (.read 7 (.read 8 (.read 9 (.read 11 (.read 12 (.read 13 (.read 14 (.read 15 (.read 16 (.read 17 (.step 10 (.step 18 (.step 19 (.read 20 (.read 21 .nil)))))))))))))))))))))) [] (by kernel_rfl) (by rfl) (by kernel_rfl) (by kernel_rfl) (fun W => Below w.heap.size w W) ?_
     change goG _ _ _ _ _ _ _ w3.drew
     refine goG_read 40 hs0 (by rfl) (by rfl) ?_ (by rfl) (fun wz hSw => ?_) ?_
     rotate_left
     ·go_simp
      try with_reducible rfl
     simp only [sIB, List.set]
     refine goG_read 41 hs0 (by rfl) (by rfl) ?_ (by rfl) (fun wz hSw => ?_) ?_
     rotate_left
     ·go_simp
      try with_reducible rfl
     simp only [sIB, List.set]
     refine goG_read 42 hs0 (by rfl) (by rfl) ?_ (by rfl) (fun wz hSw => ?_) ?_
     rotate_left
     ·go_simp
      try with_reducible rfl
     simp only [sIB, List.set]
     refine goG_skip 43 hs0 (by rfl) (by rfl) (by rfl) ?_
     simp only [sIB, List.set]
     refine goG_skip 44 hs0 (by rfl) (by rfl) (by rfl) ?_
     simp only [sIB, List.set]
     refine goG_skip 45 hs0 (by rfl) (by rfl) (by rfl) ?_
     simp only [sIB, List.set]
     refine goG_skip 46 hs0 (by rfl) (by rfl) (by rfl) ?_
     simp only [sIB, List.set]
     refine goG_skip 47 hs0 (by rfl) (by rfl) (by rfl) ?_
     simp only [sIB, List.set]
     refine goG_skip 48 hs0 (by rfl) (by rfl) (by rfl) ?_
     simp only [sIB, List.set]
     refine goG_skip 49 hs0 (by rfl) (by rfl) (by rfl) ?_
     simp only [sIB, List.set]
     refine goG_skip 51 hs0 (by rfl) (by rfl) (by rfl) ?_
     simp only [sIB, List.set]
     refine goG_skip 52 hs0 (by rfl) (by rfl) (by rfl) ?_
     simp only [sIB, List.set]
     refine goG_skip 53 hs0 (by rfl) (by rfl) (by rfl) ?_
     simp only [sIB, List.set]
     refine goG_skip 54 hs0 (by rfl) (by rfl) (by rfl) ?_
     simp only [sIB, List.set]
     refine goG_skip 55 hs0 (by rfl) (by rfl) (by rfl) ?_
     simp only [sIB, List.set]
     refine goG_skip 56 hs0 (by rfl) (by rfl) (by rfl) ?_
     simp only [sIB, List.set]
     refine goG_skip 57 hs0 (by rfl) (by rfl) (by rfl) ?_
     simp only [sIB, List.set]
     refine goG_stepSkip 50 hs0 (by rfl) (by rfl) (by rfl) ?_
     simp only [sIB, List.set]
     refine goG_stepSkip 58 hs0 (by rfl) (by rfl) (by rfl) ?_
     simp only [sIB, List.set]
     refine goG_stepSkip 59 hs0 (by rfl) (by rfl) (by rfl) ?_
     simp only [sIB, List.set]
     refine goG_skip 60 hs0 (by rfl) (by rfl) (by rfl) ?_
     simp only [sIB, List.set]
     refine goG_read 61 hs0 (by rfl) (by rfl) ?_ (by rfl) (fun wz hSw => ?_) ?_
     rotate_left
     ·go_simp
      try with_reducible rfl
     simp only [sIB, List.set]
     refine goG_nilN ?_
     go_wp2_with fail
     go_roundw
     case rel => exact ⟨j + 1, i + 1, hjq2, Lib.hid hi1, by rw [HE.out], by rw [HE.out]; go_num, by go_num, hs0⟩
     case measure => simp only [intOf]; omega
    ·simp only [atI]
     obtain ⟨ha1, ha2, ha3⟩ := hlt rfl
     have haq2 := haq a ha2
     obtain ⟨g', cap', neg', A', m', k', h1, h2, hcap, hcm, hg', e0, e1, e2⟩ := HM.out.el HS.out (i := a) (c := c) haq2 hc
     have G2 := Lib.hid h2
     have G0 := Lib.hid e0
     have G1 := Lib.hid e1
     have hw2 := fit_wl (fitM_gm HF.out a c)
     have hwy : wl ((gm L a c).natAbs : Int).natAbs ≤ 4000 := by rw [Int.natAbs_natCast]; exact hw2
     have HSZ2 := Lib.hid (fun w' (hb' : Below w.heap.size w w') => Size_any (e2.below hb').int (by omega))
     have a5 : (0 : Int) ≤ (a : Int) := by omega
     have a6 : (a : Int) < (q : Int) := by omega
     have a7 : ¬ (a : Int) < 0 := by omega
     clear h1 h2 e0 e1 e2 hcap hcm hlt haq ha1 ha2 ha3 haq2 hw1 hw2
     go_wp2_with (go_at_call 166; go_must (refine (HZ.out _ hb).mono ?_); rintro e w3 ⟨rfl, hb3⟩)
     have hs0 : Below w.heap.size w w3.drew := (hb.trans (hb3.mono hb.size)).drew
     clear hb3 hb
     refine wp_region_trq (.read 0 (.read 1 (.read 2 (.read 3 (.read 4 (.read 5 (.read 6 (.read 7 (.read 8 (.read 9 (.read 11 (.read 12 (.read 13 (.read 14 (.read 15 (.read 16 (.read 17 (.step 10 (.step 18 (.step 19 (.read 20 (.read 21 .nil)))))))))))))))))))))) [] (by kernel_rfl) (by rfl) (by kernel_rfl) (by kernel_rfl) (fun W => Below w.heap.size w W) ?_
     change goG _ _ _ _ _ _ _ w3.drew
     refine goG_read 40 hs0 (by rfl) (by rfl) ?_ (by rfl) (fun wz hSw => ?_) ?_
     rotate_left
     ·have y2 := keepW hSw hBl H2.out; have y0 := keepW hSw hg H0.out; have y1 := keepW hSw hg H1.out; have z2 := keepW hSw hBl G2.out; have z0 := keepW hSw hg' G0.out; have z1 := keepW hSw hg' G1.out; go_simp
      try with_reducible rfl
     simp only [sIB, List.set]
     refine goG_read 41 hs0 (by rfl) (by rfl) ?_ (by rfl) (fun wz hSw => ?_) ?_
     rotate_left
     ·have y2 := keepW hSw hBl H2.out; have y0 := keepW hSw hg H0.out; have y1 := keepW hSw hg H1.out; have z2 := keepW hSw hBl G2.out; have z0 := keepW hSw hg' G0.out; have z1 := keepW hSw hg' G1.out; go_simp
      try with_reducible rfl
     simp only [sIB, List.set]
     refine goG_read 42 hs0 (by rfl) (by rfl) ?_ (by rfl) (fun wz hSw => ?_) ?_
     rotate_left
     ·have y2 := keepW hSw hBl H2.out; have y0 := keepW hSw hg H0.out; have y1 := keepW hSw hg H1.out; have z2 := keepW hSw hBl G2.out; have z0 := keepW hSw hg' G0.out; have z1 := keepW hSw hg' G1.out; go_simp
      try with_reducible rfl
     simp only [sIB, List.set]
     refine goG_read 43 hs0 (by rfl) (by rfl) ?_ (by rfl) (fun wz hSw => ?_) ?_
     rotate_left
     ·have y2 := keepW hSw hBl H2.out; have y0 := keepW hSw hg H0.out; have y1 := keepW hSw hg H1.out; have z2 := keepW hSw hBl G2.out; have z0 := keepW hSw hg' G0.out; have z1 := keepW hSw hg' G1.out; go_simp
      try with_reducible rfl
     simp only [sIB, List.set]
     refine goG_read 44 hs0 (by rfl) (by rfl) ?_ (by rfl) (fun wz hSw => ?_) ?_
     rotate_left
     ·have y2 := keepW hSw hBl H2.out; have y0 := keepW hSw hg H0.out; have y1 := keepW hSw hg H1.out; have z2 := keepW hSw hBl G2.out; have z0 := keepW hSw hg' G0.out; have z1 := keepW hSw hg' G1.out; go_simp
      try with_reducible rfl
     simp only [sIB, List.set]
     refine goG_read 45 hs0 (by rfl) (by rfl) ?_ (by rfl) (fun wz hSw => ?_) ?_
     rotate_left
     ·have y2 := keepW hSw hBl H2.out; have y0 := keepW hSw hg H0.out; have y1 := keepW hSw hg H1.out; have z2 := keepW hSw hBl G2.out; have z0 := keepW hSw hg' G0.out; have z1 := keepW hSw hg' G1.out; go_simp
      try with_reducible rfl
     simp only [sIB, List.set]
     refine goG_read 46 hs0 (by rfl) (by rfl) ?_ (by rfl) (fun wz hSw => ?_) ?_
     rotate_left
     ·have y2 := keepW hSw hBl H2.out; have y0 := keepW hSw hg H0.out; have y1 := keepW hSw hg H1.out; have z2 := keepW hSw hBl G2.out; have z0 := keepW hSw hg' G0.out; have z1 := keepW hSw hg' G1.out; go_simp
      try with_reducible rfl
     simp only [sIB, List.set]
     refine goG_read 47 hs0 (by rfl) (by rfl) ?_ (by rfl) (fun wz hSw => ?_) ?_
     rotate_left
     ·have y2 := keepW hSw hBl H2.out; have y0 := keepW hSw hg H0.out; have y1 := keepW hSw hg H1.out; have z2 := keepW hSw hBl G2.out; have z0 := keepW hSw hg' G0.out; have z1 := keepW hSw hg' G1.out; go_simp
      try with_reducible rfl
     simp only [sIB, List.set]
     refine goG_read 48 hs0 (by rfl) (by rfl) ?_ (by rfl) (fun wz hSw => ?_) ?_
     rotate_left
     ·have y2 := keepW hSw hBl H2.out; have y0 := keepW hSw hg H0.out; have y1 := keepW hSw hg H1.out; have z2 := keepW hSw hBl G2.out; have z0 := keepW hSw hg' G0.out; have z1 := keepW hSw hg' G1.out; go_simp
      try with_reducible rfl
     simp only [sIB, List.set]
     refine goG_read 49 hs0 (by rfl) (by rfl) ?_ (by rfl) (fun wz hSw => ?_) ?_
     rotate_left
     ·have y2 := keepW hSw hBl H2.out; have y0 := keepW hSw hg H0.out; have y1 := keepW hSw hg H1.out; have z2 := keepW hSw hBl G2.out; have z0 := keepW hSw hg' G0.out; have z1 := keepW hSw hg' G1.out; go_simp
      try with_reducible rfl
     simp only [sIB, List.set]
     refine goG_read 51 hs0 (by rfl) (by rfl) ?_ (by rfl) (fun wz hSw => ?_) ?_
     rotate_left
     ·have y2 := keepW hSw hBl H2.out; have y0 := keepW hSw hg H0.out; have y1 := keepW hSw hg H1.out; have z2 := keepW hSw hBl G2.out; have z0 := keepW hSw hg' G0.out; have z1 := keepW hSw hg' G1.out; go_simp
      try with_reducible rfl
     simp only [sIB, List.set]
     refine goG_read 52 hs0 (by rfl) (by rfl) ?_ (by rfl) (fun wz hSw => ?_) ?_
     rotate_left
     ·have y2 := keepW hSw hBl H2.out; have y0 := keepW hSw hg H0.out; have y1 := keepW hSw hg H1.out; have z2 := keepW hSw hBl G2.out; have z0 := keepW hSw hg' G0.out; have z1 := keepW hSw hg' G1.out; go_simp
      try with_reducible rfl
     simp only [sIB, List.set]
     refine goG_read 53 hs0 (by rfl) (by rfl) ?_ (by rfl) (fun wz hSw => ?_) ?_
     rotate_left
     ·have y2 := keepW hSw hBl H2.out; have y0 := keepW hSw hg H0.out; have y1 := keepW hSw hg H1.out; have z2 := keepW hSw hBl G2.out; have z0 := keepW hSw hg' G0.out; have z1 := keepW hSw hg' G1.out; go_simp
      try with_reducible rfl
     simp only [sIB, List.set]
     refine goG_read 54 hs0 (by rfl) (by rfl) ?_ (by rfl) (fun wz hSw => ?_) ?_
     rotate_left
     ·have y2 := keepW hSw hBl H2.out; have y0 := keepW hSw hg H0.out; have y1 := keepW hSw hg H1.out; have z2 := keepW hSw hBl G2.out; have z0 := keepW hSw hg' G0.out; have z1 := keepW hSw hg' G1.out; go_simp
      try with_reducible rfl
     simp only [sIB, List.set]
     refine goG_read 55 hs0 (by rfl) (by rfl) ?_ (by rfl) (fun wz hSw => ?_) ?_
     rotate_left
     ·have y2 := keepW hSw hBl H2.out; have y0 := keepW hSw hg H0.out; have y1 := keepW hSw hg H1.out; have z2 := keepW hSw hBl G2.out; have z0 := keepW hSw hg' G0.out; have z1 := keepW hSw hg' G1.out; go_simp
      try with_reducible rfl
     simp only [sIB, List.set]
     refine goG_read 56 hs0 (by rfl) (by rfl) ?_ (by rfl) (fun wz hSw => ?_) ?_
     rotate_left
     ·have y2 := keepW hSw hBl H2.out; have y0 := keepW hSw hg H0.out; have y1 := keepW hSw hg H1.out; have z2 := keepW hSw hBl G2.out; have z0 := keepW hSw hg' G0.out; have z1 := keepW hSw hg' G1.out; go_simp
      try with_reducible rfl
     simp only [sIB, List.set]
     refine goG_read 57 hs0 (by rfl) (by rfl) ?_ (by rfl) (fun wz hSw => ?_) ?_
     rotate_left
     ·have y2 := keepW hSw hBl H2.out; have y0 := keepW hSw hg H0.out; have y1 := keepW hSw hg H1.out; have z2 := keepW hSw hBl G2.out; have z0 := keepW hSw hg' G0.out; have z1 := keepW hSw hg' G1.out; go_simp
      try with_reducible rfl
     simp only [sIB, List.set]
     refine goG_call 50 (by rfl) (by rfl) (by rfl) (by go_simp) (HSZ.out _ hs0) ?_
     rintro e w4 ⟨v4, rfl, hv4, hb4⟩
     have hs1 := hs0.trans (hb4.mono hs0.size)
     refine ⟨_, rfl, fun _ => hs1, ?_⟩
     simp only [sIB, List.set]
     refine goG_call 58 (by rfl) (by rfl) (by rfl) (by go_simp) (HSZ2.out _ hs1) ?_
     rintro e w5 ⟨v5, rfl, hv5, hb5⟩
     have hs2 := hs1.trans (hb5.mono hs1.size)
     refine ⟨_, rfl, fun _ => hs2, ?_⟩
     simp only [sIB, List.set]
     refine goG_call 59 (by rfl) (by rfl) (by rfl) (by go_simp) (Cmp_any (hv4.below hb5).int hv5.int (by omega) (by omega)) ?_
     rintro e w6 ⟨rfl, hb6⟩
     have hs3 := hs2.trans (hb6.mono hs2.size)
     refine ⟨_, rfl, fun _ => hs3, ?_⟩
     simp only [sIB, List.set]
     clear hv4 hv5 hb4 hb5 hb6 hs0 hs1 hs2
     by_cases hlt : (gm L i c).natAbs < (gm L a c).natAbs
     ·have hcm : cmpI ((gm L i c).natAbs : Int) ((gm L a c).natAbs : Int) < 0 := by unfold cmpI; rw [if_pos (by omega)]; omega
      generalize cmpI ((gm L i c).natAbs : Int) ((gm L a c).natAbs : Int) = cv at *
      have HE2 := Lib.hid (HE.out.trans (show _ = (some i, oc + 1) by rw [if_pos hlt]))
      clear HE hlt
      refine goG_read 60 hs3 (by rfl) (by rfl) ?_ (by rfl) (fun wz hSw => ?_) ?_
      rotate_left
      ·go_simp
       try with_reducible rfl
      simp only [sIB, List.set]
      refine goG_read 61 hs3 (by rfl) (by rfl) ?_ (by rfl) (fun wz hSw => ?_) ?_
      rotate_left
      ·go_simp
       try with_reducible rfl
      simp only [sIB, List.set]
      refine goG_nilN ?_
      go_wp2_with fail
      go_roundw
      case rel => exact ⟨j + 1, i + 1, hjq2, Lib.hid hi1, by rw [HE2.out], by rw [HE2.out]; go_num, by go_num, hs3⟩
      case measure => simp only [intOf]; omega
     ·have hcm : ¬ cmpI ((gm L i c).natAbs : Int) ((gm L a c).natAbs : Int) < 0 := by unfold cmpI; rw [if_neg (by omega)]; split <;> omega
      generalize cmpI ((gm L i c).natAbs : Int) ((gm L a c).natAbs : Int) = cv at *
      have HE2 := Lib.hid (HE.out.trans (show _ = (some a, oc + 1) by rw [if_neg hlt]))
      clear HE hlt
      refine goG_read 60 hs3 (by rfl) (by rfl) ?_ (by rfl) (fun wz hSw => ?_) ?_
      rotate_left
      ·go_simp
       try with_reducible rfl
      simp only [sIB, List.set]
      refine goG_read 61 hs3 (by rfl) (by rfl) ?_ (by rfl) (fun wz hSw => ?_) ?_
      rotate_left
      ·go_simp
       try with_reducible rfl
      simp only [sIB, List.set]
      refine goG_nilN ?_
      go_wp2_with fail
      go_roundw
      case rel => exact ⟨j + 1, i + 1, hjq2, Lib.hid hi1, by rw [HE2.out], by rw [HE2.out]; go_num, by go_num, hs3⟩
      case measure => simp only [intOf]; omega
  ·have a2 : ¬ (i : Int) < (q : Int) := by omega
   obtain rfl : j = q - r := by omega
   clear hi
   go_wp2_with fail
   exact HQ.out wr _ _ _ _ _ _ _ _ _ _ _ _ _ _ _ _ _ _ _ _ _ _ _ _ _ _ _ _ _ _ _ _ _ _ _ _ _ _ _ _ hb
end Go.Proofs.YtdjpeimecfhdjaaGreat
