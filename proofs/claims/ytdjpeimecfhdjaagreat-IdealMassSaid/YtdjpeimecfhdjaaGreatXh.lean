/- Package wide: parts of Reduce: two rows change places, multiples of a row taken from others. -/
import Derived.Test.YtdjpeimecfhdjaaGreatXg
namespace Go.Proofs.YtdjpeimecfhdjaaGreat
open Go.RowKit
theorem own_swap {B i j : Nat} {us : List Value} {u v : Value} (hu : us[i]? = some u) (hv : us[j]? = some v) (b : Nat) : MatX.Own B ((us.set i v).set j u) b ↔ MatX.Own B us b := by
 have hil := lt_of_get hu
 have hjl := lt_of_get hv
 have hmem : ∀ x, x ∈ (us.set i v).set j u ↔ x ∈ us := by
  intro x
  constructor
  ·intro hx
   rcases List.mem_or_eq_of_mem_set hx with h1 | h1
   ·rcases List.mem_or_eq_of_mem_set h1 with h2 | h2
    ·exact h2
    ·rw [h2]; exact List.mem_of_getElem? hv
   ·rw [h1]; exact List.mem_of_getElem? hu
  ·intro hx
   obtain ⟨k, hk⟩ := List.getElem?_of_mem hx
   by_cases e1 : k = j
   ·subst e1
    rw [hv] at hk
    injection hk with hk
    subst hk
    by_cases e2 : i = k
    ·subst e2
     rw [hu] at hv
     injection hv with hv
     subst hv
     exact List.mem_of_getElem? (i := i) (by rw [List.getElem?_set_self (by rw [List.length_set]; exact hil)])
    ·exact List.mem_of_getElem? (i := i) (by rw [List.getElem?_set_ne (fun e => e2 e.symm), List.getElem?_set_self hil])
   ·by_cases e2 : k = i
    ·subst e2
     rw [hu] at hk
     injection hk with hk
     subst hk
     exact List.mem_of_getElem? (i := j) (by rw [List.getElem?_set_self (by rw [List.length_set]; exact hjl)])
    ·exact List.mem_of_getElem? (i := k) (by rw [List.getElem?_set_ne (fun e => e1 e.symm), List.getElem?_set_ne (fun e => e2 e.symm)]; exact hk)
 unfold MatX.Own
 constructor
 ·rintro (h | ⟨x, h1, h2⟩)
  ·exact .inl h
  ·exact .inr ⟨x, (hmem x).1 h1, h2⟩
 ·rintro (h | ⟨x, h1, h2⟩)
  ·exact .inl h
  ·exact .inr ⟨x, (hmem x).2 h1, h2⟩
theorem Frm.ofOwn {B g : Nat} {us : List Value} {w w' : World} {u : Value} (h : Frm (· = g) w w') (hu : u ∈ us) (hg : u.ownBlock = some g) : Frm (MatX.Own B us) w w' := h.mono fun b _ e => .inr ⟨u, hu, by rw [hg, e]⟩
theorem MatX.row_ {w : World} {base B q n : Nat} {us : List Value} {D : Nat → Prop} {L : List (List Int)} (h : MatX w base B us D L) (hs : Shp q n L) (hn : 0 < n) {i : Nat} (hi : i < q) :
  ∃ g cap, us[i]? = some (.slice (some ⟨g, 0, none⟩) n cap) ∧ w.cell? ⟨B, i, none⟩ = some (.slice (some ⟨g, 0, none⟩) n cap) ∧ g < w.heap.size ∧ g ≠ B ∧ ¬ D g ∧ OwnR w base D (.slice (some ⟨g, 0, none⟩) n cap) (rw_ L i) := by
 obtain ⟨u, h1, h2, h3⟩ := h.at (rw_some (L := L) (i := i) (by rw [hs.1]; exact hi))
 have hl := hs.rw hi
 obtain ⟨g, cap, rfl, h4, h5, _⟩ := h3.at (by omega)
 rw [hl] at h1 h2 h3
 have h6 := h.apart _ (List.mem_of_getElem? h1) g rfl
 exact ⟨g, cap, h1, h2, h5, h6.1, h6.2, h3⟩
set_option maxRecDepth 100000 in
set_option maxHeartbeats 8000000 in
theorem swap_reg {w : World} {Q : Exit → Act → World → Prop} {base B q n cp r a : Nat} {us : List Value} {D : Nat → Prop} {L : List (List Int)} {t1 t2 t3 t4 t6 t8 t9 t10 t11 t12 t13 t14 t15 t16 t17 t18 t19 t20 t21 t22 t23 t24 t25 t26 t27 t28 t29 t30 t31 t32 t33 t34 t35 t36 t37 t38 t39 t40 t41 t42 t43 t44 t45 t46 t47 t48 t49 t50 t51 t52 t53 t54 t55 t56 t57 t58 t59 t60 t61 t62 t63 t64 t65 t66 t67 t68 t69 t70 t71 t72 t73 t74 t75 t76 t77 t78 t79 t80 t81 t82 t83 t84 t85 t86 t87 t88 t89 t90 t91 t92 t93 t94 t95 t96 t97 t98 t99 t100 t101 t102 t103 t104 t105 t106 t107 t108 t109 t110 t111 t112 t113 t114 t115 t116 t117 t118 t119 t120 t121 t122 t123 t124 t125 t126 t127 t128 t129 t130 t131 t132 t133 t134 t135 t136 t137 t138 t139 t140 t141 t142 t143 t144 t145 t146 t147 t148 t149 t150 t151 t152 t153 t154 t155 t156 t157 t158 t159 t160 t161 t162 t163 t164 t165 t166 t167 t168 t169 t170 t171 t172 t173 t174 t175 t176 t177 : Value}
  (hm : MatX w base B us D L) (hs : Shp q n L) (hn : 0 < n) (hr : r < q) (ha : a < q)
  (hQ : ∀ (us' : List Value) (w' : World) (u65 u66 u67 u68 u69 u70 u71 u72 u73 u74 u75 u76 u77 u78 : Value), MatX w' base B us' D (swp L r a) → (∀ b, MatX.Own B us' b ↔ MatX.Own B us b) → Frm (MatX.Own B us) w w' → Q .normal ⟨#[.slice (some ⟨B, 0, none⟩) q cp, t1, t2, t3, t4, .int .i64 (r : Nat), t6, .int .i64 (a : Nat), t8, t9, t10, t11, t12, t13, t14, t15, t16, t17, t18, t19, t20, t21, t22, t23, t24, t25, t26, t27, t28, t29, t30, t31, t32, t33, t34, t35, t36, t37, t38, t39, t40, t41, t42, t43, t44, t45, t46, t47, t48, t49, t50, t51, t52, t53, t54, t55, t56, t57, t58, t59, t60, t61, t62, t63, t64, u65, u66, u67, u68, u69, u70, u71, u72, u73, u74, u75, u76, u77, u78, t79, t80, t81, t82, t83, t84, t85, t86, t87, t88, t89, t90, t91, t92, t93, t94, t95, t96, t97, t98, t99, t100, t101, t102, t103, t104, t105, t106, t107, t108, t109, t110, t111, t112, t113, t114, t115, t116, t117, t118, t119, t120, t121, t122, t123, t124, t125, t126, t127, t128, t129, t130, t131, t132, t133, t134, t135, t136, t137, t138, t139, t140, t141, t142, t143, t144, t145, t146, t147, t148, t149, t150, t151, t152, t153, t154, t155, t156, t157, t158, t159, t160, t161, t162, t163, t164, t165, t166, t167, t168, t169, t170, t171, t172, t173, t174, t175, t176, t177], []⟩ w') :
  (redReg 14).wp Tryz.prog Q ⟨#[.slice (some ⟨B, 0, none⟩) q cp, t1, t2, t3, t4, .int .i64 (r : Nat), t6, .int .i64 (a : Nat), t8, t9, t10, t11, t12, t13, t14, t15, t16, t17, t18, t19, t20, t21, t22, t23, t24, t25, t26, t27, t28, t29, t30, t31, t32, t33, t34, t35, t36, t37, t38, t39, t40, t41, t42, t43, t44, t45, t46, t47, t48, t49, t50, t51, t52, t53, t54, t55, t56, t57, t58, t59, t60, t61, t62, t63, t64, t65, t66, t67, t68, t69, t70, t71, t72, t73, t74, t75, t76, t77, t78, t79, t80, t81, t82, t83, t84, t85, t86, t87, t88, t89, t90, t91, t92, t93, t94, t95, t96, t97, t98, t99, t100, t101, t102, t103, t104, t105, t106, t107, t108, t109, t110, t111, t112, t113, t114, t115, t116, t117, t118, t119, t120, t121, t122, t123, t124, t125, t126, t127, t128, t129, t130, t131, t132, t133, t134, t135, t136, t137, t138, t139, t140, t141, t142, t143, t144, t145, t146, t147, t148, t149, t150, t151, t152, t153, t154, t155, t156, t157, t158, t159, t160, t161, t162, t163, t164, t165, t166, t167, t168, t169, t170, t171, t172, t173, t174, t175, t176, t177], []⟩ w := by
 have HQ := Lib.hid hQ
 obtain ⟨g1, c1, h1, k1, hg1, _, _, _⟩ := hm.row_ hs hn hr
 obtain ⟨g2, c2, h2, k2, hg2, _, _, _⟩ := hm.row_ hs hn ha
 have hsw := hm.swap h1 h2 (rw_some (by rw [hs.1]; exact hr)) (rw_some (by rw [hs.1]; exact ha))
 have hown := own_swap (B := B) h1 h2
 have z1 := hm.arr.frozen r
 have z2 := hm.arr.frozen a
 have hBl : B < w.heap.size := hm.lt
 have a1 : (0 : Int) ≤ (r : Int) := by omega
 have a2 : (r : Int) < (q : Int) := by omega
 have a3 : (0 : Int) ≤ (a : Int) := by omega
 have a4 : (a : Int) < (q : Int) := by omega
 have HSW := Lib.hid hsw
 have HOW := Lib.hid hown
 clear hQ hs hm h1 h2 hsw hown
 show Code.wp _ (Code.region 14 (List.toArray _) true) _ _ _
 have hs0 : Below w.heap.size w w.drew := (Below.refl _ _).drew
 refine wp_region_tq5 (.pure 2 (.pure 3 (.read 0 (.read 1 (.read 4 (.read 5 (.read 6 (.read 7 (.read 8 (.read 9 (.read 10 (.read 11 (.read 12 (.step 13 (.step 14 (.step 15 .nil)))))))))))))))) [2, 3, 13, 14, 15] (by kernel_rfl) (by rfl) (by kernel_rfl) (by kernel_rfl) (fun W => Below w.heap.size w W) ?_
 change goU _ _ _ _ _ _ _ w.drew
 refine goU_pure 67 (by rfl) (by rfl) ?_ (by rfl) (fun wz => ?_) ?_
 rotate_left
 ·go_simp
  try with_reducible rfl
 simp only [sIB, List.set]
 refine goU_pure 68 (by rfl) (by rfl) ?_ (by rfl) (fun wz => ?_) ?_
 rotate_left
 ·go_simp
  try with_reducible rfl
 simp only [sIB, List.set]
 refine goU_read 65 hs0 (by rfl) (by rfl) ?_ (by rfl) (fun wz hSw => ?_) ?_
 rotate_left
 ·have y0 := keepW hSw hBl k1; have y1 := keepW hSw hBl k2; go_simp
  try with_reducible rfl
 simp only [sIB, List.set]
 refine goU_read 66 hs0 (by rfl) (by rfl) ?_ (by rfl) (fun wz hSw => ?_) ?_
 rotate_left
 ·have y0 := keepW hSw hBl k1; have y1 := keepW hSw hBl k2; go_simp
  try with_reducible rfl
 simp only [sIB, List.set]
 refine goU_read 69 hs0 (by rfl) (by rfl) ?_ (by rfl) (fun wz hSw => ?_) ?_
 rotate_left
 ·have y0 := keepW hSw hBl k1; have y1 := keepW hSw hBl k2; go_simp
  try with_reducible rfl
 simp only [sIB, List.set]
 refine goU_read 70 hs0 (by rfl) (by rfl) ?_ (by rfl) (fun wz hSw => ?_) ?_
 rotate_left
 ·have y0 := keepW hSw hBl k1; have y1 := keepW hSw hBl k2; go_simp
  try with_reducible rfl
 simp only [sIB, List.set]
 refine goU_read 71 hs0 (by rfl) (by rfl) ?_ (by rfl) (fun wz hSw => ?_) ?_
 rotate_left
 ·have y0 := keepW hSw hBl k1; have y1 := keepW hSw hBl k2; go_simp
  try with_reducible rfl
 simp only [sIB, List.set]
 refine goU_read 72 hs0 (by rfl) (by rfl) ?_ (by rfl) (fun wz hSw => ?_) ?_
 rotate_left
 ·have y0 := keepW hSw hBl k1; have y1 := keepW hSw hBl k2; go_simp
  try with_reducible rfl
 simp only [sIB, List.set]
 refine goU_read 73 hs0 (by rfl) (by rfl) ?_ (by rfl) (fun wz hSw => ?_) ?_
 rotate_left
 ·have y0 := keepW hSw hBl k1; have y1 := keepW hSw hBl k2; go_simp
  try with_reducible rfl
 simp only [sIB, List.set]
 refine goU_read 74 hs0 (by rfl) (by rfl) ?_ (by rfl) (fun wz hSw => ?_) ?_
 rotate_left
 ·have y0 := keepW hSw hBl k1; have y1 := keepW hSw hBl k2; go_simp
  try with_reducible rfl
 simp only [sIB, List.set]
 refine goU_read 75 hs0 (by rfl) (by rfl) ?_ (by rfl) (fun wz hSw => ?_) ?_
 rotate_left
 ·have y0 := keepW hSw hBl k1; have y1 := keepW hSw hBl k2; go_simp
  try with_reducible rfl
 simp only [sIB, List.set]
 refine goU_read 76 hs0 (by rfl) (by rfl) ?_ (by rfl) (fun wz hSw => ?_) ?_
 rotate_left
 ·have y0 := keepW hSw hBl k1; have y1 := keepW hSw hBl k2; go_simp
  try with_reducible rfl
 simp only [sIB, List.set]
 refine goU_read 77 hs0 (by rfl) (by rfl) ?_ (by rfl) (fun wz hSw => ?_) ?_
 rotate_left
 ·have y0 := keepW hSw hBl k1; have y1 := keepW hSw hBl k2; go_simp
  try with_reducible rfl
 simp only [sIB, List.set]
 have y0 := keepW hs0 hBl k1
 have y1 := keepW hs0 hBl k2
 refine goU_step (by rfl) ?_
 go_wp2_with fail
 try (refine ⟨fun h => absurd h (by decide), ?_⟩)
 refine goU_step (by rfl) ?_
 go_wp2_with fail
 try (refine ⟨fun h => absurd h (by decide), ?_⟩)
 have y2 : ∃ u, (w.setCell ⟨B, r, none⟩ (.slice (some ⟨g2, 0, none⟩) n c2)).cell? ⟨B, a, none⟩ = some u := by
  by_cases e : a = r
  ·subst e
   exact ⟨_, World.cell?_setCell_same _ _ _ k1⟩
  ·exact ⟨_, (World.cell?_setCell_other _ _ _ _ (fun h => by have h2 := (Addr.mk.inj h).2.1; first | exact e h2 | exact e h2.symm)).trans k2⟩
 obtain ⟨uo, y2⟩ := y2
 refine goU_step (by rfl) ?_
 go_wp2_with fail
 try (refine ⟨fun h => absurd h (by decide), ?_⟩)
 refine goU_nilN ?_
 have hd := HSW.out.below (Below.refl _ _).drew
 refine HQ.out _ _ _ _ _ _ _ _ _ _ _ _ _ _ _ _ hd HOW.out ?_
 exact (((Frm.setCell (O := MatX.Own B us) (p := ⟨B, r, none⟩) (fun _ => .inl rfl) _)).trans (Frm.setCell (O := MatX.Own B us) (p := ⟨B, a, none⟩) (fun _ => .inl rfl) _)).over (Below.refl _ _).drew
set_option maxRecDepth 100000 in
set_option maxHeartbeats 8000000 in
theorem elim_loop {w : World} {Q : Exit → Act → World → Prop} {base B q n cp c r : Nat} {us : List Value} {D : Nat → Prop} {L : List (List Int)} {t1 t2 t3 t4 t7 t8 t9 t11 t12 t13 t14 t15 t16 t17 t18 t19 t20 t21 t22 t23 t24 t25 t26 t27 t28 t29 t30 t31 t32 t33 t34 t35 t36 t37 t38 t39 t40 t41 t42 t43 t44 t45 t46 t47 t48 t49 t50 t51 t52 t53 t54 t55 t56 t57 t58 t59 t60 t61 t62 t63 t64 t65 t66 t67 t68 t69 t70 t71 t72 t73 t74 t75 t76 t77 t78 t79 t80 t81 t82 t83 t84 t85 t86 t87 t88 t89 t90 t91 t92 t93 t94 t95 t96 t97 t98 t99 t100 t101 t102 t103 t104 t105 t106 t107 t108 t109 t110 t111 t112 t113 t114 t115 t116 t117 t118 t119 t120 t121 t122 t123 t124 t125 t126 t127 t128 t129 t130 t131 t132 t133 t134 t135 t136 t137 t138 t139 t140 t141 t142 t143 t144 t145 t146 t147 t148 t149 t150 t151 t152 t153 t154 t155 t156 t157 t158 t159 t160 t161 t162 t163 t164 t165 t166 t167 t168 t169 t170 t171 t172 t173 t174 t175 t176 t177 : Value}
  (hm : MatX w base B us D L) (hs : Shp q n L) (hf : fitM L = true) (hD : ∀ b, w.heap.size ≤ b → D b) (hp : gm L r c ≠ 0) (hc : c < n) (hr : r < q) (hq : q ≤ 1000000) (hn : n ≤ 1000000)
  (hQ : ∀ (w' : World) (u10 u83 u84 u85 u86 u87 u88 u89 u90 u91 u92 u93 u94 u95 u96 u97 u98 u99 u100 u101 u102 u103 u104 u105 u106 u107 u108 u109 u110 u111 u112 u113 u114 u115 u116 u117 u118 u119 u120 u121 u122 : Value), MatX w' base B us D (elim L c r (q - (r + 1))) → Frm (MatX.Own B us) w w' → Q .normal ⟨#[.slice (some ⟨B, 0, none⟩) q cp, t1, t2, t3, t4, .int .i64 (r : Nat), .int .i64 (c : Nat), t7, t8, t9, u10, t11, t12, t13, t14, t15, t16, t17, t18, t19, t20, t21, t22, t23, t24, t25, t26, t27, t28, t29, t30, t31, t32, t33, t34, t35, t36, t37, t38, t39, t40, t41, t42, t43, t44, t45, t46, t47, t48, t49, t50, t51, t52, t53, t54, t55, t56, t57, t58, t59, t60, t61, t62, t63, t64, t65, t66, t67, t68, t69, t70, t71, t72, t73, t74, t75, t76, t77, t78, t79, t80, t81, t82, u83, u84, u85, u86, u87, u88, u89, u90, u91, u92, u93, u94, u95, u96, u97, u98, u99, u100, u101, u102, u103, u104, u105, u106, u107, u108, u109, u110, u111, u112, u113, u114, u115, u116, u117, u118, u119, u120, u121, u122, t123, t124, t125, t126, t127, t128, t129, t130, t131, t132, t133, t134, t135, t136, t137, t138, t139, t140, t141, t142, t143, t144, t145, t146, t147, t148, t149, t150, t151, t152, t153, t154, t155, t156, t157, t158, t159, t160, t161, t162, t163, t164, t165, t166, t167, t168, t169, t170, t171, t172, t173, t174, t175, t176, t177], []⟩ w') :
  (redBlk 6).wp Tryz.prog Q ⟨#[.slice (some ⟨B, 0, none⟩) q cp, t1, t2, t3, t4, .int .i64 (r : Nat), .int .i64 (c : Nat), t7, t8, t9, .int .i64 ((r + 1 : Nat) : Int), t11, t12, t13, t14, t15, t16, t17, t18, t19, t20, t21, t22, t23, t24, t25, t26, t27, t28, t29, t30, t31, t32, t33, t34, t35, t36, t37, t38, t39, t40, t41, t42, t43, t44, t45, t46, t47, t48, t49, t50, t51, t52, t53, t54, t55, t56, t57, t58, t59, t60, t61, t62, t63, t64, t65, t66, t67, t68, t69, t70, t71, t72, t73, t74, t75, t76, t77, t78, t79, t80, t81, t82, t83, t84, t85, t86, t87, t88, t89, t90, t91, t92, t93, t94, t95, t96, t97, t98, t99, t100, t101, t102, t103, t104, t105, t106, t107, t108, t109, t110, t111, t112, t113, t114, t115, t116, t117, t118, t119, t120, t121, t122, t123, t124, t125, t126, t127, t128, t129, t130, t131, t132, t133, t134, t135, t136, t137, t138, t139, t140, t141, t142, t143, t144, t145, t146, t147, t148, t149, t150, t151, t152, t153, t154, t155, t156, t157, t158, t159, t160, t161, t162, t163, t164, t165, t166, t167, t168, t169, t170, t171, t172, t173, t174, t175, t176, t177], []⟩ w := by
 have HQ := Lib.hid hQ
 have HS := Lib.hid hs
 have HF := Lib.hid hf
 have HP := Lib.hid hp
 have HD := Lib.hid hD
 clear hQ hs hf hp hD
 show Code.wp _ (Code.block 6 _) _ _ _
 go_wp2_with fail
 go_loopw [10] (fun iv wr => ∃ j i : Nat, j ≤ q - (r + 1) ∧ Hid (i = r + 1 + j) ∧ iv = .int .i64 (i : Nat) ∧ MatX wr base B us D (elim L c r j) ∧ Frm (MatX.Own B us) w wr) (fun iv _ => q - (intOf iv).toNat)
 case atStart => exact ⟨0, r + 1, by omega, Lib.hid (by omega), rfl, hm, Frm.refl _ _⟩
 case round =>
  obtain ⟨j, i, hj, HI, rfl, hmx, hfr⟩ := hrel
  have hi := HI.out
  rcases Nat.lt_or_ge j (q - (r + 1)) with hjq | hjq
  ·have hsj := HS.out.elim (c := c) (r := r) (j := j) (by omega)
   have hri : rw_ (elim L c r j) i = rw_ L i := elim_rw (by omega)
   have hrr : rw_ (elim L c r j) r = rw_ L r := elim_rw (by omega)
   obtain ⟨gi, ci, us1, k1, hg1, hgB1, hgD1, hr1⟩ := hmx.row_ hsj (by omega) (i := i) (by omega)
   obtain ⟨gr, cr, us2, k2, hg2, hgB2, hgD2, hr2⟩ := hmx.row_ hsj (by omega) (i := r) (by omega)
   have hne : gi ≠ gr := fun e => by
    have := hmx.one i r _ _ gi us1 us2 rfl (by rw [e]; rfl)
    omega
   rw [hri] at hr1
   rw [hrr] at hr2
   have hl1 := HS.out.rw (i := i) (by omega)
   have hl2 := HS.out.rw (i := r) (by omega)
   have hpv : PvD wr (· ≠ gi) (.slice (some ⟨gr, 0, none⟩) n cr) (rw_ L r) := hr2.pvd fun b hb => by
    rcases hb with hb | hb
    ·exact fun e => hgD1 (by rw [← e]; exact hb)
    ·injection hb with hb
     exact fun e => hne (by rw [← e, ← hb])
   obtain ⟨g', cap', e3, _, _, hcap1, hcm1, _, hcl1⟩ := hr1.at (by omega)
   injection e3 with e3 e5 e4
   injection e3 with e3
   injection e3 with e3 e6 e7
   subst e3 e4
   clear e5 e6 e7
   obtain ⟨g', cap', e3, _, _, hcap2, hcm2, _, hcl2⟩ := hr2.at (by omega)
   injection e3 with e3 e5 e4
   injection e3 with e3
   injection e3 with e3 e6 e7
   subst e3 e4
   clear e5 e6 e7
   obtain ⟨n1, A1, m1, t1', e10, e11, e12⟩ := hcl1 c (by omega)
   obtain ⟨n2, A2, m2, t2', e20, e21, e22⟩ := hcl2 c (by omega)
   clear hcl1 hcl2
   change NIntV wr D _ (gm L i c) at e12
   change NIntV wr D _ (gm L r c) at e22
   have hBl := hmx.lt
   have hw1 := fit_wl (fitM_gm HF.out i c)
   have hw2 := fit_wl (fitM_gm HF.out r c)
   have hw3 := wl_div (gm L i c) (gm L r c)
   have hw4 : wl (-(gm L i c / gm L r c)).natAbs ≤ 4000 := by rw [Int.natAbs_neg]; omega
   have HZ := Lib.hid (fun w' (hb' : Below wr.heap.size wr w') => Zero_any (e12.below hb'))
   have HQU := Lib.hid (fun w' (hb' : Below wr.heap.size wr w') => wQuo_any (x := gm L i c) (y := gm L r c) (e12.below hb').int (e22.below hb').int (by omega) (by omega) HP.out)
   have HNE := Lib.hid (fun w' v (hv : NIntV w' (fun _ => True) v (gm L i c / gm L r c)) => wNeg_any hv.int (by omega))
   have HAD := Lib.hid (fun w' v (hb' : Below wr.heap.size wr w') (hv : NIntV w' (· ≠ gi) v (-(gm L i c / gm L r c))) => add_any (hr1.below hb') hgD1 (fun b hb => HD.out b (Nat.le_trans hfr.size (Nat.le_trans hb'.size hb))) hv (Foot.below hpv hb') hl1 (Nat.le_refl _) hn (by omega) (fun j => Nat.le_trans (fit_wl (fitR_gz (fitM_rw HF.out i) j)) (by omega)) (fun j => Nat.le_trans (fit_wl (fitR_gz (fitM_rw HF.out r) j)) (by omega)))
   have HROW := Lib.hid (fun w' (hf : Frm (fun b => (Value.slice (some ⟨gi, 0, none⟩) n ci).ownBlock = some b) wr w') (hr : OwnR w' base D (.slice (some ⟨gi, 0, none⟩) n ci) (addF (-(gm L i c / gm L r c)) (rw_ L i) (rw_ L r))) => hmx.row us1 hf hr (by rw [hsj.1]; omega))
   have HMX := Lib.hid hmx
   have HFR := Lib.hid hfr
   have HU := Lib.hid (List.mem_of_getElem? us1)
   have hi1 : i + 1 = r + 1 + (j + 1) := by omega
   have hjq2 : j + 1 ≤ q - (r + 1) := by omega
   have hmz : q - (i + 1) < q - i := by omega
   have a1 : (0 : Int) ≤ (i : Int) := by omega
   have a2 : (i : Int) < (q : Int) := by omega
   have a3 : (0 : Int) ≤ (c : Int) := by omega
   have a4 : (c : Int) < (n : Int) := by omega
   have a5 : (0 : Int) ≤ (r : Int) := by omega
   have a6 : (r : Int) < (q : Int) := by omega
   have a7 : (i : Int) < (q : Int) := by omega
   have hEQ : elim L c r (j + 1) = if gm L i c = 0 then elim L c r j else (elim L c r j).set i (addF (-(gm L i c / gm L r c)) (rw_ L i) (rw_ L r)) := by rw [hi]; rfl
   clear hri hrr hr1 hr2 hpv e12 e22 hl1 hl2 hw1 hw2 hw3 hw4 hne us1 us2 hsj hmx hfr hi hjq hgD1 hgD2 hgB1 hgB2 hcap1 hcap2 hcm1 hcm2 hj
   by_cases h0 : gm L i c = 0
   ·have HE := Lib.hid (hEQ.trans (if_pos h0))
    clear hEQ
    go_wp2_with (go_at_call 166; go_must (refine (HZ.out _ (Below.refl _ _)).mono ?_); rintro e w3 ⟨rfl, hb3⟩)
    go_roundw
    case rel => exact ⟨j + 1, i + 1, hjq2, Lib.hid hi1, by go_num, by rw [HE.out]; exact HMX.out.below hb3, HFR.out.over hb3⟩
    case measure => simp only [intOf]; omega
   ·have HE := Lib.hid (hEQ.trans (if_neg h0))
    clear hEQ
    go_wp2_with (go_at_call 166; go_must (refine (HZ.out _ (Below.refl _ _)).mono ?_); rintro e w3 ⟨rfl, hb3⟩)
    have hs0 : Below wr.heap.size wr w3.drew := hb3.drew
    clear hb3
    refine wp_region_tq5 (.read 0 (.read 1 (.read 2 (.read 3 (.read 4 (.read 5 (.read 6 (.read 7 (.read 8 (.read 9 (.read 10 (.read 11 (.read 12 (.read 13 (.read 14 (.read 15 (.read 16 (.read 17 (.read 20 (.read 21 (.read 22 (.read 23 (.step 18 (.step 19 (.step 24 .nil))))))))))))))))))))))))) [24] (by kernel_rfl) (by rfl) (by kernel_rfl) (by kernel_rfl) (fun W => Below wr.heap.size wr W) ?_
    refine goU_read 98 hs0 (by rfl) (by rfl) ?_ (by rfl) (fun wz hSw => ?_) ?_
    rotate_left
    ·have y0 := keepW hSw hBl k1; have y1 := keepW hSw hBl k2; have y2 := keepW hSw hg1 e10; have y3 := keepW hSw hg1 e11; have y4 := keepW hSw hg2 e20; have y5 := keepW hSw hg2 e21; go_simp
     try with_reducible rfl
    simp only [sIB, List.set]
    refine goU_read 99 hs0 (by rfl) (by rfl) ?_ (by rfl) (fun wz hSw => ?_) ?_
    rotate_left
    ·have y0 := keepW hSw hBl k1; have y1 := keepW hSw hBl k2; have y2 := keepW hSw hg1 e10; have y3 := keepW hSw hg1 e11; have y4 := keepW hSw hg2 e20; have y5 := keepW hSw hg2 e21; go_simp
     try with_reducible rfl
    simp only [sIB, List.set]
    refine goU_read 100 hs0 (by rfl) (by rfl) ?_ (by rfl) (fun wz hSw => ?_) ?_
    rotate_left
    ·have y0 := keepW hSw hBl k1; have y1 := keepW hSw hBl k2; have y2 := keepW hSw hg1 e10; have y3 := keepW hSw hg1 e11; have y4 := keepW hSw hg2 e20; have y5 := keepW hSw hg2 e21; go_simp
     try with_reducible rfl
    simp only [sIB, List.set]
    refine goU_read 101 hs0 (by rfl) (by rfl) ?_ (by rfl) (fun wz hSw => ?_) ?_
    rotate_left
    ·have y0 := keepW hSw hBl k1; have y1 := keepW hSw hBl k2; have y2 := keepW hSw hg1 e10; have y3 := keepW hSw hg1 e11; have y4 := keepW hSw hg2 e20; have y5 := keepW hSw hg2 e21; go_simp
     try with_reducible rfl
    simp only [sIB, List.set]
    refine goU_read 102 hs0 (by rfl) (by rfl) ?_ (by rfl) (fun wz hSw => ?_) ?_
    rotate_left
    ·have y0 := keepW hSw hBl k1; have y1 := keepW hSw hBl k2; have y2 := keepW hSw hg1 e10; have y3 := keepW hSw hg1 e11; have y4 := keepW hSw hg2 e20; have y5 := keepW hSw hg2 e21; go_simp
     try with_reducible rfl
    simp only [sIB, List.set]
    refine goU_read 103 hs0 (by rfl) (by rfl) ?_ (by rfl) (fun wz hSw => ?_) ?_
    rotate_left
    ·have y0 := keepW hSw hBl k1; have y1 := keepW hSw hBl k2; have y2 := keepW hSw hg1 e10; have y3 := keepW hSw hg1 e11; have y4 := keepW hSw hg2 e20; have y5 := keepW hSw hg2 e21; go_simp
     try with_reducible rfl
    simp only [sIB, List.set]
    refine goU_read 104 hs0 (by rfl) (by rfl) ?_ (by rfl) (fun wz hSw => ?_) ?_
    rotate_left
    ·have y0 := keepW hSw hBl k1; have y1 := keepW hSw hBl k2; have y2 := keepW hSw hg1 e10; have y3 := keepW hSw hg1 e11; have y4 := keepW hSw hg2 e20; have y5 := keepW hSw hg2 e21; go_simp
     try with_reducible rfl
    simp only [sIB, List.set]
    refine goU_read 105 hs0 (by rfl) (by rfl) ?_ (by rfl) (fun wz hSw => ?_) ?_
    rotate_left
    ·have y0 := keepW hSw hBl k1; have y1 := keepW hSw hBl k2; have y2 := keepW hSw hg1 e10; have y3 := keepW hSw hg1 e11; have y4 := keepW hSw hg2 e20; have y5 := keepW hSw hg2 e21; go_simp
     try with_reducible rfl
    simp only [sIB, List.set]
    refine goU_read 106 hs0 (by rfl) (by rfl) ?_ (by rfl) (fun wz hSw => ?_) ?_
    rotate_left
    ·have y0 := keepW hSw hBl k1; have y1 := keepW hSw hBl k2; have y2 := keepW hSw hg1 e10; have y3 := keepW hSw hg1 e11; have y4 := keepW hSw hg2 e20; have y5 := keepW hSw hg2 e21; go_simp
     try with_reducible rfl
    simp only [sIB, List.set]
    refine goU_read 107 hs0 (by rfl) (by rfl) ?_ (by rfl) (fun wz hSw => ?_) ?_
    rotate_left
    ·have y0 := keepW hSw hBl k1; have y1 := keepW hSw hBl k2; have y2 := keepW hSw hg1 e10; have y3 := keepW hSw hg1 e11; have y4 := keepW hSw hg2 e20; have y5 := keepW hSw hg2 e21; go_simp
     try with_reducible rfl
    simp only [sIB, List.set]
    refine goU_read 108 hs0 (by rfl) (by rfl) ?_ (by rfl) (fun wz hSw => ?_) ?_
    rotate_left
    ·have y0 := keepW hSw hBl k1; have y1 := keepW hSw hBl k2; have y2 := keepW hSw hg1 e10; have y3 := keepW hSw hg1 e11; have y4 := keepW hSw hg2 e20; have y5 := keepW hSw hg2 e21; go_simp
     try with_reducible rfl
    simp only [sIB, List.set]
    refine goU_read 109 hs0 (by rfl) (by rfl) ?_ (by rfl) (fun wz hSw => ?_) ?_
    rotate_left
    ·have y0 := keepW hSw hBl k1; have y1 := keepW hSw hBl k2; have y2 := keepW hSw hg1 e10; have y3 := keepW hSw hg1 e11; have y4 := keepW hSw hg2 e20; have y5 := keepW hSw hg2 e21; go_simp
     try with_reducible rfl
    simp only [sIB, List.set]
    refine goU_read 110 hs0 (by rfl) (by rfl) ?_ (by rfl) (fun wz hSw => ?_) ?_
    rotate_left
    ·have y0 := keepW hSw hBl k1; have y1 := keepW hSw hBl k2; have y2 := keepW hSw hg1 e10; have y3 := keepW hSw hg1 e11; have y4 := keepW hSw hg2 e20; have y5 := keepW hSw hg2 e21; go_simp
     try with_reducible rfl
    simp only [sIB, List.set]
    refine goU_read 111 hs0 (by rfl) (by rfl) ?_ (by rfl) (fun wz hSw => ?_) ?_
    rotate_left
    ·have y0 := keepW hSw hBl k1; have y1 := keepW hSw hBl k2; have y2 := keepW hSw hg1 e10; have y3 := keepW hSw hg1 e11; have y4 := keepW hSw hg2 e20; have y5 := keepW hSw hg2 e21; go_simp
     try with_reducible rfl
    simp only [sIB, List.set]
    refine goU_read 112 hs0 (by rfl) (by rfl) ?_ (by rfl) (fun wz hSw => ?_) ?_
    rotate_left
    ·have y0 := keepW hSw hBl k1; have y1 := keepW hSw hBl k2; have y2 := keepW hSw hg1 e10; have y3 := keepW hSw hg1 e11; have y4 := keepW hSw hg2 e20; have y5 := keepW hSw hg2 e21; go_simp
     try with_reducible rfl
    simp only [sIB, List.set]
    refine goU_read 113 hs0 (by rfl) (by rfl) ?_ (by rfl) (fun wz hSw => ?_) ?_
    rotate_left
    ·have y0 := keepW hSw hBl k1; have y1 := keepW hSw hBl k2; have y2 := keepW hSw hg1 e10; have y3 := keepW hSw hg1 e11; have y4 := keepW hSw hg2 e20; have y5 := keepW hSw hg2 e21; go_simp
     try with_reducible rfl
    simp only [sIB, List.set]
    refine goU_read 114 hs0 (by rfl) (by rfl) ?_ (by rfl) (fun wz hSw => ?_) ?_
    rotate_left
    ·have y0 := keepW hSw hBl k1; have y1 := keepW hSw hBl k2; have y2 := keepW hSw hg1 e10; have y3 := keepW hSw hg1 e11; have y4 := keepW hSw hg2 e20; have y5 := keepW hSw hg2 e21; go_simp
     try with_reducible rfl
    simp only [sIB, List.set]
    refine goU_read 115 hs0 (by rfl) (by rfl) ?_ (by rfl) (fun wz hSw => ?_) ?_
    rotate_left
    ·have y0 := keepW hSw hBl k1; have y1 := keepW hSw hBl k2; have y2 := keepW hSw hg1 e10; have y3 := keepW hSw hg1 e11; have y4 := keepW hSw hg2 e20; have y5 := keepW hSw hg2 e21; go_simp
     try with_reducible rfl
    simp only [sIB, List.set]
    refine goU_read 118 hs0 (by rfl) (by rfl) ?_ (by rfl) (fun wz hSw => ?_) ?_
    rotate_left
    ·have y0 := keepW hSw hBl k1; have y1 := keepW hSw hBl k2; have y2 := keepW hSw hg1 e10; have y3 := keepW hSw hg1 e11; have y4 := keepW hSw hg2 e20; have y5 := keepW hSw hg2 e21; go_simp
     try with_reducible rfl
    simp only [sIB, List.set]
    refine goU_read 119 hs0 (by rfl) (by rfl) ?_ (by rfl) (fun wz hSw => ?_) ?_
    rotate_left
    ·have y0 := keepW hSw hBl k1; have y1 := keepW hSw hBl k2; have y2 := keepW hSw hg1 e10; have y3 := keepW hSw hg1 e11; have y4 := keepW hSw hg2 e20; have y5 := keepW hSw hg2 e21; go_simp
     try with_reducible rfl
    simp only [sIB, List.set]
    refine goU_read 120 hs0 (by rfl) (by rfl) ?_ (by rfl) (fun wz hSw => ?_) ?_
    rotate_left
    ·have y0 := keepW hSw hBl k1; have y1 := keepW hSw hBl k2; have y2 := keepW hSw hg1 e10; have y3 := keepW hSw hg1 e11; have y4 := keepW hSw hg2 e20; have y5 := keepW hSw hg2 e21; go_simp
     try with_reducible rfl
    simp only [sIB, List.set]
    refine goU_read 121 hs0 (by rfl) (by rfl) ?_ (by rfl) (fun wz hSw => ?_) ?_
    rotate_left
    ·have y0 := keepW hSw hBl k1; have y1 := keepW hSw hBl k2; have y2 := keepW hSw hg1 e10; have y3 := keepW hSw hg1 e11; have y4 := keepW hSw hg2 e20; have y5 := keepW hSw hg2 e21; go_simp
     try with_reducible rfl
    simp only [sIB, List.set]
    refine goU_call 116 (by rfl) (by rfl) (by rfl) (by go_simp) (HQU.out _ hs0) ?_
    rintro e w4 ⟨v4, rfl, hv4, hb4⟩
    have hs1 := hs0.trans (hb4.mono hs0.size)
    refine ⟨_, rfl, fun _ => hs1, ?_⟩
    simp only [sIB, List.set]
    refine goU_call 117 (by rfl) (by rfl) (by rfl) (by go_simp) (HNE.out _ _ hv4.tt) ?_
    rintro e w5 ⟨v5, rfl, hv5, hb5⟩
    have hs2 := hs1.trans (hb5.mono hs1.size)
    have hv6 : NIntV w5 (· ≠ gi) v5 (-(gm L i c / gm L r c)) := hv5.dd fun b (h1 : _ ≤ b) => by have := hs1.size; omega
    refine ⟨_, rfl, fun _ => hs2, ?_⟩
    simp only [sIB, List.set]
    refine goU_call 122 (by rfl) (by rfl) (by rfl) (by go_simp) (HAD.out _ _ hs2 hv6) ?_
    rintro e w6 ⟨rfl, hr6, hf6⟩
    have hf7 : Frm (· = gi) wr w6 := (Frm.of_below hs2).trans hf6
    refine ⟨_, rfl, fun h => absurd h (by decide), ?_⟩
    simp only [sIB, List.set]
    refine goU_nilN ?_
    have hm8 := HROW.out w6 (hf7.mono fun b _ e => by rw [e]; rfl) hr6
    have hf8 := HFR.out.trans (hf7.ofOwn (B := B) HU.out rfl)
    clear hv4 hb4 hv5 hb5 hv6 hr6 hf6 hf7
    go_wp2_with fail
    go_roundw
    case rel => exact ⟨j + 1, i + 1, hjq2, Lib.hid hi1, by go_num, by rw [HE.out]; exact hm8, hf8⟩
    case measure => simp only [intOf]; omega
  ·have a2 : ¬ (i : Int) < (q : Int) := by omega
   obtain rfl : j = q - (r + 1) := by omega
   clear hi
   go_wp2_with fail
   exact HQ.out wr _ _ _ _ _ _ _ _ _ _ _ _ _ _ _ _ _ _ _ _ _ _ _ _ _ _ _ _ _ _ _ _ _ _ _ _ _ _ _ _ _ hmx hfr
set_option maxRecDepth 100000 in
set_option maxHeartbeats 8000000 in
theorem above_loop {w : World} {Q : Exit → Act → World → Prop} {base B q n cp c r : Nat} {us : List Value} {D : Nat → Prop} {L : List (List Int)} {t1 t2 t3 t4 t7 t8 t9 t10 t11 t12 t13 t14 t15 t16 t17 t18 t19 t20 t21 t22 t23 t24 t25 t26 t27 t28 t29 t30 t31 t32 t33 t34 t35 t36 t37 t38 t39 t40 t41 t42 t43 t44 t45 t46 t47 t48 t49 t50 t51 t52 t53 t54 t55 t56 t57 t58 t59 t60 t61 t62 t63 t64 t65 t66 t67 t68 t69 t70 t71 t72 t73 t74 t75 t76 t77 t78 t79 t80 t81 t82 t83 t84 t85 t86 t87 t88 t89 t90 t91 t92 t93 t94 t95 t96 t97 t98 t99 t100 t101 t102 t103 t104 t105 t106 t107 t108 t109 t110 t111 t112 t113 t114 t115 t116 t117 t118 t119 t120 t121 t122 t123 t124 t125 t126 t127 t128 t129 t130 t131 t132 t133 t134 t135 t136 t137 t138 t139 t140 t141 t142 t143 t144 t147 t148 t149 t150 t151 t152 t153 t154 t155 t156 t157 t158 t159 t160 t161 t162 t163 t164 t165 t166 t167 t168 t169 t170 t171 t172 t173 t174 t175 t176 t177 : Value}
  (hm : MatX w base B us D L) (hs : Shp q n L) (hf : fitM L = true) (hD : ∀ b, w.heap.size ≤ b → D b) (hp : gm L r c ≠ 0) (hc : c < n) (hr : r < q) (hq : q ≤ 1000000) (hn : n ≤ 1000000)
  (hQ : ∀ (w' : World) (u11 u146 u147 u148 u149 u150 u151 u152 u153 u154 u155 u156 u157 u158 u159 u160 u161 u162 u163 u164 u165 u166 u167 u168 u169 u170 u171 u172 u173 u174 : Value), MatX w' base B us D (above L c r (r)) → Frm (MatX.Own B us) w w' → Q .normal ⟨#[.slice (some ⟨B, 0, none⟩) q cp, t1, t2, t3, t4, .int .i64 (r : Nat), .int .i64 (c : Nat), t7, t8, t9, t10, u11, t12, t13, t14, t15, t16, t17, t18, t19, t20, t21, t22, t23, t24, t25, t26, t27, t28, t29, t30, t31, t32, t33, t34, t35, t36, t37, t38, t39, t40, t41, t42, t43, t44, t45, t46, t47, t48, t49, t50, t51, t52, t53, t54, t55, t56, t57, t58, t59, t60, t61, t62, t63, t64, t65, t66, t67, t68, t69, t70, t71, t72, t73, t74, t75, t76, t77, t78, t79, t80, t81, t82, t83, t84, t85, t86, t87, t88, t89, t90, t91, t92, t93, t94, t95, t96, t97, t98, t99, t100, t101, t102, t103, t104, t105, t106, t107, t108, t109, t110, t111, t112, t113, t114, t115, t116, t117, t118, t119, t120, t121, t122, t123, t124, t125, t126, t127, t128, t129, t130, t131, t132, t133, t134, t135, t136, t137, t138, t139, t140, t141, t142, t143, t144, .int .i64 (r : Nat), u146, u147, u148, u149, u150, u151, u152, u153, u154, u155, u156, u157, u158, u159, u160, u161, u162, u163, u164, u165, u166, u167, u168, u169, u170, u171, u172, u173, u174, t175, t176, t177], []⟩ w') :
  (redBlk 8).wp Tryz.prog Q ⟨#[.slice (some ⟨B, 0, none⟩) q cp, t1, t2, t3, t4, .int .i64 (r : Nat), .int .i64 (c : Nat), t7, t8, t9, t10, t11, t12, t13, t14, t15, t16, t17, t18, t19, t20, t21, t22, t23, t24, t25, t26, t27, t28, t29, t30, t31, t32, t33, t34, t35, t36, t37, t38, t39, t40, t41, t42, t43, t44, t45, t46, t47, t48, t49, t50, t51, t52, t53, t54, t55, t56, t57, t58, t59, t60, t61, t62, t63, t64, t65, t66, t67, t68, t69, t70, t71, t72, t73, t74, t75, t76, t77, t78, t79, t80, t81, t82, t83, t84, t85, t86, t87, t88, t89, t90, t91, t92, t93, t94, t95, t96, t97, t98, t99, t100, t101, t102, t103, t104, t105, t106, t107, t108, t109, t110, t111, t112, t113, t114, t115, t116, t117, t118, t119, t120, t121, t122, t123, t124, t125, t126, t127, t128, t129, t130, t131, t132, t133, t134, t135, t136, t137, t138, t139, t140, t141, t142, t143, t144, .int .i64 (r : Nat), .int .i64 0, t147, t148, t149, t150, t151, t152, t153, t154, t155, t156, t157, t158, t159, t160, t161, t162, t163, t164, t165, t166, t167, t168, t169, t170, t171, t172, t173, t174, t175, t176, t177], []⟩ w := by
 have HQ := Lib.hid hQ
 have HS := Lib.hid hs
 have HF := Lib.hid hf
 have HP := Lib.hid hp
 have HD := Lib.hid hD
 clear hQ hs hf hp hD
 show Code.wp _ (Code.block 8 _) _ _ _
 go_wp2_with fail
 go_loopw [146] (fun iv wr => ∃ j i : Nat, j ≤ r ∧ Hid (i = j) ∧ iv = .int .i64 (i : Nat) ∧ MatX wr base B us D (above L c r j) ∧ Frm (MatX.Own B us) w wr) (fun iv _ => q - (intOf iv).toNat)
 case atStart => exact ⟨0, 0, by omega, Lib.hid (by omega), rfl, hm, Frm.refl _ _⟩
 case round =>
  obtain ⟨j, i, hj, HI, rfl, hmx, hfr⟩ := hrel
  have hi := HI.out
  rcases Nat.lt_or_ge j (r) with hjq | hjq
  ·have hsj := HS.out.above (c := c) (r := r) (j := j) (by omega)
   have hri : rw_ (above L c r j) i = rw_ L i := above_rw (by omega)
   have hrr : rw_ (above L c r j) r = rw_ L r := above_rw (by omega)
   obtain ⟨gi, ci, us1, k1, hg1, hgB1, hgD1, hr1⟩ := hmx.row_ hsj (by omega) (i := i) (by omega)
   obtain ⟨gr, cr, us2, k2, hg2, hgB2, hgD2, hr2⟩ := hmx.row_ hsj (by omega) (i := r) (by omega)
   have hne : gi ≠ gr := fun e => by
    have := hmx.one i r _ _ gi us1 us2 rfl (by rw [e]; rfl)
    omega
   rw [hri] at hr1
   rw [hrr] at hr2
   have hl1 := HS.out.rw (i := i) (by omega)
   have hl2 := HS.out.rw (i := r) (by omega)
   have hpv : PvD wr (· ≠ gi) (.slice (some ⟨gr, 0, none⟩) n cr) (rw_ L r) := hr2.pvd fun b hb => by
    rcases hb with hb | hb
    ·exact fun e => hgD1 (by rw [← e]; exact hb)
    ·injection hb with hb
     exact fun e => hne (by rw [← e, ← hb])
   obtain ⟨g', cap', e3, _, _, hcap1, hcm1, _, hcl1⟩ := hr1.at (by omega)
   injection e3 with e3 e5 e4
   injection e3 with e3
   injection e3 with e3 e6 e7
   subst e3 e4
   clear e5 e6 e7
   obtain ⟨g', cap', e3, _, _, hcap2, hcm2, _, hcl2⟩ := hr2.at (by omega)
   injection e3 with e3 e5 e4
   injection e3 with e3
   injection e3 with e3 e6 e7
   subst e3 e4
   clear e5 e6 e7
   obtain ⟨n1, A1, m1, t1', e10, e11, e12⟩ := hcl1 c (by omega)
   obtain ⟨n2, A2, m2, t2', e20, e21, e22⟩ := hcl2 c (by omega)
   clear hcl1 hcl2
   change NIntV wr D _ (gm L i c) at e12
   change NIntV wr D _ (gm L r c) at e22
   have hBl := hmx.lt
   have hw1 := fit_wl (fitM_gm HF.out i c)
   have hw2 := fit_wl (fitM_gm HF.out r c)
   have hw3 := wl_div (gm L i c) (gm L r c)
   have hw4 : wl (-(gm L i c / gm L r c)).natAbs ≤ 4000 := by rw [Int.natAbs_neg]; omega
   have HZ := Lib.hid (fun w' (hb' : Below wr.heap.size wr w') => Zero_any (e12.below hb'))
   have HQU := Lib.hid (fun w' (hb' : Below wr.heap.size wr w') => wQuo_any (x := gm L i c) (y := gm L r c) (e12.below hb').int (e22.below hb').int (by omega) (by omega) HP.out)
   have HNE := Lib.hid (fun w' v (hv : NIntV w' (fun _ => True) v (gm L i c / gm L r c)) => wNeg_any hv.int (by omega))
   have HAD := Lib.hid (fun w' v (hb' : Below wr.heap.size wr w') (hv : NIntV w' (· ≠ gi) v (-(gm L i c / gm L r c))) => add_any (hr1.below hb') hgD1 (fun b hb => HD.out b (Nat.le_trans hfr.size (Nat.le_trans hb'.size hb))) hv (Foot.below hpv hb') hl1 (Nat.le_refl _) hn (by omega) (fun j => Nat.le_trans (fit_wl (fitR_gz (fitM_rw HF.out i) j)) (by omega)) (fun j => Nat.le_trans (fit_wl (fitR_gz (fitM_rw HF.out r) j)) (by omega)))
   have HROW := Lib.hid (fun w' (hf : Frm (fun b => (Value.slice (some ⟨gi, 0, none⟩) n ci).ownBlock = some b) wr w') (hr : OwnR w' base D (.slice (some ⟨gi, 0, none⟩) n ci) (addF (-(gm L i c / gm L r c)) (rw_ L i) (rw_ L r))) => hmx.row us1 hf hr (by rw [hsj.1]; omega))
   have HMX := Lib.hid hmx
   have HFR := Lib.hid hfr
   have HU := Lib.hid (List.mem_of_getElem? us1)
   have hi1 : i + 1 = (j + 1) := by omega
   have hjq2 : j + 1 ≤ r := by omega
   have hmz : q - (i + 1) < q - i := by omega
   have a1 : (0 : Int) ≤ (i : Int) := by omega
   have a2 : (i : Int) < (r : Int) := by omega
   have a3 : (0 : Int) ≤ (c : Int) := by omega
   have a4 : (c : Int) < (n : Int) := by omega
   have a5 : (0 : Int) ≤ (r : Int) := by omega
   have a6 : (r : Int) < (q : Int) := by omega
   have a7 : (i : Int) < (q : Int) := by omega
   have hEQ : above L c r (j + 1) = (above L c r j).set i (addF (-(gm L i c / gm L r c)) (rw_ L i) (rw_ L r)) := by rw [hi]; rfl
   clear hri hrr hr1 hr2 hpv e12 e22 hl1 hl2 hw1 hw2 hw3 hw4 hne us1 us2 hsj hmx hfr hi hjq hgD1 hgD2 hgB1 hgB2 hcap1 hcap2 hcm1 hcm2 hj
   have HE := Lib.hid hEQ
   clear hEQ HZ
   go_wp2_with fail
   have hs0 : Below wr.heap.size wr wr.drew := (Below.refl _ _).drew
   refine wp_region_tq5 (.read 0 (.read 1 (.read 2 (.read 3 (.read 4 (.read 5 (.read 6 (.read 7 (.read 8 (.read 9 (.read 10 (.read 11 (.read 12 (.read 13 (.read 14 (.read 15 (.read 16 (.read 17 (.read 20 (.read 21 (.read 22 (.read 23 (.step 18 (.step 19 (.step 24 .nil))))))))))))))))))))))))) [24] (by kernel_rfl) (by rfl) (by kernel_rfl) (by kernel_rfl) (fun W => Below wr.heap.size wr W) ?_
   refine goU_read 149 hs0 (by rfl) (by rfl) ?_ (by rfl) (fun wz hSw => ?_) ?_
   rotate_left
   ·have y0 := keepW hSw hBl k1; have y1 := keepW hSw hBl k2; have y2 := keepW hSw hg1 e10; have y3 := keepW hSw hg1 e11; have y4 := keepW hSw hg2 e20; have y5 := keepW hSw hg2 e21; go_simp
    try with_reducible rfl
   simp only [sIB, List.set]
   refine goU_read 150 hs0 (by rfl) (by rfl) ?_ (by rfl) (fun wz hSw => ?_) ?_
   rotate_left
   ·have y0 := keepW hSw hBl k1; have y1 := keepW hSw hBl k2; have y2 := keepW hSw hg1 e10; have y3 := keepW hSw hg1 e11; have y4 := keepW hSw hg2 e20; have y5 := keepW hSw hg2 e21; go_simp
    try with_reducible rfl
   simp only [sIB, List.set]
   refine goU_read 151 hs0 (by rfl) (by rfl) ?_ (by rfl) (fun wz hSw => ?_) ?_
   rotate_left
   ·have y0 := keepW hSw hBl k1; have y1 := keepW hSw hBl k2; have y2 := keepW hSw hg1 e10; have y3 := keepW hSw hg1 e11; have y4 := keepW hSw hg2 e20; have y5 := keepW hSw hg2 e21; go_simp
    try with_reducible rfl
   simp only [sIB, List.set]
   refine goU_read 152 hs0 (by rfl) (by rfl) ?_ (by rfl) (fun wz hSw => ?_) ?_
   rotate_left
   ·have y0 := keepW hSw hBl k1; have y1 := keepW hSw hBl k2; have y2 := keepW hSw hg1 e10; have y3 := keepW hSw hg1 e11; have y4 := keepW hSw hg2 e20; have y5 := keepW hSw hg2 e21; go_simp
    try with_reducible rfl
   simp only [sIB, List.set]
   refine goU_read 153 hs0 (by rfl) (by rfl) ?_ (by rfl) (fun wz hSw => ?_) ?_
   rotate_left
   ·have y0 := keepW hSw hBl k1; have y1 := keepW hSw hBl k2; have y2 := keepW hSw hg1 e10; have y3 := keepW hSw hg1 e11; have y4 := keepW hSw hg2 e20; have y5 := keepW hSw hg2 e21; go_simp
    try with_reducible rfl
   simp only [sIB, List.set]
   refine goU_read 154 hs0 (by rfl) (by rfl) ?_ (by rfl) (fun wz hSw => ?_) ?_
   rotate_left
   ·have y0 := keepW hSw hBl k1; have y1 := keepW hSw hBl k2; have y2 := keepW hSw hg1 e10; have y3 := keepW hSw hg1 e11; have y4 := keepW hSw hg2 e20; have y5 := keepW hSw hg2 e21; go_simp
    try with_reducible rfl
   simp only [sIB, List.set]
   refine goU_read 155 hs0 (by rfl) (by rfl) ?_ (by rfl) (fun wz hSw => ?_) ?_
   rotate_left
   ·have y0 := keepW hSw hBl k1; have y1 := keepW hSw hBl k2; have y2 := keepW hSw hg1 e10; have y3 := keepW hSw hg1 e11; have y4 := keepW hSw hg2 e20; have y5 := keepW hSw hg2 e21; go_simp
    try with_reducible rfl
   simp only [sIB, List.set]
   refine goU_read 156 hs0 (by rfl) (by rfl) ?_ (by rfl) (fun wz hSw => ?_) ?_
   rotate_left
   ·have y0 := keepW hSw hBl k1; have y1 := keepW hSw hBl k2; have y2 := keepW hSw hg1 e10; have y3 := keepW hSw hg1 e11; have y4 := keepW hSw hg2 e20; have y5 := keepW hSw hg2 e21; go_simp
    try with_reducible rfl
   simp only [sIB, List.set]
   refine goU_read 157 hs0 (by rfl) (by rfl) ?_ (by rfl) (fun wz hSw => ?_) ?_
   rotate_left
   ·have y0 := keepW hSw hBl k1; have y1 := keepW hSw hBl k2; have y2 := keepW hSw hg1 e10; have y3 := keepW hSw hg1 e11; have y4 := keepW hSw hg2 e20; have y5 := keepW hSw hg2 e21; go_simp
    try with_reducible rfl
   simp only [sIB, List.set]
   refine goU_read 158 hs0 (by rfl) (by rfl) ?_ (by rfl) (fun wz hSw => ?_) ?_
   rotate_left
   ·have y0 := keepW hSw hBl k1; have y1 := keepW hSw hBl k2; have y2 := keepW hSw hg1 e10; have y3 := keepW hSw hg1 e11; have y4 := keepW hSw hg2 e20; have y5 := keepW hSw hg2 e21; go_simp
    try with_reducible rfl
   simp only [sIB, List.set]
   refine goU_read 159 hs0 (by rfl) (by rfl) ?_ (by rfl) (fun wz hSw => ?_) ?_
   rotate_left
   ·have y0 := keepW hSw hBl k1; have y1 := keepW hSw hBl k2; have y2 := keepW hSw hg1 e10; have y3 := keepW hSw hg1 e11; have y4 := keepW hSw hg2 e20; have y5 := keepW hSw hg2 e21; go_simp
    try with_reducible rfl
   simp only [sIB, List.set]
   refine goU_read 160 hs0 (by rfl) (by rfl) ?_ (by rfl) (fun wz hSw => ?_) ?_
   rotate_left
   ·have y0 := keepW hSw hBl k1; have y1 := keepW hSw hBl k2; have y2 := keepW hSw hg1 e10; have y3 := keepW hSw hg1 e11; have y4 := keepW hSw hg2 e20; have y5 := keepW hSw hg2 e21; go_simp
    try with_reducible rfl
   simp only [sIB, List.set]
   refine goU_read 161 hs0 (by rfl) (by rfl) ?_ (by rfl) (fun wz hSw => ?_) ?_
   rotate_left
   ·have y0 := keepW hSw hBl k1; have y1 := keepW hSw hBl k2; have y2 := keepW hSw hg1 e10; have y3 := keepW hSw hg1 e11; have y4 := keepW hSw hg2 e20; have y5 := keepW hSw hg2 e21; go_simp
    try with_reducible rfl
   simp only [sIB, List.set]
   refine goU_read 162 hs0 (by rfl) (by rfl) ?_ (by rfl) (fun wz hSw => ?_) ?_
   rotate_left
   ·have y0 := keepW hSw hBl k1; have y1 := keepW hSw hBl k2; have y2 := keepW hSw hg1 e10; have y3 := keepW hSw hg1 e11; have y4 := keepW hSw hg2 e20; have y5 := keepW hSw hg2 e21; go_simp
    try with_reducible rfl
   simp only [sIB, List.set]
   refine goU_read 163 hs0 (by rfl) (by rfl) ?_ (by rfl) (fun wz hSw => ?_) ?_
   rotate_left
   ·have y0 := keepW hSw hBl k1; have y1 := keepW hSw hBl k2; have y2 := keepW hSw hg1 e10; have y3 := keepW hSw hg1 e11; have y4 := keepW hSw hg2 e20; have y5 := keepW hSw hg2 e21; go_simp
    try with_reducible rfl
   simp only [sIB, List.set]
   refine goU_read 164 hs0 (by rfl) (by rfl) ?_ (by rfl) (fun wz hSw => ?_) ?_
   rotate_left
   ·have y0 := keepW hSw hBl k1; have y1 := keepW hSw hBl k2; have y2 := keepW hSw hg1 e10; have y3 := keepW hSw hg1 e11; have y4 := keepW hSw hg2 e20; have y5 := keepW hSw hg2 e21; go_simp
    try with_reducible rfl
   simp only [sIB, List.set]
   refine goU_read 165 hs0 (by rfl) (by rfl) ?_ (by rfl) (fun wz hSw => ?_) ?_
   rotate_left
   ·have y0 := keepW hSw hBl k1; have y1 := keepW hSw hBl k2; have y2 := keepW hSw hg1 e10; have y3 := keepW hSw hg1 e11; have y4 := keepW hSw hg2 e20; have y5 := keepW hSw hg2 e21; go_simp
    try with_reducible rfl
   simp only [sIB, List.set]
   refine goU_read 166 hs0 (by rfl) (by rfl) ?_ (by rfl) (fun wz hSw => ?_) ?_
   rotate_left
   ·have y0 := keepW hSw hBl k1; have y1 := keepW hSw hBl k2; have y2 := keepW hSw hg1 e10; have y3 := keepW hSw hg1 e11; have y4 := keepW hSw hg2 e20; have y5 := keepW hSw hg2 e21; go_simp
    try with_reducible rfl
   simp only [sIB, List.set]
   refine goU_read 169 hs0 (by rfl) (by rfl) ?_ (by rfl) (fun wz hSw => ?_) ?_
   rotate_left
   ·have y0 := keepW hSw hBl k1; have y1 := keepW hSw hBl k2; have y2 := keepW hSw hg1 e10; have y3 := keepW hSw hg1 e11; have y4 := keepW hSw hg2 e20; have y5 := keepW hSw hg2 e21; go_simp
    try with_reducible rfl
   simp only [sIB, List.set]
   refine goU_read 170 hs0 (by rfl) (by rfl) ?_ (by rfl) (fun wz hSw => ?_) ?_
   rotate_left
   ·have y0 := keepW hSw hBl k1; have y1 := keepW hSw hBl k2; have y2 := keepW hSw hg1 e10; have y3 := keepW hSw hg1 e11; have y4 := keepW hSw hg2 e20; have y5 := keepW hSw hg2 e21; go_simp
    try with_reducible rfl
   simp only [sIB, List.set]
   refine goU_read 171 hs0 (by rfl) (by rfl) ?_ (by rfl) (fun wz hSw => ?_) ?_
   rotate_left
   ·have y0 := keepW hSw hBl k1; have y1 := keepW hSw hBl k2; have y2 := keepW hSw hg1 e10; have y3 := keepW hSw hg1 e11; have y4 := keepW hSw hg2 e20; have y5 := keepW hSw hg2 e21; go_simp
    try with_reducible rfl
   simp only [sIB, List.set]
   refine goU_read 172 hs0 (by rfl) (by rfl) ?_ (by rfl) (fun wz hSw => ?_) ?_
   rotate_left
   ·have y0 := keepW hSw hBl k1; have y1 := keepW hSw hBl k2; have y2 := keepW hSw hg1 e10; have y3 := keepW hSw hg1 e11; have y4 := keepW hSw hg2 e20; have y5 := keepW hSw hg2 e21; go_simp
    try with_reducible rfl
   simp only [sIB, List.set]
   refine goU_call 167 (by rfl) (by rfl) (by rfl) (by go_simp) (HQU.out _ hs0) ?_
   rintro e w4 ⟨v4, rfl, hv4, hb4⟩
   have hs1 := hs0.trans (hb4.mono hs0.size)
   refine ⟨_, rfl, fun _ => hs1, ?_⟩
   simp only [sIB, List.set]
   refine goU_call 168 (by rfl) (by rfl) (by rfl) (by go_simp) (HNE.out _ _ hv4.tt) ?_
   rintro e w5 ⟨v5, rfl, hv5, hb5⟩
   have hs2 := hs1.trans (hb5.mono hs1.size)
   have hv6 : NIntV w5 (· ≠ gi) v5 (-(gm L i c / gm L r c)) := hv5.dd fun b (h1 : _ ≤ b) => by have := hs1.size; omega
   refine ⟨_, rfl, fun _ => hs2, ?_⟩
   simp only [sIB, List.set]
   refine goU_call 173 (by rfl) (by rfl) (by rfl) (by go_simp) (HAD.out _ _ hs2 hv6) ?_
   rintro e w6 ⟨rfl, hr6, hf6⟩
   have hf7 : Frm (· = gi) wr w6 := (Frm.of_below hs2).trans hf6
   refine ⟨_, rfl, fun h => absurd h (by decide), ?_⟩
   simp only [sIB, List.set]
   refine goU_nilN ?_
   have hm8 := HROW.out w6 (hf7.mono fun b _ e => by rw [e]; rfl) hr6
   have hf8 := HFR.out.trans (hf7.ofOwn (B := B) HU.out rfl)
   clear hv4 hb4 hv5 hb5 hv6 hr6 hf6 hf7
   go_wp2_with fail
   go_roundw
   case rel => exact ⟨j + 1, i + 1, hjq2, Lib.hid hi1, by go_num, by rw [HE.out]; exact hm8, hf8⟩
   case measure => simp only [intOf]; omega
  ·have a2 : ¬ (i : Int) < (r : Int) := by omega
   obtain rfl : j = r := by omega
   clear hi
   go_wp2_with fail
   exact HQ.out wr _ _ _ _ _ _ _ _ _ _ _ _ _ _ _ _ _ _ _ _ _ _ _ _ _ _ _ _ _ _ hmx hfr
end Go.Proofs.YtdjpeimecfhdjaaGreat
