/- The reference's Cayley at q = 5: the region that makes a vertex's name. -/
import Derived.Test.YtefcdclmabdmbaaGreatDoorKv
namespace Go.Proofs.YtefcdclmabdmbaaGreatDoor
open Go.RowKit
attribute [local go_sem] Oper.semAt_some

set_option maxRecDepth 100000 in
set_option maxHeartbeats 8000000 in
theorem reg18_any {wm WO : World} {Q : Exit → Act → World → Prop} {Ob Mb i cN cE ma mb mc md : Nat} {AN AE : Option Addr} {N : List ByteArray} {E : List (List Int)} {t0 t1 t2 t3 t4 t5 t6 t7 t8 t9 t10 t12 t14 t15 t16 t17 t18 t19 t20 t21 t22 t23 t24 t25 t26 t27 t28 t29 t30 t31 t32 t33 t34 t35 t36 t37 t38 t39 t40 t41 t42 t43 t44 t45 t46 t47 t48 t49 t50 t51 t52 t53 t54 t55 t56 t57 t58 t59 t60 t61 t62 t63 t64 t65 t66 t67 t68 t69 t70 t71 t72 t73 t74 t75 t76 t77 t78 t79 t80 t81 t82 t83 t84 t85 t86 t87 t88 t89 t90 t91 t92 t93 t94 t95 t96 t97 t98 t99 t100 t101 t102 t103 t104 t105 t106 t107 t108 t109 t110 t111 t112 t113 t114 t115 t116 t117 t118 t119 t120 t121 t122 t123 t124 t125 t126 t127 t128 t129 t130 t131 t132 t133 t134 t135 t136 t137 t138 t139 t140 t141 t142 t143 t144 t145 t146 t147 t148 t149 t150 t151 t152 t153 t154 t155 t156 t157 t158 t159 t160 t161 t162 t163 t164 t165 t166 t167 t168 t169 t170 t171 t172 t173 t174 t175 t176 t177 t178 t179 t180 t181 t182 t183 t184 t185 t186 t187 t188 t189 t190 t191 t192 t193 t194 t195 t196 t197 t198 t199 t200 t201 t202 t203 t204 t205 t206 t207 t208 t209 t210 t211 t212 t213 t214 t215 t216 t217 t218 t219 t220 t221 t222 t223 t224 t225 t226 t227 t228 t229 t230 t231 t232 t233 t234 t235 t236 t237 t238 t239 t240 t241 t242 t243 t244 t245 t246 t247 t248 t249 t250 t251 t252 t253 t254 t255 t256 t257 t258 t259 t260 t261 t262 t263 t264 t265 t266 t267 t268 t269 t270 t271 t272 t273 t274 t275 t276 t277 t278 t279 t280 t281 t282 t283 : Value}
    (hm5 : In5 (ma, mb, mc, md)) (HSG : Hid (SG4 Ob Mb (.slice AN i cN) (.slice AE i cE) (ma, mb, mc, md) wm)) (hgb : GB wm (Ob + 1) (.slice AN i cN) (.slice AE i cE) N E) (HWM : Hid (Below Ob WO wm)) (hi120 : i ≤ 120) (hMbO : Ob + 1 ≤ Mb) (hoN : ∀ g, (Value.slice AN i cN).ownBlock = some g → g < Mb)
    (hQ : ∀ (An : Option Addr) (cn : Nat) (wq : World) (u112 u113 u114 u115 u116 u117 u118 u119 u120 u121 u122 u123 u124 u125 u126 u127 u128 u129 u130 u131 u132 u133 u134 : Value), SG4 Ob Mb (.slice An (i + 1) cn) (.slice AE i cE) (ma, mb, mc, md) wq → GB wq (Ob + 1) (.slice An (i + 1) cn) (.slice AE i cE) (N ++ [nm5 (ma, mb, mc, md)]) E → Below Ob WO wq → Q .normal ⟨#[t0, t1, t2, t3, t4, t5, t6, t7, t8, t9, t10, .pointer (some ⟨Ob, 0, none⟩), t12, .pointer (some ⟨Mb, 0, none⟩), t14, t15, t16, t17, t18, t19, t20, t21, t22, t23, t24, t25, t26, t27, t28, t29, t30, t31, t32, t33, t34, t35, t36, t37, t38, t39, t40, t41, t42, t43, t44, t45, t46, t47, t48, t49, t50, t51, t52, t53, t54, t55, t56, t57, t58, t59, t60, t61, t62, t63, t64, t65, t66, t67, t68, t69, t70, t71, t72, t73, t74, t75, t76, t77, t78, t79, t80, t81, t82, t83, t84, t85, t86, t87, t88, t89, t90, t91, t92, t93, t94, t95, t96, t97, t98, t99, t100, t101, t102, t103, t104, t105, t106, t107, t108, t109, t110, t111, u112, u113, u114, u115, u116, u117, u118, u119, u120, u121, u122, u123, u124, u125, u126, u127, u128, u129, u130, u131, u132, u133, u134, t135, t136, t137, t138, t139, t140, t141, t142, t143, t144, t145, t146, t147, t148, t149, t150, t151, t152, t153, t154, t155, t156, t157, t158, t159, t160, t161, t162, t163, t164, t165, t166, t167, t168, t169, t170, t171, t172, t173, t174, t175, t176, t177, t178, t179, t180, t181, t182, t183, t184, t185, t186, t187, t188, t189, t190, t191, t192, t193, t194, t195, t196, t197, t198, t199, t200, t201, t202, t203, t204, t205, t206, t207, t208, t209, t210, t211, t212, t213, t214, t215, t216, t217, t218, t219, t220, t221, t222, t223, t224, t225, t226, t227, t228, t229, t230, t231, t232, t233, t234, t235, t236, t237, t238, t239, t240, t241, t242, t243, t244, t245, t246, t247, t248, t249, t250, t251, t252, t253, t254, t255, t256, t257, t258, t259, t260, t261, t262, t263, t264, t265, t266, t267, t268, t269, t270, t271, t272, t273, t274, t275, t276, t277, t278, t279, t280, t281, t282, t283], []⟩ wq) :
    (cayReg 18).wp Tryz.prog Q ⟨#[t0, t1, t2, t3, t4, t5, t6, t7, t8, t9, t10, .pointer (some ⟨Ob, 0, none⟩), t12, .pointer (some ⟨Mb, 0, none⟩), t14, t15, t16, t17, t18, t19, t20, t21, t22, t23, t24, t25, t26, t27, t28, t29, t30, t31, t32, t33, t34, t35, t36, t37, t38, t39, t40, t41, t42, t43, t44, t45, t46, t47, t48, t49, t50, t51, t52, t53, t54, t55, t56, t57, t58, t59, t60, t61, t62, t63, t64, t65, t66, t67, t68, t69, t70, t71, t72, t73, t74, t75, t76, t77, t78, t79, t80, t81, t82, t83, t84, t85, t86, t87, t88, t89, t90, t91, t92, t93, t94, t95, t96, t97, t98, t99, t100, t101, t102, t103, t104, t105, t106, t107, t108, t109, t110, t111, t112, t113, t114, t115, t116, t117, t118, t119, t120, t121, t122, t123, t124, t125, t126, t127, t128, t129, t130, t131, t132, t133, t134, t135, t136, t137, t138, t139, t140, t141, t142, t143, t144, t145, t146, t147, t148, t149, t150, t151, t152, t153, t154, t155, t156, t157, t158, t159, t160, t161, t162, t163, t164, t165, t166, t167, t168, t169, t170, t171, t172, t173, t174, t175, t176, t177, t178, t179, t180, t181, t182, t183, t184, t185, t186, t187, t188, t189, t190, t191, t192, t193, t194, t195, t196, t197, t198, t199, t200, t201, t202, t203, t204, t205, t206, t207, t208, t209, t210, t211, t212, t213, t214, t215, t216, t217, t218, t219, t220, t221, t222, t223, t224, t225, t226, t227, t228, t229, t230, t231, t232, t233, t234, t235, t236, t237, t238, t239, t240, t241, t242, t243, t244, t245, t246, t247, t248, t249, t250, t251, t252, t253, t254, t255, t256, t257, t258, t259, t260, t261, t262, t263, t264, t265, t266, t267, t268, t269, t270, t271, t272, t273, t274, t275, t276, t277, t278, t279, t280, t281, t282, t283], []⟩ wm := by
  have HQ := Lib.hid hQ
  clear hQ
  have HD0 := dec1_any hm5.1
  have HD1 := dec1_any hm5.2.1
  have HD2 := dec1_any hm5.2.2.1
  have HD3 := dec1_any hm5.2.2.2
  have HST := Lib.hid (rst_nil hgb)
  have HNM := Lib.hid (dg1_name (ma, mb, mc, md))
  have HON := Lib.hid (show ∀ g, (Value.slice AN i cN).ownBlock = some g → g ≠ Ob ∧ g ≠ Mb from fun g hg => by
    have h1 := World.ownsRow.lt hgb.nm g hg
    have h2 := hoN g hg
    exact ⟨by omega, by omega⟩)
  clear hm5 hgb hoN
  show Code.wp _ (Code.region 18 (List.toArray _) true) _ _ _
  obtain ⟨v0, hv0⟩ : ∃ v0, v0 = wm.drew := ⟨_, rfl⟩
  have hdr : Below wm.heap.size wm v0 := by rw [hv0]; exact (Below.refl _ _).drew
  have st0 := HST.out.below hdr
  have s0 : SG4 Ob Mb (.slice AN i cN) (.slice AE i cE) (ma, mb, mc, md) v0 := HSG.out.below hdr
  have szv0 : Ob + 1 ≤ v0.heap.size := (Array.getElem?_eq_some_iff.1 s0.1).1
  have q1 := dg1_size ma
  have q2 := dg1_size mb
  have q3 := dg1_size mc
  have q4 := dg1_size md
  refine wp_region_trq (.read 0 (.read 1 (.read 2 (.read 3 (.read 6 (.read 7 (.read 11 (.read 12 (.read 16 (.read 17 (.step 4 (.read 5 (.step 8 (.read 9 (.read 10 (.step 13 (.read 14 (.read 15 (.step 18 (.read 19 (.step 20 (.step 21 (.read 22 (.step 23 .nil)))))))))))))))))))))))) [23] (by kernel_rfl) (by rfl) (by kernel_rfl) (by kernel_rfl) (SG4 Ob Mb (.slice AN i cN) (.slice AE i cE) (ma, mb, mc, md)) ?_
  change goG _ _ _ _ _ _ _ wm.drew
  rw [← hv0]
  clear hv0
  refine goG_read 112 s0 (by rfl) (by rfl) ?_ (by rfl) (fun wz hSw => ?_) ?_
  rotate_left
  · go_simp
    try with_reducible rfl
  simp only [List.setIfInBounds_toArray, List.set]
  refine goG_read 113 s0 (by rfl) (by rfl) ?_ (by rfl) (fun wz hSw => ?_) ?_
  rotate_left
  · have hz := hSw.1; have x0 : wz.cell? ⟨Ob, 0, none⟩ = some (.slice AN i cN) := (by rw [Lib.cell_of_heap hz]; rfl); have x1 : wz.cell? ⟨Ob, 1, none⟩ = some (.slice AE i cE) := (by rw [Lib.cell_of_heap hz]; rfl); clear hz; go_simp
    try with_reducible rfl
  simp only [List.setIfInBounds_toArray, List.set]
  refine goG_read 114 s0 (by rfl) (by rfl) ?_ (by rfl) (fun wz hSw => ?_) ?_
  rotate_left
  · go_simp
    try with_reducible rfl
  simp only [List.setIfInBounds_toArray, List.set]
  refine goG_read 115 s0 (by rfl) (by rfl) ?_ (by rfl) (fun wz hSw => ?_) ?_
  rotate_left
  · have hz := hSw.2; have x0 : wz.cell? ⟨Mb, 0, none⟩ = some (.int .i64 (ma : Nat)) := (by rw [Lib.cell_of_heap hz]; rfl); have x1 : wz.cell? ⟨Mb, 1, none⟩ = some (.int .i64 (mb : Nat)) := (by rw [Lib.cell_of_heap hz]; rfl); have x2 : wz.cell? ⟨Mb, 2, none⟩ = some (.int .i64 (mc : Nat)) := (by rw [Lib.cell_of_heap hz]; rfl); have x3 : wz.cell? ⟨Mb, 3, none⟩ = some (.int .i64 (md : Nat)) := (by rw [Lib.cell_of_heap hz]; rfl); clear hz; go_simp
    try with_reducible rfl
  simp only [List.setIfInBounds_toArray, List.set]
  refine goG_read 118 s0 (by rfl) (by rfl) ?_ (by rfl) (fun wz hSw => ?_) ?_
  rotate_left
  · go_simp
    try with_reducible rfl
  simp only [List.setIfInBounds_toArray, List.set]
  refine goG_read 119 s0 (by rfl) (by rfl) ?_ (by rfl) (fun wz hSw => ?_) ?_
  rotate_left
  · have hz := hSw.2; have x0 : wz.cell? ⟨Mb, 0, none⟩ = some (.int .i64 (ma : Nat)) := (by rw [Lib.cell_of_heap hz]; rfl); have x1 : wz.cell? ⟨Mb, 1, none⟩ = some (.int .i64 (mb : Nat)) := (by rw [Lib.cell_of_heap hz]; rfl); have x2 : wz.cell? ⟨Mb, 2, none⟩ = some (.int .i64 (mc : Nat)) := (by rw [Lib.cell_of_heap hz]; rfl); have x3 : wz.cell? ⟨Mb, 3, none⟩ = some (.int .i64 (md : Nat)) := (by rw [Lib.cell_of_heap hz]; rfl); clear hz; go_simp
    try with_reducible rfl
  simp only [List.setIfInBounds_toArray, List.set]
  refine goG_read 123 s0 (by rfl) (by rfl) ?_ (by rfl) (fun wz hSw => ?_) ?_
  rotate_left
  · go_simp
    try with_reducible rfl
  simp only [List.setIfInBounds_toArray, List.set]
  refine goG_read 124 s0 (by rfl) (by rfl) ?_ (by rfl) (fun wz hSw => ?_) ?_
  rotate_left
  · have hz := hSw.2; have x0 : wz.cell? ⟨Mb, 0, none⟩ = some (.int .i64 (ma : Nat)) := (by rw [Lib.cell_of_heap hz]; rfl); have x1 : wz.cell? ⟨Mb, 1, none⟩ = some (.int .i64 (mb : Nat)) := (by rw [Lib.cell_of_heap hz]; rfl); have x2 : wz.cell? ⟨Mb, 2, none⟩ = some (.int .i64 (mc : Nat)) := (by rw [Lib.cell_of_heap hz]; rfl); have x3 : wz.cell? ⟨Mb, 3, none⟩ = some (.int .i64 (md : Nat)) := (by rw [Lib.cell_of_heap hz]; rfl); clear hz; go_simp
    try with_reducible rfl
  simp only [List.setIfInBounds_toArray, List.set]
  refine goG_read 128 s0 (by rfl) (by rfl) ?_ (by rfl) (fun wz hSw => ?_) ?_
  rotate_left
  · go_simp
    try with_reducible rfl
  simp only [List.setIfInBounds_toArray, List.set]
  refine goG_read 129 s0 (by rfl) (by rfl) ?_ (by rfl) (fun wz hSw => ?_) ?_
  rotate_left
  · have hz := hSw.2; have x0 : wz.cell? ⟨Mb, 0, none⟩ = some (.int .i64 (ma : Nat)) := (by rw [Lib.cell_of_heap hz]; rfl); have x1 : wz.cell? ⟨Mb, 1, none⟩ = some (.int .i64 (mb : Nat)) := (by rw [Lib.cell_of_heap hz]; rfl); have x2 : wz.cell? ⟨Mb, 2, none⟩ = some (.int .i64 (mc : Nat)) := (by rw [Lib.cell_of_heap hz]; rfl); have x3 : wz.cell? ⟨Mb, 3, none⟩ = some (.int .i64 (md : Nat)) := (by rw [Lib.cell_of_heap hz]; rfl); clear hz; go_simp
    try with_reducible rfl
  simp only [List.setIfInBounds_toArray, List.set]
  refine goG_call 116 (by rfl) (by rfl) (by rfl) (by go_simp) (HD0.out _) ?_
  rintro e w5 ⟨rfl, rfl⟩
  refine ⟨_, rfl, fun _ => s0, ?_⟩
  simp only [List.setIfInBounds_toArray, List.set]
  refine goG_read 117 s0 (by rfl) (by rfl) ?_ (by rfl) (fun wz hSw => ?_) ?_
  rotate_left
  · go_simp
    try with_reducible rfl
  simp only [List.setIfInBounds_toArray, List.set]
  refine goG_call 120 (by rfl) (by rfl) (by rfl) (by go_simp) (HD1.out _) ?_
  rintro e w5 ⟨rfl, rfl⟩
  refine ⟨_, rfl, fun _ => s0, ?_⟩
  simp only [List.setIfInBounds_toArray, List.set]
  refine goG_read 121 s0 (by rfl) (by rfl) ?_ (by rfl) (fun wz hSw => ?_) ?_
  rotate_left
  · go_simp
    try with_reducible rfl
  simp only [List.setIfInBounds_toArray, List.set]
  refine goG_read 122 s0 (by rfl) (by rfl) ?_ (by rfl) (fun wz hSw => ?_) ?_
  rotate_left
  · go_simp
    try with_reducible rfl
  simp only [List.setIfInBounds_toArray, List.set]
  refine goG_call 125 (by rfl) (by rfl) (by rfl) (by go_simp) (HD2.out _) ?_
  rintro e w5 ⟨rfl, rfl⟩
  refine ⟨_, rfl, fun _ => s0, ?_⟩
  simp only [List.setIfInBounds_toArray, List.set]
  refine goG_read 126 s0 (by rfl) (by rfl) ?_ (by rfl) (fun wz hSw => ?_) ?_
  rotate_left
  · go_simp
    try with_reducible rfl
  simp only [List.setIfInBounds_toArray, List.set]
  refine goG_read 127 s0 (by rfl) (by rfl) ?_ (by rfl) (fun wz hSw => ?_) ?_
  rotate_left
  · go_simp
    try with_reducible rfl
  simp only [List.setIfInBounds_toArray, List.set]
  refine goG_call 130 (by rfl) (by rfl) (by rfl) (by go_simp) (HD3.out _) ?_
  rintro e w5 ⟨rfl, rfl⟩
  refine ⟨_, rfl, fun _ => s0, ?_⟩
  simp only [List.setIfInBounds_toArray, List.set]
  refine goG_read 131 s0 (by rfl) (by rfl) (.string (nm5 (ma, mb, mc, md))) (by rfl) (fun wz hSw => ?_) ?_
  · go_simp
    rw [← HNM.out]
    try with_reducible rfl
  simp only [List.setIfInBounds_toArray, List.set]
  refine goG_step (by rfl) ?_
  go_step
  go_step
  go_step
  obtain ⟨v2, hv2⟩ : ∃ V2, V2 = v0.alloc (.cells #[.string (nm5 (ma, mb, mc, md))] 9) := ⟨_, rfl⟩
  have hbv2 : Below v0.heap.size v0 v2 := by rw [hv2]; exact below_alP (Below.refl _ _) _
  have ebv2 : v2.heap[v0.heap.size]? = some (.cells #[.string (nm5 (ma, mb, mc, md))] 9 (0, 0)) := by rw [hv2]; exact heap_alloc_new v0 _
  have stv2 := st0.below hbv2
  have sv2 : SG4 Ob Mb (.slice AN i cN) (.slice AE i cE) (ma, mb, mc, md) v2 := s0.below hbv2
  have szv2 : Ob + 1 ≤ v2.heap.size := Nat.le_trans szv0 hbv2.size
  rw [← hv2]
  clear hv2
  refine ⟨fun _ => sv2, ?_⟩
  refine goG_step (by rfl) ?_
  refine wpList_pushNmD v2 133 (by rfl) (by rfl) _ _ (by rfl) (Ob + 1) AN i cN (.slice AE i cE) (.slice none 0 0) _ _ _ (by rfl) stv2 (nm5 (ma, mb, mc, md)) (nm5_max _) _ ebv2 (by rfl) (by omega) szv2 ?_
  intro An cn v3 stv3 hgv3 hbv3
  simp only [List.setIfInBounds_toArray, List.set]
  go_step
  have sv3 : SG4 Ob Mb (.slice AN i cN) (.slice AE i cE) (ma, mb, mc, md) v3 := sv2.grown hgv3 HON.out
  refine ⟨fun _ => sv3, ?_⟩
  refine goG_read 134 sv3 (by rfl) (by rfl) ?_ (by rfl) (fun wz hSw => ?_) ?_
  rotate_left
  · go_simp
    try with_reducible rfl
  simp only [List.setIfInBounds_toArray, List.set]
  refine goG_step (by rfl) ?_
  have hO0 : v3.heap[Ob]? = some (.cells #[.slice AN i cN, .slice AE i cE] 25 (0, 0)) := sv3.1
  have o0 : v3.cell? ⟨Ob, 0, none⟩ = some (.slice AN i cN) := by rw [Lib.cell_of_heap hO0]; rfl
  have p0 := Lib.frozen_of_heap hO0 0
  go_step
  go_step
  go_step
  refine ⟨fun h => absurd h (by decide), ?_⟩
  obtain ⟨nd1, nd2, nd3⟩ := name_done sv3 stv3.gb ((hbv2.mono szv0).trans hbv3) (HWM.out.trans (hdr.mono (by have := (Array.getElem?_eq_some_iff.1 HSG.out.1).1; omega))) (by omega)
  obtain ⟨wq, hwq⟩ : ∃ wq, wq = v3.setCell ⟨Ob, 0, none⟩ (.slice An (i + 1) cn) := ⟨_, rfl⟩
  rw [← hwq] at nd1 nd2 nd3 ⊢
  exact HQ.out An cn wq _ _ _ _ _ _ _ _ _ _ _ _ _ _ _ _ _ _ _ _ _ _ _ nd1 nd2 nd3
end Go.Proofs.YtefcdclmabdmbaaGreatDoor
