/- The reference's Cayley at q = 5: the loop over the generators of one vertex. -/
import Derived.Test.YtefcdclmabdmbaaGreatDoorKw
namespace Go.Proofs.YtefcdclmabdmbaaGreatDoor
open Go.RowKit
attribute [local go_sem] Oper.semAt_some

/-- The cells of a list of classes. -/
def CC4 (w : World) (g : Nat) (A : List Nq) : Prop := ∀ i q, A[i]? = some q → w.cell? ⟨g, i * 4, none⟩ = some (.int .i64 (q.1 : Nat)) ∧ w.cell? ⟨g, i * 4 + 1, none⟩ = some (.int .i64 (q.2.1 : Nat)) ∧ w.cell? ⟨g, i * 4 + 2, none⟩ = some (.int .i64 (q.2.2.1 : Nat)) ∧ w.cell? ⟨g, i * 4 + 3, none⟩ = some (.int .i64 (q.2.2.2 : Nat))
theorem CC4.below {w w' : World} {g b : Nat} {A : List Nq} (h : CC4 w g A) (hg : g < b) (hb : Below b w w') : CC4 w' g A := fun i q hq => by
  obtain ⟨h0, h1, h2, h3⟩ := h i q hq
  exact ⟨(hb.cell (p := ⟨g, i * 4, none⟩) hg).trans h0, (hb.cell (p := ⟨g, i * 4 + 1, none⟩) hg).trans h1, (hb.cell (p := ⟨g, i * 4 + 2, none⟩) hg).trans h2, (hb.cell (p := ⟨g, i * 4 + 3, none⟩) hg).trans h3⟩
theorem QC5.belowB {w w' : World} {g b : Nat} {L : List Qt} (h : QC5 w g L) (hg : g < b) (hb : Below b w w') : QC5 w' g L := fun i q hq => by
  obtain ⟨h0, h1, h2, h3, h4⟩ := h i q hq
  exact ⟨(hb.cell (p := ⟨g, i * 5, none⟩) hg).trans h0, (hb.cell (p := ⟨g, i * 5 + 1, none⟩) hg).trans h1, (hb.cell (p := ⟨g, i * 5 + 2, none⟩) hg).trans h2, (hb.cell (p := ⟨g, i * 5 + 3, none⟩) hg).trans h3, (hb.cell (p := ⟨g, i * 5 + 4, none⟩) hg).trans h4⟩
theorem toZ_len (l : List Nat) : (toZ l).length = l.length := by simp [toZ]
theorem toZ_at {l : List Nat} {k y : Nat} (h : l[k]? = some y) : ((toZ l).map (Value.int .i64))[k]? = some (.int .i64 (y : Nat)) := by simp [toZ, h]
/-- A place put into the row. -/
theorem put_own {V wy : World} {Lb j kk t c3 c6 : Nat} {A3 A6 : Option Addr} {lst row : List Nat} (hl : lst = sortC (row.take j)) (hr : row[j]? = some t) (hkk : kk ≤ j) (hL : kk = 0 ∨ ∃ y, lst[kk - 1]? = some y ∧ y ≤ t) (hG : ∀ s y, kk ≤ s → lst[s]? = some y → t < y)
    (oz : OwnZ wy Lb (.slice A3 j c3) (toZ lst)) (ht : t ≤ 120) (hLw : Lb ≤ wy.heap.size) (own : V.ownsRow wy.heap.size 3 1 (.slice A6 (j + 1) c6) (j + 1) (((toZ lst).take kk ++ [(t : Int)] ++ (toZ lst).drop kk).map (Value.int .i64))) :
    OwnZ V Lb (.slice A6 (j + 1) c6) (toZ (sortC (row.take (j + 1)))) := by
  have hlen : lst.length = j := by have := oz.len; rw [this]; simp [toZ]
  have e : (toZ lst).take kk ++ [(t : Int)] ++ (toZ lst).drop kk = toZ (sortC (row.take (j + 1))) := by
    rw [← put_sort hl hr (by omega) hL hG, toZ_take, toZ_drop]
    simp [toZ]
  have hl2 : (toZ (sortC (row.take (j + 1)))).length = j + 1 := by
    rw [← e]
    simp [toZ]
    omega
  refine ⟨?_, fun x hx => ?_⟩
  · rw [e] at own
    rw [hl2]
    exact ⟨own.1, own.2.imp id fun ⟨g, cap, cur, h1, h2, h3⟩ => ⟨g, cap, cur, h1, Nat.le_trans hLw h2, h3⟩⟩
  · rw [← e] at hx
    rcases List.mem_append.1 hx with hx | hx
    · rcases List.mem_append.1 hx with hx | hx
      · exact oz.2 x (List.mem_of_mem_take hx)
      · rw [List.mem_singleton] at hx; omega
    · exact oz.2 x (List.mem_of_mem_drop hx)
/-- What one generator gives: the product's four numbers, its class, the class's place. -/
theorem gen_facts {A gs : List Nq} {R : List (List Nat)} {m : Nq} {q : Qt} {i j : Nat} (hC : Cay A gs R) (hdet : ∀ m ∈ A, det5 m ≠ 0) (hm : A[i]? = some m) (hg : gs[j]? = some (cg5 q)) (hb : (1 ≤ q.1 ∧ q.1 ≤ 20) ∧ (-20 ≤ q.2.1 ∧ q.2.1 ≤ 20) ∧ (-20 ≤ q.2.2.1 ∧ q.2.2.1 ≤ 20) ∧ (-20 ≤ q.2.2.2 ∧ q.2.2.2 ≤ 20)) :
    ∃ (s0 s1 s2 s3 x0 x1 x2 x3 : Int) (y : Nq) (ps : Nat), q.1 + 2 * q.2.1 = s0 ∧ q.2.2.1 + 2 * q.2.2.2 = s1 ∧ -q.2.2.1 + 2 * q.2.2.2 = s2 ∧ q.1 - 2 * q.2.1 = s3 ∧
      Hid ((IntKind.i64.wrap ((m.1 : Int) * s0) = (m.1 : Int) * s0 ∧ IntKind.i64.wrap ((m.1 : Int) * s1) = (m.1 : Int) * s1 ∧ IntKind.i64.wrap ((m.2.1 : Int) * s2) = (m.2.1 : Int) * s2 ∧ IntKind.i64.wrap ((m.2.1 : Int) * s3) = (m.2.1 : Int) * s3 ∧ IntKind.i64.wrap ((m.2.2.1 : Int) * s0) = (m.2.2.1 : Int) * s0 ∧ IntKind.i64.wrap ((m.2.2.1 : Int) * s1) = (m.2.2.1 : Int) * s1 ∧ IntKind.i64.wrap ((m.2.2.2 : Int) * s2) = (m.2.2.2 : Int) * s2 ∧ IntKind.i64.wrap ((m.2.2.2 : Int) * s3) = (m.2.2.2 : Int) * s3) ∧
        IntKind.i64.wrap ((m.1 : Int) * s0 + (m.2.1 : Int) * s2) = x0 ∧ IntKind.i64.wrap ((m.1 : Int) * s1 + (m.2.1 : Int) * s3) = x1 ∧ IntKind.i64.wrap ((m.2.2.1 : Int) * s0 + (m.2.2.2 : Int) * s2) = x2 ∧ IntKind.i64.wrap ((m.2.2.1 : Int) * s1 + (m.2.2.2 : Int) * s3) = x3) ∧
      Hid (∀ w : World, Calls Tryz.prog 80 #[.agg #[.int .i64 x0, .int .i64 x1, .int .i64 x2, .int .i64 x3], .int .i64 5] w fun e w' => e = .returned (.agg #[.int .i64 (y.1 : Nat), .int .i64 (y.2.1 : Nat), .int .i64 (y.2.2.1 : Nat), .int .i64 (y.2.2.2 : Nat)]) ∧ Below w.heap.size w w') ∧
      ps < A.length ∧ A[ps]? = some y ∧ (∀ t z, t < ps → A[t]? = some z → ¬ z = y) ∧ (rowC5 (A.map code5) m gs)[j]? = some ps := by
  obtain ⟨⟨a1, a2⟩, ⟨b1, b2⟩, ⟨c1, c2⟩, d1, d2⟩ := hb
  obtain ⟨h1, h2, h3, h4⟩ := hC.in5 m (List.mem_of_getElem? hm)
  have hy := hC.found hm (List.mem_of_getElem? hg)
  have k00 := mul60 (s := q.1 + 2 * q.2.1) h1 (by omega) (by omega)
  have k01 := mul60 (s := q.2.2.1 + 2 * q.2.2.2) h1 (by omega) (by omega)
  have k12 := mul60 (s := -q.2.2.1 + 2 * q.2.2.2) h2 (by omega) (by omega)
  have k13 := mul60 (s := q.1 - 2 * q.2.1) h2 (by omega) (by omega)
  have k20 := mul60 (s := q.1 + 2 * q.2.1) h3 (by omega) (by omega)
  have k21 := mul60 (s := q.2.2.1 + 2 * q.2.2.2) h3 (by omega) (by omega)
  have k32 := mul60 (s := -q.2.2.1 + 2 * q.2.2.2) h4 (by omega) (by omega)
  have k33 := mul60 (s := q.1 - 2 * q.2.1) h4 (by omega) (by omega)
  refine ⟨_, _, _, _, (m.1 : Int) * (q.1 + 2 * q.2.1) + (m.2.1 : Int) * (-q.2.2.1 + 2 * q.2.2.2), (m.1 : Int) * (q.2.2.1 + 2 * q.2.2.2) + (m.2.1 : Int) * (q.1 - 2 * q.2.1), (m.2.2.1 : Int) * (q.1 + 2 * q.2.1) + (m.2.2.2 : Int) * (-q.2.2.1 + 2 * q.2.2.2), (m.2.2.1 : Int) * (q.2.2.1 + 2 * q.2.2.2) + (m.2.2.2 : Int) * (q.1 - 2 * q.2.1), nrm5 (tms5 m (cg5 q)), posC (A.map code5) (code5 (nrm5 (tms5 m (cg5 q)))), rfl, rfl, rfl, rfl, Lib.hid ⟨⟨?_, ?_, ?_, ?_, ?_, ?_, ?_, ?_⟩, ?_, ?_, ?_, ?_⟩, cls5_any (congrArg nrm5 (md5_tms m q).symm) (hdet _ (List.mem_of_getElem? hy)), (List.getElem?_eq_some_iff.1 hy).1, hy, fun t z ht hz e => ?_, ?_⟩
  · exact IntWalk.i64_in _ (by omega)
  · exact IntWalk.i64_in _ (by omega)
  · exact IntWalk.i64_in _ (by omega)
  · exact IntWalk.i64_in _ (by omega)
  · exact IntWalk.i64_in _ (by omega)
  · exact IntWalk.i64_in _ (by omega)
  · exact IntWalk.i64_in _ (by omega)
  · exact IntWalk.i64_in _ (by omega)
  · exact IntWalk.i64_in _ (by omega)
  · exact IntWalk.i64_in _ (by omega)
  · exact IntWalk.i64_in _ (by omega)
  · exact IntWalk.i64_in _ (by omega)
  · refine posC_first ht ?_
    rw [List.getElem?_map, hz, e]
    rfl
  · unfold rowC5
    rw [List.getElem?_map, hg]
    rfl
set_option maxRecDepth 100000 in
set_option maxHeartbeats 8000000 in
theorem loop4_any {wq : World} {Q : Exit → Act → World → Prop} {A gs : List Nq} {R : List (List Nat)} {p gA n cA gq nQ cQ Mb i ma mb mc md : Nat} {t0 t2 t3 t4 t6 t7 t8 t11 t12 t16 t17 t18 t19 t20 t21 t22 t23 t24 t25 t26 t27 t28 t29 t30 t31 t32 t33 t34 t35 t36 t37 t38 t39 t40 t41 t42 t43 t44 t45 t46 t47 t48 t49 t50 t51 t52 t53 t54 t55 t56 t57 t58 t59 t60 t61 t62 t63 t64 t65 t66 t67 t68 t69 t70 t71 t72 t73 t74 t75 t76 t77 t78 t79 t80 t81 t82 t83 t84 t85 t86 t87 t88 t89 t90 t91 t92 t93 t94 t95 t96 t97 t98 t99 t100 t101 t102 t103 t104 t105 t106 t107 t108 t109 t110 t111 t112 t113 t114 t115 t116 t117 t118 t119 t120 t121 t122 t123 t124 t125 t126 t127 t128 t129 t130 t131 t132 t133 t134 t135 t136 t137 t138 t139 t140 t141 t142 t143 t144 t145 t146 t147 t148 t149 t150 t151 t152 t153 t154 t155 t156 t157 t158 t159 t160 t161 t162 t163 t164 t165 t166 t167 t168 t169 t170 t171 t172 t173 t174 t175 t176 t177 t178 t179 t180 t181 t182 t183 t184 t185 t186 t187 t188 t189 t190 t191 t192 t193 t194 t195 t196 t197 t198 t199 t200 t201 t202 t203 t204 t205 t206 t207 t208 t209 t210 t211 t212 t213 t214 t215 t216 t217 t218 t219 t220 t221 t222 t223 t224 t225 t226 t227 t228 t229 t230 t231 t232 t233 t234 t235 t236 t237 t238 t239 t240 t241 t242 t243 t244 t245 t246 t247 t248 t249 t250 t251 t252 t253 t254 t255 t256 t257 t258 t259 t260 t261 t262 t263 t264 t265 t266 t267 t268 t269 t270 t271 t272 t273 t274 t275 t276 t277 t278 t279 t280 t281 t282 t283 : Value}
    (HC : Hid (Cay A gs R)) (HDT : Hid (∀ m ∈ A, det5 m ≠ 0)) (HGS : Hid ((gqs (p : Nat)).map cg5 = gs)) (HMA : Hid (A[i]? = some (ma, mb, mc, md)))
    (HCA : Hid (CC4 wq gA A)) (HQC : Hid (QC5 wq gq (gqs (p : Nat)))) (HM : Hid (wq.heap[Mb]? = some (ob4 (ma, mb, mc, md))))
    (hgA : gA < wq.heap.size) (hgq : gq < wq.heap.size) (HNA : Hid (n = A.length)) (HNQ : Hid (nQ = (gqs (p : Nat)).length)) (hn : n ≤ 120) (hnQ : nQ ≤ 42)
    (hQ : ∀ (A3 : Option Addr) (c3 : Nat) (w' : World) (u15 u16 u17 u18 u19 u135 u136 u137 u138 u139 u140 u141 u142 u143 u144 u145 u146 u147 u148 u149 u150 u151 u152 u153 u154 u155 u156 u157 u158 u159 u160 u161 u162 u163 u164 u165 u166 u167 u168 u169 u170 u171 u172 u173 u174 u175 u176 u177 u178 u179 u180 u181 u182 u183 u184 u185 u186 u187 u188 u189 u190 u191 u192 u193 u194 u195 u196 u197 u198 u199 u200 u201 u202 u203 u204 u205 u206 u207 u208 u209 u210 u211 u212 u213 u214 u215 u216 u217 u218 u219 u220 u221 u222 u223 u224 u225 u226 u227 u228 u229 u230 u231 u232 u233 u234 u235 u236 u237 u238 u239 u240 u241 u242 u243 u244 u245 u246 u247 u248 u249 u250 u251 u252 u253 u254 u255 u256 u257 u258 u259 u260 u261 u262 u263 u264 u265 u266 u267 u268 u269 u270 u271 u272 u273 u274 u275 u276 : Value), OwnZ w' wq.heap.size (.slice A3 nQ c3) (toZ (sortC (rowC5 (A.map code5) (ma, mb, mc, md) gs))) → Below wq.heap.size wq w' → Q .normal ⟨#[t0, .int .i64 5, t2, t3, t4, .slice (some ⟨gA, 0, none⟩) n cA, t6, t7, t8, .int .i64 2, .slice (some ⟨gq, 0, none⟩) nQ cQ, t11, t12, .pointer (some ⟨Mb, 0, none⟩), .slice A3 nQ c3, u15, u16, u17, u18, u19, t20, t21, t22, t23, t24, t25, t26, t27, t28, t29, t30, t31, t32, t33, t34, t35, t36, t37, t38, t39, t40, t41, t42, t43, t44, t45, t46, t47, t48, t49, t50, t51, t52, t53, t54, t55, t56, t57, t58, t59, t60, t61, t62, t63, t64, t65, t66, t67, t68, t69, t70, t71, t72, t73, t74, t75, t76, t77, t78, t79, t80, t81, t82, t83, t84, t85, t86, t87, t88, t89, t90, t91, t92, t93, t94, t95, t96, t97, t98, t99, t100, t101, t102, t103, t104, t105, t106, t107, t108, t109, t110, t111, t112, t113, t114, t115, t116, t117, t118, t119, t120, t121, t122, t123, t124, t125, t126, t127, t128, t129, t130, t131, t132, t133, t134, u135, u136, u137, u138, u139, u140, u141, u142, u143, u144, u145, u146, u147, u148, u149, u150, u151, u152, u153, u154, u155, u156, u157, u158, u159, u160, u161, u162, u163, u164, u165, u166, u167, u168, u169, u170, u171, u172, u173, u174, u175, u176, u177, u178, u179, u180, u181, u182, u183, u184, u185, u186, u187, u188, u189, u190, u191, u192, u193, u194, u195, u196, u197, u198, u199, u200, u201, u202, u203, u204, u205, u206, u207, u208, u209, u210, u211, u212, u213, u214, u215, u216, u217, u218, u219, u220, u221, u222, u223, u224, u225, u226, u227, u228, u229, u230, u231, u232, u233, u234, u235, u236, u237, u238, u239, u240, u241, u242, u243, u244, u245, u246, u247, u248, u249, u250, u251, u252, u253, u254, u255, u256, u257, u258, u259, u260, u261, u262, u263, u264, u265, u266, u267, u268, u269, u270, u271, u272, u273, u274, u275, u276, t277, t278, t279, t280, t281, t282, t283], []⟩ w') :
    (cayBlk 6).wp Tryz.prog Q ⟨#[t0, .int .i64 5, t2, t3, t4, .slice (some ⟨gA, 0, none⟩) n cA, t6, t7, t8, .int .i64 2, .slice (some ⟨gq, 0, none⟩) nQ cQ, t11, t12, .pointer (some ⟨Mb, 0, none⟩), .slice none 0 0, .int .i64 0, t16, t17, t18, t19, t20, t21, t22, t23, t24, t25, t26, t27, t28, t29, t30, t31, t32, t33, t34, t35, t36, t37, t38, t39, t40, t41, t42, t43, t44, t45, t46, t47, t48, t49, t50, t51, t52, t53, t54, t55, t56, t57, t58, t59, t60, t61, t62, t63, t64, t65, t66, t67, t68, t69, t70, t71, t72, t73, t74, t75, t76, t77, t78, t79, t80, t81, t82, t83, t84, t85, t86, t87, t88, t89, t90, t91, t92, t93, t94, t95, t96, t97, t98, t99, t100, t101, t102, t103, t104, t105, t106, t107, t108, t109, t110, t111, t112, t113, t114, t115, t116, t117, t118, t119, t120, t121, t122, t123, t124, t125, t126, t127, t128, t129, t130, t131, t132, t133, t134, t135, t136, t137, t138, t139, t140, t141, t142, t143, t144, t145, t146, t147, t148, t149, t150, t151, t152, t153, t154, t155, t156, t157, t158, t159, t160, t161, t162, t163, t164, t165, t166, t167, t168, t169, t170, t171, t172, t173, t174, t175, t176, t177, t178, t179, t180, t181, t182, t183, t184, t185, t186, t187, t188, t189, t190, t191, t192, t193, t194, t195, t196, t197, t198, t199, t200, t201, t202, t203, t204, t205, t206, t207, t208, t209, t210, t211, t212, t213, t214, t215, t216, t217, t218, t219, t220, t221, t222, t223, t224, t225, t226, t227, t228, t229, t230, t231, t232, t233, t234, t235, t236, t237, t238, t239, t240, t241, t242, t243, t244, t245, t246, t247, t248, t249, t250, t251, t252, t253, t254, t255, t256, t257, t258, t259, t260, t261, t262, t263, t264, t265, t266, t267, t268, t269, t270, t271, t272, t273, t274, t275, t276, t277, t278, t279, t280, t281, t282, t283], []⟩ wq := by
  have HQ := Lib.hid hQ
  clear hQ
  obtain ⟨Lb, hLb⟩ : ∃ Lb, Lb = wq.heap.size := ⟨_, rfl⟩
  have HLB := Lib.hid hLb
  rw [← hLb] at hgA hgq
  clear hLb
  show Code.wp _ (Code.block 6 _) _ _ _
  go_wp2_with fail
  go_loopw [14, 15] (fun lv jv wi => ∃ (j c3 : Nat) (A3 : Option Addr), jv = .int .i64 (j : Nat) ∧ j ≤ nQ ∧ lv = .slice A3 j c3 ∧ Hid (OwnZ wi Lb (.slice A3 j c3) (toZ (sortC ((rowC5 (A.map code5) (ma, mb, mc, md) gs).take j)))) ∧ Hid (Below Lb wq wi)) (fun _ jv _ => nQ - (intOf jv).toNat)
  case atStart => exact ⟨0, 0, none, rfl, by omega, rfl, Lib.hid (OwnZ.nil _ _), Lib.hid (Below.refl _ _)⟩
  case round =>
    obtain ⟨j, c3, A3, rfl, hj, rfl, HOZ, HBI⟩ := hrel
    by_cases hjk : j < nQ
    · obtain ⟨q, hq⟩ : ∃ q, (gqs ((p : Nat) : Int))[j]? = some q := ⟨_, List.getElem?_eq_getElem (by rw [← HNQ.out]; exact hjk)⟩
      have hqb := gqs_small (List.mem_of_getElem? hq)
      obtain ⟨z0, z1, z2, z3, z4⟩ := HQC.out j q hq
      obtain ⟨s0, s1, s2, s3, x0, x1, x2, x3, y, ps, e0, e1, e2, e3, HF, HCL, hpsn, hyA, hfirst, hrw⟩ := gen_facts HC.out HDT.out HMA.out (show gs[j]? = some (cg5 q) by rw [← HGS.out, List.getElem?_map, hq]; rfl) hqb
      obtain ⟨qa, qb, qc, qd⟩ := q
      obtain ⟨ya, yb, yc, yd⟩ := y
      simp only at e0 e1 e2 e3 hqb HF HCL
      have Y0 := Lib.hid (show wr.cell? ⟨gq, j * 5, none⟩ = some (.int .i64 qa) from (HBI.out.cell (p := ⟨gq, j * 5, none⟩) hgq).trans z0)
      have Y1 := Lib.hid (show wr.cell? ⟨gq, j * 5 + 1, none⟩ = some (.int .i64 qb) from (HBI.out.cell (p := ⟨gq, j * 5 + 1, none⟩) hgq).trans z1)
      have Y2 := Lib.hid (show wr.cell? ⟨gq, j * 5 + 2, none⟩ = some (.int .i64 qc) from (HBI.out.cell (p := ⟨gq, j * 5 + 2, none⟩) hgq).trans z2)
      have Y3 := Lib.hid (show wr.cell? ⟨gq, j * 5 + 3, none⟩ = some (.int .i64 qd) from (HBI.out.cell (p := ⟨gq, j * 5 + 3, none⟩) hgq).trans z3)
      have HQB := Lib.hid hqb
      have HE := Lib.hid (And.intro e0 (And.intro e1 (And.intro e2 e3)))
      have HYA := Lib.hid hyA
      have HFI := Lib.hid hfirst
      have HRW := Lib.hid hrw
      have hMbL : Mb < Lb := by rw [HLB.out]; exact (Array.getElem?_eq_some_iff.1 HM.out).1
      have hLr : Lb ≤ wr.heap.size := by rw [HLB.out]; exact HBI.out.size
      rw [← HNA.out] at hpsn
      have hjt : ((j : Nat) : Int) < (nQ : Int) := by omega
      clear z0 z1 z2 z3 z4 hq hqb e0 e1 e2 e3 hyA hfirst hrw
      go_upto_region 23 with (fail)
      refine reg23_any hjk Y0 Y1 Y2 Y3 HQB.out ?_
      intro u141 u142 u143 u144 u145 u146 u147 u148 u149 u150 u151 u152 u153 u154 u155 u156 u157 u158 u159 u160 u161 u162 u163 u164 u165 u166 u167 u168 u169 u170 u171 u172 u173 u174 u175 u176 u177 u178 u179 u180 u181 u182 u183 u184 u185 u186 u187 u188 u189 u190 u191 u192 u193 u194
      rw [HE.out.1, HE.out.2.1, HE.out.2.2.1, HE.out.2.2.2]
      obtain ⟨Sb, hSb⟩ : ∃ Sb, Sb = wr.heap.size := ⟨_, rfl⟩
      obtain ⟨ws, hws⟩ : ∃ ws, ws = (wr.alloc (.cells #[.int .i64 s0, .int .i64 s1, .int .i64 s2, .int .i64 s3] 104)).drew := ⟨_, rfl⟩
      have hbs : Below wr.heap.size wr ws := by rw [hws]; exact (below_alP (Below.refl _ _) _).drew
      have hs0 : ws.heap[Sb]? = some (.cells #[.int .i64 s0, .int .i64 s1, .int .i64 s2, .int .i64 s3] 104 (0, 0)) := by rw [hws, hSb]; exact heap_alloc_new wr _
      have hm0 : ws.heap[Mb]? = some (ob4 (ma, mb, mc, md)) := (hbs.block Mb (by omega)).trans ((HBI.out.block Mb hMbL).trans HM.out)
      rw [← hws, ← hSb]
      rename_i KX hKX
      refine hKX _ _ ?_
      have HBS := Lib.hid hbs
      have c0 : ws.cell? ⟨Mb, 0, none⟩ = some (.int .i64 (ma : Nat)) := by rw [Lib.cell_of_heap hm0]; rfl
      have c1 : ws.cell? ⟨Mb, 1, none⟩ = some (.int .i64 (mb : Nat)) := by rw [Lib.cell_of_heap hm0]; rfl
      have c2 : ws.cell? ⟨Mb, 2, none⟩ = some (.int .i64 (mc : Nat)) := by rw [Lib.cell_of_heap hm0]; rfl
      have c3' : ws.cell? ⟨Mb, 3, none⟩ = some (.int .i64 (md : Nat)) := by rw [Lib.cell_of_heap hm0]; rfl
      have d0 : ws.cell? ⟨Sb, 0, none⟩ = some (.int .i64 s0) := by rw [Lib.cell_of_heap hs0]; rfl
      have d1 : ws.cell? ⟨Sb, 1, none⟩ = some (.int .i64 s1) := by rw [Lib.cell_of_heap hs0]; rfl
      have d2 : ws.cell? ⟨Sb, 2, none⟩ = some (.int .i64 s2) := by rw [Lib.cell_of_heap hs0]; rfl
      have d3 : ws.cell? ⟨Sb, 3, none⟩ = some (.int .i64 s3) := by rw [Lib.cell_of_heap hs0]; rfl
      obtain ⟨⟨f00, f01, f12, f13, f20, f21, f32, f33⟩, g0, g1, g2, g3⟩ := HF.out
      clear hs0 hm0 hbs hws hSb
      go_upto_region 25 with (go_at_call 80; go_must (refine (HCL.out _).mono ?_); rintro e w5 ⟨rfl, hb5⟩)
      obtain ⟨Cb, hCb⟩ : ∃ Cb, Cb = w5.heap.size := ⟨_, rfl⟩
      obtain ⟨wx, hwx⟩ : ∃ wx, wx = w5.alloc (.cells #[.int .i64 (ya : Nat), .int .i64 (yb : Nat), .int .i64 (yc : Nat), .int .i64 (yd : Nat)] 104) := ⟨_, rfl⟩
      have hbx : Below w5.heap.size w5 wx := by rw [hwx]; exact below_alP (Below.refl _ _) _
      have hx0 : wx.heap[Cb]? = some (ob4 (ya, yb, yc, yd)) := by rw [hwx, hCb]; exact heap_alloc_new w5 _
      have hrx : Below wr.heap.size wr wx := (HBS.out.trans (hb5.mono HBS.out.size)).trans (hbx.mono (Nat.le_trans HBS.out.size hb5.size))
      rw [← hwx, ← hCb]
      have HRX := Lib.hid hrx
      have HX0 := Lib.hid hx0
      have HCX := Lib.hid ((HCA.out.below hgA HBI.out).below (Nat.lt_of_lt_of_le hgA hLr) hrx)
      clear hwx hCb hbx hx0 hrx hb5 c0 c1 c2 c3' d0 d1 d2 d3 f00 f01 f12 f13 f20 f21 f32 f33 g0 g1 g2 g3 HF HCL HE HQB Y0 Y1 Y2 Y3 HBS hjt
      go_wp2_with fail
      go_loopw [18] (fun tv wz => ∃ t : Nat, tv = .int .i64 (t : Nat) ∧ t ≤ ps ∧ Hid (Below wx.heap.size wx wz)) (fun tv _ => ps + 1 - (intOf tv).toNat)
      case atStart => exact ⟨0, rfl, by omega, Lib.hid (Below.refl _ _)⟩
      case round =>
        obtain ⟨t, rfl, htp, HBZ⟩ := hrel
        obtain ⟨z, hz⟩ : ∃ z, A[t]? = some z := ⟨_, List.getElem?_eq_getElem (by rw [← HNA.out]; omega)⟩
        obtain ⟨n0, n1, n2, n3⟩ := HCX.out t z hz
        obtain ⟨za, zb, zc, zd⟩ := z
        have hxz := (HBZ.out.block Cb (Array.getElem?_eq_some_iff.1 HX0.out).1).trans HX0.out
        have Y0 := Lib.hid (show wr.cell? ⟨gA, t * 4, none⟩ = some (.int .i64 (za : Nat)) from keepP HBZ.out n0)
        have Y1 := Lib.hid (show wr.cell? ⟨gA, t * 4 + 1, none⟩ = some (.int .i64 (zb : Nat)) from keepP HBZ.out n1)
        have Y2 := Lib.hid (show wr.cell? ⟨gA, t * 4 + 2, none⟩ = some (.int .i64 (zc : Nat)) from keepP HBZ.out n2)
        have Y3 := Lib.hid (show wr.cell? ⟨gA, t * 4 + 3, none⟩ = some (.int .i64 (zd : Nat)) from keepP HBZ.out n3)
        have C0 := Lib.hid (show wr.cell? ⟨Cb, 0, none⟩ = some (.int .i64 (ya : Nat)) by rw [Lib.cell_of_heap hxz]; rfl)
        have C1 := Lib.hid (show wr.cell? ⟨Cb, 1, none⟩ = some (.int .i64 (yb : Nat)) by rw [Lib.cell_of_heap hxz]; rfl)
        have C2 := Lib.hid (show wr.cell? ⟨Cb, 2, none⟩ = some (.int .i64 (yc : Nat)) by rw [Lib.cell_of_heap hxz]; rfl)
        have C3 := Lib.hid (show wr.cell? ⟨Cb, 3, none⟩ = some (.int .i64 (yd : Nat)) by rw [Lib.cell_of_heap hxz]; rfl)
        have tt0 : (0 : Int) ≤ (t : Int) := by omega
        have tt1 : (t : Int) < (n : Int) := by omega
        have hs0 : Below wr.heap.size wr wr.drew := (Below.refl _ _).drew
        clear n0 n1 n2 n3 hxz
        go_upto_region 26 with (fail)
        refine wp_region_trq (.read 0 (.read 1 (.read 2 (.read 3 (.read 4 (.read 5 .nil)))))) [] (by kernel_rfl) (by rfl) (by kernel_rfl) (by kernel_rfl) (fun V => Below wr.heap.size wr V) ?_
        change goG _ _ _ _ _ _ _ wr.drew
        refine goG_read 242 hs0 (by rfl) (by rfl) ?_ (by rfl) (fun wz hSw => ?_) ?_
        rotate_left
        · go_simp
          try with_reducible rfl
        simp only [List.setIfInBounds_toArray, List.set]
        refine goG_read 243 hs0 (by rfl) (by rfl) ?_ (by rfl) (fun wz hSw => ?_) ?_
        rotate_left
        · go_simp
          try with_reducible rfl
        simp only [List.setIfInBounds_toArray, List.set]
        refine goG_read 244 hs0 (by rfl) (by rfl) ?_ (by rfl) (fun wz hSw => ?_) ?_
        rotate_left
        · go_simp
          try with_reducible rfl
        simp only [List.setIfInBounds_toArray, List.set]
        refine goG_read 245 hs0 (by rfl) (by rfl) ?_ (by rfl) (fun wz hSw => ?_) ?_
        rotate_left
        · have x0 := keepP hSw Y0.out; have x1 := keepP hSw Y1.out; have x2 := keepP hSw Y2.out; have x3 := keepP hSw Y3.out; go_simp
          try with_reducible rfl
        simp only [List.setIfInBounds_toArray, List.set]
        refine goG_read 246 hs0 (by rfl) (by rfl) ?_ (by rfl) (fun wz hSw => ?_) ?_
        rotate_left
        · have x0 := keepP hSw C0.out; have x1 := keepP hSw C1.out; have x2 := keepP hSw C2.out; have x3 := keepP hSw C3.out; go_simp
          try with_reducible rfl
        simp only [List.setIfInBounds_toArray, List.set]
        by_cases htl : t < ps
        · have HNE := Lib.hid (HFI.out t _ htl hz)
          refine goG_read 247 hs0 (by rfl) (by rfl) ?_ (by rfl) (fun wz hSw => ?_) ?_
          rotate_left
          · have he := run_eq4_diff HNE.out wz; go_simp
            try with_reducible rfl
          simp only [List.setIfInBounds_toArray, List.set]
          rename_i KX hKX
          refine hKX _ _ ?_
          go_wp2_with fail
          go_roundw
          case rel => exact ⟨t + 1, by go_num, by omega, Lib.hid (HBZ.out.trans (hs0.mono HBZ.out.size))⟩
          case measure => simp [intOf]; omega
        · obtain rfl : t = ps := by omega
          have hzy : (za, zb, zc, zd) = (ya, yb, yc, yd) := Option.some.inj (hz.symm.trans HYA.out)
          simp only [Prod.mk.injEq] at hzy
          obtain ⟨rfl, rfl, rfl, rfl⟩ := hzy
          refine goG_read 247 hs0 (by rfl) (by rfl) ?_ (by rfl) (fun wz hSw => ?_) ?_
          rotate_left
          · have he := run_eq4_same za zb zc zd wz; go_simp
            try with_reducible rfl
          simp only [List.setIfInBounds_toArray, List.set]
          rename_i KX hKX
          refine hKX _ _ ?_
          obtain ⟨wy, hwy⟩ : ∃ wy, wy = wr.drew := ⟨_, rfl⟩
          rw [← hwy] at hs0 ⊢
          have HRY := Lib.hid (HRX.out.trans ((HBZ.out.trans (hs0.mono HBZ.out.size)).mono HRX.out.size))
          clear hwy hs0 hz Y0 Y1 Y2 Y3 C0 C1 C2 C3 tt0 tt1 HX0 HCX HBZ HRX
          obtain ⟨lst, hlst⟩ : ∃ l, l = sortC ((rowC5 (A.map code5) (ma, mb, mc, md) gs).take j) := ⟨_, rfl⟩
          have hoy := HOZ.out.below HRY.out
          rw [← hlst] at hoy
          have hll : lst.length = j := by rw [hoy.len, toZ_len]
          have HOY := Lib.hid hoy
          have HLS := Lib.hid hlst
          clear hlst hoy HOZ
          go_upto_block 10 with (fail)
          go_cut [19] from 135 to 276 (fun kv wc => wc = wy ∧ ∃ kk : Nat, kv = .int .i64 (kk : Nat) ∧ kk ≤ j ∧ Hid (kk = 0 ∨ ∃ y, lst[kk - 1]? = some y ∧ y ≤ t) ∧ Hid (∀ s y, kk ≤ s → lst[s]? = some y → t < y))
          case first =>
            go_wp2_with fail
            go_loopw [19] (fun kv wz => wz = wy ∧ ∃ kk : Nat, kv = .int .i64 (kk : Nat) ∧ kk ≤ j ∧ Hid (∀ s y, kk ≤ s → lst[s]? = some y → t < y)) (fun kv _ => (intOf kv).toNat)
            case atStart => exact ⟨rfl, j, rfl, Nat.le_refl _, Lib.hid (fun s y h1 h2 => by have := (List.getElem?_eq_some_iff.1 h2).1; omega)⟩
            case round =>
              obtain ⟨rfl, kk, rfl, hkk, HG⟩ := hrel
              by_cases hk0 : kk = 0
              · subst hk0
                go_wp2_with fail
                go_meet
                exact ⟨rfl, 0, rfl, by omega, Lib.hid (.inl rfl), HG⟩
              · obtain ⟨kp, rfl⟩ : ∃ x, kk = x + 1 := ⟨kk - 1, by omega⟩
                obtain ⟨y, hy⟩ : ∃ y, lst[kp]? = some y := ⟨_, List.getElem?_eq_getElem (by omega)⟩
                obtain ⟨gT, capT, eT, _, _, _, _, hcT⟩ := own_cells HOY.out.1 (by rw [toZ_len]; omega)
                injection eT with eA eN eC
                subst eA
                have hcy : wr.cell? ⟨gT, kp, none⟩ = some (.int .i64 (y : Nat)) := hcT kp _ (by rw [toZ_at hy])
                have hkp0 : ((kp : Nat) : Int) + 1 > 0 := by omega
                have hkp1 : (0 : Int) ≤ (kp : Nat) := by omega
                have hkp2 : ((kp : Nat) : Int) < (j : Nat) := by omega
                have hkp3 : ((kp : Nat) : Int) + 1 - 1 = (kp : Nat) := by omega
                have hkp4 : IntKind.i64.wrap ((kp : Nat) : Int) = (kp : Nat) := IntWalk.i64_in _ (by omega)
                clear hcT eN eC
                by_cases hyt : t < y
                · have hyt2 : ((t : Nat) : Int) < (y : Nat) := by omega
                  go_wp2_with fail
                  go_roundw
                  case rel => exact ⟨trivial, kp, by go_num, by omega, Lib.hid (fun s z h1 h2 => by
                    rcases Nat.lt_or_ge kp s with h3 | h3
                    · exact HG.out s z h3 h2
                    · obtain rfl : s = kp := by omega
                      rw [hy] at h2
                      injection h2 with h2
                      omega)⟩
                  case measure => simp [intOf]
                · have hyt2 : ¬ ((t : Nat) : Int) < (y : Nat) := by omega
                  go_wp2_with fail
                  go_meet
                  exact ⟨rfl, kp + 1, rfl, by omega, Lib.hid (.inr ⟨y, hy, by omega⟩), HG⟩
          case rest =>
            obtain ⟨hwc, kk, rfl, hkk, HL, HG⟩ := hcut
            obtain rfl := hwc.symm
            rename_i KX hKX
            refine hKX _ _ ?_
            obtain ⟨B1, cb1, hr1, hs1⟩ := cut_take HOY.out (k := kk) hkk
            obtain ⟨B2, cb2, hr2, hs2⟩ := cut_drop HOY.out (k := kk) hkk
            obtain ⟨Zb, hZb⟩ : ∃ Zb, wy.heap.size = Zb := ⟨_, rfl⟩
            have ht120 : t ≤ 120 := by omega
            have hLwy : Lb ≤ wy.heap.size := Nat.le_trans hLr HRY.out.size
            have hjk2 : kk + 1 + (j - kk) = j + 1 := by omega
            have HS1 := Lib.hid hr1
            have HS2 := Lib.hid hr2
            clear hr1 hr2
            go_upto_region 31 with (fail)
            refine wp_region_trq (.pure 1 (.pure 2 (.pure 3 (.pure 5 (.pure 8 (.pure 9 (.pure 10 (.two 0 6 (.two 4 6 (.step 6 (.step 7 (.step 11 (.pure 12 .nil)))) (.step 4 (.step 7 (.step 11 (.pure 12 .nil))))) (.step 0 (.step 4 (.step 7 (.step 11 (.pure 12 .nil))))))))))))) [1, 2, 3, 5, 8, 9, 10, 12] (by kernel_rfl) (by rfl) (by kernel_rfl) (by kernel_rfl) (fun _ => True) ?_
            change goG _ _ _ _ _ _ _ wy.drew
            refine goG_pure 266 (by rfl) (by rfl) ?_ (by rfl) (fun wz => ?_) ?_
            rotate_left
            · go_simp
              try with_reducible rfl
            simp only [List.setIfInBounds_toArray, List.set]
            refine goG_pure 267 (by rfl) (by rfl) ?_ (by rfl) (fun wz => ?_) ?_
            rotate_left
            · go_simp
              try with_reducible rfl
            simp only [List.setIfInBounds_toArray, List.set]
            refine goG_pure 268 (by rfl) (by rfl) (.slice B1 kk cb1) (by rfl) (fun wz => ?_) ?_
            · have hr := HS1.out wz
              go_simp
            simp only [List.setIfInBounds_toArray, List.set]
            refine goG_pure 270 (by rfl) (by rfl) ?_ (by rfl) (fun wz => ?_) ?_
            rotate_left
            · go_simp
              try with_reducible rfl
            simp only [List.setIfInBounds_toArray, List.set]
            refine goG_pure 273 (by rfl) (by rfl) ?_ (by rfl) (fun wz => ?_) ?_
            rotate_left
            · go_simp
              try with_reducible rfl
            simp only [List.setIfInBounds_toArray, List.set]
            refine goG_pure 274 (by rfl) (by rfl) ?_ (by rfl) (fun wz => ?_) ?_
            rotate_left
            · go_simp
              try with_reducible rfl
            simp only [List.setIfInBounds_toArray, List.set]
            refine goG_pure 275 (by rfl) (by rfl) (.slice B2 (j - kk) cb2) (by rfl) (fun wz => ?_) ?_
            · have hr := HS2.out wz
              go_simp
            simp only [List.setIfInBounds_toArray, List.set]
            obtain ⟨v0, hv0⟩ : ∃ v, v = wy.drew := ⟨_, rfl⟩
            have bv0 : Below Zb wy v0 := by rw [hv0, ← hZb]; exact (Below.refl _ _).drew
            have bv0s : Zb ≤ v0.heap.size := by rw [← hZb]; exact (by rw [hv0]; exact Nat.le_refl _)
            rw [← hv0]
            clear hv0
            refine goG_two (by rfl) (by rfl) ?_ ?_
            · go_step
              go_step
              go_step
              obtain ⟨v1, hv1⟩ : ∃ V, V = v0.alloc (.cells #[] 3) := ⟨_, rfl⟩
              obtain ⟨e0, he0⟩ : ∃ g, g = v0.heap.size := ⟨_, rfl⟩
              have kv1 : v1.heap[e0]? = some (.cells #[] 3 (0, 0)) := by rw [hv1, he0]; exact heap_alloc_new v0 _
              have rv1 : Below v0.heap.size v0 v1 := by rw [hv1]; exact below_alP (Below.refl _ _) _
              have bv1 : Below Zb wy v1 := bv0.trans (rv1.mono bv0s)
              have bv1s : Zb ≤ v1.heap.size := Nat.le_trans bv0s rv1.size
              have le0 : e0 < v1.heap.size := (Array.getElem?_eq_some_iff.1 kv1).1
              have ye0 : v0.heap.size ≤ e0 := by rw [he0]; exact Nat.le_refl _
              have ze0 : Zb ≤ e0 := by rw [he0]; exact bv0s
              rw [← hv1, ← he0]
              have o0 : v1.ownsRow Zb 3 1 (.slice (some ⟨e0, 0, none⟩) 0 0) 0 ([].map (Value.int .i64)) := by rw [hv1, he0]; exact World.ownsRow_made v0 #[] 0 bv0s (by unfold maxLen; omega) rfl
              clear hv1 he0
              refine ⟨fun _ => trivial, ?_⟩
              refine goG_two (by rfl) (by rfl) ?_ ?_
              · refine wpList_appZ v1 269 (by rfl) (by rfl) _ _ (by rfl) Zb (some ⟨e0, 0, none⟩) 0 0 [] (by rfl) o0 B1 kk cb1 ((toZ lst).take kk) (by rfl) (hs1 v1 (HOY.out.below (by rw [hZb]; exact bv1))) (by omega) bv1s ?_
                intro A4 c4 v2 ov2 gv2 rv2
                have bv2 : Below Zb wy v2 := bv1.trans rv2
                have bv2s : Zb ≤ v2.heap.size := Nat.le_trans bv1s rv2.size
                simp only [List.setIfInBounds_toArray, List.set, Nat.zero_add, List.nil_append] at ov2 ⊢
                go_step
                refine ⟨fun _ => trivial, ?_⟩
                have o4 := ov2
                refine goG_step (by rfl) ?_
                go_step
                go_step
                go_step
                obtain ⟨v3, hv3⟩ : ∃ V, V = v2.alloc (.cells #[.int .i64 (t : Nat)] 3) := ⟨_, rfl⟩
                obtain ⟨e6, he6⟩ : ∃ g, g = v2.heap.size := ⟨_, rfl⟩
                have kv3 : v3.heap[e6]? = some (.cells #[.int .i64 (t : Nat)] 3 (0, 0)) := by rw [hv3, he6]; exact heap_alloc_new v2 _
                have rv3 : Below v2.heap.size v2 v3 := by rw [hv3]; exact below_alP (Below.refl _ _) _
                have bv3 : Below Zb wy v3 := bv2.trans (rv3.mono bv2s)
                have bv3s : Zb ≤ v3.heap.size := Nat.le_trans bv2s rv3.size
                have le6 : e6 < v3.heap.size := (Array.getElem?_eq_some_iff.1 kv3).1
                have ye6 : v2.heap.size ≤ e6 := by rw [he6]; exact Nat.le_refl _
                have ze6 : Zb ≤ e6 := by rw [he6]; exact bv2s
                rw [← hv3, ← he6]
                have k6 := kv3
                clear hv3 he6
                refine ⟨fun _ => trivial, ?_⟩
                have o4 := own_below o4 rv3
                refine goG_step (by rfl) ?_
                refine wpList_appZ v3 272 (by rfl) (by rfl) _ _ (by rfl) Zb A4 kk c4 ((toZ lst).take kk) (by rfl) o4 (some ⟨e6, 0, none⟩) 1 1 [(t : Int)] (by rfl) (src_block k6 1 1 rfl) (by omega) bv3s ?_
                intro A5 c5 v4 ov4 gv4 rv4
                have bv4 : Below Zb wy v4 := bv3.trans rv4
                have bv4s : Zb ≤ v4.heap.size := Nat.le_trans bv3s rv4.size
                simp only [List.setIfInBounds_toArray, List.set]
                go_step
                refine ⟨fun _ => trivial, ?_⟩
                refine goG_step (by rfl) ?_
                refine wpList_appZ v4 276 (by rfl) (by rfl) _ _ (by rfl) Zb A5 (kk + 1) c5 ((toZ lst).take kk ++ [(t : Int)]) (by rfl) ov4 B2 (j - kk) cb2 ((toZ lst).drop kk) (by rfl) (hs2 v4 (HOY.out.below (by rw [hZb]; exact bv4))) (by omega) bv4s ?_
                intro A6 c6 v5 ov5 gv5 rv5
                have bv5 : Below Zb wy v5 := bv4.trans rv5
                have bv5s : Zb ≤ v5.heap.size := Nat.le_trans bv4s rv5.size
                simp only [List.setIfInBounds_toArray, List.set, hjk2] at ov5 ⊢
                go_step
                refine ⟨fun _ => trivial, ?_⟩
                refine goG_pure 14 (by rfl) (by rfl) ?_ (by rfl) (fun wz => ?_) ?_
                rotate_left
                · go_simp
                  try with_reducible rfl
                simp only [List.setIfInBounds_toArray, List.set]
                refine goG_nilN ?_
                have HOW := Lib.hid (put_own (V := v5) HLS.out HRW.out hkk HL.out HG.out HOY.out ht120 hLwy (by rw [hZb]; exact ov5))
                have HBW := Lib.hid (HBI.out.trans ((HRY.out.mono hLr).trans (bv5.mono (by omega))))
                go_wp2_with fail
                go_roundw
                case rel => exact ⟨j + 1, c6, A6, by go_num, by omega, rfl, HOW, HBW⟩
                case measure => simp [intOf]; omega
              · go_step
                go_step
                go_step
                obtain ⟨v2, hv2⟩ : ∃ V, V = v1.alloc (.cells #[.int .i64 (t : Nat)] 3) := ⟨_, rfl⟩
                obtain ⟨e6, he6⟩ : ∃ g, g = v1.heap.size := ⟨_, rfl⟩
                have kv2 : v2.heap[e6]? = some (.cells #[.int .i64 (t : Nat)] 3 (0, 0)) := by rw [hv2, he6]; exact heap_alloc_new v1 _
                have rv2 : Below v1.heap.size v1 v2 := by rw [hv2]; exact below_alP (Below.refl _ _) _
                have bv2 : Below Zb wy v2 := bv1.trans (rv2.mono bv1s)
                have bv2s : Zb ≤ v2.heap.size := Nat.le_trans bv1s rv2.size
                have le6 : e6 < v2.heap.size := (Array.getElem?_eq_some_iff.1 kv2).1
                have ye6 : v1.heap.size ≤ e6 := by rw [he6]; exact Nat.le_refl _
                have ze6 : Zb ≤ e6 := by rw [he6]; exact bv1s
                rw [← hv2, ← he6]
                have k6 := kv2
                clear hv2 he6
                refine ⟨fun _ => trivial, ?_⟩
                refine goG_step (by rfl) ?_
                have o0 := own_below o0 rv2
                refine wpList_appZ v2 269 (by rfl) (by rfl) _ _ (by rfl) Zb (some ⟨e0, 0, none⟩) 0 0 [] (by rfl) o0 B1 kk cb1 ((toZ lst).take kk) (by rfl) (hs1 v2 (HOY.out.below (by rw [hZb]; exact bv2))) (by omega) bv2s ?_
                intro A4 c4 v3 ov3 gv3 rv3
                have bv3 : Below Zb wy v3 := bv2.trans rv3
                have bv3s : Zb ≤ v3.heap.size := Nat.le_trans bv2s rv3.size
                simp only [List.setIfInBounds_toArray, List.set, Nat.zero_add, List.nil_append] at ov3 ⊢
                go_step
                refine ⟨fun _ => trivial, ?_⟩
                have o4 := ov3
                have k6 := (gv3.block e6 le6 (fun e => by have e' : e6 = e0 := Option.some.inj e; omega)).trans k6
                refine goG_step (by rfl) ?_
                refine wpList_appZ v3 272 (by rfl) (by rfl) _ _ (by rfl) Zb A4 kk c4 ((toZ lst).take kk) (by rfl) o4 (some ⟨e6, 0, none⟩) 1 1 [(t : Int)] (by rfl) (src_block k6 1 1 rfl) (by omega) bv3s ?_
                intro A5 c5 v4 ov4 gv4 rv4
                have bv4 : Below Zb wy v4 := bv3.trans rv4
                have bv4s : Zb ≤ v4.heap.size := Nat.le_trans bv3s rv4.size
                simp only [List.setIfInBounds_toArray, List.set]
                go_step
                refine ⟨fun _ => trivial, ?_⟩
                refine goG_step (by rfl) ?_
                refine wpList_appZ v4 276 (by rfl) (by rfl) _ _ (by rfl) Zb A5 (kk + 1) c5 ((toZ lst).take kk ++ [(t : Int)]) (by rfl) ov4 B2 (j - kk) cb2 ((toZ lst).drop kk) (by rfl) (hs2 v4 (HOY.out.below (by rw [hZb]; exact bv4))) (by omega) bv4s ?_
                intro A6 c6 v5 ov5 gv5 rv5
                have bv5 : Below Zb wy v5 := bv4.trans rv5
                have bv5s : Zb ≤ v5.heap.size := Nat.le_trans bv4s rv5.size
                simp only [List.setIfInBounds_toArray, List.set, hjk2] at ov5 ⊢
                go_step
                refine ⟨fun _ => trivial, ?_⟩
                refine goG_pure 14 (by rfl) (by rfl) ?_ (by rfl) (fun wz => ?_) ?_
                rotate_left
                · go_simp
                  try with_reducible rfl
                simp only [List.setIfInBounds_toArray, List.set]
                refine goG_nilN ?_
                have HOW := Lib.hid (put_own (V := v5) HLS.out HRW.out hkk HL.out HG.out HOY.out ht120 hLwy (by rw [hZb]; exact ov5))
                have HBW := Lib.hid (HBI.out.trans ((HRY.out.mono hLr).trans (bv5.mono (by omega))))
                go_wp2_with fail
                go_roundw
                case rel => exact ⟨j + 1, c6, A6, by go_num, by omega, rfl, HOW, HBW⟩
                case measure => simp [intOf]; omega
            · go_step
              go_step
              go_step
              obtain ⟨v1, hv1⟩ : ∃ V, V = v0.alloc (.cells #[.int .i64 (t : Nat)] 3) := ⟨_, rfl⟩
              obtain ⟨e6, he6⟩ : ∃ g, g = v0.heap.size := ⟨_, rfl⟩
              have kv1 : v1.heap[e6]? = some (.cells #[.int .i64 (t : Nat)] 3 (0, 0)) := by rw [hv1, he6]; exact heap_alloc_new v0 _
              have rv1 : Below v0.heap.size v0 v1 := by rw [hv1]; exact below_alP (Below.refl _ _) _
              have bv1 : Below Zb wy v1 := bv0.trans (rv1.mono bv0s)
              have bv1s : Zb ≤ v1.heap.size := Nat.le_trans bv0s rv1.size
              have le6 : e6 < v1.heap.size := (Array.getElem?_eq_some_iff.1 kv1).1
              have ye6 : v0.heap.size ≤ e6 := by rw [he6]; exact Nat.le_refl _
              have ze6 : Zb ≤ e6 := by rw [he6]; exact bv0s
              rw [← hv1, ← he6]
              have k6 := kv1
              clear hv1 he6
              refine ⟨fun _ => trivial, ?_⟩
              refine goG_step (by rfl) ?_
              go_step
              go_step
              go_step
              obtain ⟨v2, hv2⟩ : ∃ V, V = v1.alloc (.cells #[] 3) := ⟨_, rfl⟩
              obtain ⟨e0, he0⟩ : ∃ g, g = v1.heap.size := ⟨_, rfl⟩
              have kv2 : v2.heap[e0]? = some (.cells #[] 3 (0, 0)) := by rw [hv2, he0]; exact heap_alloc_new v1 _
              have rv2 : Below v1.heap.size v1 v2 := by rw [hv2]; exact below_alP (Below.refl _ _) _
              have bv2 : Below Zb wy v2 := bv1.trans (rv2.mono bv1s)
              have bv2s : Zb ≤ v2.heap.size := Nat.le_trans bv1s rv2.size
              have le0 : e0 < v2.heap.size := (Array.getElem?_eq_some_iff.1 kv2).1
              have ye0 : v1.heap.size ≤ e0 := by rw [he0]; exact Nat.le_refl _
              have ze0 : Zb ≤ e0 := by rw [he0]; exact bv1s
              rw [← hv2, ← he0]
              have o0 : v2.ownsRow Zb 3 1 (.slice (some ⟨e0, 0, none⟩) 0 0) 0 ([].map (Value.int .i64)) := by rw [hv2, he0]; exact World.ownsRow_made v1 #[] 0 bv1s (by unfold maxLen; omega) rfl
              clear hv2 he0
              refine ⟨fun _ => trivial, ?_⟩
              have k6 := (rv2.block e6 le6).trans k6
              have hne : e6 ≠ e0 := by omega
              refine goG_step (by rfl) ?_
              refine wpList_appZ v2 269 (by rfl) (by rfl) _ _ (by rfl) Zb (some ⟨e0, 0, none⟩) 0 0 [] (by rfl) o0 B1 kk cb1 ((toZ lst).take kk) (by rfl) (hs1 v2 (HOY.out.below (by rw [hZb]; exact bv2))) (by omega) bv2s ?_
              intro A4 c4 v3 ov3 gv3 rv3
              have bv3 : Below Zb wy v3 := bv2.trans rv3
              have bv3s : Zb ≤ v3.heap.size := Nat.le_trans bv2s rv3.size
              simp only [List.setIfInBounds_toArray, List.set, Nat.zero_add, List.nil_append] at ov3 ⊢
              go_step
              refine ⟨fun _ => trivial, ?_⟩
              have o4 := ov3
              have k6 := (gv3.block e6 (Nat.lt_of_lt_of_le le6 rv2.size) (fun e => hne (Option.some.inj e))).trans k6
              refine goG_step (by rfl) ?_
              refine wpList_appZ v3 272 (by rfl) (by rfl) _ _ (by rfl) Zb A4 kk c4 ((toZ lst).take kk) (by rfl) o4 (some ⟨e6, 0, none⟩) 1 1 [(t : Int)] (by rfl) (src_block k6 1 1 rfl) (by omega) bv3s ?_
              intro A5 c5 v4 ov4 gv4 rv4
              have bv4 : Below Zb wy v4 := bv3.trans rv4
              have bv4s : Zb ≤ v4.heap.size := Nat.le_trans bv3s rv4.size
              simp only [List.setIfInBounds_toArray, List.set]
              go_step
              refine ⟨fun _ => trivial, ?_⟩
              refine goG_step (by rfl) ?_
              refine wpList_appZ v4 276 (by rfl) (by rfl) _ _ (by rfl) Zb A5 (kk + 1) c5 ((toZ lst).take kk ++ [(t : Int)]) (by rfl) ov4 B2 (j - kk) cb2 ((toZ lst).drop kk) (by rfl) (hs2 v4 (HOY.out.below (by rw [hZb]; exact bv4))) (by omega) bv4s ?_
              intro A6 c6 v5 ov5 gv5 rv5
              have bv5 : Below Zb wy v5 := bv4.trans rv5
              have bv5s : Zb ≤ v5.heap.size := Nat.le_trans bv4s rv5.size
              simp only [List.setIfInBounds_toArray, List.set, hjk2] at ov5 ⊢
              go_step
              refine ⟨fun _ => trivial, ?_⟩
              refine goG_pure 14 (by rfl) (by rfl) ?_ (by rfl) (fun wz => ?_) ?_
              rotate_left
              · go_simp
                try with_reducible rfl
              simp only [List.setIfInBounds_toArray, List.set]
              refine goG_nilN ?_
              have HOW := Lib.hid (put_own (V := v5) HLS.out HRW.out hkk HL.out HG.out HOY.out ht120 hLwy (by rw [hZb]; exact ov5))
              have HBW := Lib.hid (HBI.out.trans ((HRY.out.mono hLr).trans (bv5.mono (by omega))))
              go_wp2_with fail
              go_roundw
              case rel => exact ⟨j + 1, c6, A6, by go_num, by omega, rfl, HOW, HBW⟩
              case measure => simp [intOf]; omega
    · have hjt : ¬ ((j : Nat) : Int) < (nQ : Int) := by omega
      obtain rfl : j = nQ := by omega
      go_wp2_with fail
      refine HQ.out A3 c3 wr _ _ _ _ _ _ _ _ _ _ _ _ _ _ _ _ _ _ _ _ _ _ _ _ _ _ _ _ _ _ _ _ _ _ _ _ _ _ _ _ _ _ _ _ _ _ _ _ _ _ _ _ _ _ _ _ _ _ _ _ _ _ _ _ _ _ _ _ _ _ _ _ _ _ _ _ _ _ _ _ _ _ _ _ _ _ _ _ _ _ _ _ _ _ _ _ _ _ _ _ _ _ _ _ _ _ _ _ _ _ _ _ _ _ _ _ _ _ _ _ _ _ _ _ _ _ _ _ _ _ _ _ _ _ _ _ _ _ _ _ _ _ _ _ _ _ _ ?_ ?_
      · have hl : (rowC5 (A.map code5) (ma, mb, mc, md) gs).length = j := by unfold rowC5; rw [List.length_map, ← HGS.out, List.length_map]; exact HNQ.out.symm
        have h := HOZ.out
        rw [List.take_of_length_le (by omega), HLB.out] at h
        exact h
      · have h := HBI.out
        rw [HLB.out] at h
        exact h
end Go.Proofs.YtefcdclmabdmbaaGreatDoor
