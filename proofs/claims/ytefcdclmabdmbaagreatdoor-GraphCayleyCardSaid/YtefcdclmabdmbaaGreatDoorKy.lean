/- The reference's Cayley at q = 5: the loop that gathers the vertices. -/
import Derived.Test.YtefcdclmabdmbaaGreatDoorKv
namespace Go.Proofs.YtefcdclmabdmbaaGreatDoor
open Go.RowKit
attribute [local go_sem] Oper.semAt_some

theorem tdivN (k m : Nat) : ((k : Nat) : Int).tdiv (m : Int) = ((k / m : Nat) : Int) := rfl
set_option maxRecDepth 100000 in
set_option maxHeartbeats 8000000 in
theorem loop1_any {W0 : World} {Q : Exit → Act → World → Prop} {p : Nat} {hf : Bool} {t2 t3 t4 t7 t8 t9 t10 t11 t12 t13 t14 t15 t16 t17 t18 t19 t20 t21 t22 t23 t24 t25 t26 t27 t28 t29 t30 t31 t32 t33 t34 t35 t36 t37 t38 t39 t40 t41 t42 t43 t44 t45 t46 t47 t48 t49 t50 t51 t52 t53 t54 t55 t56 t57 t58 t59 t60 t61 t62 t63 t64 t65 t66 t67 t68 t69 t70 t71 t72 t73 t74 t75 t76 t77 t78 t79 t80 t81 t82 t83 t84 t85 t86 t87 t88 t89 t90 t91 t92 t93 t94 t95 t96 t97 t98 t99 t100 t101 t102 t103 t104 t105 t106 t107 t108 t109 t110 t111 t112 t113 t114 t115 t116 t117 t118 t119 t120 t121 t122 t123 t124 t125 t126 t127 t128 t129 t130 t131 t132 t133 t134 t135 t136 t137 t138 t139 t140 t141 t142 t143 t144 t145 t146 t147 t148 t149 t150 t151 t152 t153 t154 t155 t156 t157 t158 t159 t160 t161 t162 t163 t164 t165 t166 t167 t168 t169 t170 t171 t172 t173 t174 t175 t176 t177 t178 t179 t180 t181 t182 t183 t184 t185 t186 t187 t188 t189 t190 t191 t192 t193 t194 t195 t196 t197 t198 t199 t200 t201 t202 t203 t204 t205 t206 t207 t208 t209 t210 t211 t212 t213 t214 t215 t216 t217 t218 t219 t220 t221 t222 t223 t224 t225 t226 t227 t228 t229 t230 t231 t232 t233 t234 t235 t236 t237 t238 t239 t240 t241 t242 t243 t244 t245 t246 t247 t248 t249 t250 t251 t252 t253 t254 t255 t256 t257 t258 t259 t260 t261 t262 t263 t264 t265 t266 t267 t268 t269 t270 t271 t272 t273 t274 t275 t276 t277 t278 t279 t280 t281 t282 t283 : Value} (HHF : Hid (hf = sqM (p : Nat) 5)) (hp : p ≤ 41)
    (hQ : ∀ (B : Option Addr) (n c : Nat) (w' : World) (u6 u7 u8 u20 u21 u22 u23 u24 u25 u26 u27 u28 u29 u30 u31 u32 u33 u34 u35 u36 u37 u38 u39 u40 u41 u42 u43 u44 u45 u46 u47 u48 u49 u50 u51 u52 u53 u54 u55 u56 u57 u58 u59 u60 u61 u62 u63 u64 u65 u66 u67 u68 u69 u70 u71 u72 u73 u74 u75 u76 u77 u78 u79 u80 u81 u82 u83 u84 u85 u86 u87 u88 u89 u90 : Value), OwnC 104 w' W0.heap.size (.slice B n c) (rl5 hf 625) → Below W0.heap.size W0 w' → Q .normal ⟨#[.int .i64 (p : Nat), .int .i64 5, t2, t3, t4, .slice B n c, u6, u7, u8, t9, t10, t11, t12, t13, t14, t15, t16, t17, t18, t19, u20, u21, u22, u23, u24, u25, u26, u27, u28, u29, u30, u31, u32, u33, u34, u35, u36, u37, u38, u39, u40, u41, u42, u43, u44, u45, u46, u47, u48, u49, u50, u51, u52, u53, u54, u55, u56, u57, u58, u59, u60, u61, u62, u63, u64, u65, u66, u67, u68, u69, u70, u71, u72, u73, u74, u75, u76, u77, u78, u79, u80, u81, u82, u83, u84, u85, u86, u87, u88, u89, u90, t91, t92, t93, t94, t95, t96, t97, t98, t99, t100, t101, t102, t103, t104, t105, t106, t107, t108, t109, t110, t111, t112, t113, t114, t115, t116, t117, t118, t119, t120, t121, t122, t123, t124, t125, t126, t127, t128, t129, t130, t131, t132, t133, t134, t135, t136, t137, t138, t139, t140, t141, t142, t143, t144, t145, t146, t147, t148, t149, t150, t151, t152, t153, t154, t155, t156, t157, t158, t159, t160, t161, t162, t163, t164, t165, t166, t167, t168, t169, t170, t171, t172, t173, t174, t175, t176, t177, t178, t179, t180, t181, t182, t183, t184, t185, t186, t187, t188, t189, t190, t191, t192, t193, t194, t195, t196, t197, t198, t199, t200, t201, t202, t203, t204, t205, t206, t207, t208, t209, t210, t211, t212, t213, t214, t215, t216, t217, t218, t219, t220, t221, t222, t223, t224, t225, t226, t227, t228, t229, t230, t231, t232, t233, t234, t235, t236, t237, t238, t239, t240, t241, t242, t243, t244, t245, t246, t247, t248, t249, t250, t251, t252, t253, t254, t255, t256, t257, t258, t259, t260, t261, t262, t263, t264, t265, t266, t267, t268, t269, t270, t271, t272, t273, t274, t275, t276, t277, t278, t279, t280, t281, t282, t283], []⟩ w') :
    (cayBlk 0).wp Tryz.prog Q ⟨#[.int .i64 (p : Nat), .int .i64 5, t2, t3, t4, .slice none 0 0, .int .i64 0, t7, t8, t9, t10, t11, t12, t13, t14, t15, t16, t17, t18, t19, t20, t21, t22, t23, t24, t25, t26, t27, t28, t29, t30, t31, t32, t33, t34, t35, t36, t37, t38, t39, t40, t41, t42, t43, t44, t45, t46, t47, t48, t49, t50, t51, t52, t53, t54, t55, t56, t57, t58, t59, t60, t61, t62, t63, t64, t65, t66, t67, t68, t69, t70, t71, t72, t73, t74, t75, t76, t77, t78, t79, t80, t81, t82, t83, t84, t85, t86, t87, t88, t89, t90, t91, t92, t93, t94, t95, t96, t97, t98, t99, t100, t101, t102, t103, t104, t105, t106, t107, t108, t109, t110, t111, t112, t113, t114, t115, t116, t117, t118, t119, t120, t121, t122, t123, t124, t125, t126, t127, t128, t129, t130, t131, t132, t133, t134, t135, t136, t137, t138, t139, t140, t141, t142, t143, t144, t145, t146, t147, t148, t149, t150, t151, t152, t153, t154, t155, t156, t157, t158, t159, t160, t161, t162, t163, t164, t165, t166, t167, t168, t169, t170, t171, t172, t173, t174, t175, t176, t177, t178, t179, t180, t181, t182, t183, t184, t185, t186, t187, t188, t189, t190, t191, t192, t193, t194, t195, t196, t197, t198, t199, t200, t201, t202, t203, t204, t205, t206, t207, t208, t209, t210, t211, t212, t213, t214, t215, t216, t217, t218, t219, t220, t221, t222, t223, t224, t225, t226, t227, t228, t229, t230, t231, t232, t233, t234, t235, t236, t237, t238, t239, t240, t241, t242, t243, t244, t245, t246, t247, t248, t249, t250, t251, t252, t253, t254, t255, t256, t257, t258, t259, t260, t261, t262, t263, t264, t265, t266, t267, t268, t269, t270, t271, t272, t273, t274, t275, t276, t277, t278, t279, t280, t281, t282, t283], []⟩ W0 := by
  have HQ := Lib.hid hQ
  clear hQ
  show Code.wp _ (Code.block 0 _) _ _ _
  go_wp2_with fail
  go_loopw [5, 6] (fun o i wr => ∃ (k : Nat) (B : Option Addr) (n c : Nat), i = .int .i64 (k : Nat) ∧ k ≤ 625 ∧ o = .slice B n c ∧ Hid (OwnC 104 wr W0.heap.size (.slice B n c) (rl5 hf k)) ∧ Hid (Below W0.heap.size W0 wr)) (fun _ i _ => 625 - (intOf i).toNat)
  case atStart => exact ⟨0, none, 0, 0, rfl, by omega, rfl, Lib.hid (OwnC.nil _ _), Lib.hid (Below.refl _ _)⟩
  case round =>
    obtain ⟨k, B, n, c, rfl, hk, rfl, HOW, HBR⟩ := hrel
    by_cases hlt : k < 625
    · have ht : ((k : Nat) : Int) < 625 := by omega
      have w25 : IntKind.i64.wrap 25 = 25 := by decide
      have w125 : IntKind.i64.wrap 125 = 125 := by decide

      obtain ⟨Mb, hMb⟩ : ∃ Mb, Mb = wr.heap.size := ⟨_, rfl⟩
      obtain ⟨a, ha⟩ : ∃ a, a = k / 125 := ⟨_, rfl⟩
      obtain ⟨b1, hb1⟩ : ∃ b1, b1 = k / 25 := ⟨_, rfl⟩
      obtain ⟨b, hb⟩ : ∃ b, b = b1 % 5 := ⟨_, rfl⟩
      obtain ⟨c1, hc1⟩ : ∃ c1, c1 = k / 5 := ⟨_, rfl⟩
      obtain ⟨c2, hc2⟩ : ∃ c2, c2 = c1 % 5 := ⟨_, rfl⟩
      obtain ⟨d, hd⟩ : ∃ d, d = k % 5 := ⟨_, rfl⟩
      have q0 : ((k : Nat) : Int).tdiv 125 = (a : Nat) := by rw [ha]; exact tdivN k 125
      have q1 : ((k : Nat) : Int).tdiv 25 = (b1 : Nat) := by rw [hb1]; exact tdivN k 25
      have q2 : ((b1 : Nat) : Int) % 5 = (b : Nat) := by rw [hb]; rfl
      have q3 : ((k : Nat) : Int).tdiv 5 = (c1 : Nat) := by rw [hc1]; exact tdivN k 5
      have q4 : ((c1 : Nat) : Int) % 5 = (c2 : Nat) := by rw [hc2]; rfl
      have q5 : ((k : Nat) : Int) % 5 = (d : Nat) := by rw [hd]; rfl
      have HOF := Lib.hid (show of5 k = (a, b, c2, d) by rw [ha, hb, hb1, hc2, hc1, hd]; rfl)
      have a5 : a < 5 := by omega
      have b5 : b < 5 := by omega
      have c5 : c2 < 5 := by omega
      have d5 : d < 5 := by omega
      have b1b : b1 < 25 := by omega
      have c1b : c1 < 125 := by omega
      clear ha hb hb1 hc1 hc2 hd
      go_upto_region 5 with (fail)
      refine wp_region_trq (.pure 0 (.pure 1 (.pure 2 (.pure 3 (.pure 4 (.pure 5 (.pure 6 (.pure 7 (.pure 8 (.pure 9 (.pure 10 (.pure 11 (.pure 12 (.pure 13 (.pure 14 (.pure 15 (.pure 16 (.pure 17 (.pure 18 (.pure 19 (.pure 20 (.pure 21 (.pure 22 (.step 23 (.step 24 .nil))))))))))))))))))))))))) [0, 1, 2, 3, 4, 5, 6, 7, 8, 9, 10, 11, 12, 13, 14, 15, 16, 17, 18, 19, 20, 21, 22, 23, 24] (by kernel_rfl) (by rfl) (by kernel_rfl) (by kernel_rfl) (fun _ => True) ?_
      change goG _ _ _ _ _ _ _ wr.drew
      refine goG_pure 31 (by rfl) (by rfl) ?_ (by rfl) (fun wz => ?_) ?_
      rotate_left
      · go_simp
        try with_reducible rfl
      simp only [List.setIfInBounds_toArray, List.set]
      refine goG_pure 32 (by rfl) (by rfl) ?_ (by rfl) (fun wz => ?_) ?_
      rotate_left
      · go_simp
        try with_reducible rfl
      simp only [List.setIfInBounds_toArray, List.set]
      refine goG_pure 33 (by rfl) (by rfl) ?_ (by rfl) (fun wz => ?_) ?_
      rotate_left
      · go_simp
        try with_reducible rfl
      simp only [List.setIfInBounds_toArray, List.set]
      refine goG_pure 34 (by rfl) (by rfl) ?_ (by rfl) (fun wz => ?_) ?_
      rotate_left
      · go_simp
        try with_reducible rfl
      simp only [List.setIfInBounds_toArray, List.set]
      refine goG_pure 35 (by rfl) (by rfl) ?_ (by rfl) (fun wz => ?_) ?_
      rotate_left
      · go_simp
        try with_reducible rfl
      simp only [List.setIfInBounds_toArray, List.set]
      refine goG_pure 36 (by rfl) (by rfl) ?_ (by rfl) (fun wz => ?_) ?_
      rotate_left
      · go_simp
        try with_reducible rfl
      simp only [List.setIfInBounds_toArray, List.set]
      refine goG_pure 37 (by rfl) (by rfl) ?_ (by rfl) (fun wz => ?_) ?_
      rotate_left
      · go_simp
        try with_reducible rfl
      simp only [List.setIfInBounds_toArray, List.set]
      refine goG_pure 38 (by rfl) (by rfl) ?_ (by rfl) (fun wz => ?_) ?_
      rotate_left
      · go_simp
        try with_reducible rfl
      simp only [List.setIfInBounds_toArray, List.set]
      refine goG_pure 39 (by rfl) (by rfl) ?_ (by rfl) (fun wz => ?_) ?_
      rotate_left
      · go_simp
        try with_reducible rfl
      simp only [List.setIfInBounds_toArray, List.set]
      refine goG_pure 40 (by rfl) (by rfl) ?_ (by rfl) (fun wz => ?_) ?_
      rotate_left
      · go_simp
        try with_reducible rfl
      simp only [List.setIfInBounds_toArray, List.set]
      refine goG_pure 41 (by rfl) (by rfl) ?_ (by rfl) (fun wz => ?_) ?_
      rotate_left
      · go_simp
        try with_reducible rfl
      simp only [List.setIfInBounds_toArray, List.set]
      refine goG_pure 42 (by rfl) (by rfl) ?_ (by rfl) (fun wz => ?_) ?_
      rotate_left
      · go_simp
        try with_reducible rfl
      simp only [List.setIfInBounds_toArray, List.set]
      refine goG_pure 43 (by rfl) (by rfl) ?_ (by rfl) (fun wz => ?_) ?_
      rotate_left
      · go_simp
        try with_reducible rfl
      simp only [List.setIfInBounds_toArray, List.set]
      refine goG_pure 44 (by rfl) (by rfl) ?_ (by rfl) (fun wz => ?_) ?_
      rotate_left
      · go_simp
        try with_reducible rfl
      simp only [List.setIfInBounds_toArray, List.set]
      refine goG_pure 45 (by rfl) (by rfl) ?_ (by rfl) (fun wz => ?_) ?_
      rotate_left
      · go_simp
        try with_reducible rfl
      simp only [List.setIfInBounds_toArray, List.set]
      refine goG_pure 46 (by rfl) (by rfl) ?_ (by rfl) (fun wz => ?_) ?_
      rotate_left
      · go_simp
        try with_reducible rfl
      simp only [List.setIfInBounds_toArray, List.set]
      refine goG_pure 47 (by rfl) (by rfl) ?_ (by rfl) (fun wz => ?_) ?_
      rotate_left
      · go_simp
        try with_reducible rfl
      simp only [List.setIfInBounds_toArray, List.set]
      refine goG_pure 48 (by rfl) (by rfl) ?_ (by rfl) (fun wz => ?_) ?_
      rotate_left
      · go_simp
        try with_reducible rfl
      simp only [List.setIfInBounds_toArray, List.set]
      refine goG_pure 49 (by rfl) (by rfl) ?_ (by rfl) (fun wz => ?_) ?_
      rotate_left
      · go_simp
        try with_reducible rfl
      simp only [List.setIfInBounds_toArray, List.set]
      refine goG_pure 50 (by rfl) (by rfl) ?_ (by rfl) (fun wz => ?_) ?_
      rotate_left
      · go_simp
        try with_reducible rfl
      simp only [List.setIfInBounds_toArray, List.set]
      refine goG_pure 51 (by rfl) (by rfl) ?_ (by rfl) (fun wz => ?_) ?_
      rotate_left
      · go_simp
        try with_reducible rfl
      simp only [List.setIfInBounds_toArray, List.set]
      refine goG_pure 52 (by rfl) (by rfl) ?_ (by rfl) (fun wz => ?_) ?_
      rotate_left
      · go_simp
        try with_reducible rfl
      simp only [List.setIfInBounds_toArray, List.set]
      refine goG_pure 53 (by rfl) (by rfl) ?_ (by rfl) (fun wz => ?_) ?_
      rotate_left
      · go_simp
        try with_reducible rfl
      simp only [List.setIfInBounds_toArray, List.set]
      refine goG_step (by rfl) ?_
      go_step
      go_step
      go_step
      refine ⟨fun _ => trivial, ?_⟩
      refine goG_step (by rfl) ?_
      go_step
      go_step
      go_step
      obtain ⟨Wa, hWa⟩ : ∃ Wa, Wa = (wr.alloc (.cells #[.int .i64 (a : Nat), .int .i64 (b : Nat), .int .i64 (c2 : Nat), .int .i64 (d : Nat)] 104)).drew := ⟨_, rfl⟩
      rw [← hWa]
      rw [← hMb]
      have hba : Below wr.heap.size wr Wa := by rw [hWa]; exact (below_alP (Below.refl _ _) _).drew
      have hm0 : Wa.heap[Mb]? = some (.cells #[.int .i64 (a : Nat), .int .i64 (b : Nat), .int .i64 (c2 : Nat), .int .i64 (d : Nat)] 104 (0, 0)) := by rw [hWa, hMb]; exact heap_alloc_new wr _
      refine ⟨fun _ => trivial, ?_⟩
      have HBA := Lib.hid hba
      have HM0 := Lib.hid hm0
      have y0 : Wa.cell? ⟨Mb, 0, none⟩ = some (.int .i64 (a : Nat)) := by rw [Lib.cell_of_heap hm0]; rfl
      have y1 : Wa.cell? ⟨Mb, 1, none⟩ = some (.int .i64 (b : Nat)) := by rw [Lib.cell_of_heap hm0]; rfl
      have y2 : Wa.cell? ⟨Mb, 2, none⟩ = some (.int .i64 (c2 : Nat)) := by rw [Lib.cell_of_heap hm0]; rfl
      have y3 : Wa.cell? ⟨Mb, 3, none⟩ = some (.int .i64 (d : Nat)) := by rw [Lib.cell_of_heap hm0]; rfl
      have m1 : a * d ≤ 16 := Nat.mul_le_mul (show a ≤ 4 by omega) (show d ≤ 4 by omega)
      have m2 : b * c2 ≤ 16 := Nat.mul_le_mul (show b ≤ 4 by omega) (show c2 ≤ 4 by omega)
      have n1 : ((a * d : Nat) : Int) = (a : Int) * (d : Int) := Int.natCast_mul a d
      have n2 : ((b * c2 : Nat) : Int) = (b : Int) * (c2 : Int) := Int.natCast_mul b c2
      have w1 : IntKind.i64.wrap ((a : Int) * (d : Int)) = (a : Int) * (d : Int) := IntWalk.i64_in _ (by omega)
      have w2 : IntKind.i64.wrap ((b : Int) * (c2 : Int)) = (b : Int) * (c2 : Int) := IntWalk.i64_in _ (by omega)
      have w3 : IntKind.i64.wrap ((a : Int) * (d : Int) - (b : Int) * (c2 : Int)) = (a : Int) * (d : Int) - (b : Int) * (c2 : Int) := IntWalk.i64_in _ (by omega)
      obtain ⟨dd, hdd⟩ : ∃ dd, dd = det5 (a, b, c2, d) := ⟨_, rfl⟩
      have HMDD := mod5_any ((det5_mod a b c2 d).trans (congrArg (fun x : Nat => (x : Int)) hdd.symm))
      have dd5 : dd < 5 := by rw [hdd]; exact Nat.mod_lt _ (by decide)
      have HDD := Lib.hid hdd
      clear hba hm0 hdd hWa hMb m1 m2 n1 n2 q0 q1 q2 q3 q4 q5 ht b1b c1b
      rename_i KX hKX
      refine hKX _ _ ?_
      go_upto_region 7 with (go_at_call 25; go_must (refine (HMDD.out _).mono ?_); rintro e wm ⟨rfl, rfl⟩)
      clear w1 w2 w3
      have Y0 := Lib.hid y0
      have Y1 := Lib.hid y1
      have Y2 := Lib.hid y2
      have Y3 := Lib.hid y3
      clear y0 y1 y2 y3
      go_cut [86] from 20 to 90 (fun v wx => ∃ b, v = .bool b ∧ Hid (b = kp5 hf k) ∧ Hid (Below Wa.heap.size Wa wx))
      case first =>
        rename_i J8 K8 hJ8 hK8
        have HKP := kp5_of (hf := hf) HOF.out HDD.out
        have HSP := sq5_any (x := p) (by omega) HHF.out
        have HSD := sq5_any (x := dd) (by omega) (sqM5 dd5).symm
        have hin : In5 (a, b, c2, d) := ⟨a5, b5, c5, d5⟩
        refine wp_region_trq (.read 0 (.read 1 (.read 2 (.read 3 (.read 4 (.read 6 (.step 5 (.read 7 (.read 8 (.read 9 (.read 10 (.read 11 (.step 12 (.read 13 (.read 14 (.read 15 (.read 16 (.step 17 (.read 18 (.read 19 .nil)))))))))))))))))))) [] (by kernel_rfl) (by rfl) (by kernel_rfl) (by kernel_rfl) (fun V => Below Wa.heap.size Wa V) ?_
        change goG _ _ _ _ _ _ _ Wa.drew
        have hs0 : Below Wa.heap.size Wa Wa.drew := (Below.refl _ _).drew
        by_cases hz : dd = 0
        · subst hz
          refine goG_read 67 hs0 (by rfl) (by rfl) ?_ (by rfl) (fun wz hSw => ?_) ?_
          rotate_left
          · go_simp
            try with_reducible rfl
          simp only [List.setIfInBounds_toArray, List.set]
          refine goG_read 68 hs0 (by rfl) (by rfl) ?_ (by rfl) (fun wz hSw => ?_) ?_
          rotate_left
          · go_simp
            try with_reducible rfl
          simp only [List.setIfInBounds_toArray, List.set]
          refine goG_read 69 hs0 (by rfl) (by rfl) ?_ (by rfl) (fun wz hSw => ?_) ?_
          rotate_left
          · go_simp
            try with_reducible rfl
          simp only [List.setIfInBounds_toArray, List.set]
          refine goG_skip 70 hs0 (by rfl) (by rfl) (by rfl) ?_
          simp only [List.setIfInBounds_toArray, List.set]
          refine goG_skip 71 hs0 (by rfl) (by rfl) (by rfl) ?_
          simp only [List.setIfInBounds_toArray, List.set]
          refine goG_skip 73 hs0 (by rfl) (by rfl) (by rfl) ?_
          simp only [List.setIfInBounds_toArray, List.set]
          refine goG_stepSkip 72 hs0 (by rfl) (by rfl) (by rfl) ?_
          simp only [List.setIfInBounds_toArray, List.set]
          refine goG_skip 74 hs0 (by rfl) (by rfl) (by rfl) ?_
          simp only [List.setIfInBounds_toArray, List.set]
          refine goG_read 75 hs0 (by rfl) (by rfl) ?_ (by rfl) (fun wz hSw => ?_) ?_
          rotate_left
          · go_simp
            try with_reducible rfl
          simp only [List.setIfInBounds_toArray, List.set]
          refine goG_read 76 hs0 (by rfl) (by rfl) ?_ (by rfl) (fun wz hSw => ?_) ?_
          rotate_left
          · go_simp
            try with_reducible rfl
          simp only [List.setIfInBounds_toArray, List.set]
          refine goG_skip 77 hs0 (by rfl) (by rfl) (by rfl) ?_
          simp only [List.setIfInBounds_toArray, List.set]
          refine goG_skip 78 hs0 (by rfl) (by rfl) (by rfl) ?_
          simp only [List.setIfInBounds_toArray, List.set]
          refine goG_stepSkip 79 hs0 (by rfl) (by rfl) (by rfl) ?_
          simp only [List.setIfInBounds_toArray, List.set]
          refine goG_skip 80 hs0 (by rfl) (by rfl) (by rfl) ?_
          simp only [List.setIfInBounds_toArray, List.set]
          refine goG_skip 81 hs0 (by rfl) (by rfl) (by rfl) ?_
          simp only [List.setIfInBounds_toArray, List.set]
          refine goG_skip 82 hs0 (by rfl) (by rfl) (by rfl) ?_
          simp only [List.setIfInBounds_toArray, List.set]
          refine goG_skip 83 hs0 (by rfl) (by rfl) (by rfl) ?_
          simp only [List.setIfInBounds_toArray, List.set]
          refine goG_stepSkip 84 hs0 (by rfl) (by rfl) (by rfl) ?_
          simp only [List.setIfInBounds_toArray, List.set]
          refine goG_skip 85 hs0 (by rfl) (by rfl) (by rfl) ?_
          simp only [List.setIfInBounds_toArray, List.set]
          refine goG_read 86 hs0 (by rfl) (by rfl) ?_ (by rfl) (fun wz hSw => ?_) ?_
          rotate_left
          · go_simp
            try with_reducible rfl
          simp only [List.setIfInBounds_toArray, List.set]
          refine hK8 _ _ ?_
          go_meet
          exact ⟨false, rfl, kp5_zero HKP, Lib.hid hs0⟩
        · have hz1 : ((dd : Nat) : Int) ≠ 0 := by omega
          have hz2 : (((dd : Nat) : Int) == 0) = false := beq_eq_false_iff_ne.2 hz1
          have hz3 : (((dd : Nat) : Int) != 0) = true := bne_iff_ne.2 hz1
          have hz4 : (dd == 0) = false := beq_eq_false_iff_ne.2 hz
          have hz5 : (dd != 0) = true := bne_iff_ne.2 hz
          have hz6 : 0 < dd := by omega
          obtain ⟨y, hy⟩ : ∃ y, y = nrm5 (a, b, c2, d) := ⟨_, rfl⟩
          have HCL := cls5_nat hin (fun e => hz (HDD.out.trans e)) hy
          have hyi : In5 y := by rw [hy]; exact nrm5_in _
          have HY := Lib.hid hy
          clear hy
          by_cases hcl : y = (a, b, c2, d)
          · subst hcl
            cases hf with
            | false =>
              refine goG_read 67 hs0 (by rfl) (by rfl) ?_ (by rfl) (fun wz hSw => ?_) ?_
              rotate_left
              · go_simp
                try with_reducible rfl
              simp only [List.setIfInBounds_toArray, List.set]
              refine goG_read 68 hs0 (by rfl) (by rfl) ?_ (by rfl) (fun wz hSw => ?_) ?_
              rotate_left
              · go_simp
                try with_reducible rfl
              simp only [List.setIfInBounds_toArray, List.set]
              refine goG_read 69 hs0 (by rfl) (by rfl) ?_ (by rfl) (fun wz hSw => ?_) ?_
              rotate_left
              · go_simp
                try with_reducible rfl
              simp only [List.setIfInBounds_toArray, List.set]
              refine goG_read 70 hs0 (by rfl) (by rfl) ?_ (by rfl) (fun wz hSw => ?_) ?_
              rotate_left
              · have x0 := keepP hSw Y0.out; have x1 := keepP hSw Y1.out; have x2 := keepP hSw Y2.out; have x3 := keepP hSw Y3.out; go_simp
                try with_reducible rfl
              simp only [List.setIfInBounds_toArray, List.set]
              refine goG_read 71 hs0 (by rfl) (by rfl) ?_ (by rfl) (fun wz hSw => ?_) ?_
              rotate_left
              · go_simp
                try with_reducible rfl
              simp only [List.setIfInBounds_toArray, List.set]
              refine goG_read 73 hs0 (by rfl) (by rfl) ?_ (by rfl) (fun wz hSw => ?_) ?_
              rotate_left
              · have x0 := keepP hSw Y0.out; have x1 := keepP hSw Y1.out; have x2 := keepP hSw Y2.out; have x3 := keepP hSw Y3.out; go_simp
                try with_reducible rfl
              simp only [List.setIfInBounds_toArray, List.set]
              refine goG_call 72 (by rfl) (by rfl) (by rfl) (by go_simp) (HCL.out _) ?_
              rintro e w4 ⟨rfl, hb4⟩
              have hs4 : Below Wa.heap.size Wa w4 := btrP hs0 hb4
              refine ⟨_, rfl, fun _ => hs4, ?_⟩
              simp only [List.setIfInBounds_toArray, List.set]
              clear hs0
              refine goG_read 74 hs4 (by rfl) (by rfl) ?_ (by rfl) (fun wz hSw => ?_) ?_
              rotate_left
              · have he := run_eq4_same a b c2 d wz; go_simp
                try with_reducible rfl
              simp only [List.setIfInBounds_toArray, List.set]
              refine goG_read 75 hs4 (by rfl) (by rfl) ?_ (by rfl) (fun wz hSw => ?_) ?_
              rotate_left
              · go_simp
                try with_reducible rfl
              simp only [List.setIfInBounds_toArray, List.set]
              refine goG_read 76 hs4 (by rfl) (by rfl) ?_ (by rfl) (fun wz hSw => ?_) ?_
              rotate_left
              · go_simp
                try with_reducible rfl
              simp only [List.setIfInBounds_toArray, List.set]
              refine goG_read 77 hs4 (by rfl) (by rfl) ?_ (by rfl) (fun wz hSw => ?_) ?_
              rotate_left
              · go_simp
                try with_reducible rfl
              simp only [List.setIfInBounds_toArray, List.set]
              refine goG_read 78 hs4 (by rfl) (by rfl) ?_ (by rfl) (fun wz hSw => ?_) ?_
              rotate_left
              · go_simp
                try with_reducible rfl
              simp only [List.setIfInBounds_toArray, List.set]
              refine goG_call 79 (by rfl) (by rfl) (by rfl) (by go_simp) (HSP.out _) ?_
              rintro e w5 ⟨rfl, rfl⟩
              refine ⟨_, rfl, fun _ => hs4, ?_⟩
              simp only [List.setIfInBounds_toArray, List.set]
              refine goG_read 80 hs4 (by rfl) (by rfl) ?_ (by rfl) (fun wz hSw => ?_) ?_
              rotate_left
              · go_simp
                try with_reducible rfl
              simp only [List.setIfInBounds_toArray, List.set]
              refine goG_read 81 hs4 (by rfl) (by rfl) ?_ (by rfl) (fun wz hSw => ?_) ?_
              rotate_left
              · go_simp
                try with_reducible rfl
              simp only [List.setIfInBounds_toArray, List.set]
              refine goG_skip 82 hs4 (by rfl) (by rfl) (by rfl) ?_
              simp only [List.setIfInBounds_toArray, List.set]
              refine goG_skip 83 hs4 (by rfl) (by rfl) (by rfl) ?_
              simp only [List.setIfInBounds_toArray, List.set]
              refine goG_stepSkip 84 hs4 (by rfl) (by rfl) (by rfl) ?_
              simp only [List.setIfInBounds_toArray, List.set]
              refine goG_read 85 hs4 (by rfl) (by rfl) ?_ (by rfl) (fun wz hSw => ?_) ?_
              rotate_left
              · go_simp
                try with_reducible rfl
              simp only [List.setIfInBounds_toArray, List.set]
              refine goG_read 86 hs4 (by rfl) (by rfl) ?_ (by rfl) (fun wz hSw => ?_) ?_
              rotate_left
              · go_simp
                try with_reducible rfl
              simp only [List.setIfInBounds_toArray, List.set]
              refine hK8 _ _ ?_
              go_meet
              exact ⟨true, rfl, kp5_same HKP HOF HY hz rfl, Lib.hid hs4⟩
            | true =>
              cases hsq : sq5 dd with
              | false =>
                rw [hsq] at HSD
                refine goG_read 67 hs0 (by rfl) (by rfl) ?_ (by rfl) (fun wz hSw => ?_) ?_
                rotate_left
                · go_simp
                  try with_reducible rfl
                simp only [List.setIfInBounds_toArray, List.set]
                refine goG_read 68 hs0 (by rfl) (by rfl) ?_ (by rfl) (fun wz hSw => ?_) ?_
                rotate_left
                · go_simp
                  try with_reducible rfl
                simp only [List.setIfInBounds_toArray, List.set]
                refine goG_read 69 hs0 (by rfl) (by rfl) ?_ (by rfl) (fun wz hSw => ?_) ?_
                rotate_left
                · go_simp
                  try with_reducible rfl
                simp only [List.setIfInBounds_toArray, List.set]
                refine goG_read 70 hs0 (by rfl) (by rfl) ?_ (by rfl) (fun wz hSw => ?_) ?_
                rotate_left
                · have x0 := keepP hSw Y0.out; have x1 := keepP hSw Y1.out; have x2 := keepP hSw Y2.out; have x3 := keepP hSw Y3.out; go_simp
                  try with_reducible rfl
                simp only [List.setIfInBounds_toArray, List.set]
                refine goG_read 71 hs0 (by rfl) (by rfl) ?_ (by rfl) (fun wz hSw => ?_) ?_
                rotate_left
                · go_simp
                  try with_reducible rfl
                simp only [List.setIfInBounds_toArray, List.set]
                refine goG_read 73 hs0 (by rfl) (by rfl) ?_ (by rfl) (fun wz hSw => ?_) ?_
                rotate_left
                · have x0 := keepP hSw Y0.out; have x1 := keepP hSw Y1.out; have x2 := keepP hSw Y2.out; have x3 := keepP hSw Y3.out; go_simp
                  try with_reducible rfl
                simp only [List.setIfInBounds_toArray, List.set]
                refine goG_call 72 (by rfl) (by rfl) (by rfl) (by go_simp) (HCL.out _) ?_
                rintro e w4 ⟨rfl, hb4⟩
                have hs4 : Below Wa.heap.size Wa w4 := btrP hs0 hb4
                refine ⟨_, rfl, fun _ => hs4, ?_⟩
                simp only [List.setIfInBounds_toArray, List.set]
                clear hs0
                refine goG_read 74 hs4 (by rfl) (by rfl) ?_ (by rfl) (fun wz hSw => ?_) ?_
                rotate_left
                · have he := run_eq4_same a b c2 d wz; go_simp
                  try with_reducible rfl
                simp only [List.setIfInBounds_toArray, List.set]
                refine goG_read 75 hs4 (by rfl) (by rfl) ?_ (by rfl) (fun wz hSw => ?_) ?_
                rotate_left
                · go_simp
                  try with_reducible rfl
                simp only [List.setIfInBounds_toArray, List.set]
                refine goG_read 76 hs4 (by rfl) (by rfl) ?_ (by rfl) (fun wz hSw => ?_) ?_
                rotate_left
                · go_simp
                  try with_reducible rfl
                simp only [List.setIfInBounds_toArray, List.set]
                refine goG_read 77 hs4 (by rfl) (by rfl) ?_ (by rfl) (fun wz hSw => ?_) ?_
                rotate_left
                · go_simp
                  try with_reducible rfl
                simp only [List.setIfInBounds_toArray, List.set]
                refine goG_read 78 hs4 (by rfl) (by rfl) ?_ (by rfl) (fun wz hSw => ?_) ?_
                rotate_left
                · go_simp
                  try with_reducible rfl
                simp only [List.setIfInBounds_toArray, List.set]
                refine goG_call 79 (by rfl) (by rfl) (by rfl) (by go_simp) (HSP.out _) ?_
                rintro e w5 ⟨rfl, rfl⟩
                refine ⟨_, rfl, fun _ => hs4, ?_⟩
                simp only [List.setIfInBounds_toArray, List.set]
                refine goG_read 80 hs4 (by rfl) (by rfl) ?_ (by rfl) (fun wz hSw => ?_) ?_
                rotate_left
                · go_simp
                  try with_reducible rfl
                simp only [List.setIfInBounds_toArray, List.set]
                refine goG_read 81 hs4 (by rfl) (by rfl) ?_ (by rfl) (fun wz hSw => ?_) ?_
                rotate_left
                · go_simp
                  try with_reducible rfl
                simp only [List.setIfInBounds_toArray, List.set]
                refine goG_read 82 hs4 (by rfl) (by rfl) ?_ (by rfl) (fun wz hSw => ?_) ?_
                rotate_left
                · go_simp
                  try with_reducible rfl
                simp only [List.setIfInBounds_toArray, List.set]
                refine goG_read 83 hs4 (by rfl) (by rfl) ?_ (by rfl) (fun wz hSw => ?_) ?_
                rotate_left
                · go_simp
                  try with_reducible rfl
                simp only [List.setIfInBounds_toArray, List.set]
                refine goG_call 84 (by rfl) (by rfl) (by rfl) (by go_simp) (HSD.out _) ?_
                rintro e w6 ⟨rfl, rfl⟩
                refine ⟨_, rfl, fun _ => hs4, ?_⟩
                simp only [List.setIfInBounds_toArray, List.set]
                refine goG_read 85 hs4 (by rfl) (by rfl) ?_ (by rfl) (fun wz hSw => ?_) ?_
                rotate_left
                · go_simp
                  try with_reducible rfl
                simp only [List.setIfInBounds_toArray, List.set]
                refine goG_read 86 hs4 (by rfl) (by rfl) ?_ (by rfl) (fun wz hSw => ?_) ?_
                rotate_left
                · go_simp
                  try with_reducible rfl
                simp only [List.setIfInBounds_toArray, List.set]
                refine hK8 _ _ ?_
                go_meet
                exact ⟨false, rfl, kp5_same HKP HOF HY hz (by rw [hsq]; rfl), Lib.hid hs4⟩
              | true =>
                rw [hsq] at HSD
                refine goG_read 67 hs0 (by rfl) (by rfl) ?_ (by rfl) (fun wz hSw => ?_) ?_
                rotate_left
                · go_simp
                  try with_reducible rfl
                simp only [List.setIfInBounds_toArray, List.set]
                refine goG_read 68 hs0 (by rfl) (by rfl) ?_ (by rfl) (fun wz hSw => ?_) ?_
                rotate_left
                · go_simp
                  try with_reducible rfl
                simp only [List.setIfInBounds_toArray, List.set]
                refine goG_read 69 hs0 (by rfl) (by rfl) ?_ (by rfl) (fun wz hSw => ?_) ?_
                rotate_left
                · go_simp
                  try with_reducible rfl
                simp only [List.setIfInBounds_toArray, List.set]
                refine goG_read 70 hs0 (by rfl) (by rfl) ?_ (by rfl) (fun wz hSw => ?_) ?_
                rotate_left
                · have x0 := keepP hSw Y0.out; have x1 := keepP hSw Y1.out; have x2 := keepP hSw Y2.out; have x3 := keepP hSw Y3.out; go_simp
                  try with_reducible rfl
                simp only [List.setIfInBounds_toArray, List.set]
                refine goG_read 71 hs0 (by rfl) (by rfl) ?_ (by rfl) (fun wz hSw => ?_) ?_
                rotate_left
                · go_simp
                  try with_reducible rfl
                simp only [List.setIfInBounds_toArray, List.set]
                refine goG_read 73 hs0 (by rfl) (by rfl) ?_ (by rfl) (fun wz hSw => ?_) ?_
                rotate_left
                · have x0 := keepP hSw Y0.out; have x1 := keepP hSw Y1.out; have x2 := keepP hSw Y2.out; have x3 := keepP hSw Y3.out; go_simp
                  try with_reducible rfl
                simp only [List.setIfInBounds_toArray, List.set]
                refine goG_call 72 (by rfl) (by rfl) (by rfl) (by go_simp) (HCL.out _) ?_
                rintro e w4 ⟨rfl, hb4⟩
                have hs4 : Below Wa.heap.size Wa w4 := btrP hs0 hb4
                refine ⟨_, rfl, fun _ => hs4, ?_⟩
                simp only [List.setIfInBounds_toArray, List.set]
                clear hs0
                refine goG_read 74 hs4 (by rfl) (by rfl) ?_ (by rfl) (fun wz hSw => ?_) ?_
                rotate_left
                · have he := run_eq4_same a b c2 d wz; go_simp
                  try with_reducible rfl
                simp only [List.setIfInBounds_toArray, List.set]
                refine goG_read 75 hs4 (by rfl) (by rfl) ?_ (by rfl) (fun wz hSw => ?_) ?_
                rotate_left
                · go_simp
                  try with_reducible rfl
                simp only [List.setIfInBounds_toArray, List.set]
                refine goG_read 76 hs4 (by rfl) (by rfl) ?_ (by rfl) (fun wz hSw => ?_) ?_
                rotate_left
                · go_simp
                  try with_reducible rfl
                simp only [List.setIfInBounds_toArray, List.set]
                refine goG_read 77 hs4 (by rfl) (by rfl) ?_ (by rfl) (fun wz hSw => ?_) ?_
                rotate_left
                · go_simp
                  try with_reducible rfl
                simp only [List.setIfInBounds_toArray, List.set]
                refine goG_read 78 hs4 (by rfl) (by rfl) ?_ (by rfl) (fun wz hSw => ?_) ?_
                rotate_left
                · go_simp
                  try with_reducible rfl
                simp only [List.setIfInBounds_toArray, List.set]
                refine goG_call 79 (by rfl) (by rfl) (by rfl) (by go_simp) (HSP.out _) ?_
                rintro e w5 ⟨rfl, rfl⟩
                refine ⟨_, rfl, fun _ => hs4, ?_⟩
                simp only [List.setIfInBounds_toArray, List.set]
                refine goG_read 80 hs4 (by rfl) (by rfl) ?_ (by rfl) (fun wz hSw => ?_) ?_
                rotate_left
                · go_simp
                  try with_reducible rfl
                simp only [List.setIfInBounds_toArray, List.set]
                refine goG_read 81 hs4 (by rfl) (by rfl) ?_ (by rfl) (fun wz hSw => ?_) ?_
                rotate_left
                · go_simp
                  try with_reducible rfl
                simp only [List.setIfInBounds_toArray, List.set]
                refine goG_read 82 hs4 (by rfl) (by rfl) ?_ (by rfl) (fun wz hSw => ?_) ?_
                rotate_left
                · go_simp
                  try with_reducible rfl
                simp only [List.setIfInBounds_toArray, List.set]
                refine goG_read 83 hs4 (by rfl) (by rfl) ?_ (by rfl) (fun wz hSw => ?_) ?_
                rotate_left
                · go_simp
                  try with_reducible rfl
                simp only [List.setIfInBounds_toArray, List.set]
                refine goG_call 84 (by rfl) (by rfl) (by rfl) (by go_simp) (HSD.out _) ?_
                rintro e w6 ⟨rfl, rfl⟩
                refine ⟨_, rfl, fun _ => hs4, ?_⟩
                simp only [List.setIfInBounds_toArray, List.set]
                refine goG_read 85 hs4 (by rfl) (by rfl) ?_ (by rfl) (fun wz hSw => ?_) ?_
                rotate_left
                · go_simp
                  try with_reducible rfl
                simp only [List.setIfInBounds_toArray, List.set]
                refine goG_read 86 hs4 (by rfl) (by rfl) ?_ (by rfl) (fun wz hSw => ?_) ?_
                rotate_left
                · go_simp
                  try with_reducible rfl
                simp only [List.setIfInBounds_toArray, List.set]
                refine hK8 _ _ ?_
                go_meet
                exact ⟨true, rfl, kp5_same HKP HOF HY hz (by rw [hsq]; rfl), Lib.hid hs4⟩
          · obtain ⟨ya, yb, yc, yd⟩ := y
            refine goG_read 67 hs0 (by rfl) (by rfl) ?_ (by rfl) (fun wz hSw => ?_) ?_
            rotate_left
            · go_simp
              try with_reducible rfl
            simp only [List.setIfInBounds_toArray, List.set]
            refine goG_read 68 hs0 (by rfl) (by rfl) ?_ (by rfl) (fun wz hSw => ?_) ?_
            rotate_left
            · go_simp
              try with_reducible rfl
            simp only [List.setIfInBounds_toArray, List.set]
            refine goG_read 69 hs0 (by rfl) (by rfl) ?_ (by rfl) (fun wz hSw => ?_) ?_
            rotate_left
            · go_simp
              try with_reducible rfl
            simp only [List.setIfInBounds_toArray, List.set]
            refine goG_read 70 hs0 (by rfl) (by rfl) ?_ (by rfl) (fun wz hSw => ?_) ?_
            rotate_left
            · have x0 := keepP hSw Y0.out; have x1 := keepP hSw Y1.out; have x2 := keepP hSw Y2.out; have x3 := keepP hSw Y3.out; go_simp
              try with_reducible rfl
            simp only [List.setIfInBounds_toArray, List.set]
            refine goG_read 71 hs0 (by rfl) (by rfl) ?_ (by rfl) (fun wz hSw => ?_) ?_
            rotate_left
            · go_simp
              try with_reducible rfl
            simp only [List.setIfInBounds_toArray, List.set]
            refine goG_read 73 hs0 (by rfl) (by rfl) ?_ (by rfl) (fun wz hSw => ?_) ?_
            rotate_left
            · have x0 := keepP hSw Y0.out; have x1 := keepP hSw Y1.out; have x2 := keepP hSw Y2.out; have x3 := keepP hSw Y3.out; go_simp
              try with_reducible rfl
            simp only [List.setIfInBounds_toArray, List.set]
            refine goG_call 72 (by rfl) (by rfl) (by rfl) (by go_simp) (HCL.out _) ?_
            rintro e w4 ⟨rfl, hb4⟩
            have hs4 : Below Wa.heap.size Wa w4 := btrP hs0 hb4
            refine ⟨_, rfl, fun _ => hs4, ?_⟩
            simp only [List.setIfInBounds_toArray, List.set]
            clear hs0
            refine goG_read 74 hs4 (by rfl) (by rfl) ?_ (by rfl) (fun wz hSw => ?_) ?_
            rotate_left
            · have he := run_eq4_diff hcl wz; go_simp
              try with_reducible rfl
            simp only [List.setIfInBounds_toArray, List.set]
            refine goG_read 75 hs4 (by rfl) (by rfl) ?_ (by rfl) (fun wz hSw => ?_) ?_
            rotate_left
            · go_simp
              try with_reducible rfl
            simp only [List.setIfInBounds_toArray, List.set]
            refine goG_read 76 hs4 (by rfl) (by rfl) ?_ (by rfl) (fun wz hSw => ?_) ?_
            rotate_left
            · go_simp
              try with_reducible rfl
            simp only [List.setIfInBounds_toArray, List.set]
            refine goG_skip 77 hs4 (by rfl) (by rfl) (by rfl) ?_
            simp only [List.setIfInBounds_toArray, List.set]
            refine goG_skip 78 hs4 (by rfl) (by rfl) (by rfl) ?_
            simp only [List.setIfInBounds_toArray, List.set]
            refine goG_stepSkip 79 hs4 (by rfl) (by rfl) (by rfl) ?_
            simp only [List.setIfInBounds_toArray, List.set]
            refine goG_skip 80 hs4 (by rfl) (by rfl) (by rfl) ?_
            simp only [List.setIfInBounds_toArray, List.set]
            refine goG_skip 81 hs4 (by rfl) (by rfl) (by rfl) ?_
            simp only [List.setIfInBounds_toArray, List.set]
            refine goG_skip 82 hs4 (by rfl) (by rfl) (by rfl) ?_
            simp only [List.setIfInBounds_toArray, List.set]
            refine goG_skip 83 hs4 (by rfl) (by rfl) (by rfl) ?_
            simp only [List.setIfInBounds_toArray, List.set]
            refine goG_stepSkip 84 hs4 (by rfl) (by rfl) (by rfl) ?_
            simp only [List.setIfInBounds_toArray, List.set]
            refine goG_skip 85 hs4 (by rfl) (by rfl) (by rfl) ?_
            simp only [List.setIfInBounds_toArray, List.set]
            refine goG_read 86 hs4 (by rfl) (by rfl) ?_ (by rfl) (fun wz hSw => ?_) ?_
            rotate_left
            · go_simp
              try with_reducible rfl
            simp only [List.setIfInBounds_toArray, List.set]
            refine hK8 _ _ ?_
            go_meet
            exact ⟨false, rfl, kp5_diff HKP HOF hin HY hyi hcl, Lib.hid hs4⟩
      case rest =>
        obtain ⟨bk, rfl, HBK, HBC⟩ := hcut
        clear HMDD HDD
        have hMbl : Mb < Wa.heap.size := (Array.getElem?_eq_some_iff.1 HM0.out).1
        have hb2 : Below wr.heap.size wr wc := HBA.out.trans (HBC.out.mono HBA.out.size)
        have HOWc := Lib.hid (HOW.out.below hb2)
        have HBRc := Lib.hid (HBR.out.trans (hb2.mono HBR.out.size))
        have hszc : W0.heap.size ≤ wc.heap.size := HBRc.out.size
        have hnl : n ≤ k := by rw [HOW.out.len]; exact rl5_le
        rename_i KX hKX
        refine hKX _ _ ?_
        cases bk with
        | false =>
          go_wp2_with fail
          go_roundw
          case rel => exact ⟨k + 1, B, n, c, by go_num, by omega, rfl, by rw [rl5_no HBK]; exact HOWc, HBRc⟩
          case measure => simp [intOf]; omega
        | true =>
          have hm0 := (HBC.out.block Mb hMbl).trans HM0.out
          have y0 : wc.cell? ⟨Mb, 0, none⟩ = some (.int .i64 (a : Nat)) := by rw [Lib.cell_of_heap hm0]; rfl
          have y1 : wc.cell? ⟨Mb, 1, none⟩ = some (.int .i64 (b : Nat)) := by rw [Lib.cell_of_heap hm0]; rfl
          have y2 : wc.cell? ⟨Mb, 2, none⟩ = some (.int .i64 (c2 : Nat)) := by rw [Lib.cell_of_heap hm0]; rfl
          have y3 : wc.cell? ⟨Mb, 3, none⟩ = some (.int .i64 (d : Nat)) := by rw [Lib.cell_of_heap hm0]; rfl
          clear hm0
          have hRY := Lib.hid (rl5_yes HBK HOF)
          go_wp2_with (at_builtin; refine wpList_pushC wc infoC_arr (by rfl) _ _ 116 116 (by rfl) Tryz.underlying116 Tryz.underlying116 W0.heap.size B n c _ (by rfl) HOWc.out (a, b, c2, d) (by rfl) (by omega) hszc ?_; intro A7 c7 w7 how7 hg7 hb7; have HOW7 := Lib.hid how7; have HB7 := Lib.hid (HBRc.out.trans hb7); clear how7 hg7 hb7)
          go_roundw
          case rel => exact ⟨k + 1, A7, n + 1, c7, by go_num, by omega, rfl, by rw [hRY.out]; exact HOW7, HB7⟩
          case measure => simp [intOf]; omega
    · have ht2 : ¬ ((k : Nat) : Int) < 625 := by omega
      obtain rfl : k = 625 := by omega
      go_wp2_with fail
      exact HQ.out B n c wr _ _ _ _ _ _ _ _ _ _ _ _ _ _ _ _ _ _ _ _ _ _ _ _ _ _ _ _ _ _ _ _ _ _ _ _ _ _ _ _ _ _ _ _ _ _ _ _ _ _ _ _ _ _ _ _ _ _ _ _ _ _ _ _ _ _ _ _ _ _ _ _ _ _ HOW.out HBR.out
end Go.Proofs.YtefcdclmabdmbaaGreatDoor
