/- The law GraphDistant: its plain part, and its walk. -/
import Derived.Test.YtpkjdnplmgfbbaaDoorLawK
import Derived.Test.YtpkjdnplmgfbbaaDoorLawW
namespace Go.Proofs.YtpkjdnplmgfbbaaDoor
open Go.RowKit

/-- The distance from i to k. -/
noncomputable def dI (E : List (List Nat)) (i k : Nat) : Int := (dd E i).getD k 0
theorem dI_is {E : List (List Nat)} (hE : Valid E) {i k : Nat} (hi : i < E.length) (hk : k < E.length) : IsDist E i k (dI E i k) := (dd_is hE hi).2 k hk
theorem dI_small {E : List (List Nat)} (hE : Valid E) {i k : Nat} (hi : i < E.length) (hk : k < E.length) : -1 ≤ dI E i k ∧ dI E i k < E.length := (dI_is hE hi hk).small hE hi
theorem dI_self {E : List (List Nat)} (hE : Valid E) {i : Nat} (hi : i < E.length) : dI E i i = 0 := by
  rcases dI_is hE hi hi with ⟨_, h2⟩ | ⟨m, h1, _, h3⟩
  · exact absurd rfl (h2 0)
  · have := h3 0 rfl; omega
theorem dI_walk {E : List (List Nat)} (hE : Valid E) {i k : Nat} (hi : i < E.length) (hk : k < E.length) (h : 0 ≤ dI E i k) : ∃ m : Nat, dI E i k = m ∧ Wk E i m k := by
  rcases dI_is hE hi hk with ⟨h1, _⟩ | ⟨m, h1, h2, _⟩
  · omega
  · exact ⟨m, h1, h2⟩
theorem dI_le {E : List (List Nat)} (hE : Valid E) {i k m : Nat} (hi : i < E.length) (hk : k < E.length) (h : Wk E i m k) : 0 ≤ dI E i k ∧ dI E i k ≤ m := by
  rcases dI_is hE hi hk with ⟨_, h2⟩ | ⟨q, h1, _, h3⟩
  · exact absurd h (h2 m)
  · have := h3 m h; omega
theorem dI_tri {E : List (List Nat)} (hE : Valid E) {i k j : Nat} (hi : i < E.length) (hk : k < E.length) (hj : j < E.length) (h1 : 0 ≤ dI E i k) (h2 : 0 ≤ dI E k j) : 0 ≤ dI E i j ∧ dI E i j ≤ dI E i k + dI E k j := by
  obtain ⟨a, e1, w1⟩ := dI_walk hE hi hk h1
  obtain ⟨b, e2, w2⟩ := dI_walk hE hk hj h2
  have := dI_le hE hi hj (w1.add w2)
  omega
theorem dI_wn1 {E : List (List Nat)} (hE : Valid E) {i k d : Nat} (hi : i < E.length) (hk : k < E.length) (h : 0 < wn E i d k) : 0 ≤ dI E i k ∧ dI E i k ≤ d := dI_le hE hi hk ((wn_pos d k).1 h)
theorem dI_wn2 {E : List (List Nat)} (hE : Valid E) {i k d : Nat} (hi : i < E.length) (hk : k < E.length) (h : dI E i k = d) : 0 < wn E i d k := by
  obtain ⟨m, e1, w1⟩ := dI_walk hE hi hk (by omega)
  have : m = d := by omega
  subst this
  exact (wn_pos m k).2 w1
theorem dI_sym {E : List (List Nat)} (hE : Valid E) (hS : Sym E) {i k : Nat} (hi : i < E.length) (hk : k < E.length) : dI E i k = dI E k i := by
  have key : ∀ i k, i < E.length → k < E.length → IsDist E i k (dI E k i) := fun i k hi hk => by
    rcases dI_is hE hk hi with ⟨h1, h2⟩ | ⟨m, h1, h2, h3⟩
    · exact .inl ⟨h1, fun m hm => h2 m (hm.back hS)⟩
    · exact .inr ⟨m, h1, h2.back hS, fun j hj => h3 j (hj.back hS)⟩
  exact (dI_is hE hi hk).unique (key i k hi hk)

/-- Some closed walk has an odd length below d. -/
def oddB (E : List (List Nat)) (d : Nat) : Bool := (List.range d).any fun m => m % 2 == 1 && decide (0 < tr E m E.length)
theorem oddB_one (E : List (List Nat)) : oddB E 1 = false := rfl
theorem oddB_succ {E : List (List Nat)} {d : Nat} (h : d % 2 = 1) : oddB E (d + 2) = (oddB E d || decide (0 < tr E d E.length)) := by
  unfold oddB
  rw [List.range_succ, List.range_succ, List.any_append, List.any_append]
  have h2 : (d + 1) % 2 = 0 := by omega
  simp [h, h2]
theorem oddB_iff {E : List (List Nat)} {d : Nat} : oddB E d = true ↔ ∃ m, m < d ∧ m % 2 = 1 ∧ 0 < tr E m E.length := by
  unfold oddB
  rw [List.any_eq_true]
  constructor
  · rintro ⟨m, h1, h2⟩
    simp at h2
    exact ⟨m, List.mem_range.1 h1, h2.1, h2.2⟩
  · rintro ⟨m, h1, h2, h3⟩
    exact ⟨m, List.mem_range.2 h1, by simp [h2, h3]⟩
theorem odd_proper {E : List (List Nat)} (hE : Valid E) (hu : Und E) {l : List Int} (hc : ColI (bth E) (fun _ => True) l) {d : Nat} (hd : E.length < d) : ¬ Proper (bth E) l ↔ oddB E d = true := by
  have hw : ∀ {u m v}, Wk (bth E) u m v ↔ Wk E u m v := Wk.same (hu.bth hE)
  rw [proper_iff (bth_sym hE) (bth_valid hE) hc, oddB_iff]
  constructor
  · intro h
    apply Classical.byContradiction
    intro hno
    refine h fun a m ha hm => ?_
    rw [bth_length] at ha
    apply Classical.byContradiction
    intro hodd
    obtain ⟨b, q, h1, h2, h3, h4⟩ := odd_short hE ha (hw.1 hm) (by omega)
    exact hno ⟨q, by omega, h2, (tr_pos _).2 ⟨b, h1, h4⟩⟩
  · rintro ⟨m, _, h2, h3⟩ h
    obtain ⟨i, hi, hw2⟩ := (tr_pos _).1 h3
    have := h i m (by rw [bth_length]; exact hi) (hw.2 hw2)
    omega

/-- The rows of the distances, cell by cell. -/
def DRows (w : World) (A : Option Addr) (n : Nat) (D : Nat → Nat → Int) : Prop := ∀ i, i < n → ∃ b off b2 o2 c2, A = some ⟨b, off, none⟩ ∧ w.cell? ⟨b, off + i, none⟩ = some (.slice (some ⟨b2, o2, none⟩) n c2) ∧ n ≤ c2 ∧ c2 ≤ 9223372036854775807 ∧ ∀ k, k < n → w.cell? ⟨b2, o2 + k, none⟩ = some (.int .i64 (D i k))
theorem DRows.below {w w' : World} {A : Option Addr} {n : Nat} {D : Nat → Nat → Int} (h : DRows w A n D) (hb : Below w.heap.size w w') : DRows w' A n D := fun i hi => by
  obtain ⟨b, off, b2, o2, c2, e, h1, h2, h3, h4⟩ := h i hi
  exact ⟨b, off, b2, o2, c2, e, (hb.cell (cell_some_lt h1)).trans h1, h2, h3, fun k hk => (hb.cell (cell_some_lt (h4 k hk))).trans (h4 k hk)⟩
theorem drows_of {w : World} {D : Nat → Prop} {A : Option Addr} {c : Nat} {E : List (List Nat)} (hE : Valid E) (h : RowsD IlD w D (.slice A E.length c) ((List.range E.length).map (dd E))) : DRows w A E.length (dI E) := fun i hi => by
  obtain ⟨b, off, u, e, hu, A2, c2, rfl, hil, _⟩ := h.at (i := i) (x := dd E i) (by rw [List.getElem?_map, List.getElem?_range hi]; rfl)
  have hl : (dd E i).length = E.length := (dd_is hE hi).1
  rw [hl] at hu hil
  obtain ⟨b2, o2, rfl, hc⟩ := hil.cell (by omega)
  have hr := hil.room
  unfold maxLen at hr
  refine ⟨b, off, b2, o2, c2, e, hu, hr.1, hr.2, fun k hk => hc k _ ?_⟩
  unfold dI
  simp [List.getD, List.getElem?_eq_getElem (show k < (dd E i).length by omega)]
theorem LightP.nine {names : List ByteArray} {E : List (List Int)} (h : LightP names E) (hn : names.length ≤ 2500) : names.length ≤ 9 := by
  rcases h.1 with h1 | h1 <;> omega

set_option maxHeartbeats 4000000 in
set_option maxRecDepth 100000 in
theorem lawX_bad {w : World} {v : Value} {names : List ByteArray} {E : List (List Int)} (h : GrV w v names E) (hc : chk names E ≠ 0) : Calls Tryd.prog 8 #[v] w (TrueR w) := by
  have H := Lib.hid (fun w' hb => h.at w' hb)
  have hz : (((chk names E : Nat) : Int) != 0) = true := by simp [hc]
  have HR := Lib.hid (fun w' hb => rCheck_any (h.at w' hb))
  generalize chk names E = q at *
  clear hc
  obtain ⟨A, c, A', c', rfl, hs, hg⟩ := h
  obtain ⟨W, G, hW, hG, hbW, c0, c1, hGl, hwG⟩ := gbox w (.slice A names.length c) (.slice A' E.length c')
  have HW := Lib.hid hW
  have HG := Lib.hid hG
  clear hW hG hs hg
  go_enter Tryd.func8, Tryd.ntmps8
  go_wp2_with fail
  rw [← HW.out, ← HG.out]
  refine (Light_any (H.out _ hbW)).mono ?_
  rintro e w1 ⟨b, rfl, _, hb1⟩
  obtain ⟨d0, d1⟩ := keep2 hb1 c0 c1
  replace hb1 := hbW.trans (hb1.mono hbW.size)
  clear c0 c1
  cases b
  · go_wp2_with fail
    refine awake_any.mono ?_
    rintro e w2 ⟨rfl, hb2⟩
    go_wp2_with fail
    go_ret
    exact ⟨rfl, hb1.trans (hb2.mono hb1.size)⟩
  · go_wp2_with fail
    refine (HR.out _ hb1).mono ?_
    rintro e w2 ⟨rfl, hb2⟩
    replace hb2 := hb1.trans (hb2.mono hb1.size)
    go_wp2_with fail
    refine awake_any.mono ?_
    rintro e w3 ⟨rfl, hb3⟩
    go_wp2_with fail
    go_ret
    exact ⟨rfl, hb2.trans (hb3.mono hb2.size)⟩
/-! parts of a function's code -/
def blkOf (n : Nat) : Code → Option Code
  | .block m c => bif Nat.beq m n then some (.block m c) else blkOf n c
  | .seq a b => match blkOf n a with
    | some c => some c
    | none => blkOf n b
  | .cond _ a b => match blkOf n a with
    | some c => some c
    | none => blkOf n b
  | .loop c => blkOf n c
  | .scope c => blkOf n c
  | _ => none
noncomputable def distBlk (n : Nat) : Code := (blkOf n ((Tryd.f8.body).getD .skip)).getD .skip
set_option maxHeartbeats 4000000 in
set_option maxRecDepth 100000 in
/-- The triangles of one vertex. -/
theorem tri_any {wx wr : World} {Q : Exit → Act → World → Prop} {A : Option Addr} {c i : Nat} {E : List (List Nat)} {t0 t1 t2 t5 t6 t7 t10 t11 t12 t13 t14 t15 t16 t17 t18 t19 t20 t21 t22 t23 t24 t25 t26 t27 t28 t29 t30 t31 t32 t33 t34 t35 t36 t37 t38 t39 t40 t41 t42 t43 t44 t45 t46 t47 t48 t49 t50 t51 t52 t53 t54 t55 t56 t57 t58 t59 t60 t61 t62 t63 t64 t65 t66 t67 t68 t69 t70 t71 t72 t73 t74 t75 t76 t77 t78 t79 t80 t81 t82 t83 t84 t85 t86 t87 t88 t89 t90 t91 t92 t93 t94 t95 t96 t97 t98 t99 t100 t101 t102 t103 t104 t105 t106 t107 t108 t109 t110 t111 t112 t113 t114 t115 t116 t117 t118 t119 t120 t121 t122 t123 t124 t125 t126 t127 t128 t129 t130 t131 t132 t133 t134 t135 t136 t137 t138 t139 t140 t141 t142 t143 t144 t145 t146 t147 t148 t149 t150 t151 t152 t153 t154 t155 t156 t157 t158 t159 t160 t161 t162 t163 t164 t165 t166 t167 t168 t169 t170 t171 t172 t173 t174 t175 t176 t177 t178 t179 t180 t181 t182 t183 t184 t185 t186 t187 t188 t189 t190 t191 t192 t193 t194 t195 t196 t197 t198 t199 t200 t201 t202 t203 t204 t205 t206 t207 t208 t209 t210 t211 t212 t213 t214 t215 t216 t217 t218 t219 t220 t221 t222 t223 t224 t225 t226 t227 t228 t229 t230 t231 t232 t233 t234 t235 t236 t237 t238 t239 t240 t241 t242 t243 t244 t245 t246 t247 t248 t249 t250 t251 t252 t253 t254 t255 t256 t257 t258 t259 t260 t261 t262 t263 : Value} (HE : Hid (Valid E)) (HDR : Hid (DRows wx A E.length (dI E))) (hit : i < E.length) (hsm : E.length ≤ 2500) (hbr : Below wx.heap.size wx wr)
    (hQ : ∀ (w' : World) (u2 u9 u10 u71 u72 u73 u74 u75 u76 u77 u78 u79 u80 u81 u82 u83 u84 u85 u86 u87 u88 u89 u90 u91 u92 u93 u94 u95 u96 u97 u98 u99 u100 u101 u102 u103 u104 u105 u106 u107 u108 u109 u110 u111 u112 u113 u114 u115 u116 u117 u118 u119 u120 u121 u122 u123 u124 u125 u126 u127 u128 u129 u130 u131 u132 u133 : Value), Below wx.heap.size wx w' → Q .normal ⟨#[t0, t1, u2, .int .i64 (E.length : Nat), .slice A E.length c, t5, t6, t7, .int .i64 (i : Nat), u9, u10, t11, t12, t13, t14, t15, t16, t17, t18, t19, t20, t21, t22, t23, t24, t25, t26, t27, t28, t29, t30, t31, t32, t33, t34, t35, t36, t37, t38, t39, t40, t41, t42, t43, t44, t45, t46, t47, t48, t49, t50, t51, t52, t53, t54, t55, t56, t57, t58, t59, t60, t61, t62, t63, t64, t65, t66, t67, t68, t69, t70, u71, u72, u73, u74, u75, u76, u77, u78, u79, u80, u81, u82, u83, u84, u85, u86, u87, u88, u89, u90, u91, u92, u93, u94, u95, u96, u97, u98, u99, u100, u101, u102, u103, u104, u105, u106, u107, u108, u109, u110, u111, u112, u113, u114, u115, u116, u117, u118, u119, u120, u121, u122, u123, u124, u125, u126, u127, u128, u129, u130, u131, u132, u133, t134, t135, t136, t137, t138, t139, t140, t141, t142, t143, t144, t145, t146, t147, t148, t149, t150, t151, t152, t153, t154, t155, t156, t157, t158, t159, t160, t161, t162, t163, t164, t165, t166, t167, t168, t169, t170, t171, t172, t173, t174, t175, t176, t177, t178, t179, t180, t181, t182, t183, t184, t185, t186, t187, t188, t189, t190, t191, t192, t193, t194, t195, t196, t197, t198, t199, t200, t201, t202, t203, t204, t205, t206, t207, t208, t209, t210, t211, t212, t213, t214, t215, t216, t217, t218, t219, t220, t221, t222, t223, t224, t225, t226, t227, t228, t229, t230, t231, t232, t233, t234, t235, t236, t237, t238, t239, t240, t241, t242, t243, t244, t245, t246, t247, t248, t249, t250, t251, t252, t253, t254, t255, t256, t257, t258, t259, t260, t261, t262, t263], []⟩ w') :
    (distBlk 4).wp Tryd.prog Q ⟨#[t0, t1, t2, .int .i64 (E.length : Nat), .slice A E.length c, t5, t6, t7, .int .i64 (i : Nat), .int .i64 0, t10, t11, t12, t13, t14, t15, t16, t17, t18, t19, t20, t21, t22, t23, t24, t25, t26, t27, t28, t29, t30, t31, t32, t33, t34, t35, t36, t37, t38, t39, t40, t41, t42, t43, t44, t45, t46, t47, t48, t49, t50, t51, t52, t53, t54, t55, t56, t57, t58, t59, t60, t61, t62, t63, t64, t65, t66, t67, t68, t69, t70, t71, t72, t73, t74, t75, t76, t77, t78, t79, t80, t81, t82, t83, t84, t85, t86, t87, t88, t89, t90, t91, t92, t93, t94, t95, t96, t97, t98, t99, t100, t101, t102, t103, t104, t105, t106, t107, t108, t109, t110, t111, t112, t113, t114, t115, t116, t117, t118, t119, t120, t121, t122, t123, t124, t125, t126, t127, t128, t129, t130, t131, t132, t133, t134, t135, t136, t137, t138, t139, t140, t141, t142, t143, t144, t145, t146, t147, t148, t149, t150, t151, t152, t153, t154, t155, t156, t157, t158, t159, t160, t161, t162, t163, t164, t165, t166, t167, t168, t169, t170, t171, t172, t173, t174, t175, t176, t177, t178, t179, t180, t181, t182, t183, t184, t185, t186, t187, t188, t189, t190, t191, t192, t193, t194, t195, t196, t197, t198, t199, t200, t201, t202, t203, t204, t205, t206, t207, t208, t209, t210, t211, t212, t213, t214, t215, t216, t217, t218, t219, t220, t221, t222, t223, t224, t225, t226, t227, t228, t229, t230, t231, t232, t233, t234, t235, t236, t237, t238, t239, t240, t241, t242, t243, t244, t245, t246, t247, t248, t249, t250, t251, t252, t253, t254, t255, t256, t257, t258, t259, t260, t261, t262, t263], []⟩ wr := by
  have HQ := Lib.hid hQ
  clear hQ
  have hii : (i : Int) < (E.length : Int) := by omega
  have hi0 : (0 : Int) ≤ (i : Int) := by omega
  show Code.wp _ (Code.block 4 _) _ _ _
  go_wp2_with fail
  obtain ⟨wo, rfl⟩ : ∃ wo : World, wo = wr := ⟨_, rfl⟩
  go_loopw [9] (fun iv wr => ∃ (k : Nat), k ≤ E.length ∧ iv = .int .i64 (k : Nat) ∧ Below wx.heap.size wx wr) (fun iv _ => E.length - (intOf iv).toNat)
  case atStart => exact ⟨0, Nat.zero_le _, rfl, hbr⟩
  case round =>
    clear hbr
    obtain ⟨k, hkl, rfl, hbr⟩ := hrel
    by_cases hkt : k < E.length
    · have hki : (k : Int) < (E.length : Int) := by omega
      have hk0 : (0 : Int) ≤ (k : Int) := by omega
      go_wp2_with fail
      obtain ⟨wo, rfl⟩ : ∃ wo : World, wo = wr := ⟨_, rfl⟩
      go_loopw [10] (fun iv wr => ∃ (j : Nat), j ≤ E.length ∧ iv = .int .i64 (j : Nat) ∧ Below wx.heap.size wx wr) (fun iv _ => E.length - (intOf iv).toNat)
      case atStart => exact ⟨0, Nat.zero_le _, rfl, hbr⟩
      case round =>
        clear hbr
        obtain ⟨j, hjl, rfl, hbr⟩ := hrel
        by_cases hjt : j < E.length
        · have hji : (j : Int) < (E.length : Int) := by omega
          have hj0 : (0 : Int) ≤ (j : Int) := by omega
          obtain ⟨bi, fi, gi, oi, ci, hAi, hi1, hi2, hi3, hi4⟩ := (HDR.out.below hbr) i hit
          obtain ⟨bk, fk, gk, ok, ck, hAk, hk1, hk2, hk3, hk4⟩ := (HDR.out.below hbr) k hkt
          subst hAi
          injection hAk with hAk
          injection hAk with hAb hAf
          subst hAb hAf
          have hx := hi4 k hkt
          have hy := hk4 j hjt
          have hz := hi4 j hjt
          have sx := dI_small HE.out hit hkt
          have sy := dI_small HE.out hkt hjt
          have tri := dI_tri HE.out hit hkt hjt
          clear hi4 hk4
          generalize dI E i k = x at *
          generalize dI E k j = y at *
          generalize dI E i j = z at *
          by_cases h1 : 0 ≤ x
          · have hd1 : decide (0 ≤ x) = true := decide_eq_true h1
            by_cases h2 : 0 ≤ y
            · obtain ⟨t1, t2⟩ := tri h1 h2
              have hd2 : decide (0 ≤ y) = true := decide_eq_true h2
              have hd3 : decide (z < 0) = false := decide_eq_false (by omega)
              have hw : IntKind.i64.wrap (x + y) = x + y := IntWalk.i64_in _ (by omega)
              have hd4 : decide (x + y < z) = false := decide_eq_false (by omega)
              clear tri
              go_wp2_with fail
              go_quiet (fail)
              go_wp2_with fail
              go_roundw
              case rel => exact ⟨j + 1, by omega, by go_num, below_drewN' hbr _⟩
              case measure => simp [intOf]; omega
            · have hd2 : decide (0 ≤ y) = false := decide_eq_false h2
              clear tri
              go_wp2_with fail
              go_quiet (fail)
              go_wp2_with fail
              go_roundw
              case rel => exact ⟨j + 1, by omega, by go_num, below_drewN' hbr _⟩
              case measure => simp [intOf]; omega
          · have hd1 : decide (0 ≤ x) = false := decide_eq_false h1
            clear tri
            go_wp2_with fail
            go_quiet (fail)
            go_wp2_with fail
            go_roundw
            case rel => exact ⟨j + 1, by omega, by go_num, below_drewN' hbr _⟩
            case measure => simp [intOf]; omega
        · obtain rfl : j = E.length := by omega
          go_wp2_with fail
          go_roundw
          case rel => exact ⟨k + 1, by omega, by go_num, hbr⟩
          case measure => simp [intOf]; omega
    · obtain rfl : k = E.length := by omega
      go_wp2_with fail
      exact HQ.out _ _ _ _ _ _ _ _ _ _ _ _ _ _ _ _ _ _ _ _ _ _ _ _ _ _ _ _ _ _ _ _ _ _ _ _ _ _ _ _ _ _ _ _ _ _ _ _ _ _ _ _ _ _ _ _ _ _ _ _ _ _ _ _ _ _ _ hbr
set_option maxHeartbeats 4000000 in
set_option maxRecDepth 100000 in
theorem lawX_ok {w : World} {v : Value} {names : List ByteArray} {E : List (List Nat)} (h : GrV w v names (toI E)) (hc : chk names (toI E) = 0) (hk : Ok names E) : Calls Tryd.prog 8 #[v] w (TrueR w) := by
  have H := Lib.hid (fun w' hb => h.at w' hb)
  have hsm := hk.small
  have hlen := hk.len
  have HD := Lib.hid (fun w' (hb : Below w.heap.size w w') i (hi : i < E.length) => Distances_ok (h.at w' hb) i hc hk hi)
  have HR := Lib.hid (fun w' hb => rCheck_any (h.at w' hb))
  rw [hc] at HR
  have HWK := Lib.hid (fun w' (hb : Below w.heap.size w w') i (hi : i < E.length) d (hd : d ≤ 100) => Walks_ok (h.at w' hb) hc hk hi hd)
  have HU := Lib.hid (fun w' hb => rUndirected_ok (h.at w' hb) hk)
  have HSML : Hid (names.length ≤ 9 → sml names (toI E) = 0) := Lib.hid (fun hn => by unfold sml; rw [if_neg (by rw [hc]; simp), if_neg (by omega)])
  have HCL := Lib.hid (fun (hn : names.length ≤ 9) w' (hb : Below w.heap.size w w') d (hd : d ≤ 100) => Closed_ok (h.at w' hb) (HSML.out hn) hk (n := d) hd)
  have HBP := Lib.hid (fun w' hb => Bipartite_ok (h.at w' hb) hc hk)
  have HK := Lib.hid hk
  clear hc hk HSML
  obtain ⟨A, c, A', c', hv, hs, hg⟩ := h
  rw [hlen] at hv hs HCL
  rw [toI_length] at hv
  subst hv
  have hsr := hs.room
  unfold maxLen at hsr
  obtain ⟨W, G, hW, hG, hbW, c0, c1, hGl, hwG⟩ := gbox w (.slice A E.length c) (.slice A' E.length c')
  have HW := Lib.hid hW
  have HG := Lib.hid hG
  clear hW hG hs hg
  go_enter Tryd.func8, Tryd.ntmps8
  go_wp2_with fail
  rw [← HW.out, ← HG.out]
  refine (Light_any (H.out _ hbW)).mono ?_
  rintro e w1 ⟨b, rfl, hlp, hb1⟩
  obtain ⟨d0, d1⟩ := keep2 hb1 c0 c1
  replace hb1 := hbW.trans (hb1.mono hbW.size)
  clear c0 c1
  cases b
  · clear hlp
    go_wp2_with fail
    refine awake_any.mono ?_
    rintro e w2 ⟨rfl, hb2⟩
    go_wp2_with fail
    go_ret
    exact ⟨rfl, hb1.trans (hb2.mono hb1.size)⟩
  · have hn9 := (hlp rfl).nine (by omega)
    clear hlp
    go_wp2_with fail
    refine (HR.out _ hb1).mono ?_
    rintro e w2 ⟨rfl, hb2⟩
    obtain ⟨e0, e1⟩ := keep2 hb2 d0 d1
    replace hb2 := hb1.trans (hb2.mono hb1.size)
    have hGw : G < w2.heap.size := cell_some_lt e0
    clear d0 d1 hb1 hGl
    rw [hlen] at hn9
    have HCL2 := Lib.hid (HCL.out hn9)
    clear HCL hlen
    go_wp2_with fail
    obtain ⟨BS, hBS⟩ : ∃ B, B = w2.heap.size := ⟨_, rfl⟩
    have hB0 : Below BS w2 w2 := by rw [hBS]; exact Below.refl _ _
    have hBw : w.heap.size ≤ BS := by rw [hBS]; exact hb2.size
    have hGB : G < BS := by omega
    have hB2 : BS ≤ w2.heap.size := by omega
    clear hBS
    go_loopw [4, 5] (fun a i wr => ∃ (k : Nat), k ≤ E.length ∧ i = .int .i64 (k : Nat) ∧ OwnL IlD 28 wr BS a ((List.range k).map (dd E)) ∧ Below BS w2 wr) (fun _ i _ => E.length - (intOf i).toNat)
    case atStart => exact ⟨0, Nat.zero_le _, rfl, OwnL.nil _ _, hB0⟩
    case round =>
      obtain ⟨k, hkl, rfl, hown, hbr⟩ := hrel
      obtain ⟨A4, c4, rfl, hf1, hf2⟩ := hown.slice_ (n := k) (by simp)
      unfold maxLen at hf2
      have hbw : Below w.heap.size w wr := hb2.trans (hbr.mono hBw)
      have hr0 := (hbr.cell (p := ⟨G, 0, none⟩) hGB).trans e0
      have hr1 := (hbr.cell (p := ⟨G, 1, none⟩) hGB).trans e1
      by_cases hlt : k < E.length
      · have hki : (k : Int) < (E.length : Int) := by omega
        have hk0 : (0 : Int) ≤ (k : Int) := by omega
        have hnn : ((E.length : Int) != (E.length : Int)) = false := by simp
        have HD1 := Lib.hid (HD.out wr hbw k hlt)
        have hself := dI_self HK.out.valid hlt
        unfold dI at hself
        have hdl : (dd E k).length = E.length := (dd_is HK.out.valid hlt).1
        have HDL := Lib.hid hdl
        have HSELF := Lib.hid hself
        have hds : ∀ x ∈ dd E k, -9223372036854775808 ≤ x ∧ x ≤ 9223372036854775807 := fun x hx => by have := dd_small HK.out.valid hlt hx; omega
        have HDS := Lib.hid hds
        clear hdl hself hds
        go_wp2_with (first
          | (go_at_call 14; refine HD1.out.mono ?_; rintro e w5 ⟨u, rfl, ⟨g5, hg5, rfl, hn5⟩, hb5⟩; have hown5 := hown.below hb5; have hc5 := hn5.cell (i := k) (by rw [HDL.out]; exact hlt); rw [HSELF.out] at hc5; have hil5 := hn5.ild HDS.out (by rw [HDL.out]; unfold maxLen; omega) (D := fun b => BS ≤ b ∧ some b ≠ (Value.slice A4 k c4).ownBlock) ⟨by have := hbr.size; omega, hown.fresh hg5⟩; rw [HDL.out] at hil5; have hbr5 := hbr.trans (hb5.mono (by have := hbr.size; omega)))
          | (at_builtin; (refine wpList_pushL (R := IlD) (T := 28) w5 (by rfl) _ _ 23 23 (.slice none 0 0) 24 (by rfl) Tryd.underlying23 Tryd.underlying23 info_ints (by rfl) (by omega) BS _ _ k (by simp) (by rfl) hown5 _ (dd E k) hil5 (by rfl) (by omega) (by have := hbr5.size; omega) ?_); intro A9 c9 w9 hown9 hg9 hb9))
        go_roundw
        case rel => exact ⟨k + 1, by omega, by go_num, by rw [List.range_succ, List.map_append]; exact hown9, hbr5.trans hb9⟩
        case measure => simp [intOf]; omega
      · obtain rfl : k = E.length := by omega
        have hdr := drows_of HK.out.valid hown.rows
        have HDR := Lib.hid hdr
        have HE := Lib.hid HK.out.valid
        clear hdr hown
        go_wp2_with fail
        obtain ⟨wx, hwx⟩ : ∃ wx : World, wx = wr := ⟨_, rfl⟩
        rw [← hwx] at HDR hbw hr0 hr1 ⊢
        have lG0 := cell_some_lt hr0
        clear hbr hwx wr
        go_loopw [8] (fun iv wr => ∃ (i : Nat), i ≤ E.length ∧ iv = .int .i64 (i : Nat) ∧ Below wx.heap.size wx wr) (fun iv _ => E.length - (intOf iv).toNat)
        case atStart => exact ⟨0, Nat.zero_le _, rfl, Below.refl _ _⟩
        case round =>
          obtain ⟨i, hil, rfl, hbr⟩ := hrel
          by_cases hit : i < E.length
          · have hii : (i : Int) < (E.length : Int) := by omega
            have hi0 : (0 : Int) ≤ (i : Int) := by omega
            go_upto_block 4 with (fail)
            refine tri_any HE HDR hit hsm hbr ?_
            intro wt u2 u9 u10 u71 u72 u73 u74 u75 u76 u77 u78 u79 u80 u81 u82 u83 u84 u85 u86 u87 u88 u89 u90 u91 u92 u93 u94 u95 u96 u97 u98 u99 u100 u101 u102 u103 u104 u105 u106 u107 u108 u109 u110 u111 u112 u113 u114 u115 u116 u117 u118 u119 u120 u121 u122 u123 u124 u125 u126 u127 u128 u129 u130 u131 u132 u133 hbt
            clear hbr
            have hbr := hbt
            clear hbt
            rename_i KX hKX
            refine hKX _ _ ?_
            go_wp2_with fail
            obtain ⟨wo, rfl⟩ : ∃ wo : World, wo = wt := ⟨_, rfl⟩
            go_loopw [11] (fun iv wr => ∃ (d : Nat), d ≤ E.length ∧ iv = .int .i64 (d : Nat) ∧ Below wx.heap.size wx wr) (fun iv _ => E.length - (intOf iv).toNat)
            case atStart => exact ⟨0, Nat.zero_le _, rfl, hbr⟩
            case round =>
              clear hbr
              obtain ⟨d, hdl, rfl, hbr⟩ := hrel
              by_cases hdt : d < E.length
              · have hnn : ((E.length : Int) != (E.length : Int)) = false := by simp
                have q0 := (hbr.cell (p := ⟨G, 0, none⟩) lG0).trans hr0
                have q1 := (hbr.cell (p := ⟨G, 1, none⟩) lG0).trans hr1
                have HW1 := Lib.hid (HWK.out wr (hbw.trans (hbr.mono hbw.size)) i hit d (by omega))
                go_wp2_with (go_at_call 22; refine HW1.out.mono ?_; rintro e w5 ⟨A7, rfl, hpl, hb5⟩; have HPL := Lib.hid hpl; have hroom := hpl.room; have hcap := hpl.cap; unfold maxLen at hroom; have hb5x := hbr.trans (hb5.mono hbr.size); clear hpl)
                clear q0 q1
                go_loopw [14] (fun iv wr => ∃ (t : Nat), t ≤ E.length ∧ iv = .int .i64 (t : Nat) ∧ Below w5.heap.size w5 wr) (fun iv _ => E.length - (intOf iv).toNat)
                case atStart => exact ⟨0, Nat.zero_le _, rfl, Below.refl _ _⟩
                case round =>
                  clear hbr
                  obtain ⟨t, htl, rfl, hbr⟩ := hrel
                  by_cases htt : t < E.length
                  · have hti : (t : Int) < (E.length : Int) := by omega
                    have ht0 : (0 : Int) ≤ (t : Int) := by omega
                    obtain ⟨b7, f7, rfl, _, hcell⟩ := HPL.out.cells (by omega)
                    obtain ⟨neg, B, m, q, k0, k1, hni⟩ := hcell t htt
                    rw [lf_get htt] at hni
                    have hx0 := (hbr.cell (p := ⟨b7, f7 + t * 2, none⟩) (cell_some_lt k0)).trans k0
                    have hx1 := (hbr.cell (p := ⟨b7, f7 + t * 2 + 1, none⟩) (cell_some_lt k1)).trans k1
                    have hb7 := cell_some_lt hx0
                    have hnr : NIntV wr (fun _ => True) (.agg #[.bool neg, .slice B m q]) (wn E i d t : Nat) := NIntV.below hni hbr
                    have hwl : wl (((wn E i d t : Nat) : Int)).natAbs ≤ 1000000000000 := by
                      have h1 := wm_le HK.out d i t
                      unfold wm at h1
                      have := wl_pow h1
                      omega
                    have HCM := Lib.hid (fun w' (hb : Below wr.heap.size wr w') v0 D0 (h0 : NIntV w' D0 v0 0) => Cmp_any (hnr.below hb).int h0.int hwl (by decide))
                    have hb5r := hb5x.trans (hbr.mono hb5x.size)
                    have hs0 := same_drew wr
                    have hdr : Below wr.heap.size wr wr.drew := (Below.refl _ _).drew
                    have hw1 := dI_wn1 HE.out (d := d) hit htt
                    have hw2 := dI_wn2 HE.out (d := d) hit htt
                    clear hcell hni hnr hwl k0 k1
                    by_cases hp : 0 < wn E i d t
                    · have hcv : cmpI ((wn E i d t : Nat) : Int) 0 = 1 := by unfold cmpI; rw [if_neg (by omega), if_neg (by omega)]
                      rw [hcv] at HCM
                      obtain ⟨p1, p2⟩ := hw1 hp
                      have hm1 : decide (dI E i t < 0) = false := decide_eq_false (by omega)
                      have hm2 : decide ((d : Int) < dI E i t) = false := decide_eq_false (by omega)
                      clear hw1 hw2 hcv hp
                      by_cases hxd : dI E i t = d
                      all_goals
                        have hm3 : (dI E i t == (d : Int)) = decide (dI E i t = d) := rfl
                        first | rw [decide_eq_true hxd] at hm3 | rw [decide_eq_false hxd] at hm3
                        clear p1 p2 hxd
                        obtain ⟨x, hx⟩ : ∃ x, x = dI E i t := ⟨_, rfl⟩
                        rw [← hx] at hm1 hm2 hm3
                        have HX := Lib.hid hx
                        clear hx
                        go_wp2_with fail
                        refine wp_region_mix [(4, true), (1, false), (1, false), (2, true)] (by kernel_rfl) (by decide) (by kernel_rfl) (by kernel_rfl) (fun _ _ _ _ _ h => h) (Same wr) ?_
                        simp only [segs, List.take_succ_cons, List.take_zero, List.drop_succ_cons, List.drop_zero, List.take_nil]
                        change goM _ _ _ _ _ _ wr.drew
                        refine goM_reads hs0 ?_
                        iterate 4
                          refine loadsZ_cons ?_ (by rfl) (fun wz hSw => ?_) ?_
                          rotate_left
                          · (try obtain ⟨hs1, hs2⟩ := hSw)
                            go_simp
                            try with_reducible rfl
                          simp only [Act.put, List.setIfInBounds_toArray, List.set_cons_zero, List.set_cons_succ]
                        refine loadsZ_nil (goM_step hs0 ?_)
                        go_wp2_with (go_at_call 42; refine (Of_any 0 _ (by omega) (by omega)).mono ?_; rintro e w6 ⟨v6, rfl, hn6, hb6⟩)
                        have hB6 := hdr.trans (hb6.mono hdr.size)
                        refine goM_step (same_below hB6) ?_
                        go_wp2_with (go_at_call 41; refine (HCM.out w6 hB6 _ _ hn6).mono ?_; rintro e w7 ⟨rfl, hb7'⟩)
                        have hB7 := hB6.trans (hb7'.mono hB6.size)
                        refine goM_reads (same_below hB7) ?_
                        iterate 2
                          refine loadsZ_cons ?_ (by rfl) (fun wz hSw => ?_) ?_
                          rotate_left
                          · (try obtain ⟨hs1, hs2⟩ := hSw)
                            go_simp
                            try with_reducible rfl
                          simp only [Act.put, List.setIfInBounds_toArray, List.set_cons_zero, List.set_cons_succ]
                        refine loadsZ_nil (goM_nil (same_below hB7) ?_)
                        obtain ⟨bi, fi, gi, oi, ci, hAi, hi1, hi2, hi3, hi4⟩ := (HDR.out.below (hb5r.trans (hB7.mono hb5r.size))) i hit
                        have hi5 := hi4 t htt
                        rw [← HX.out] at hi5
                        subst hAi
                        clear hi4 hx0 hx1 hb7
                        go_wp2_with fail
                        go_roundw
                        case rel => exact ⟨t + 1, by omega, by go_num, hbr.trans (hB7.mono hbr.size)⟩
                        case measure => simp [intOf]; omega
                    · have hcv : cmpI ((wn E i d t : Nat) : Int) 0 = 0 := by unfold cmpI; rw [if_neg (by omega), if_pos (by omega)]
                      rw [hcv] at HCM
                      have hm3 : (dI E i t == (d : Int)) = false := beq_eq_false_iff_ne.2 (fun h => hp (hw2 h))
                      clear hw1 hw2 hcv hp
                      obtain ⟨x, hx⟩ : ∃ x, x = dI E i t := ⟨_, rfl⟩
                      rw [← hx] at hm3
                      have HX := Lib.hid hx
                      clear hx
                      go_wp2_with fail
                      refine wp_region_mix [(4, true), (1, false), (1, false), (2, true)] (by kernel_rfl) (by decide) (by kernel_rfl) (by kernel_rfl) (fun _ _ _ _ _ h => h) (Same wr) ?_
                      simp only [segs, List.take_succ_cons, List.take_zero, List.drop_succ_cons, List.drop_zero, List.take_nil]
                      change goM _ _ _ _ _ _ wr.drew
                      refine goM_reads hs0 ?_
                      iterate 4
                        refine loadsZ_cons ?_ (by rfl) (fun wz hSw => ?_) ?_
                        rotate_left
                        · (try obtain ⟨hs1, hs2⟩ := hSw)
                          go_simp
                          try with_reducible rfl
                        simp only [Act.put, List.setIfInBounds_toArray, List.set_cons_zero, List.set_cons_succ]
                      refine loadsZ_nil (goM_step hs0 ?_)
                      go_wp2_with (go_at_call 42; refine (Of_any 0 _ (by omega) (by omega)).mono ?_; rintro e w6 ⟨v6, rfl, hn6, hb6⟩)
                      have hB6 := hdr.trans (hb6.mono hdr.size)
                      refine goM_step (same_below hB6) ?_
                      go_wp2_with (go_at_call 41; refine (HCM.out w6 hB6 _ _ hn6).mono ?_; rintro e w7 ⟨rfl, hb7'⟩)
                      have hB7 := hB6.trans (hb7'.mono hB6.size)
                      refine goM_reads (same_below hB7) ?_
                      iterate 2
                        refine loadsZ_cons ?_ (by rfl) (fun wz hSw => ?_) ?_
                        rotate_left
                        · (try obtain ⟨hs1, hs2⟩ := hSw)
                          go_simp
                          try with_reducible rfl
                        simp only [Act.put, List.setIfInBounds_toArray, List.set_cons_zero, List.set_cons_succ]
                      refine loadsZ_nil (goM_nil (same_below hB7) ?_)
                      obtain ⟨bi, fi, gi, oi, ci, hAi, hi1, hi2, hi3, hi4⟩ := (HDR.out.below (hb5r.trans (hB7.mono hb5r.size))) i hit
                      have hi5 := hi4 t htt
                      rw [← HX.out] at hi5
                      subst hAi
                      clear hi4 hx0 hx1 hb7
                      go_wp2_with fail
                      go_roundw
                      case rel => exact ⟨t + 1, by omega, by go_num, hbr.trans (hB7.mono hbr.size)⟩
                      case measure => simp [intOf]; omega
                  · obtain rfl : t = E.length := by omega
                    go_wp2_with fail
                    go_roundw
                    case rel => exact ⟨d + 1, by omega, by go_num, hb5x.trans (hbr.mono hb5x.size)⟩
                    case measure => simp [intOf]; omega
              · obtain rfl : d = E.length := by omega
                go_wp2_with fail
                go_roundw
                case rel => exact ⟨i + 1, by omega, by go_num, hbr⟩
                case measure => simp [intOf]; omega
          · obtain rfl : i = E.length := by omega
            have q0 := (hbr.cell (p := ⟨G, 0, none⟩) lG0).trans hr0
            have q1 := (hbr.cell (p := ⟨G, 1, none⟩) lG0).trans hr1
            have hbw1 := hbw.trans (hbr.mono hbw.size)
            obtain ⟨u, hu⟩ : ∃ u, u = undB E := ⟨_, rfl⟩
            have HUB := Lib.hid hu
            clear hu hit hil
            go_wp2_with fail
            refine (HU.out _ hbw1).mono ?_
            rintro e w3 ⟨hrb, hb3⟩
            rw [← HUB.out] at hrb
            subst hrb
            have hb3x := hbr.trans (hb3.mono hbr.size)
            have hbw3 := hbw.trans (hb3x.mono hbw.size)
            clear q0 q1 hbw1
            cases u
            · go_wp2_with fail
              refine awake_any.mono ?_
              rintro e w9 ⟨rfl, hb9⟩
              go_wp2_with fail
              go_ret
              exact ⟨rfl, hbw3.trans (hb9.mono hbw3.size)⟩
            · have hund : Und E := undB_true.1 HUB.out.symm
              have HUND := Lib.hid hund
              clear hund hb3 hbr hb2 hB0
              go_wp2_with fail
              go_loopw [16, 17] (fun ov dv wr => ∃ d : Nat, d ≤ E.length + 2 ∧ d % 2 = 1 ∧ dv = .int .i64 (d : Nat) ∧ ov = .bool (oddB E d) ∧ Below wx.heap.size wx wr) (fun _ dv _ => E.length + 3 - (intOf dv).toNat)
              case atStart => exact ⟨1, by omega, rfl, rfl, rfl, hb3x⟩
              case round =>
                clear hb3x hbw3
                obtain ⟨d, hdl, hodd, rfl, rfl, hbr⟩ := hrel
                have q0 := (hbr.cell (p := ⟨G, 0, none⟩) lG0).trans hr0
                have q1 := (hbr.cell (p := ⟨G, 1, none⟩) lG0).trans hr1
                have hbw1 := hbw.trans (hbr.mono hbw.size)
                obtain ⟨o, ho⟩ : ∃ o, o = oddB E d := ⟨_, rfl⟩
                rw [← ho]
                have HO := Lib.hid ho
                clear ho
                by_cases hdn : d ≤ E.length
                · have hdi : (d : Int) ≤ (E.length : Int) := by omega
                  have hsucc := oddB_succ (E := E) hodd
                  have htl := tr_le (E := E) (K := 400) (HK.out.deg) (by omega) d E.length
                  obtain ⟨tv, htv⟩ : ∃ tv, tv = tr E d E.length := ⟨_, rfl⟩
                  have hwl : wl ((tv : Nat) : Int).natAbs ≤ 1000000000000 := by
                    have h1 : tv ≤ 2 ^ (20 * d + 12) := by
                      rw [htv, Nat.pow_add]
                      refine Nat.le_trans htl ?_
                      rw [Nat.mul_comm]
                      exact Nat.mul_le_mul_left _ (by omega)
                    have := wl_pow h1
                    have e1 : ((tv : Nat) : Int).natAbs = tv := by omega
                    rw [e1]
                    omega
                  have HCL1 := HCL2.out wr hbw1 d (by omega)
                  unfold CloR at HCL1
                  rw [← htv] at hsucc HCL1
                  rw [← HO.out] at hsucc
                  have HSC := Lib.hid hsucc
                  have HOD := Lib.hid hodd
                  have HCC := Lib.hid HCL1
                  clear htv htl hsucc HCL1 hodd
                  go_upto_region 44 with (go_at_call 23; refine HCC.out.mono ?_; rintro e w5 ⟨v5, rfl, hn5, hb5⟩; obtain ⟨neg, A5, m5, c5, rfl, hn5'⟩ := hn5.shape; have hb5x := hbr.trans (hb5.mono hbr.size))
                  obtain ⟨wI, I, hwI, hI⟩ : ∃ wI I, wI = w5.alloc (.cells #[.bool neg, .slice A5 m5 c5] 46) ∧ I = w5.heap.size := ⟨_, _, rfl, rfl⟩
                  rw [← hwI, ← hI]
                  have hbI : Below w5.heap.size w5 wI := by rw [hwI]; exact (Below.refl _ _).alloc (Nat.le_refl _) _
                  have hx0 : wI.cell? ⟨I, 0, none⟩ = some (.bool neg) := by rw [hwI, hI]; go_simp
                  have hx1 : wI.cell? ⟨I, 1, none⟩ = some (.slice A5 m5 c5) := by rw [hwI, hI]; go_simp
                  have hnI : NIntV wI (fun _ => True) (.agg #[.bool neg, .slice A5 m5 c5]) (tv : Nat) := hn5'.below hbI
                  have hbx := hb5x.trans (hbI.mono hb5x.size)
                  have hIl := cell_some_lt hx0
                  have HCM := Lib.hid (fun w' (hb : Below wI.heap.size wI w') v0 D0 (h0 : NIntV w' D0 v0 0) => Cmp_any (hnI.below hb).int h0.int hwl (by decide))
                  clear hwI hI hn5 hn5' hb5 hb5x hbI hnI hwl q0 q1 hbw1 hbr
                  have hs0 := same_drew wI
                  have hdr : Below wI.heap.size wI wI.drew := (Below.refl _ _).drew
                  cases o
                  · by_cases hp : 0 < tv
                    all_goals
                      have hcv : cmpI ((tv : Nat) : Int) 0 = (if 0 < tv then 1 else 0) := by unfold cmpI; split <;> (try split) <;> (try split) <;> omega
                      rw [hcv] at HCM
                      first | rw [if_pos hp] at HCM | rw [if_neg hp] at HCM
                      have HP := Lib.hid hp
                      clear hcv hp
                      refine wp_region_mix [(3, true), (1, false), (1, false), (3, true)] (by kernel_rfl) (by decide) (by kernel_rfl) (by kernel_rfl) (fun _ _ _ _ _ h => h) (Same wI) ?_
                      simp only [segs, List.take_succ_cons, List.take_zero, List.drop_succ_cons, List.drop_zero, List.take_nil]
                      change goM _ _ _ _ _ _ wI.drew
                      refine goM_reads hs0 ?_
                      iterate 3
                        refine loadsZ_cons ?_ (by rfl) (fun wz hSw => ?_) ?_
                        rotate_left
                        · (try obtain ⟨hs1, hs2⟩ := hSw)
                          go_simp
                          try with_reducible rfl
                        simp only [Act.put, List.setIfInBounds_toArray, List.set_cons_zero, List.set_cons_succ]
                      refine loadsZ_nil (goM_step hs0 ?_)
                      go_wp2_with (go_at_call 42; refine (Of_any 0 _ (by omega) (by omega)).mono ?_; rintro e w6 ⟨v6, rfl, hn6, hb6⟩)
                      have hB6 := hdr.trans (hb6.mono hdr.size)
                      refine goM_step (same_below hB6) ?_
                      go_wp2_with (go_at_call 41; refine (HCM.out w6 hB6 _ _ hn6).mono ?_; rintro e w7 ⟨rfl, hb7'⟩)
                      have hB7 := hB6.trans (hb7'.mono hB6.size)
                      refine goM_reads (same_below hB7) ?_
                      iterate 3
                        refine loadsZ_cons ?_ (by rfl) (fun wz hSw => ?_) ?_
                        rotate_left
                        · (try obtain ⟨hs1, hs2⟩ := hSw)
                          go_simp
                          try with_reducible rfl
                        simp only [Act.put, List.setIfInBounds_toArray, List.set_cons_zero, List.set_cons_succ]
                      refine loadsZ_nil (goM_nil (same_below hB7) ?_)
                      clear hx0 hx1 hIl
                      go_wp2_with fail
                      go_roundw
                      case rel => exact ⟨d + 2, by omega, by have := HOD.out; omega, by go_num, by rw [HSC.out]; have := HP.out; simp [this], hbx.trans (hB7.mono hbx.size)⟩
                      case measure => simp [intOf]; omega
                  · clear hx0 hx1 hIl
                    refine wp_region_mix [(8, true)] (by kernel_rfl) (by decide) (by kernel_rfl) (by kernel_rfl) (fun _ _ _ _ _ h => h) (Same wI) ?_
                    simp only [segs, List.take_succ_cons, List.take_nil]
                    change goM _ _ _ _ _ _ wI.drew
                    refine goM_reads hs0 ?_
                    iterate 2
                      refine loadsZ_cons ?_ (by rfl) (fun wz hSw => ?_) ?_
                      rotate_left
                      · (try obtain ⟨hs1, hs2⟩ := hSw)
                        go_simp
                        try with_reducible rfl
                      simp only [Act.put, List.setIfInBounds_toArray, List.set_cons_zero, List.set_cons_succ]
                    iterate 4
                      refine loadsZ_skip (by rfl) ?_
                      simp only [Act.put, List.setIfInBounds_toArray, List.set_cons_zero, List.set_cons_succ]
                    iterate 2
                      refine loadsZ_cons ?_ (by rfl) (fun wz hSw => ?_) ?_
                      rotate_left
                      · (try obtain ⟨hs1, hs2⟩ := hSw)
                        go_simp
                        try with_reducible rfl
                      simp only [Act.put, List.setIfInBounds_toArray, List.set_cons_zero, List.set_cons_succ]
                    refine loadsZ_nil (goM_nil hs0 ?_)
                    go_wp2_with fail
                    go_roundw
                    case rel => exact ⟨d + 2, by omega, by have := HOD.out; omega, by go_num, by rw [HSC.out]; simp, hbx.trans (hdr.mono hbx.size)⟩
                    case measure => simp [intOf]; omega
                · have hop : ∀ l : List Int, ColI (bth E) (fun _ => True) l → (¬ Proper (bth E) l ↔ o = true) := fun l hc => by rw [HO.out]; exact odd_proper HE.out HUND.out hc (by omega)
                  have HOP := Lib.hid hop
                  have hdi : ¬ ((d : Int) ≤ (E.length : Int)) := by omega
                  clear hop hdn hodd hdl q0 q1 hbw1
                  go_wp2_with fail
                  obtain ⟨wo, rfl⟩ : ∃ wo : World, wo = wr := ⟨_, rfl⟩
                  go_loopw [20] (fun iv wr => ∃ (i : Nat), i ≤ E.length ∧ iv = .int .i64 (i : Nat) ∧ Below wx.heap.size wx wr) (fun iv _ => E.length - (intOf iv).toNat)
                  case atStart => exact ⟨0, Nat.zero_le _, rfl, hbr⟩
                  case round =>
                    clear hbr
                    obtain ⟨i, hil, rfl, hbr⟩ := hrel
                    by_cases hit : i < E.length
                    · have hii : (i : Int) < (E.length : Int) := by omega
                      have hi0 : (0 : Int) ≤ (i : Int) := by omega
                      go_wp2_with fail
                      obtain ⟨wo, rfl⟩ : ∃ wo : World, wo = wr := ⟨_, rfl⟩
                      go_loopw [21] (fun iv wr => ∃ (k : Nat), k ≤ E.length ∧ iv = .int .i64 (k : Nat) ∧ Below wx.heap.size wx wr) (fun iv _ => E.length - (intOf iv).toNat)
                      case atStart => exact ⟨0, Nat.zero_le _, rfl, hbr⟩
                      case round =>
                        clear hbr
                        obtain ⟨k, hkl, rfl, hbr⟩ := hrel
                        by_cases hkt : k < E.length
                        · have hki : (k : Int) < (E.length : Int) := by omega
                          have hk0 : (0 : Int) ≤ (k : Int) := by omega
                          obtain ⟨bi, fi, gi, oi, ci, hAi, hi1, hi2, hi3, hi4⟩ := (HDR.out.below hbr) i hit
                          obtain ⟨bk, fk, gk, ok, ck, hAk, hk1, hk2, hk3, hk4⟩ := (HDR.out.below hbr) k hkt
                          subst hAi
                          injection hAk with hAk
                          injection hAk with hAb hAf
                          subst hAb hAf
                          have hx := hi4 k hkt
                          have hy := hk4 i hit
                          rw [← dI_sym HE.out (HUND.out.sym HE.out) hit hkt] at hy
                          clear hi4 hk4
                          generalize dI E i k = x at *
                          have hxx : (x != x) = false := by simp
                          go_wp2_with fail
                          go_quiet (fail)
                          go_wp2_with fail
                          go_roundw
                          case rel => exact ⟨k + 1, by omega, by go_num, below_drewN' hbr _⟩
                          case measure => simp [intOf]; omega
                        · obtain rfl : k = E.length := by omega
                          go_wp2_with fail
                          go_roundw
                          case rel => exact ⟨i + 1, by omega, by go_num, hbr⟩
                          case measure => simp [intOf]; omega
                    · obtain rfl : i = E.length := by omega
                      have q0 := (hbr.cell (p := ⟨G, 0, none⟩) lG0).trans hr0
                      have q1 := (hbr.cell (p := ⟨G, 1, none⟩) lG0).trans hr1
                      have hbw1 := hbw.trans (hbr.mono hbw.size)
                      go_wp2_with fail
                      refine (HBP.out _ hbw1).mono ?_
                      rintro e w8 (⟨G2, l2, rfl, hn2, hco2, hpr2, hb8⟩ | ⟨rfl, ⟨l2, hco2, hpr2⟩, hb8⟩)
                      · obtain rfl : o = false := by
                          cases o
                          · rfl
                          · exact absurd hpr2 ((HOP.out _ hco2).2 rfl)
                        replace hb8 := hbw1.trans (hb8.mono hbw1.size)
                        clear q0 q1 hbw1 hn2 hco2 hpr2
                        go_wp2_with fail
                        refine awake_any.mono ?_
                        rintro e w9 ⟨rfl, hb9⟩
                        go_wp2_with fail
                        go_ret
                        exact ⟨rfl, hb8.trans (hb9.mono hb8.size)⟩
                      · obtain rfl : o = true := (HOP.out _ hco2).1 hpr2
                        replace hb8 := hbw1.trans (hb8.mono hbw1.size)
                        clear q0 q1 hbw1 hco2 hpr2
                        go_wp2_with fail
                        refine awake_any.mono ?_
                        rintro e w9 ⟨rfl, hb9⟩
                        go_wp2_with fail
                        go_ret
                        exact ⟨rfl, hb8.trans (hb9.mono hb8.size)⟩

/-- GraphDistant returns true, whatever the graph. -/
theorem GraphDistant_true {w : World} {v : Value} {names : List ByteArray} {E : List (List Int)} (h : GrV w v names E) : Calls Tryd.prog 8 #[v] w (TrueR w) := by
  by_cases hc : chk names E = 0
  · obtain ⟨E', rfl, hk⟩ := ok_of_chk hc
    exact lawX_ok h hc hk
  · exact lawX_bad h hc
end Go.Proofs.YtpkjdnplmgfbbaaDoor
