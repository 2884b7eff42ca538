/- Package wide: Reduce: the Hermite form of a matrix of the call's own, in place. Package wide: rows and matrices of machine integers as matrices of integers (RowOf, Of); the Hermite form (Hermite). -/
import Derived.Test.YtdjpeimecfhdjaaGreatXh
namespace Go.Proofs.YtdjpeimecfhdjaaGreat
open Go.RowKit
theorem cmpI_zero (x : Int) : (cmpI x 0 < 0) = (x < 0) := by unfold cmpI; split <;> (try split) <;> simp <;> omega
set_option maxRecDepth 100000 in
set_option maxHeartbeats 8000000 in
theorem col_loop {w : World} {Q : Exit → Act → World → Prop} {base B q n cp c r f : Nat} {us : List Value} {D : Nat → Prop} {L M : List (List Int)} {t1 t2 t3 t4 t7 t8 t9 t10 t11 t12 t13 t14 t15 t16 t17 t18 t19 t20 t21 t22 t23 t24 t25 t26 t27 t28 t29 t30 t31 t32 t33 t34 t35 t36 t37 t38 t39 t40 t41 t42 t43 t44 t45 t46 t47 t48 t49 t50 t51 t52 t53 t54 t55 t56 t57 t58 t59 t60 t61 t62 t63 t64 t65 t66 t67 t68 t69 t70 t71 t72 t73 t74 t75 t76 t77 t78 t79 t80 t81 t82 t83 t84 t85 t86 t87 t88 t89 t90 t91 t92 t93 t94 t95 t96 t97 t98 t99 t100 t101 t102 t103 t104 t105 t106 t107 t108 t109 t110 t111 t112 t113 t114 t115 t116 t117 t118 t119 t120 t121 t122 t123 t124 t125 t126 t127 t128 t129 t130 t131 t132 t133 t134 t135 t136 t137 t138 t139 t140 t141 t142 t143 t144 t145 t146 t147 t148 t149 t150 t151 t152 t153 t154 t155 t156 t157 t158 t159 t160 t161 t162 t163 t164 t165 t166 t167 t168 t169 t170 t171 t172 t173 t174 t175 t176 t177 : Value}
  (hm : MatX w base B us D L) (hs : Shp q n L) (hf : fitM L = true) (hD : ∀ b, w.heap.size ≤ b → D b) (hc : c < n) (hr : r < q) (hq : q ≤ 1000000) (hn : n ≤ 1000000) (hM : redC f L c r = some M)
  (hQ : ∀ (us' : List Value) (w' : World) (u7 u8 u9 u10 u23 u24 u25 u26 u27 u28 u29 u30 u31 u32 u33 u34 u35 u36 u37 u38 u39 u40 u41 u42 u43 u44 u45 u46 u47 u48 u49 u50 u51 u52 u53 u54 u55 u56 u57 u58 u59 u60 u61 u62 u63 u64 u65 u66 u67 u68 u69 u70 u71 u72 u73 u74 u75 u76 u77 u78 u79 u80 u81 u82 u83 u84 u85 u86 u87 u88 u89 u90 u91 u92 u93 u94 u95 u96 u97 u98 u99 u100 u101 u102 u103 u104 u105 u106 u107 u108 u109 u110 u111 u112 u113 u114 u115 u116 u117 u118 u119 u120 u121 u122 : Value), MatX w' base B us' D M → (∀ b, MatX.Own B us' b ↔ MatX.Own B us b) → Frm (MatX.Own B us) w w' → Q .normal ⟨#[.slice (some ⟨B, 0, none⟩) q cp, t1, t2, t3, t4, .int .i64 (r : Nat), .int .i64 (c : Nat), u7, u8, u9, u10, t11, t12, t13, t14, t15, t16, t17, t18, t19, t20, t21, t22, u23, u24, u25, u26, u27, u28, u29, u30, u31, u32, u33, u34, u35, u36, u37, u38, u39, u40, u41, u42, u43, u44, u45, u46, u47, u48, u49, u50, u51, u52, u53, u54, u55, u56, u57, u58, u59, u60, u61, u62, u63, u64, u65, u66, u67, u68, u69, u70, u71, u72, u73, u74, u75, u76, u77, u78, u79, u80, u81, u82, u83, u84, u85, u86, u87, u88, u89, u90, u91, u92, u93, u94, u95, u96, u97, u98, u99, u100, u101, u102, u103, u104, u105, u106, u107, u108, u109, u110, u111, u112, u113, u114, u115, u116, u117, u118, u119, u120, u121, u122, t123, t124, t125, t126, t127, t128, t129, t130, t131, t132, t133, t134, t135, t136, t137, t138, t139, t140, t141, t142, t143, t144, t145, t146, t147, t148, t149, t150, t151, t152, t153, t154, t155, t156, t157, t158, t159, t160, t161, t162, t163, t164, t165, t166, t167, t168, t169, t170, t171, t172, t173, t174, t175, t176, t177], []⟩ w') :
  (redBlk 2).wp Tryz.prog Q ⟨#[.slice (some ⟨B, 0, none⟩) q cp, t1, t2, t3, t4, .int .i64 (r : Nat), .int .i64 (c : Nat), t7, t8, t9, t10, t11, t12, t13, t14, t15, t16, t17, t18, t19, t20, t21, t22, t23, t24, t25, t26, t27, t28, t29, t30, t31, t32, t33, t34, t35, t36, t37, t38, t39, t40, t41, t42, t43, t44, t45, t46, t47, t48, t49, t50, t51, t52, t53, t54, t55, t56, t57, t58, t59, t60, t61, t62, t63, t64, t65, t66, t67, t68, t69, t70, t71, t72, t73, t74, t75, t76, t77, t78, t79, t80, t81, t82, t83, t84, t85, t86, t87, t88, t89, t90, t91, t92, t93, t94, t95, t96, t97, t98, t99, t100, t101, t102, t103, t104, t105, t106, t107, t108, t109, t110, t111, t112, t113, t114, t115, t116, t117, t118, t119, t120, t121, t122, t123, t124, t125, t126, t127, t128, t129, t130, t131, t132, t133, t134, t135, t136, t137, t138, t139, t140, t141, t142, t143, t144, t145, t146, t147, t148, t149, t150, t151, t152, t153, t154, t155, t156, t157, t158, t159, t160, t161, t162, t163, t164, t165, t166, t167, t168, t169, t170, t171, t172, t173, t174, t175, t176, t177], []⟩ w := by
 have HQ := Lib.hid hQ
 have HD := Lib.hid hD
 clear hQ hD
 show Code.wp _ (Code.block 2 _) _ _ _
 go_wp2_with fail
 go_loopg [7] f (fun g av wr => ∃ (us2 : List Value) (L2 : List (List Int)), Hid (redC g L2 c r = some M) ∧ Shp q n L2 ∧ Hid (fitM L2 = true) ∧ MatX wr base B us2 D L2 ∧ Hid (∀ b, MatX.Own B us2 b ↔ MatX.Own B us b) ∧ Frm (MatX.Own B us) w wr)
 case atStart => exact ⟨us, L, Lib.hid hM, hs, Lib.hid hf, hm, Lib.hid (fun b => Iff.rfl), Frm.refl _ _⟩
 case round =>
  obtain ⟨us2, L2, HR, hs2, HF2, hm2, HO2, hfr2⟩ := hrel
  clear hm hs hf hM
  rcases gk with _ | g
  ·have := HR.out
   simp [redC] at this
  ·go_upto_block 4 with (fail)
   refine scan_loop hm2 hs2 HF2.out hc (by omega) hq ?_
   intro w3 u9 u24 u25 u26 u27 u28 u29 u30 u31 u32 u33 u34 u35 u36 u37 u38 u39 u40 u41 u42 u43 u44 u45 u46 u47 u48 u49 u50 u51 u52 u53 u54 u55 u56 u57 u58 u59 u60 u61 u62 hb3
   rename_i KX hKX
   have hL2 : L2.length = q := hs2.1
   have HRU := HR.out
   unfold redC at HRU
   rw [hL2] at HRU
   have hno := @scan_none L2 c r (q - r)
   have hlt := @scan_lt L2 c r (q - r)
   have hle := scan_le L2 c r (q - r)
   generalize scan L2 c r (q - r) = sv at *
   obtain ⟨oa, oc⟩ := sv
   simp only at HRU hno hlt hle ⊢
   clear hL2 HR
   rcases oa with _ | a
   ·have ho : oc = 0 := hno.1 rfl
    injection HRU with HRU
    subst ho HRU
    simp only [atI]
    refine hKX _ _ ?_
    clear hlt hno
    go_wp2_with fail
    exact HQ.out _ _ _ _ _ _ _ _ _ _ _ _ _ _ _ _ _ _ _ _ _ _ _ _ _ _ _ _ _ _ _ _ _ _ _ _ _ _ _ _ _ _ _ _ _ _ _ _ _ _ _ _ _ _ _ _ _ _ _ _ _ _ _ _ _ _ _ _ _ _ _ _ _ _ _ _ _ _ _ _ _ _ _ _ _ _ _ _ _ _ _ _ _ _ _ _ _ _ _ _ _ _ _ _ _ _ (hm2.below hb3) HO2.out (hfr2.over hb3)
   ·obtain ⟨ha1, ha2, ha3⟩ := hlt rfl
    have ho : oc ≠ 0 := fun e => by have := hno.2 e; cases this
    have haq : a < q := by omega
    simp only [atI]
    refine hKX _ _ ?_
    have ho1 : ¬ (oc : Int) = 0 := by omega
    have ho2 : ((oc : Int) == 0) = false := by simpa using ho1
    have HRV : Hid ((if oc = 1 then some (swp L2 r a) else if fitM (elim (swp L2 r a) c r (q - (r + 1))) then redC g (elim (swp L2 r a) c r (q - (r + 1))) c r else none) = some M) := Lib.hid HRU
    have HMM := Lib.hid hm2
    have HSS := Lib.hid hs2
    have HFF := Lib.hid hfr2
    clear hlt hno HRU hm2 hs2 hfr2
    go_upto_region 14 with (fail)
    refine swap_reg (HMM.out.below hb3) HSS.out (by omega) hr haq ?_
    intro us4 w4 u65 u66 u67 u68 u69 u70 u71 u72 u73 u74 u75 u76 u77 u78 hm4 ho4 hf4
    have HM4 := Lib.hid hm4
    have HO4 := Lib.hid (fun b => (ho4 b).trans (HO2.out b))
    have HF4 := Lib.hid ((HFF.out.over hb3).trans (hf4.mono fun b _ h => (HO2.out b).1 h))
    have hsw := HSS.out.swp hr haq
    have hpv : gm (swp L2 r a) r c ≠ 0 := by unfold gm; rw [rw_swp (by rw [HSS.out.1]; omega) (by rw [HSS.out.1]; omega)]; exact ha3
    have HSW := Lib.hid hsw
    have HPV := Lib.hid hpv
    have HFS := Lib.hid (fitM_swp HF2.out r a)
    clear hm4 ho4 hf4 hsw hpv HMM HSS HFF ha1 ha2 ha3 hb3 HO2 HF2
    rename_i KY hKY
    by_cases hoc : oc = 1
    ·subst hoc
     have hM := HRV.out
     simp only [if_true] at hM
     injection hM with hM
     go_wp2_with fail
     rw [← hM] at HQ
     exact HQ.out _ _ _ _ _ _ _ _ _ _ _ _ _ _ _ _ _ _ _ _ _ _ _ _ _ _ _ _ _ _ _ _ _ _ _ _ _ _ _ _ _ _ _ _ _ _ _ _ _ _ _ _ _ _ _ _ _ _ _ _ _ _ _ _ _ _ _ _ _ _ _ _ _ _ _ _ _ _ _ _ _ _ _ _ _ _ _ _ _ _ _ _ _ _ _ _ _ _ _ _ _ _ _ _ _ _ HM4.out HO4.out HF4.out
    ·have hM := HRV.out
     rw [if_neg hoc] at hM
     have hoc1 : ((oc : Int) == 1) = false := by simpa using (show ¬ (oc : Int) = 1 by omega)
     split at hM
     ·rename_i hfe
      have HFE := Lib.hid hfe
      have HMM := Lib.hid hM
      clear hM hfe HRV
      have hwr : IntKind.i64.wrap ((r : Int) + 1) = ((r + 1 : Nat) : Int) := IntWalk.i64_in _ (by omega)
      go_upto_block 6 with (fail)
      refine elim_loop HM4.out HSW.out HFS.out (fun b hb => HD.out b (Nat.le_trans HF4.out.size hb)) HPV.out hc hr hq hn ?_
      intro w5 u10 u83 u84 u85 u86 u87 u88 u89 u90 u91 u92 u93 u94 u95 u96 u97 u98 u99 u100 u101 u102 u103 u104 u105 u106 u107 u108 u109 u110 u111 u112 u113 u114 u115 u116 u117 u118 u119 u120 u121 u122 hm5 hf5
      rename_i KZ hKZ
      refine hKZ _ _ ?_
      go_wp2_with fail
      go_roundg g
      case rel => exact ⟨us4, _, HMM, HSW.out.elim (by omega), HFE, hm5, HO4, HF4.out.trans (hf5.mono fun b _ h => (HO4.out b).1 h)⟩
      case measure => omega
     ·cases hM
set_option maxRecDepth 100000 in
set_option maxHeartbeats 8000000 in
theorem Reduce_any {w : World} {base B q n cp cols f r : Nat} {us : List Value} {D : Nat → Prop} {L M : List (List Int)}
  (hm : MatX w base B us D L) (hs : Shp q n L) (hf : fitM L = true) (hD : ∀ b, w.heap.size ≤ b → D b) (hc : cols ≤ n) (hq : q ≤ 1000000) (hn : n ≤ 1000000) (hM : redN f cols 0 L 0 = some (M, r)) :
  Calls Tryz.prog 205 #[.slice (some ⟨B, 0, none⟩) q cp, .int .i64 (cols : Nat)] w fun e w' => e = .returned (.int .i64 (r : Nat)) ∧ ∃ us', MatX w' base B us' D M ∧ (∀ b, MatX.Own B us' b ↔ MatX.Own B us b) ∧ Frm (MatX.Own B us) w w' ∧ Shp q n M ∧ fitM M = true ∧ r ≤ q := by
 have HD := Lib.hid hD
 clear hD
 go_enter Tryz.func205, Tryz.ntmps205
 go_wp2_with fail
 go_loopw [5, 6] (fun rv cv wr => ∃ (rr cc : Nat) (us2 : List Value) (L2 : List (List Int)), rv = .int .i64 (rr : Nat) ∧ cv = .int .i64 (cc : Nat) ∧ cc ≤ cols ∧ rr ≤ q ∧ Hid (redN f (cols - cc) cc L2 rr = some (M, r)) ∧ Shp q n L2 ∧ Hid (fitM L2 = true) ∧ MatX wr base B us2 D L2 ∧ Hid (∀ b, MatX.Own B us2 b ↔ MatX.Own B us b) ∧ Frm (MatX.Own B us) w wr) (fun _ cv _ => cols - (intOf cv).toNat)
 case atStart => exact ⟨0, 0, us, L, rfl, rfl, by omega, by omega, Lib.hid hM, hs, Lib.hid hf, hm, Lib.hid (fun b => Iff.rfl), Frm.refl _ _⟩
 case round =>
  obtain ⟨rr, cc, us2, L2, rfl, rfl, hcc, hrr, HR, hs2, HF2, hm2, HO2, hfr2⟩ := hrel
  clear hm hs hf hM
  by_cases hc1 : cc < cols
  ·by_cases hr1 : rr < q
   ·obtain ⟨k, hk⟩ : ∃ k, cols - cc = k + 1 := ⟨cols - cc - 1, by omega⟩
    have HRU := HR.out
    rw [hk] at HRU
    unfold redN at HRU
    rw [if_pos (by rw [hs2.1]; exact hr1)] at HRU
    unfold colF at HRU
    have hk2 : k = cols - (cc + 1) := by omega
    rw [hk2] at HRU
    clear hk hk2 HR
    have e1 : (cc : Int) < (cols : Int) := by omega
    have e2 : (rr : Int) < (q : Int) := by omega
    cases hN : redC f L2 cc rr with
    | none => rw [hN] at HRU; cases HRU
    | some N =>
     rw [hN] at HRU
     replace HRU : (match (if gm N rr cc = 0 then some (N, rr) else if fitM (above (posR N cc rr) cc rr rr) then some (above (posR N cc rr) cc rr rr, rr + 1) else none) with | none => none | some (M, s) => redN f (cols - (cc + 1)) (cc + 1) M s) = some (M, r) := HRU
     have HRV := Lib.hid HRU
     have hshp := redC_shp hN hs2 HF2.out hr1
     have HN := Lib.hid hN
     have HS2 := Lib.hid hs2
     clear HRU hN hs2
     go_upto_block 2 with (fail)
     refine col_loop hm2 HS2.out HF2.out (fun b hb => HD.out b (Nat.le_trans hfr2.size hb)) (by omega) hr1 hq hn HN.out ?_
     intro us3 w3 u7 u8 u9 u10 u23 u24 u25 u26 u27 u28 u29 u30 u31 u32 u33 u34 u35 u36 u37 u38 u39 u40 u41 u42 u43 u44 u45 u46 u47 u48 u49 u50 u51 u52 u53 u54 u55 u56 u57 u58 u59 u60 u61 u62 u63 u64 u65 u66 u67 u68 u69 u70 u71 u72 u73 u74 u75 u76 u77 u78 u79 u80 u81 u82 u83 u84 u85 u86 u87 u88 u89 u90 u91 u92 u93 u94 u95 u96 u97 u98 u99 u100 u101 u102 u103 u104 u105 u106 u107 u108 u109 u110 u111 u112 u113 u114 u115 u116 u117 u118 u119 u120 u121 u122 hm3 ho3 hf3
     have HO3 := Lib.hid (fun b => (ho3 b).trans (HO2.out b))
     have HF3 := Lib.hid (hfr2.trans (hf3.mono fun b _ h => (HO2.out b).1 h))
     clear hm2 hfr2 HO2 ho3 hf3 HF2 HS2 HN
     obtain ⟨hs3, hfN⟩ := hshp
     rename_i KX hKX
     refine hKX _ _ ?_
     obtain ⟨g, cap, neg, A, m, kk, h1, k2, hcap, hcm, hg, e10, e11, e12⟩ := hm3.el hs3 (i := rr) (c := cc) hr1 (by omega)
     have a1 : (0 : Int) ≤ (rr : Int) := by omega
     have a3 : (0 : Int) ≤ (cc : Int) := by omega
     have a4 : (cc : Int) < (n : Int) := by omega
     have HZ := Lib.hid (Zero_any e12)
     have HM3 := Lib.hid hm3
     have HS3 := Lib.hid hs3
     have HFN := Lib.hid hfN
     have hwrr : IntKind.i64.wrap ((rr : Int) + 1) = ((rr + 1 : Nat) : Int) := IntWalk.i64_in _ (by omega)
     have hwcc : IntKind.i64.wrap ((cc : Int) + 1) = ((cc + 1 : Nat) : Int) := IntWalk.i64_in _ (by omega)
     have hcc1 : cc + 1 ≤ cols := hc1
     have hmz : cols - (cc + 1) < cols - cc := by omega
     by_cases h0 : gm N rr cc = 0
     ·have HR2 := HRV.out
      rw [if_pos h0] at HR2
      replace HR2 := Lib.hid (show redN f (cols - (cc + 1)) (cc + 1) N rr = some (M, r) from HR2)
      clear hm3 hs3 hfN e12 h1 HRV
      go_wp2_with (go_at_call 166; go_must (refine HZ.out.mono ?_); rintro e w4 ⟨rfl, hb4⟩)
      go_roundw
      case rel => exact ⟨rr, cc + 1, us3, N, rfl, by go_num, hcc1, hrr, HR2, HS3.out, HFN, HM3.out.below hb4, HO3, HF3.out.over hb4⟩
      case measure => simp only [intOf]; omega
     ·have HR2 := HRV.out
      rw [if_neg h0] at HR2
      have HSI := Lib.hid (fun w' (hb : Below w3.heap.size w3 w') => Sign_any (e12.below hb).int (Nat.le_trans (fit_wl (fitM_gm hfN rr cc)) (by omega)))
      have hcz := cmpI_zero (gm N rr cc)
      split at HR2
      ·cases HR2
      ·rename_i x M2 s2 heq
       split at heq
       ·rename_i hfe
        injection heq with heq
        injection heq with heq1 heq2
        subst heq1 heq2
        have HFE := Lib.hid hfe
        have HRW := Lib.hid HR2
        clear hfe HR2 HRV
        obtain ⟨gr, cr, u1, v1, hgr, hgB, hgD, hrow⟩ := hm3.row_ hs3 (by omega) (i := rr) hr1
        have hsp := hs3.posR (c := cc) (r := rr) hr1
        have hfp := fitM_posR hfN cc rr
        have hpp : gm (posR N cc rr) rr cc ≠ 0 := by
         unfold posR
         split
         ·unfold gm
          rw [rw_set (by rw [hs3.1]; exact hr1), if_pos rfl, ngR_gz]
          have : gz (rw_ N rr) cc ≠ 0 := h0
          omega
         ·exact h0
        have HSP := Lib.hid hsp
        have HFP := Lib.hid hfp
        have HPP := Lib.hid hpp
        have HEND : Hid (∀ (W : World) (us5 : List Value), MatX W base B us5 D (posR N cc rr) → (∀ b, MatX.Own B us5 b ↔ MatX.Own B us b) → Frm (MatX.Own B us) w W → MatX W base B us5 D (posR N cc rr) ∧ (∀ b, W.heap.size ≤ b → D b)) := Lib.hid fun W us5 h1 h2 h3 => ⟨h1, fun b hb => HD.out b (Nat.le_trans h3.size hb)⟩
        by_cases hneg : gm N rr cc < 0
        ·have hdc : cmpI (gm N rr cc) 0 < 0 := by rw [hcz]; exact hneg
         generalize cmpI (gm N rr cc) 0 = cv at *
         have hpe : posR N cc rr = N.set rr (ngR (rw_ N rr)) := if_pos hneg
         have HNG := Lib.hid (fun w' (hb : Below w3.heap.size w3 w') => negate_any (hrow.below hb) hgD (fun b hb2 => HD.out b (Nat.le_trans HF3.out.size (Nat.le_trans hb.size hb2))) (hs3.rw hr1) hn (fun j => Nat.le_trans (fit_wl (fitR_gz (fitM_rw hfN rr) j)) (by omega)))
         have HROW := Lib.hid (fun w' (hf : Frm (fun b => (Value.slice (some ⟨gr, 0, none⟩) n cr).ownBlock = some b) w3 w') (hr : OwnR w' base D (.slice (some ⟨gr, 0, none⟩) n cr) (ngR (rw_ N rr))) => hm3.row u1 hf hr (by rw [hs3.1]; exact hr1))
         have HU := Lib.hid (List.mem_of_getElem? u1)
         rw [← hpe] at HROW
         clear hm3 hs3 hfN e12 h1 u1 hrow hsp hfp hpp hpe hcz hneg
         go_upto_block 8 with (first
          | (go_at_call 166; go_must (refine HZ.out.mono ?_); rintro e w4 ⟨rfl, hb4⟩; have k3 := keepW hb4 HM3.out.lt k2; have e13 := keepW hb4 hg e10; have e14 := keepW hb4 hg e11)
          | (go_at_call 242; go_must (refine (HSI.out _ hb4).mono ?_); rintro e w5 ⟨rfl, hb5⟩; have hb6 := hb4.trans (hb5.mono hb4.size); have k4 := keepW hb6 HM3.out.lt v1)
          | (go_at_call 243; go_must (refine (HNG.out _ hb6).mono ?_); rintro e w6 ⟨rfl, hr6, hf6⟩; have hf7 : Frm (· = gr) w3 w6 := (Frm.of_below hb6).trans hf6))
         have hm7 := HROW.out w6 (hf7.mono fun b _ e => by rw [e]; rfl) hr6
         have hf8 := HF3.out.trans ((hf7.ofOwn (B := B) HU.out rfl).mono fun b _ h => (HO3.out b).1 h)
         refine above_loop hm7 HSP.out HFP.out (fun b hb => HD.out b (Nat.le_trans hf8.size hb)) HPP.out (by omega) hr1 hq hn ?_
         intro w9 u11 u146 u147 u148 u149 u150 u151 u152 u153 u154 u155 u156 u157 u158 u159 u160 u161 u162 u163 u164 u165 u166 u167 u168 u169 u170 u171 u172 u173 u174 hm9 hf9
         rename_i KZ hKZ
         refine hKZ _ _ ?_
         go_wp2_with fail
         go_roundw
         case rel => exact ⟨rr + 1, cc + 1, us3, _, by go_num, by go_num, hcc1, hr1, HRW, HSP.out.above (by omega), HFE, hm9, HO3, hf8.trans (hf9.mono fun b _ h => (HO3.out b).1 h)⟩
         case measure => simp only [intOf]; omega
        ·have hdc : ¬ cmpI (gm N rr cc) 0 < 0 := by rw [hcz]; exact hneg
         generalize cmpI (gm N rr cc) 0 = cv at *
         have hpe : posR N cc rr = N := if_neg hneg
         have hm7 := hm3
         rw [← hpe] at hm7
         have HM7 := Lib.hid hm7
         clear hm3 hs3 hfN e12 h1 u1 hrow hsp hfp hpp hpe hcz hneg hm7
         go_upto_block 8 with (first
          | (go_at_call 166; go_must (refine HZ.out.mono ?_); rintro e w4 ⟨rfl, hb4⟩; have k3 := keepW hb4 HM3.out.lt k2; have e13 := keepW hb4 hg e10; have e14 := keepW hb4 hg e11)
          | (go_at_call 242; go_must (refine (HSI.out _ hb4).mono ?_); rintro e w5 ⟨rfl, hb5⟩; have hb6 := hb4.trans (hb5.mono hb4.size)))
         have hm8 := HM7.out.below hb6
         have hf8 := HF3.out.over hb6
         refine above_loop hm8 HSP.out HFP.out (fun b hb => HD.out b (Nat.le_trans hf8.size hb)) HPP.out (by omega) hr1 hq hn ?_
         intro w9 u11 u146 u147 u148 u149 u150 u151 u152 u153 u154 u155 u156 u157 u158 u159 u160 u161 u162 u163 u164 u165 u166 u167 u168 u169 u170 u171 u172 u173 u174 hm9 hf9
         rename_i KZ hKZ
         refine hKZ _ _ ?_
         go_wp2_with fail
         go_roundw
         case rel => exact ⟨rr + 1, cc + 1, us3, _, by go_num, by go_num, hcc1, hr1, HRW, HSP.out.above (by omega), HFE, hm9, HO3, hf8.trans (hf9.mono fun b _ h => (HO3.out b).1 h)⟩
         case measure => simp only [intOf]; omega
       ·cases heq
   ·have HRU := HR.out
    obtain ⟨k, hk⟩ : ∃ k, cols - cc = k + 1 := ⟨cols - cc - 1, by omega⟩
    rw [hk] at HRU
    unfold redN at HRU
    rw [if_neg (by rw [hs2.1]; exact hr1)] at HRU
    injection HRU with HRU
    injection HRU with h1 h2
    subst h1 h2
    have e1 : (cc : Int) < (cols : Int) := by omega
    have e2 : ¬ (rr : Int) < (q : Int) := by omega
    clear hk HR
    go_wp2_with fail
    go_ret
    exact ⟨rfl, us2, hm2, HO2.out, hfr2, by first | exact ⟨hs2, HF2.out, hrr⟩ | exact HF2.out⟩
  ·have HRU := HR.out
   rw [show cols - cc = 0 by omega] at HRU
   unfold redN at HRU
   injection HRU with HRU
   injection HRU with h1 h2
   subst h1 h2
   have e1 : ¬ (cc : Int) < (cols : Int) := by omega
   clear HR
   go_wp2_with fail
   go_ret
   exact ⟨rfl, us2, hm2, HO2.out, hfr2, by first | exact ⟨hs2, HF2.out, hrr⟩ | exact HF2.out⟩
end Go.Proofs.YtdjpeimecfhdjaaGreat

namespace Go.Proofs.YtdjpeimecfhdjaaGreat
open Go.RowKit
def IsD (w : World) (D : Nat → Prop) (v : Value) (l : List Int) : Prop :=
 ∃ A c, v = .slice A l.length c ∧ l.length ≤ c ∧ c ≤ maxLen ∧ (0 < l.length → ∃ b off, A = some ⟨b, off, none⟩ ∧ D b ∧ ∀ j, j < l.length → w.cell? ⟨b, off + j, none⟩ = some (.int .i64 (gz l j)))
theorem cell_lt3 {w : World} {b o : Nat} {u : Value} (h : w.cell? ⟨b, o, none⟩ = some u) : b < w.heap.size := cell_lt h
instance : Foot IsD where
 keep := by
  rintro w w' D v x ⟨A, c, rfl, h1, h2, h3⟩ hk
  refine ⟨A, c, rfl, h1, h2, fun hn => ?_⟩
  obtain ⟨b, off, e, hd, hc⟩ := h3 hn
  exact ⟨b, off, e, hd, fun j hj => (World.cell?_of_block (w := w) (hk b hd (cell_lt3 (hc j hj)))).trans (hc j hj)⟩
 mono := by
  rintro w D D' v x ⟨A, c, rfl, h1, h2, h3⟩ hm
  refine ⟨A, c, rfl, h1, h2, fun hn => ?_⟩
  obtain ⟨b, off, e, hd, hc⟩ := h3 hn
  exact ⟨b, off, e, hm b hd (cell_lt3 (hc 0 hn)), hc⟩
 one := by
  rintro w D v x ⟨A, c, rfl, _⟩
  rfl
theorem IsD.at {w : World} {D : Nat → Prop} {A : Option Addr} {n c : Nat} {l : List Int} (h : IsD w D (.slice A n c) l) {j : Nat} (hj : j < n) : ∃ b off, A = some ⟨b, off, none⟩ ∧ D b ∧ w.cell? ⟨b, off + j, none⟩ = some (.int .i64 (gz l j)) := by
 obtain ⟨A', c', e, h1, h2, h3⟩ := h
 injection e with e1 e2 e3
 subst e1 e3
 obtain ⟨b, off, e4, hd, hc⟩ := h3 (by omega)
 exact ⟨b, off, e4, hd, hc j (by omega)⟩
theorem IsD.len {w : World} {D : Nat → Prop} {A : Option Addr} {n c : Nat} {l : List Int} (h : IsD w D (.slice A n c) l) : l.length = n := by
 obtain ⟨A', c', e, h1⟩ := h
 injection e with e1 e2 e3
 exact e2.symm
def i64R (l : List Int) : Prop := ∀ x ∈ l, -9223372036854775808 ≤ x ∧ x ≤ 9223372036854775807
theorem i64R_gz {l : List Int} (h : i64R l) (j : Nat) : -9223372036854775808 ≤ gz l j ∧ gz l j ≤ 9223372036854775807 := by
 rcases Nat.lt_or_ge j l.length with h1 | h1
 ·exact h _ (gz_mem h1)
 ·rw [gz_ge h1]; omega
set_option maxRecDepth 100000 in
set_option maxHeartbeats 4000000 in
theorem RowOf_any {w : World} {D : Nat → Prop} {A : Option Addr} {n c : Nat} {l : List Int} (h : IsD w D (.slice A n c) l) (hn : n ≤ 1000000) (hi64 : i64R l) :
  Calls Tryz.prog 182 #[.slice A n c] w (Gives w fun w' v => PvD w' (w.heap.size ≤ ·) v l) := by
 have HL := Lib.hid h.len
 have HI := Lib.hid hi64
 clear hi64
 go_enter Tryz.func182, Tryz.ntmps182
 go_wp2_with (at_make; go_must (refine wpList_make_arr _ rfl _ _ _ rfl 40 (.agg #[.bool false, .slice none 0 0]) 2 32 Tryz.underlying175 info_Int _ _ _ _ n rfl rfl (by omega) (by omega) (by omega) (by omega) ?_); intro w1 ha hb hz)
 have hm := OwnR.made (D := (w.heap.size < ·)) (Nat.le_refl _) (show n ≤ maxLen by unfold maxLen; omega) ha
 have HB1 := Lib.hid hb
 have HZ := Lib.hid hz
 clear hz ha hb
 go_loopw [11] (fun iv wr => ∃ i : Nat, iv = .int .i64 i ∧ i ≤ n ∧ OwnR wr w.heap.size (w.heap.size < ·) (.slice (some ⟨w.heap.size, 0, none⟩) n n) (l.take i ++ List.replicate (n - i) 0) ∧ Below w.heap.size w wr) (fun iv _ => n - (intOf iv).toNat)
 case atStart => exact ⟨0, rfl, by omega, by simpa using hm, HB1.out⟩
 case round =>
  obtain ⟨i, rfl, hi, hown, hbr⟩ := hrel
  have hlen : (l.take i ++ List.replicate (n - i) (0 : Int)).length = n := by rw [List.length_append, List.length_take, List.length_replicate, HL.out]; omega
  rcases Nat.lt_or_ge i n with hin | hin
  ·obtain ⟨b, off, rfl, _, hc⟩ := (Foot.below h hbr).at hin
   have hgl := (hown.lt rfl).2
   obtain ⟨g', cap', e3, _, _, hcap, hcm, hfz, hcl⟩ := hown.at (by rw [hlen]; omega)
   injection e3 with e3 e5 e4
   injection e3 with e3
   injection e3 with e3 e6 e7
   subst e3 e4
   clear e5 e6 e7
   obtain ⟨neg3, B3, q3, t3, o0, o1, o2⟩ := hcl i (by rw [hlen]; omega)
   have z0 := hfz (i * 2)
   have z1 := hfz (i * 2 + 1)
   have hx := i64R_gz HI.out i
   have HO := Lib.hid (Of_any (gz l i) wr hx.1 hx.2)
   have HST := Lib.hid (set_snoc (z := (0 : Int)) hin HL.out (gz_lt (by rw [HL.out]; exact hin)))
   have HOW := Lib.hid hown
   have HLE := Lib.hid hlen
   have HBR := Lib.hid hbr
   clear hcl hcap hcm hfz o2 hown hlen hx hbr
   have a1 : (0 : Int) ≤ (i : Int) := by omega
   have a2 : (i : Int) < (n : Int) := by omega
   generalize gz l i = x at *
   go_wp2_with (go_at_call 88; go_must (refine HO.out.mono ?_); rintro e w3 ⟨v3, rfl, hv3, hb3⟩; obtain ⟨n9, A9, m9, c9, rfl, hw9⟩ := hv3.shp; clear hv3; have t0 := keepB hb3 o0; have t1 := keepB hb3 o1; have u0 := ((bcell hb3).2 _ _ hgl).trans z0; have u1 := ((bcell hb3).2 _ _ hgl).trans z1)
   go_round
   case rel =>
    have hset := (HOW.out.below hb3).set (Nat.lt_irrefl _) (i := i) (by rw [HLE.out]; exact hin) (hw9.dd fun b h1 => Nat.lt_of_lt_of_le hgl h1)
    rw [HST.out] at hset
    exact ⟨i + 1, by go_num, by omega, hset, ((HBR.out.trans (hb3.mono HBR.out.size)).setCell (p := ⟨w.heap.size, i * 2, none⟩) (Nat.le_refl _) _).setCell (p := ⟨w.heap.size, i * 2 + 1, none⟩) (Nat.le_refl _) _⟩
   case measure => simp [intOf]; omega
  ·obtain rfl : i = n := by omega
   rw [Nat.sub_self, List.replicate_zero, List.append_nil, List.take_of_length_le (by rw [HL.out]; exact Nat.le_refl _)] at hown
   clear hlen
   go_wp2_with fail
   go_ret
   refine ⟨_, rfl, hown.pvd fun b hb => ?_, hbr⟩
   rcases hb with hb | hb
   ·omega
   ·have hb2 : some w.heap.size = some b := hb
    injection hb2 with hb2
    omega
structure MatR (w : World) (B : Nat) (E : Nat → Prop) (us : List Value) (L : List (List Int)) : Prop where
 arr : Arr w B 175 us
 len : us.length = L.length
 rows : ∀ (i : Nat) u l, us[i]? = some u → L[i]? = some l → PvD w (fun b => E b ∧ b ≠ B) u l
section
variable {w w' : World} {B : Nat} {E : Nat → Prop} {us : List Value} {L : List (List Int)}
theorem MatR.lt (h : MatR w B E us L) : B < w.heap.size := h.arr.lt
theorem MatR.below (h : MatR w B E us L) (hb : Below w.heap.size w w') : MatR w' B E us L := ⟨h.arr.below' hb, h.len, fun i u l hu hl => Foot.below (h.rows i u l hu hl) hb⟩
theorem MatR.make {q : Nat} (h : Arr w B 175 (madeCells (Value.slice none 0 0).cells (q * 1)).toList) : MatR w B E (List.replicate q (.slice none 0 0)) (List.replicate q []) := by
 rw [show (Value.slice none 0 0).cells = #[.slice none 0 0] from rfl, toList_madeCells_one, Nat.mul_one] at h
 refine ⟨h, by simp, fun i u l hu hl => ?_⟩
 obtain rfl := List.eq_of_mem_replicate (List.mem_of_getElem? hu)
 obtain rfl := List.eq_of_mem_replicate (List.mem_of_getElem? hl)
 exact ⟨none, 0, rfl, Pl.nil 0 (by unfold maxLen; omega)⟩
theorem MatR.put (h : MatR w B E us L) {i : Nat} {u : Value} {l : List Int} (hi : i < L.length) (hr : PvD w (fun b => E b ∧ b ≠ B) u l) : MatR (w.setCell ⟨B, i, none⟩ u) B E (us.set i u) (L.set i l) := by
 have hk : ∀ b, b ≠ B → b < w.heap.size → (w.setCell ⟨B, i, none⟩ u).heap[b]? = w.heap[b]? := fun b hb _ => Below.heap_setCell _ _ _ _ (fun e => hb e)
 refine ⟨h.arr.set_ _ _, by simp [h.len], fun k x y hx hy => ?_⟩
 by_cases e : i = k
 ·subst e
  rw [List.getElem?_set_self (by rw [h.len]; exact hi)] at hx
  rw [List.getElem?_set_self hi] at hy
  injection hx with hx; injection hy with hy; subst hx hy
  exact Foot.keep hr fun b hb => hk b hb.2
 ·rw [List.getElem?_set_ne e] at hx hy
  exact Foot.keep (h.rows k x y hx hy) fun b hb => hk b hb.2
theorem MatR.at (h : MatR w B E us L) {i : Nat} (hi : i < L.length) : ∃ u, us[i]? = some u ∧ w.cell? ⟨B, i, none⟩ = some u ∧ PvD w (fun b => E b ∧ b ≠ B) u (rw_ L i) := by
 obtain ⟨u, hu⟩ : ∃ u, us[i]? = some u := ⟨_, List.getElem?_eq_getElem (by rw [h.len]; exact hi)⟩
 exact ⟨u, hu, (h.arr.cell i).trans hu, h.rows i u _ hu (rw_some hi)⟩
theorem MatR.rd (h : MatR w B E us L) {n c : Nat} (hn : L.length = n) (hc : n ≤ c) (hm : c ≤ maxLen) : RowsD PvD w (fun b => E b ∨ b = B) (.slice (some ⟨B, 0, none⟩) n c) L := by
 subst hn
 exact ⟨_, c, us, rfl, hc, hm, h.len, fun _ => ⟨B, 0, rfl, .inr rfl, fun j u hu => by rw [Nat.zero_add, h.arr.cell]; exact hu⟩, fun i u x hu hx => Foot.mono (h.rows i u x hu hx) fun b hb _ => .inl hb.1⟩
end
theorem RowsD.take {α : Type} {R : World → (Nat → Prop) → Value → α → Prop} {w : World} {D : Nat → Prop} {A : Option Addr} {n c k : Nat} {L : List α} (h : RowsD R w D (.slice A n c) L) (hk : k ≤ n) : RowsD R w D (.slice A k c) (L.take k) := by
 obtain ⟨A', c', vs, e, h1, h2, h3, h4, h5⟩ := h
 injection e with e1 e2 e3
 subst e1 e3
 have hl : (L.take k).length = k := by rw [List.length_take]; omega
 refine ⟨A, c, vs.take k, by rw [hl], by omega, h2, by rw [List.length_take, hl]; omega, fun hn => ?_, fun i u x hu hx => ?_⟩
 ·obtain ⟨b, off, e4, hd, hc⟩ := h4 (by omega)
  refine ⟨b, off, e4, hd, fun j u hu => hc j u ?_⟩
  rw [List.getElem?_take] at hu
  split at hu
  ·exact hu
  ·cases hu
 ·rw [List.getElem?_take] at hu hx
  split at hu
  ·rename_i hi
   rw [if_pos hi] at hx
   exact h5 i u x hu hx
  ·cases hu
def RM (w : World) (v : Value) (L : List (List Int)) : Prop := RowsD PvD w (fun _ => True) v L
theorem RM.at {w : World} {A : Option Addr} {n c : Nat} {L : List (List Int)} (h : RM w (.slice A n c) L) {i : Nat} (hi : i < n) :
  ∃ b off Au cu, A = some ⟨b, off, none⟩ ∧ w.cell? ⟨b, off + i, none⟩ = some (.slice Au (rw_ L i).length cu) ∧ PvD w (fun _ => True) (.slice Au (rw_ L i).length cu) (rw_ L i) := by
 have hr := RowsD.room h
 obtain ⟨b, off, u, e, hc, hu⟩ := RowsD.at h (rw_some (L := L) (i := i) (by omega))
 obtain ⟨Au, cu, rfl, hp⟩ := hu
 exact ⟨b, off, Au, cu, e, hc, Au, cu, rfl, hp⟩
set_option maxRecDepth 100000 in
set_option maxHeartbeats 4000000 in
theorem wOf_any {w : World} {D : Nat → Prop} {A : Option Addr} {q c : Nat} {L : List (List Int)} (h : RowsD IsD w D (.slice A q c) L) (hq : q ≤ 1000000) (hn : ∀ l ∈ L, l.length ≤ 1000000) (hi64 : ∀ l ∈ L, i64R l) :
  Calls Tryz.prog 129 #[.slice A q c] w (Gives w fun w' v => RowsD PvD w' (w.heap.size ≤ ·) v L) := by
 have hr := h.room
 have HL := Lib.hid hr.1.symm
 clear hr
 go_enter Tryz.func129, Tryz.ntmps129
 go_wp2_with (at_make; go_must (refine wpList_make_arr _ rfl _ _ _ rfl 175 (.slice none 0 0) 1 24 Tryz.underlying113 info_Row _ _ _ _ q rfl rfl (by omega) (by omega) (by omega) (by omega) ?_); intro w1 ha hb hz)
 have HB1 := Lib.hid hb
 have hm := MatR.make (E := (w.heap.size ≤ ·)) ha
 have HZ := Lib.hid hz
 clear hz ha hb
 go_loopw [11] (fun iv wr => ∃ (i : Nat) (us : List Value), iv = .int .i64 i ∧ i ≤ q ∧ MatR wr w.heap.size (w.heap.size ≤ ·) us (L.take i ++ List.replicate (q - i) []) ∧ Below w.heap.size w wr) (fun iv _ => q - (intOf iv).toNat)
 case atStart => exact ⟨0, _, rfl, by omega, by simpa using hm, HB1.out⟩
 case round =>
  obtain ⟨i, us, rfl, hi, hmx, hbr⟩ := hrel
  have hlt := hmx.lt
  rcases Nat.lt_or_ge i q with hiq | hiq
  ·have hx := rw_some (L := L) (i := i) (by rw [HL.out]; exact hiq)
   obtain ⟨b, off, u, rfl, hc, hu⟩ := (h.below hbr).at hx
   have hlen := hn _ (List.mem_of_getElem? hx)
   have h64 := hi64 _ (List.mem_of_getElem? hx)
   obtain ⟨Au, cu, rfl, hpu⟩ := hu
   have hpv : IsD wr D (.slice Au (rw_ L i).length cu) (rw_ L i) := ⟨Au, cu, rfl, hpu⟩
   have HC := Lib.hid (RowOf_any hpv hlen h64)
   have z0 := hmx.arr.frozen i
   have hlen2 : (L.take i ++ List.replicate (q - i) ([] : List Int)).length = q := by rw [List.length_append, List.length_take, List.length_replicate, HL.out]; omega
   obtain ⟨uo, _, z2, _⟩ := hmx.at (i := i) (by rw [hlen2]; exact hiq)
   have HLE := Lib.hid hlen2
   have HM := Lib.hid hmx
   have HX := Lib.hid hx
   have HBR := Lib.hid hbr
   clear hpv hpu hx hmx hlen hbr hlen2 h64
   generalize (rw_ L i).length = ln at *
   have a1 : (0 : Int) ≤ (i : Int) := by omega
   have a2 : (i : Int) < (q : Int) := by omega
   go_wp2_with (go_at_call 182; go_must (refine HC.out.mono ?_); rintro e w3 ⟨v3, rfl, hv3, hb3⟩; obtain ⟨A3, c3, rfl, hp3⟩ := hv3; have z1 := ((bcell hb3).2 _ _ hlt).trans z0; have z3 := keepB hb3 z2)
   go_round
   case rel =>
    have hput := (HM.out.below hb3).put (i := i) (u := .slice A3 (rw_ L i).length c3) (l := rw_ L i) (by rw [HLE.out]; exact hiq) (Foot.mono (show PvD w3 _ _ _ from ⟨A3, c3, rfl, hp3⟩) fun b (hb : _ ≤ b) _ => ⟨by show w.heap.size ≤ b; omega, by omega⟩)
    rw [set_snoc hiq HL.out HX.out] at hput
    exact ⟨i + 1, _, by go_num, by omega, hput, (HBR.out.trans (hb3.mono HBR.out.size)).setCell (p := ⟨w.heap.size, i, none⟩) (Nat.le_refl _) _⟩
   case measure => simp [intOf]; omega
  ·obtain rfl : i = q := by omega
   rw [Nat.sub_self, List.replicate_zero, List.append_nil, List.take_of_length_le (by rw [HL.out]; exact Nat.le_refl _)] at hmx
   go_wp2_with fail
   go_ret
   exact ⟨_, rfl, RowsD.mono (hmx.rd HL.out (Nat.le_refl _) (by unfold maxLen; omega)) fun b hb _ => hb.elim id fun h => by show w.heap.size ≤ b; omega, hbr⟩
theorem redN_shp {f k q n : Nat} {L M : List (List Int)} {c r s : Nat} (h : redN f k c L r = some (M, s)) (hs : Shp q n L) (hf : fitM L = true) (hr : r ≤ q) : Shp q n M ∧ fitM M = true ∧ s ≤ q := by
 induction k generalizing c L r with
 | zero => unfold redN at h; injection h with h; injection h with h1 h2; subst h1 h2; exact ⟨hs, hf, hr⟩
 | succ k ih =>
  unfold redN at h
  split at h
  ·rename_i hlt
   rw [hs.1] at hlt
   split at h
   ·cases h
   ·rename_i N t hN
    obtain ⟨h1, h2, h3⟩ := colF_shp hN hs hf hlt
    exact ih h h1 h2 h3
  ·injection h with h; injection h with h1 h2; subst h1 h2; exact ⟨hs, hf, hr⟩
theorem herm_shp {f n : Nat} {L M : List (List Int)} (h : herm f L = some M) (hs : ∀ l ∈ L, l.length = n) (hf : fitM L = true) : (∀ l ∈ M, l.length = n) ∧ fitM M = true ∧ M.length ≤ L.length := by
 unfold herm at h
 split at h
 ·injection h with h; subst h; exact ⟨fun l hl => (by cases hl), rfl, Nat.le_refl _⟩
 ·rename_i l r
  split at h
  ·cases h
  ·rename_i N s hN
   injection h with h
   subst h
   have hsh : Shp (l :: r).length n (l :: r) := ⟨rfl, hs⟩
   obtain ⟨h1, h2, h3⟩ := redN_shp hN hsh hf (Nat.zero_le _)
   exact ⟨fun l hl => h1.2 l (List.mem_of_mem_take hl), by
    unfold fitM at *
    rw [List.all_eq_true] at *
    exact fun x hx => h2 x (List.mem_of_mem_take hx), by rw [List.length_take]; omega⟩
theorem MatX.ownlt {w : World} {base B : Nat} {us : List Value} {D : Nat → Prop} {L : List (List Int)} (h : MatX w base B us D L) {b : Nat} (hb : MatX.Own B us b) : base ≤ b ∧ b < w.heap.size := by
 rcases hb with rfl | ⟨u, hu, hg⟩
 ·exact ⟨h.lo, h.lt⟩
 ·obtain ⟨i, hi⟩ := List.getElem?_of_mem hu
  obtain ⟨l, hl⟩ : ∃ l, L[i]? = some l := ⟨_, List.getElem?_eq_getElem (by rw [← h.len]; exact lt_of_get hi)⟩
  exact (h.rows i u l hi hl).lt hg
def DN (D : Nat → Prop) (base B : Nat) (us : List Value) (b : Nat) : Prop := (D b ∧ b < base) ∨ (base ≤ b ∧ ¬ MatX.Own B us b)
theorem DN.own {D : Nat → Prop} {w : World} {base B : Nat} {us : List Value} {D' : Nat → Prop} {L : List (List Int)} (h : MatX w base B us D' L) {b : Nat} (ho : MatX.Own B us b) : ¬ DN D base B us b := by
 rintro (⟨_, h2⟩ | ⟨_, h2⟩)
 ·have := (h.ownlt ho).1; omega
 ·exact h2 ho
theorem MatX.fresh {D : Nat → Prop} {w : World} {base B : Nat} {us : List Value} {L : List (List Int)} (h : MatX w base B us (fun b => D b ∧ b < base) L) : MatX w base B us (DN D base B us) L :=
 h.mono (fun _ hb _ => .inl hb) (DN.own h (.inl rfl)) (fun u hu _ hg => DN.own h (.inr ⟨u, hu, hg⟩))
theorem DN.new {D : Nat → Prop} {w : World} {base B : Nat} {us : List Value} {D' : Nat → Prop} {L : List (List Int)} (h : MatX w base B us D' L) (hb : base ≤ w.heap.size) {b : Nat} (h1 : w.heap.size ≤ b) : DN D base B us b := .inr ⟨by omega, fun ho => by have := (h.ownlt ho).2; omega⟩
theorem DN.rd {D : Nat → Prop} {w : World} {base B : Nat} {us : List Value} {D' : Nat → Prop} {L : List (List Int)} (h : MatX w base B us D' L) {us' : List Value} {b : Nat} (hs : ∀ b, MatX.Own B us' b ↔ MatX.Own B us b) (hb : DN D base B us b ∨ MatX.Own B us' b) : D b ∨ base ≤ b := by
 rcases hb with (⟨h1, _⟩ | ⟨h1, _⟩) | h1
 ·exact .inl h1
 ·exact .inr h1
 ·exact .inr (h.ownlt ((hs b).1 h1)).1
set_option maxRecDepth 100000 in
set_option maxHeartbeats 4000000 in
theorem Hermite_any {w : World} {D : Nat → Prop} {A : Option Addr} {q c n f : Nat} {L M : List (List Int)} (h : RowsD PvD w D (.slice A q c) L) (hq : q ≤ 1000000) (hs : ∀ l ∈ L, l.length = n) (hn : n ≤ 1000000) (hn0 : 0 < n) (hf : fitM L = true) (hM : herm f L = some M) :
  Calls Tryz.prog 141 #[.slice A q c] w (Gives w fun w' v => RowsD PvD w' (fun b => D b ∨ w.heap.size ≤ b) v M) := by
 have hr := RowsD.room h
 have HL := Lib.hid hr.1.symm
 clear hr
 rcases Nat.eq_zero_or_pos q with h0 | h0
 ·subst h0
  obtain rfl := List.eq_nil_of_length_eq_zero HL.out
  unfold herm at hM
  injection hM with hM
  subst hM
  go_enter Tryz.func141, Tryz.ntmps141
  go_wp2_with fail
  go_ret
  exact ⟨_, rfl, RowsD.nil _ _ (by unfold maxLen; omega), Below.refl _ _⟩
 ·have hC := Clone_any h hq fun l hl => by rw [hs l hl]; exact hn
  have HC := Lib.hid hC
  obtain ⟨l0, r0, rfl⟩ : ∃ l0 r0, L = l0 :: r0 := by
   cases L with
   | nil => have := HL.out; simp at this; omega
   | cons a b => exact ⟨a, b, rfl⟩
  unfold herm at hM
  simp only at hM
  rw [hs l0 List.mem_cons_self] at hM
  split at hM
  ·cases hM
  ·rename_i N s hN
   injection hM with hM
   subst hM
   have HN := Lib.hid hN
   have HS := Lib.hid (show Shp q n (l0 :: r0) from ⟨HL.out, hs⟩)
   have HF := Lib.hid hf
   have hq1 : ¬ (q : Int) = 0 := by omega
   have hq2 : ((q : Int) == 0) = false := by simpa using hq1
   have hq3 : (0 : Int) < (q : Int) := by omega
   clear hN hs hf hC h
   generalize l0 :: r0 = L at *
   go_enter Tryz.func141, Tryz.ntmps141
   go_wp2_with (first
    | (go_at_call 206; go_must (refine HC.out.mono ?_); rintro e w3 ⟨B, us, rfl, hm3, hb3⟩; obtain ⟨g, cap, u1, k1, _, _, _, hrow⟩ := hm3.row_ HS.out hn0 (i := 0) h0)
    | (go_at_call 205; go_must (refine (Reduce_any hm3.fresh HS.out HF.out (fun b hb => DN.new hm3 hb3.size hb) (Nat.le_refl _) hq hn HN.out).mono ?_); rintro e w4 ⟨rfl, us4, hm4, ho4, hf4, hs4, hfm4, hrq⟩))
   go_ret
   exact ⟨_, rfl, RowsD.take (hm4.rd hs4.1 (Nat.le_refl _) (by unfold maxLen; omega) fun b hb => DN.rd hm3 ho4 hb) hrq, hb3.trans (hf4.below hb3.size fun b hb => (hm3.ownlt hb).1)⟩
theorem cntR_snoc (g : Int) (l : List Int) (x : Int) : cntR g (l ++ [x]) = (Int.gcd (cntR g l) x : Int) := by simp [cntR]
theorem cntM_snoc (g : Int) (L : List (List Int)) (l : List Int) : cntM g (L ++ [l]) = cntR (cntM g L) l := by simp [cntM]
theorem wl_cntR {B : Nat} (l : List Int) {g : Int} (hg : wl g.natAbs ≤ B) (h : ∀ x ∈ l, wl x.natAbs ≤ B) : wl (cntR g l).natAbs ≤ B := by
 induction l generalizing g with
 | nil => exact hg
 | cons x r ih =>
  refine ih (g := (Int.gcd g x : Int)) ?_ (fun y hy => h y (List.mem_cons_of_mem _ hy))
  rw [Int.natAbs_natCast]
  exact wl_gcd g x hg (h x List.mem_cons_self)
theorem wl_cntM {B : Nat} (L : List (List Int)) {g : Int} (hg : wl g.natAbs ≤ B) (h : ∀ l ∈ L, ∀ x ∈ l, wl x.natAbs ≤ B) : wl (cntM g L).natAbs ≤ B := by
 induction L generalizing g with
 | nil => exact hg
 | cons l r ih => exact ih (wl_cntR l hg (h l List.mem_cons_self)) (fun y hy => h y (List.mem_cons_of_mem _ hy))
theorem take_succ_rw {L : List (List Int)} {k : Nat} (h : k < L.length) : L.take (k + 1) = L.take k ++ [rw_ L k] := by rw [List.take_add_one, rw_some h]; rfl
end Go.Proofs.YtdjpeimecfhdjaaGreat
