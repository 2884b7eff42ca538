/- Package wide: the walk over short vectors: the bounds of an element. -/
import Derived.Test.YtdjpeimecfhdjaaGreatXv
import Derived.Test.YtdjpeimecfhdjaaGreatXr
namespace Go.Proofs.YtdjpeimecfhdjaaGreat
open Go.RowKit
theorem opAt {O L : Array Oper} (h : O = L) (i : Nat) {o : Oper} (h2 : L[i]? = some o) : O[i]? = some o := by rw [h]; exact h2
noncomputable def reg15C : Code := (regOf 15 ((Tryz.f189.body).getD .skip)).getD .skip
def reg15T511 : Tr5 := .step 13 (.step 14 .nil)
def reg15T510 : Tr5 := .step 12 reg15T511
def reg15T501 : Tr5 := .step 11 reg15T511
def reg15T500 : Tr5 := .two 11 12 reg15T510 reg15T501
def reg15T411 : Tr5 := .step 10 reg15T511
def reg15T410 : Tr5 := .two 10 12 reg15T510 reg15T411
def reg15T401 : Tr5 := .two 10 11 reg15T501 reg15T411
def reg15T400 : Tr5 := .three 10 11 12 reg15T500 reg15T410 reg15T401
def reg15T311 : Tr5 := .step 8 reg15T411
def reg15T310 : Tr5 := .two 8 12 reg15T410 reg15T311
def reg15T301 : Tr5 := .two 8 11 reg15T401 reg15T311
def reg15T300 : Tr5 := .three 8 11 12 reg15T400 reg15T310 reg15T301
def reg15T211 : Tr5 := .step 5 reg15T311
def reg15T210 : Tr5 := .two 5 12 reg15T310 reg15T211
def reg15T201 : Tr5 := .two 5 11 reg15T301 reg15T211
def reg15T200 : Tr5 := .three 5 11 12 reg15T300 reg15T210 reg15T201
def reg15T111 : Tr5 := .step 3 reg15T211
def reg15T110 : Tr5 := .two 3 12 reg15T210 reg15T111
def reg15T101 : Tr5 := .two 3 11 reg15T201 reg15T111
def reg15T100 : Tr5 := .three 3 11 12 reg15T200 reg15T110 reg15T101
def reg15T011 : Tr5 := .step 1 reg15T111
def reg15T010 : Tr5 := .two 1 12 reg15T110 reg15T011
def reg15T001 : Tr5 := .two 1 11 reg15T101 reg15T011
def reg15T000 : Tr5 := .three 1 11 12 reg15T100 reg15T010 reg15T001
set_option maxRecDepth 100000 in
set_option maxHeartbeats 4000000 in
theorem reg15 {w : World} {Q : Exit → Act → World → Prop} {Pf Pr Pt : Nat} {f r t : Int} {t0 t1 t2 t3 t4 t5 t6 t7 t8 t9 t11 t13 t15 t16 t17 t18 t19 t20 t21 t22 t23 t24 t25 t26 t27 t28 t29 t30 t31 t32 t33 t34 t35 t36 t37 t38 t39 t40 t41 t42 t43 t44 t45 t46 t47 t48 t49 t50 t51 t52 t53 t54 t55 t56 t57 t58 t59 t60 t61 t62 t63 t64 t65 t66 t67 t68 t69 t70 t71 t72 t73 t74 t75 t76 t77 t78 t79 t80 t81 t82 t83 t84 t85 t86 t87 t88 t89 t90 t91 t92 t93 t94 t95 t96 t97 t98 t99 t100 t101 t102 t103 t104 t105 t106 t107 t108 t109 t110 t111 t112 t113 t114 t115 t116 t117 t118 t119 t120 t121 t122 t123 t124 t125 t126 t127 t128 t129 t130 t131 t132 t133 : Value}
  (hF : BT w Pf f) (hR : BT w Pr r) (hT : BT w Pt t) (hf : f ≠ 0) (hlf : wl f.natAbs ≤ 100000) (hlr : wl r.natAbs ≤ 100000) (hlt : wl t.natAbs ≤ 2000000)
  (hQ : ∀ (w' : World) (P P' : Nat) (u101 u102 u103 u104 u105 u106 u107 u108 u109 u110 u111 : Value), Bx w' P (w.heap.size ≤ ·) (-(-(-t - r) / f)) → Bx w' P' (w.heap.size ≤ ·) ((t - r) / f) → P ≠ P' → w.heap.size ≤ P → w.heap.size ≤ P' → Below w.heap.size w w' → Q .normal ⟨#[t0, t1, t2, t3, t4, t5, t6, t7, t8, t9, .pointer (some ⟨Pf, 0, none⟩), t11, .pointer (some ⟨Pr, 0, none⟩), t13, .pointer (some ⟨Pt, 0, none⟩), t15, .pointer (some ⟨P, 0, none⟩), .pointer (some ⟨P', 0, none⟩), t18, t19, t20, t21, t22, t23, t24, t25, t26, t27, t28, t29, t30, t31, t32, t33, t34, t35, t36, t37, t38, t39, t40, t41, t42, t43, t44, t45, t46, t47, t48, t49, t50, t51, t52, t53, t54, t55, t56, t57, t58, t59, t60, t61, t62, t63, t64, t65, t66, t67, t68, t69, t70, t71, t72, t73, t74, t75, t76, t77, t78, t79, t80, t81, t82, t83, t84, t85, t86, t87, t88, t89, t90, t91, t92, t93, t94, t95, t96, t97, t98, t99, t100, u101, u102, u103, u104, u105, u106, u107, u108, u109, u110, u111, t112, t113, t114, t115, t116, t117, t118, t119, t120, t121, t122, t123, t124, t125, t126, t127, t128, t129, t130, t131, t132, t133], []⟩ w') :
  (reg15C).wp Tryz.prog Q ⟨#[t0, t1, t2, t3, t4, t5, t6, t7, t8, t9, .pointer (some ⟨Pf, 0, none⟩), t11, .pointer (some ⟨Pr, 0, none⟩), t13, .pointer (some ⟨Pt, 0, none⟩), t15, t16, t17, t18, t19, t20, t21, t22, t23, t24, t25, t26, t27, t28, t29, t30, t31, t32, t33, t34, t35, t36, t37, t38, t39, t40, t41, t42, t43, t44, t45, t46, t47, t48, t49, t50, t51, t52, t53, t54, t55, t56, t57, t58, t59, t60, t61, t62, t63, t64, t65, t66, t67, t68, t69, t70, t71, t72, t73, t74, t75, t76, t77, t78, t79, t80, t81, t82, t83, t84, t85, t86, t87, t88, t89, t90, t91, t92, t93, t94, t95, t96, t97, t98, t99, t100, t101, t102, t103, t104, t105, t106, t107, t108, t109, t110, t111, t112, t113, t114, t115, t116, t117, t118, t119, t120, t121, t122, t123, t124, t125, t126, t127, t128, t129, t130, t131, t132, t133], []⟩ w := by
 have HQ := Lib.hid hQ
 clear hQ
 show Code.wp _ (Code.region 15 (List.toArray _) true) _ _ _
 obtain ⟨v0, hv0⟩ : ∃ v0, v0 = w.drew := ⟨_, rfl⟩
 have hs : Below w.heap.size w v0 := by rw [hv0]; exact (Below.refl _ _).drew
 obtain ⟨nf, Af, mf, cf, hPf, hrf⟩ := hF
 obtain ⟨nr, Ar, mr, cr, hPr, hrr⟩ := hR
 obtain ⟨nt, At, mt, ct, hPt, hrt⟩ := hT
 obtain ⟨f0, f1, _, _⟩ := hPf.c2
 obtain ⟨r0, r1, _, _⟩ := hPr.c2
 obtain ⟨t0c, t1c, _, _⟩ := hPt.c2
 have w1 := wl_neg t
 have w2 := wl_addI (-t) (-r)
 have w3 := wl_addI t (-r)
 have w4 := wl_neg r
 rw [← Int.sub_eq_add_neg] at w2 w3
 refine wp_region_tq5 (.read 0 (.read 2 (.read 4 (.read 6 (.read 7 (.read 9 reg15T000)))))) [13, 14] (by kernel_rfl) (by rfl) (by kernel_rfl) (by kernel_rfl) (fun V => Below w.heap.size w V) ?_
 change goU _ _ _ _ _ _ _ w.drew
 rw [← hv0]
 clear hv0
 refine goU_read 101 hs (by rfl) (by rfl) (.agg #[.bool nt, .slice At mt ct]) (by rfl) (fun wz hSw => ?_) ?_
 ·have e0 := keepB hSw t0c; have e1 := keepB hSw t1c; go_simp
  try with_reducible rfl
 simp only [sIB, List.set]
 refine goU_read 103 hs (by rfl) (by rfl) (.agg #[.bool nr, .slice Ar mr cr]) (by rfl) (fun wz hSw => ?_) ?_
 ·have e0 := keepB hSw r0; have e1 := keepB hSw r1; go_simp
  try with_reducible rfl
 simp only [sIB, List.set]
 refine goU_read 105 hs (by rfl) (by rfl) (.agg #[.bool nf, .slice Af mf cf]) (by rfl) (fun wz hSw => ?_) ?_
 ·have e0 := keepB hSw f0; have e1 := keepB hSw f1; go_simp
  try with_reducible rfl
 simp only [sIB, List.set]
 refine goU_read 107 hs (by rfl) (by rfl) (.agg #[.bool nt, .slice At mt ct]) (by rfl) (fun wz hSw => ?_) ?_
 ·have e0 := keepB hSw t0c; have e1 := keepB hSw t1c; go_simp
  try with_reducible rfl
 simp only [sIB, List.set]
 refine goU_read 108 hs (by rfl) (by rfl) (.agg #[.bool nr, .slice Ar mr cr]) (by rfl) (fun wz hSw => ?_) ?_
 ·have e0 := keepB hSw r0; have e1 := keepB hSw r1; go_simp
  try with_reducible rfl
 simp only [sIB, List.set]
 refine goU_read 110 hs (by rfl) (by rfl) (.agg #[.bool nf, .slice Af mf cf]) (by rfl) (fun wz hSw => ?_) ?_
 ·have e0 := keepB hSw f0; have e1 := keepB hSw f1; go_simp
  try with_reducible rfl
 simp only [sIB, List.set]
 refine (fun (key : ∀ O, O = _ → goU _ O _ _ _ _ _ _) => key _ rfl) ?_
 intro O hO
 have ho1 := opAt hO 1 rfl
 simp only [List.getElem_toArray, List.getElem_cons_succ, List.getElem_cons_zero] at ho1
 have HO1 := Lib.hid ho1
 clear ho1
 have ho3 := opAt hO 3 rfl
 simp only [List.getElem_toArray, List.getElem_cons_succ, List.getElem_cons_zero] at ho3
 have HO3 := Lib.hid ho3
 clear ho3
 have ho5 := opAt hO 5 rfl
 simp only [List.getElem_toArray, List.getElem_cons_succ, List.getElem_cons_zero] at ho5
 have HO5 := Lib.hid ho5
 clear ho5
 have ho8 := opAt hO 8 rfl
 simp only [List.getElem_toArray, List.getElem_cons_succ, List.getElem_cons_zero] at ho8
 have HO8 := Lib.hid ho8
 clear ho8
 have ho10 := opAt hO 10 rfl
 simp only [List.getElem_toArray, List.getElem_cons_succ, List.getElem_cons_zero] at ho10
 have HO10 := Lib.hid ho10
 clear ho10
 have ho11 := opAt hO 11 rfl
 simp only [List.getElem_toArray, List.getElem_cons_succ, List.getElem_cons_zero] at ho11
 have HO11 := Lib.hid ho11
 clear ho11
 have ho12 := opAt hO 12 rfl
 simp only [List.getElem_toArray, List.getElem_cons_succ, List.getElem_cons_zero] at ho12
 have HO12 := Lib.hid ho12
 clear ho12
 have ho13 := opAt hO 13 rfl
 simp only [List.getElem_toArray, List.getElem_cons_succ, List.getElem_cons_zero] at ho13
 have HO13 := Lib.hid ho13
 clear ho13
 have ho14 := opAt hO 14 rfl
 simp only [List.getElem_toArray, List.getElem_cons_succ, List.getElem_cons_zero] at ho14
 have HO14 := Lib.hid ho14
 clear ho14
 clear hO
 obtain ⟨F, hF0⟩ : ∃ F : Value → Value → Value → Value → Value → Value → Value → Act, F = fun x16 x17 x102 x104 x106 x109 x111 => ⟨#[t0, t1, t2, t3, t4, t5, t6, t7, t8, t9, .pointer (some ⟨Pf, 0, none⟩), t11, .pointer (some ⟨Pr, 0, none⟩), t13, .pointer (some ⟨Pt, 0, none⟩), t15, x16, x17, t18, t19, t20, t21, t22, t23, t24, t25, t26, t27, t28, t29, t30, t31, t32, t33, t34, t35, t36, t37, t38, t39, t40, t41, t42, t43, t44, t45, t46, t47, t48, t49, t50, t51, t52, t53, t54, t55, t56, t57, t58, t59, t60, t61, t62, t63, t64, t65, t66, t67, t68, t69, t70, t71, t72, t73, t74, t75, t76, t77, t78, t79, t80, t81, t82, t83, t84, t85, t86, t87, t88, t89, t90, t91, t92, t93, t94, t95, t96, t97, t98, t99, t100, .agg #[.bool nt, .slice At mt ct], x102, .agg #[.bool nr, .slice Ar mr cr], x104, .agg #[.bool nf, .slice Af mf cf], x106, .agg #[.bool nt, .slice At mt ct], .agg #[.bool nr, .slice Ar mr cr], x109, .agg #[.bool nf, .slice Af mf cf], x111, t112, t113, t114, t115, t116, t117, t118, t119, t120, t121, t122, t123, t124, t125, t126, t127, t128, t129, t130, t131, t132, t133], []⟩ := ⟨_, rfl⟩
 have HF := Lib.hid hF0
 clear hF0
 have K511 : Hid (∀ (V : World) (P : Nat) (P' : Nat) (r102 : Value) (r104 : Value) (r106 : Value) (r109 : Value) (r111 : Value), Below w.heap.size w V → NIntV V (w.heap.size ≤ ·) r106 (-(-(-t - r) / f)) → NIntV V (w.heap.size ≤ ·) r111 ((t - r) / f) → Arr V P 40 [.bool false, .slice none 0 0] → w.heap.size ≤ P → Arr V P' 40 [.bool false, .slice none 0 0] → w.heap.size ≤ P' → P ≠ P' → goU Tryz.prog O (noPanic Q) (fun V => Below w.heap.size w V) [13, 14] reg15T511 (F (.pointer (some ⟨P, 0, none⟩)) (.pointer (some ⟨P', 0, none⟩)) r102 r104 r106 r109 r111) V) := Lib.hid (by
  intro V P P' r102 r104 r106 r109 r111 hs h106 h111 hP hPw hR hRw hne
  simp only [HF.out]
  obtain ⟨n1, A1, m1, c1, rfl, h1⟩ := h106.shp
  obtain ⟨n2, A2, m2, c2, rfl, h2⟩ := h111.shp
  obtain ⟨q0, q1, f0, f1⟩ := hP.c2
  refine goU_step HO13.out ?_
  go_wp2_with fail
  try (refine ⟨fun h => absurd h (by decide), ?_⟩)
  obtain ⟨V1, hV1⟩ : ∃ U, U = (V.setCell ⟨P, 0, none⟩ (.bool n1)).setCell ⟨P, 1, none⟩ (.slice A1 m1 c1) := ⟨_, rfl⟩
  rw [← hV1]
  have hf1 : Frm (· = P) V V1 := by rw [hV1]; exact Frm.put2 V P _ _
  have hB1 : Bx V1 P (w.heap.size ≤ ·) (-(-(-t - r) / f)) := by rw [hV1]; exact Bx.mono (Bx.put hP (h1.clr hP) (fun h => h.2 rfl)) fun b hb _ => hb.1
  have hR1 := hf1.arr hR (fun e => hne e.symm)
  have h21 := (hf1.nint (h2.clr hP) fun b hb => hb.2)
  have hs1 : Below w.heap.size w V1 := hs.trans (hf1.below (B := w.heap.size) hs.size fun b (e : b = P) => by rw [e]; exact hPw)
  clear hV1 q0 q1 f0 f1
  obtain ⟨q0, q1, f0, f1⟩ := hR1.c2
  refine goU_step HO14.out ?_
  go_wp2_with fail
  try (refine ⟨fun h => absurd h (by decide), ?_⟩)
  obtain ⟨V3, hV3⟩ : ∃ U, U = (V1.setCell ⟨P', 0, none⟩ (.bool n2)).setCell ⟨P', 1, none⟩ (.slice A2 m2 c2) := ⟨_, rfl⟩
  rw [← hV3]
  have hf2 : Frm (· = P') V1 V3 := by rw [hV3]; exact Frm.put2 V1 P' _ _
  have hB2 : Bx V3 P' (w.heap.size ≤ ·) ((t - r) / f) := by rw [hV3]; exact Bx.mono (Bx.put hR1 (h21.clr hR1) (fun h => h.2 rfl)) fun b hb _ => hb.1.1
  have hB3 : Bx V3 P (w.heap.size ≤ ·) (-(-(-t - r) / f)) := by
   obtain ⟨_, _, _, _, g1, g2⟩ := hB1
   exact ⟨_, _, _, _, hf2.arr g1 hne, (hf2.nint (g2.clr hR1) fun b hb => hb.2).mono fun b hb _ => hb.1⟩
  have hs3 : Below w.heap.size w V3 := hs1.trans (hf2.below (B := w.heap.size) hs1.size fun b (e : b = P') => by rw [e]; exact hRw)
  refine goU_nilN ?_
  exact HQ.out _ P P' _ _ _ _ _ _ _ _ _ _ _ hB3 hB2 hne hPw hRw hs3)
 have K510 : Hid (∀ (V : World) (P : Nat) (r102 : Value) (r104 : Value) (r106 : Value) (r109 : Value) (r111 : Value), Below w.heap.size w V → NIntV V (w.heap.size ≤ ·) r106 (-(-(-t - r) / f)) → NIntV V (w.heap.size ≤ ·) r111 ((t - r) / f) → Arr V P 40 [.bool false, .slice none 0 0] → w.heap.size ≤ P → goU Tryz.prog O (noPanic Q) (fun V => Below w.heap.size w V) [13, 14] reg15T510 (F (.pointer (some ⟨P, 0, none⟩)) t17 r102 r104 r106 r109 r111) V) := Lib.hid (by
  intro V P r102 r104 r106 r109 r111 hs h106 h111 hP hPw
  simp only [HF.out]
  refine goU_step HO12.out ?_
  go_wp2_with fail
  obtain ⟨V2, hV2⟩ : ∃ U, U = V.alloc (.cells #[.bool false, .slice none 0 0] 40) := ⟨_, rfl⟩
  obtain ⟨P', hXe⟩ : ∃ B, B = V.heap.size := ⟨_, rfl⟩
  have hR : Arr V2 P' 40 [.bool false, .slice none 0 0] := by rw [hV2, hXe]; exact Arr.new V _ [.bool false, .slice none 0 0]
  have hb : Below V.heap.size V V2 := by rw [hV2]; exact (Below.refl _ _).alloc (Nat.le_refl _) _
  have hRw : w.heap.size ≤ P' := by rw [hXe]; exact hs.size
  rw [← hV2, ← hXe]
  have hne : P ≠ P' := by rw [hXe]; exact Nat.ne_of_lt hP.lt
  replace hP := keepA hP hb hP.lt
  replace h106 := h106.below hb
  replace h111 := h111.below hb
  clear hV2 hXe
  replace hs := hs.trans (hb.mono hs.size)
  first | refine ⟨fun _ => hs, ?_⟩ | refine ⟨hs, ?_⟩
  have HK := K511.out V2 P P' r102 r104 r106 r109 r111 hs h106 h111 hP hPw hR hRw hne
  simp only [HF.out] at HK
  exact HK)
 have K501 : Hid (∀ (V : World) (P' : Nat) (r102 : Value) (r104 : Value) (r106 : Value) (r109 : Value) (r111 : Value), Below w.heap.size w V → NIntV V (w.heap.size ≤ ·) r106 (-(-(-t - r) / f)) → NIntV V (w.heap.size ≤ ·) r111 ((t - r) / f) → Arr V P' 40 [.bool false, .slice none 0 0] → w.heap.size ≤ P' → goU Tryz.prog O (noPanic Q) (fun V => Below w.heap.size w V) [13, 14] reg15T501 (F t16 (.pointer (some ⟨P', 0, none⟩)) r102 r104 r106 r109 r111) V) := Lib.hid (by
  intro V P' r102 r104 r106 r109 r111 hs h106 h111 hR hRw
  simp only [HF.out]
  refine goU_step HO11.out ?_
  go_wp2_with fail
  obtain ⟨V2, hV2⟩ : ∃ U, U = V.alloc (.cells #[.bool false, .slice none 0 0] 40) := ⟨_, rfl⟩
  obtain ⟨P, hXe⟩ : ∃ B, B = V.heap.size := ⟨_, rfl⟩
  have hP : Arr V2 P 40 [.bool false, .slice none 0 0] := by rw [hV2, hXe]; exact Arr.new V _ [.bool false, .slice none 0 0]
  have hb : Below V.heap.size V V2 := by rw [hV2]; exact (Below.refl _ _).alloc (Nat.le_refl _) _
  have hPw : w.heap.size ≤ P := by rw [hXe]; exact hs.size
  rw [← hV2, ← hXe]
  have hne : P ≠ P' := by rw [hXe]; exact Nat.ne_of_gt hR.lt
  replace hR := keepA hR hb hR.lt
  replace h106 := h106.below hb
  replace h111 := h111.below hb
  clear hV2 hXe
  replace hs := hs.trans (hb.mono hs.size)
  first | refine ⟨fun _ => hs, ?_⟩ | refine ⟨hs, ?_⟩
  have HK := K511.out V2 P P' r102 r104 r106 r109 r111 hs h106 h111 hP hPw hR hRw hne
  simp only [HF.out] at HK
  exact HK)
 have K500 : Hid (∀ (V : World) (r102 : Value) (r104 : Value) (r106 : Value) (r109 : Value) (r111 : Value), Below w.heap.size w V → NIntV V (w.heap.size ≤ ·) r106 (-(-(-t - r) / f)) → NIntV V (w.heap.size ≤ ·) r111 ((t - r) / f) → goU Tryz.prog O (noPanic Q) (fun V => Below w.heap.size w V) [13, 14] reg15T500 (F t16 t17 r102 r104 r106 r109 r111) V) := Lib.hid (by
  intro V r102 r104 r106 r109 r111 hs h106 h111
  simp only [HF.out]
  refine goU_two HO11.out HO12.out ?_ ?_ 
  ·go_wp2_with fail
   obtain ⟨V2, hV2⟩ : ∃ U, U = V.alloc (.cells #[.bool false, .slice none 0 0] 40) := ⟨_, rfl⟩
   obtain ⟨P, hXe⟩ : ∃ B, B = V.heap.size := ⟨_, rfl⟩
   have hP : Arr V2 P 40 [.bool false, .slice none 0 0] := by rw [hV2, hXe]; exact Arr.new V _ [.bool false, .slice none 0 0]
   have hb : Below V.heap.size V V2 := by rw [hV2]; exact (Below.refl _ _).alloc (Nat.le_refl _) _
   have hPw : w.heap.size ≤ P := by rw [hXe]; exact hs.size
   rw [← hV2, ← hXe]
   replace h106 := h106.below hb
   replace h111 := h111.below hb
   clear hV2 hXe
   replace hs := hs.trans (hb.mono hs.size)
   first | refine ⟨fun _ => hs, ?_⟩ | refine ⟨hs, ?_⟩
   have HK := K510.out V2 P r102 r104 r106 r109 r111 hs h106 h111 hP hPw
   simp only [HF.out] at HK
   exact HK
  ·go_wp2_with fail
   obtain ⟨V2, hV2⟩ : ∃ U, U = V.alloc (.cells #[.bool false, .slice none 0 0] 40) := ⟨_, rfl⟩
   obtain ⟨P', hXe⟩ : ∃ B, B = V.heap.size := ⟨_, rfl⟩
   have hR : Arr V2 P' 40 [.bool false, .slice none 0 0] := by rw [hV2, hXe]; exact Arr.new V _ [.bool false, .slice none 0 0]
   have hb : Below V.heap.size V V2 := by rw [hV2]; exact (Below.refl _ _).alloc (Nat.le_refl _) _
   have hRw : w.heap.size ≤ P' := by rw [hXe]; exact hs.size
   rw [← hV2, ← hXe]
   replace h106 := h106.below hb
   replace h111 := h111.below hb
   clear hV2 hXe
   replace hs := hs.trans (hb.mono hs.size)
   first | refine ⟨fun _ => hs, ?_⟩ | refine ⟨hs, ?_⟩
   have HK := K501.out V2 P' r102 r104 r106 r109 r111 hs h106 h111 hR hRw
   simp only [HF.out] at HK
   exact HK)
 have K411 : Hid (∀ (V : World) (P : Nat) (P' : Nat) (r102 : Value) (r104 : Value) (r106 : Value) (r109 : Value), Below w.heap.size w V → NIntV V (w.heap.size ≤ ·) r106 (-(-(-t - r) / f)) → NIntV V (w.heap.size ≤ ·) r109 (t - r) → Arr V P 40 [.bool false, .slice none 0 0] → w.heap.size ≤ P → Arr V P' 40 [.bool false, .slice none 0 0] → w.heap.size ≤ P' → P ≠ P' → goU Tryz.prog O (noPanic Q) (fun V => Below w.heap.size w V) [13, 14] reg15T411 (F (.pointer (some ⟨P, 0, none⟩)) (.pointer (some ⟨P', 0, none⟩)) r102 r104 r106 r109 t111) V) := Lib.hid (by
  intro V P P' r102 r104 r106 r109 hs h106 h109 hP hPw hR hRw hne
  simp only [HF.out]
  refine goU_call 111 HO10.out (by rfl) (by rfl) (by go_simp) (wQuo_any h109.int (hrf.below hs).int (by omega) (by omega) hf) ?_
  rintro e V2 ⟨r111, rfl, h111, hb⟩
  replace h111 : NIntV V2 (w.heap.size ≤ ·) r111 _ := h111.mono fun b (hx : V.heap.size ≤ b) _ => Nat.le_trans hs.size hx
  replace h106 := h106.below hb
  replace hP := keepA hP hb hP.lt
  replace hR := keepA hR hb hR.lt
  replace hs := hs.trans (hb.mono hs.size)
  refine ⟨_, rfl, fun _ => hs, ?_⟩
  simp only [sIB, List.set]
  have HK := K511.out V2 P P' r102 r104 r106 r109 r111 hs h106 h111 hP hPw hR hRw hne
  simp only [HF.out] at HK
  exact HK)
 have K410 : Hid (∀ (V : World) (P : Nat) (r102 : Value) (r104 : Value) (r106 : Value) (r109 : Value), Below w.heap.size w V → NIntV V (w.heap.size ≤ ·) r106 (-(-(-t - r) / f)) → NIntV V (w.heap.size ≤ ·) r109 (t - r) → Arr V P 40 [.bool false, .slice none 0 0] → w.heap.size ≤ P → goU Tryz.prog O (noPanic Q) (fun V => Below w.heap.size w V) [13, 14] reg15T410 (F (.pointer (some ⟨P, 0, none⟩)) t17 r102 r104 r106 r109 t111) V) := Lib.hid (by
  intro V P r102 r104 r106 r109 hs h106 h109 hP hPw
  simp only [HF.out]
  refine goU_two HO10.out HO12.out ?_ ?_ 
  ·refine goU_call1 111 (by rfl) (by rfl) (by go_simp) (wQuo_any h109.int (hrf.below hs).int (by omega) (by omega) hf) ?_
   rintro e V2 ⟨r111, rfl, h111, hb⟩
   replace h111 : NIntV V2 (w.heap.size ≤ ·) r111 _ := h111.mono fun b (hx : V.heap.size ≤ b) _ => Nat.le_trans hs.size hx
   replace h106 := h106.below hb
   replace hP := keepA hP hb hP.lt
   replace hs := hs.trans (hb.mono hs.size)
   refine ⟨_, rfl, fun _ => hs, ?_⟩
   simp only [sIB, List.set]
   have HK := K510.out V2 P r102 r104 r106 r109 r111 hs h106 h111 hP hPw
   simp only [HF.out] at HK
   exact HK
  ·go_wp2_with fail
   obtain ⟨V2, hV2⟩ : ∃ U, U = V.alloc (.cells #[.bool false, .slice none 0 0] 40) := ⟨_, rfl⟩
   obtain ⟨P', hXe⟩ : ∃ B, B = V.heap.size := ⟨_, rfl⟩
   have hR : Arr V2 P' 40 [.bool false, .slice none 0 0] := by rw [hV2, hXe]; exact Arr.new V _ [.bool false, .slice none 0 0]
   have hb : Below V.heap.size V V2 := by rw [hV2]; exact (Below.refl _ _).alloc (Nat.le_refl _) _
   have hRw : w.heap.size ≤ P' := by rw [hXe]; exact hs.size
   rw [← hV2, ← hXe]
   have hne : P ≠ P' := by rw [hXe]; exact Nat.ne_of_lt hP.lt
   replace hP := keepA hP hb hP.lt
   replace h106 := h106.below hb
   replace h109 := h109.below hb
   clear hV2 hXe
   replace hs := hs.trans (hb.mono hs.size)
   first | refine ⟨fun _ => hs, ?_⟩ | refine ⟨hs, ?_⟩
   have HK := K411.out V2 P P' r102 r104 r106 r109 hs h106 h109 hP hPw hR hRw hne
   simp only [HF.out] at HK
   exact HK)
 have K401 : Hid (∀ (V : World) (P' : Nat) (r102 : Value) (r104 : Value) (r106 : Value) (r109 : Value), Below w.heap.size w V → NIntV V (w.heap.size ≤ ·) r106 (-(-(-t - r) / f)) → NIntV V (w.heap.size ≤ ·) r109 (t - r) → Arr V P' 40 [.bool false, .slice none 0 0] → w.heap.size ≤ P' → goU Tryz.prog O (noPanic Q) (fun V => Below w.heap.size w V) [13, 14] reg15T401 (F t16 (.pointer (some ⟨P', 0, none⟩)) r102 r104 r106 r109 t111) V) := Lib.hid (by
  intro V P' r102 r104 r106 r109 hs h106 h109 hR hRw
  simp only [HF.out]
  refine goU_two HO10.out HO11.out ?_ ?_ 
  ·refine goU_call1 111 (by rfl) (by rfl) (by go_simp) (wQuo_any h109.int (hrf.below hs).int (by omega) (by omega) hf) ?_
   rintro e V2 ⟨r111, rfl, h111, hb⟩
   replace h111 : NIntV V2 (w.heap.size ≤ ·) r111 _ := h111.mono fun b (hx : V.heap.size ≤ b) _ => Nat.le_trans hs.size hx
   replace h106 := h106.below hb
   replace hR := keepA hR hb hR.lt
   replace hs := hs.trans (hb.mono hs.size)
   refine ⟨_, rfl, fun _ => hs, ?_⟩
   simp only [sIB, List.set]
   have HK := K501.out V2 P' r102 r104 r106 r109 r111 hs h106 h111 hR hRw
   simp only [HF.out] at HK
   exact HK
  ·go_wp2_with fail
   obtain ⟨V2, hV2⟩ : ∃ U, U = V.alloc (.cells #[.bool false, .slice none 0 0] 40) := ⟨_, rfl⟩
   obtain ⟨P, hXe⟩ : ∃ B, B = V.heap.size := ⟨_, rfl⟩
   have hP : Arr V2 P 40 [.bool false, .slice none 0 0] := by rw [hV2, hXe]; exact Arr.new V _ [.bool false, .slice none 0 0]
   have hb : Below V.heap.size V V2 := by rw [hV2]; exact (Below.refl _ _).alloc (Nat.le_refl _) _
   have hPw : w.heap.size ≤ P := by rw [hXe]; exact hs.size
   rw [← hV2, ← hXe]
   have hne : P ≠ P' := by rw [hXe]; exact Nat.ne_of_gt hR.lt
   replace hR := keepA hR hb hR.lt
   replace h106 := h106.below hb
   replace h109 := h109.below hb
   clear hV2 hXe
   replace hs := hs.trans (hb.mono hs.size)
   first | refine ⟨fun _ => hs, ?_⟩ | refine ⟨hs, ?_⟩
   have HK := K411.out V2 P P' r102 r104 r106 r109 hs h106 h109 hP hPw hR hRw hne
   simp only [HF.out] at HK
   exact HK)
 have K400 : Hid (∀ (V : World) (r102 : Value) (r104 : Value) (r106 : Value) (r109 : Value), Below w.heap.size w V → NIntV V (w.heap.size ≤ ·) r106 (-(-(-t - r) / f)) → NIntV V (w.heap.size ≤ ·) r109 (t - r) → goU Tryz.prog O (noPanic Q) (fun V => Below w.heap.size w V) [13, 14] reg15T400 (F t16 t17 r102 r104 r106 r109 t111) V) := Lib.hid (by
  intro V r102 r104 r106 r109 hs h106 h109
  simp only [HF.out]
  refine goU_three HO10.out HO11.out HO12.out ?_ ?_ ?_ 
  ·refine goU_call1 111 (by rfl) (by rfl) (by go_simp) (wQuo_any h109.int (hrf.below hs).int (by omega) (by omega) hf) ?_
   rintro e V2 ⟨r111, rfl, h111, hb⟩
   replace h111 : NIntV V2 (w.heap.size ≤ ·) r111 _ := h111.mono fun b (hx : V.heap.size ≤ b) _ => Nat.le_trans hs.size hx
   replace h106 := h106.below hb
   replace hs := hs.trans (hb.mono hs.size)
   refine ⟨_, rfl, fun _ => hs, ?_⟩
   simp only [sIB, List.set]
   have HK := K500.out V2 r102 r104 r106 r109 r111 hs h106 h111
   simp only [HF.out] at HK
   exact HK
  ·go_wp2_with fail
   obtain ⟨V2, hV2⟩ : ∃ U, U = V.alloc (.cells #[.bool false, .slice none 0 0] 40) := ⟨_, rfl⟩
   obtain ⟨P, hXe⟩ : ∃ B, B = V.heap.size := ⟨_, rfl⟩
   have hP : Arr V2 P 40 [.bool false, .slice none 0 0] := by rw [hV2, hXe]; exact Arr.new V _ [.bool false, .slice none 0 0]
   have hb : Below V.heap.size V V2 := by rw [hV2]; exact (Below.refl _ _).alloc (Nat.le_refl _) _
   have hPw : w.heap.size ≤ P := by rw [hXe]; exact hs.size
   rw [← hV2, ← hXe]
   replace h106 := h106.below hb
   replace h109 := h109.below hb
   clear hV2 hXe
   replace hs := hs.trans (hb.mono hs.size)
   first | refine ⟨fun _ => hs, ?_⟩ | refine ⟨hs, ?_⟩
   have HK := K410.out V2 P r102 r104 r106 r109 hs h106 h109 hP hPw
   simp only [HF.out] at HK
   exact HK
  ·go_wp2_with fail
   obtain ⟨V2, hV2⟩ : ∃ U, U = V.alloc (.cells #[.bool false, .slice none 0 0] 40) := ⟨_, rfl⟩
   obtain ⟨P', hXe⟩ : ∃ B, B = V.heap.size := ⟨_, rfl⟩
   have hR : Arr V2 P' 40 [.bool false, .slice none 0 0] := by rw [hV2, hXe]; exact Arr.new V _ [.bool false, .slice none 0 0]
   have hb : Below V.heap.size V V2 := by rw [hV2]; exact (Below.refl _ _).alloc (Nat.le_refl _) _
   have hRw : w.heap.size ≤ P' := by rw [hXe]; exact hs.size
   rw [← hV2, ← hXe]
   replace h106 := h106.below hb
   replace h109 := h109.below hb
   clear hV2 hXe
   replace hs := hs.trans (hb.mono hs.size)
   first | refine ⟨fun _ => hs, ?_⟩ | refine ⟨hs, ?_⟩
   have HK := K401.out V2 P' r102 r104 r106 r109 hs h106 h109 hR hRw
   simp only [HF.out] at HK
   exact HK)
 have K311 : Hid (∀ (V : World) (P : Nat) (P' : Nat) (r102 : Value) (r104 : Value) (r106 : Value), Below w.heap.size w V → NIntV V (w.heap.size ≤ ·) r106 (-(-(-t - r) / f)) → Arr V P 40 [.bool false, .slice none 0 0] → w.heap.size ≤ P → Arr V P' 40 [.bool false, .slice none 0 0] → w.heap.size ≤ P' → P ≠ P' → goU Tryz.prog O (noPanic Q) (fun V => Below w.heap.size w V) [13, 14] reg15T311 (F (.pointer (some ⟨P, 0, none⟩)) (.pointer (some ⟨P', 0, none⟩)) r102 r104 r106 t109 t111) V) := Lib.hid (by
  intro V P P' r102 r104 r106 hs h106 hP hPw hR hRw hne
  simp only [HF.out]
  refine goU_call 109 HO8.out (by rfl) (by rfl) (by go_simp) (Sub_any (hrt.below hs).int (hrr.below hs).int (by omega) (by omega)) ?_
  rintro e V2 ⟨r109, rfl, h109, hb⟩
  replace h109 : NIntV V2 (w.heap.size ≤ ·) r109 _ := h109.mono fun b (hx : V.heap.size ≤ b) _ => Nat.le_trans hs.size hx
  replace h106 := h106.below hb
  replace hP := keepA hP hb hP.lt
  replace hR := keepA hR hb hR.lt
  replace hs := hs.trans (hb.mono hs.size)
  refine ⟨_, rfl, fun _ => hs, ?_⟩
  simp only [sIB, List.set]
  have HK := K411.out V2 P P' r102 r104 r106 r109 hs h106 h109 hP hPw hR hRw hne
  simp only [HF.out] at HK
  exact HK)
 have K310 : Hid (∀ (V : World) (P : Nat) (r102 : Value) (r104 : Value) (r106 : Value), Below w.heap.size w V → NIntV V (w.heap.size ≤ ·) r106 (-(-(-t - r) / f)) → Arr V P 40 [.bool false, .slice none 0 0] → w.heap.size ≤ P → goU Tryz.prog O (noPanic Q) (fun V => Below w.heap.size w V) [13, 14] reg15T310 (F (.pointer (some ⟨P, 0, none⟩)) t17 r102 r104 r106 t109 t111) V) := Lib.hid (by
  intro V P r102 r104 r106 hs h106 hP hPw
  simp only [HF.out]
  refine goU_two HO8.out HO12.out ?_ ?_ 
  ·refine goU_call1 109 (by rfl) (by rfl) (by go_simp) (Sub_any (hrt.below hs).int (hrr.below hs).int (by omega) (by omega)) ?_
   rintro e V2 ⟨r109, rfl, h109, hb⟩
   replace h109 : NIntV V2 (w.heap.size ≤ ·) r109 _ := h109.mono fun b (hx : V.heap.size ≤ b) _ => Nat.le_trans hs.size hx
   replace h106 := h106.below hb
   replace hP := keepA hP hb hP.lt
   replace hs := hs.trans (hb.mono hs.size)
   refine ⟨_, rfl, fun _ => hs, ?_⟩
   simp only [sIB, List.set]
   have HK := K410.out V2 P r102 r104 r106 r109 hs h106 h109 hP hPw
   simp only [HF.out] at HK
   exact HK
  ·go_wp2_with fail
   obtain ⟨V2, hV2⟩ : ∃ U, U = V.alloc (.cells #[.bool false, .slice none 0 0] 40) := ⟨_, rfl⟩
   obtain ⟨P', hXe⟩ : ∃ B, B = V.heap.size := ⟨_, rfl⟩
   have hR : Arr V2 P' 40 [.bool false, .slice none 0 0] := by rw [hV2, hXe]; exact Arr.new V _ [.bool false, .slice none 0 0]
   have hb : Below V.heap.size V V2 := by rw [hV2]; exact (Below.refl _ _).alloc (Nat.le_refl _) _
   have hRw : w.heap.size ≤ P' := by rw [hXe]; exact hs.size
   rw [← hV2, ← hXe]
   have hne : P ≠ P' := by rw [hXe]; exact Nat.ne_of_lt hP.lt
   replace hP := keepA hP hb hP.lt
   replace h106 := h106.below hb
   clear hV2 hXe
   replace hs := hs.trans (hb.mono hs.size)
   first | refine ⟨fun _ => hs, ?_⟩ | refine ⟨hs, ?_⟩
   have HK := K311.out V2 P P' r102 r104 r106 hs h106 hP hPw hR hRw hne
   simp only [HF.out] at HK
   exact HK)
 have K301 : Hid (∀ (V : World) (P' : Nat) (r102 : Value) (r104 : Value) (r106 : Value), Below w.heap.size w V → NIntV V (w.heap.size ≤ ·) r106 (-(-(-t - r) / f)) → Arr V P' 40 [.bool false, .slice none 0 0] → w.heap.size ≤ P' → goU Tryz.prog O (noPanic Q) (fun V => Below w.heap.size w V) [13, 14] reg15T301 (F t16 (.pointer (some ⟨P', 0, none⟩)) r102 r104 r106 t109 t111) V) := Lib.hid (by
  intro V P' r102 r104 r106 hs h106 hR hRw
  simp only [HF.out]
  refine goU_two HO8.out HO11.out ?_ ?_ 
  ·refine goU_call1 109 (by rfl) (by rfl) (by go_simp) (Sub_any (hrt.below hs).int (hrr.below hs).int (by omega) (by omega)) ?_
   rintro e V2 ⟨r109, rfl, h109, hb⟩
   replace h109 : NIntV V2 (w.heap.size ≤ ·) r109 _ := h109.mono fun b (hx : V.heap.size ≤ b) _ => Nat.le_trans hs.size hx
   replace h106 := h106.below hb
   replace hR := keepA hR hb hR.lt
   replace hs := hs.trans (hb.mono hs.size)
   refine ⟨_, rfl, fun _ => hs, ?_⟩
   simp only [sIB, List.set]
   have HK := K401.out V2 P' r102 r104 r106 r109 hs h106 h109 hR hRw
   simp only [HF.out] at HK
   exact HK
  ·go_wp2_with fail
   obtain ⟨V2, hV2⟩ : ∃ U, U = V.alloc (.cells #[.bool false, .slice none 0 0] 40) := ⟨_, rfl⟩
   obtain ⟨P, hXe⟩ : ∃ B, B = V.heap.size := ⟨_, rfl⟩
   have hP : Arr V2 P 40 [.bool false, .slice none 0 0] := by rw [hV2, hXe]; exact Arr.new V _ [.bool false, .slice none 0 0]
   have hb : Below V.heap.size V V2 := by rw [hV2]; exact (Below.refl _ _).alloc (Nat.le_refl _) _
   have hPw : w.heap.size ≤ P := by rw [hXe]; exact hs.size
   rw [← hV2, ← hXe]
   have hne : P ≠ P' := by rw [hXe]; exact Nat.ne_of_gt hR.lt
   replace hR := keepA hR hb hR.lt
   replace h106 := h106.below hb
   clear hV2 hXe
   replace hs := hs.trans (hb.mono hs.size)
   first | refine ⟨fun _ => hs, ?_⟩ | refine ⟨hs, ?_⟩
   have HK := K311.out V2 P P' r102 r104 r106 hs h106 hP hPw hR hRw hne
   simp only [HF.out] at HK
   exact HK)
 have K300 : Hid (∀ (V : World) (r102 : Value) (r104 : Value) (r106 : Value), Below w.heap.size w V → NIntV V (w.heap.size ≤ ·) r106 (-(-(-t - r) / f)) → goU Tryz.prog O (noPanic Q) (fun V => Below w.heap.size w V) [13, 14] reg15T300 (F t16 t17 r102 r104 r106 t109 t111) V) := Lib.hid (by
  intro V r102 r104 r106 hs h106
  simp only [HF.out]
  refine goU_three HO8.out HO11.out HO12.out ?_ ?_ ?_ 
  ·refine goU_call1 109 (by rfl) (by rfl) (by go_simp) (Sub_any (hrt.below hs).int (hrr.below hs).int (by omega) (by omega)) ?_
   rintro e V2 ⟨r109, rfl, h109, hb⟩
   replace h109 : NIntV V2 (w.heap.size ≤ ·) r109 _ := h109.mono fun b (hx : V.heap.size ≤ b) _ => Nat.le_trans hs.size hx
   replace h106 := h106.below hb
   replace hs := hs.trans (hb.mono hs.size)
   refine ⟨_, rfl, fun _ => hs, ?_⟩
   simp only [sIB, List.set]
   have HK := K400.out V2 r102 r104 r106 r109 hs h106 h109
   simp only [HF.out] at HK
   exact HK
  ·go_wp2_with fail
   obtain ⟨V2, hV2⟩ : ∃ U, U = V.alloc (.cells #[.bool false, .slice none 0 0] 40) := ⟨_, rfl⟩
   obtain ⟨P, hXe⟩ : ∃ B, B = V.heap.size := ⟨_, rfl⟩
   have hP : Arr V2 P 40 [.bool false, .slice none 0 0] := by rw [hV2, hXe]; exact Arr.new V _ [.bool false, .slice none 0 0]
   have hb : Below V.heap.size V V2 := by rw [hV2]; exact (Below.refl _ _).alloc (Nat.le_refl _) _
   have hPw : w.heap.size ≤ P := by rw [hXe]; exact hs.size
   rw [← hV2, ← hXe]
   replace h106 := h106.below hb
   clear hV2 hXe
   replace hs := hs.trans (hb.mono hs.size)
   first | refine ⟨fun _ => hs, ?_⟩ | refine ⟨hs, ?_⟩
   have HK := K310.out V2 P r102 r104 r106 hs h106 hP hPw
   simp only [HF.out] at HK
   exact HK
  ·go_wp2_with fail
   obtain ⟨V2, hV2⟩ : ∃ U, U = V.alloc (.cells #[.bool false, .slice none 0 0] 40) := ⟨_, rfl⟩
   obtain ⟨P', hXe⟩ : ∃ B, B = V.heap.size := ⟨_, rfl⟩
   have hR : Arr V2 P' 40 [.bool false, .slice none 0 0] := by rw [hV2, hXe]; exact Arr.new V _ [.bool false, .slice none 0 0]
   have hb : Below V.heap.size V V2 := by rw [hV2]; exact (Below.refl _ _).alloc (Nat.le_refl _) _
   have hRw : w.heap.size ≤ P' := by rw [hXe]; exact hs.size
   rw [← hV2, ← hXe]
   replace h106 := h106.below hb
   clear hV2 hXe
   replace hs := hs.trans (hb.mono hs.size)
   first | refine ⟨fun _ => hs, ?_⟩ | refine ⟨hs, ?_⟩
   have HK := K301.out V2 P' r102 r104 r106 hs h106 hR hRw
   simp only [HF.out] at HK
   exact HK)
 have K211 : Hid (∀ (V : World) (P : Nat) (P' : Nat) (r102 : Value) (r104 : Value), Below w.heap.size w V → NIntV V (w.heap.size ≤ ·) r104 (-t - r) → Arr V P 40 [.bool false, .slice none 0 0] → w.heap.size ≤ P → Arr V P' 40 [.bool false, .slice none 0 0] → w.heap.size ≤ P' → P ≠ P' → goU Tryz.prog O (noPanic Q) (fun V => Below w.heap.size w V) [13, 14] reg15T211 (F (.pointer (some ⟨P, 0, none⟩)) (.pointer (some ⟨P', 0, none⟩)) r102 r104 t106 t109 t111) V) := Lib.hid (by
  intro V P P' r102 r104 hs h104 hP hPw hR hRw hne
  simp only [HF.out]
  refine goU_call 106 HO5.out (by rfl) (by rfl) (by go_simp) (up_any h104.int (hrf.below hs).int (by omega) (by omega) hf) ?_
  rintro e V2 ⟨r106, rfl, h106, hb⟩
  replace h106 : NIntV V2 (w.heap.size ≤ ·) r106 _ := h106.mono fun b (hx : V.heap.size ≤ b) _ => Nat.le_trans hs.size hx
  replace hP := keepA hP hb hP.lt
  replace hR := keepA hR hb hR.lt
  replace hs := hs.trans (hb.mono hs.size)
  refine ⟨_, rfl, fun _ => hs, ?_⟩
  simp only [sIB, List.set]
  have HK := K311.out V2 P P' r102 r104 r106 hs h106 hP hPw hR hRw hne
  simp only [HF.out] at HK
  exact HK)
 have K210 : Hid (∀ (V : World) (P : Nat) (r102 : Value) (r104 : Value), Below w.heap.size w V → NIntV V (w.heap.size ≤ ·) r104 (-t - r) → Arr V P 40 [.bool false, .slice none 0 0] → w.heap.size ≤ P → goU Tryz.prog O (noPanic Q) (fun V => Below w.heap.size w V) [13, 14] reg15T210 (F (.pointer (some ⟨P, 0, none⟩)) t17 r102 r104 t106 t109 t111) V) := Lib.hid (by
  intro V P r102 r104 hs h104 hP hPw
  simp only [HF.out]
  refine goU_two HO5.out HO12.out ?_ ?_ 
  ·refine goU_call1 106 (by rfl) (by rfl) (by go_simp) (up_any h104.int (hrf.below hs).int (by omega) (by omega) hf) ?_
   rintro e V2 ⟨r106, rfl, h106, hb⟩
   replace h106 : NIntV V2 (w.heap.size ≤ ·) r106 _ := h106.mono fun b (hx : V.heap.size ≤ b) _ => Nat.le_trans hs.size hx
   replace hP := keepA hP hb hP.lt
   replace hs := hs.trans (hb.mono hs.size)
   refine ⟨_, rfl, fun _ => hs, ?_⟩
   simp only [sIB, List.set]
   have HK := K310.out V2 P r102 r104 r106 hs h106 hP hPw
   simp only [HF.out] at HK
   exact HK
  ·go_wp2_with fail
   obtain ⟨V2, hV2⟩ : ∃ U, U = V.alloc (.cells #[.bool false, .slice none 0 0] 40) := ⟨_, rfl⟩
   obtain ⟨P', hXe⟩ : ∃ B, B = V.heap.size := ⟨_, rfl⟩
   have hR : Arr V2 P' 40 [.bool false, .slice none 0 0] := by rw [hV2, hXe]; exact Arr.new V _ [.bool false, .slice none 0 0]
   have hb : Below V.heap.size V V2 := by rw [hV2]; exact (Below.refl _ _).alloc (Nat.le_refl _) _
   have hRw : w.heap.size ≤ P' := by rw [hXe]; exact hs.size
   rw [← hV2, ← hXe]
   have hne : P ≠ P' := by rw [hXe]; exact Nat.ne_of_lt hP.lt
   replace hP := keepA hP hb hP.lt
   replace h104 := h104.below hb
   clear hV2 hXe
   replace hs := hs.trans (hb.mono hs.size)
   first | refine ⟨fun _ => hs, ?_⟩ | refine ⟨hs, ?_⟩
   have HK := K211.out V2 P P' r102 r104 hs h104 hP hPw hR hRw hne
   simp only [HF.out] at HK
   exact HK)
 have K201 : Hid (∀ (V : World) (P' : Nat) (r102 : Value) (r104 : Value), Below w.heap.size w V → NIntV V (w.heap.size ≤ ·) r104 (-t - r) → Arr V P' 40 [.bool false, .slice none 0 0] → w.heap.size ≤ P' → goU Tryz.prog O (noPanic Q) (fun V => Below w.heap.size w V) [13, 14] reg15T201 (F t16 (.pointer (some ⟨P', 0, none⟩)) r102 r104 t106 t109 t111) V) := Lib.hid (by
  intro V P' r102 r104 hs h104 hR hRw
  simp only [HF.out]
  refine goU_two HO5.out HO11.out ?_ ?_ 
  ·refine goU_call1 106 (by rfl) (by rfl) (by go_simp) (up_any h104.int (hrf.below hs).int (by omega) (by omega) hf) ?_
   rintro e V2 ⟨r106, rfl, h106, hb⟩
   replace h106 : NIntV V2 (w.heap.size ≤ ·) r106 _ := h106.mono fun b (hx : V.heap.size ≤ b) _ => Nat.le_trans hs.size hx
   replace hR := keepA hR hb hR.lt
   replace hs := hs.trans (hb.mono hs.size)
   refine ⟨_, rfl, fun _ => hs, ?_⟩
   simp only [sIB, List.set]
   have HK := K301.out V2 P' r102 r104 r106 hs h106 hR hRw
   simp only [HF.out] at HK
   exact HK
  ·go_wp2_with fail
   obtain ⟨V2, hV2⟩ : ∃ U, U = V.alloc (.cells #[.bool false, .slice none 0 0] 40) := ⟨_, rfl⟩
   obtain ⟨P, hXe⟩ : ∃ B, B = V.heap.size := ⟨_, rfl⟩
   have hP : Arr V2 P 40 [.bool false, .slice none 0 0] := by rw [hV2, hXe]; exact Arr.new V _ [.bool false, .slice none 0 0]
   have hb : Below V.heap.size V V2 := by rw [hV2]; exact (Below.refl _ _).alloc (Nat.le_refl _) _
   have hPw : w.heap.size ≤ P := by rw [hXe]; exact hs.size
   rw [← hV2, ← hXe]
   have hne : P ≠ P' := by rw [hXe]; exact Nat.ne_of_gt hR.lt
   replace hR := keepA hR hb hR.lt
   replace h104 := h104.below hb
   clear hV2 hXe
   replace hs := hs.trans (hb.mono hs.size)
   first | refine ⟨fun _ => hs, ?_⟩ | refine ⟨hs, ?_⟩
   have HK := K211.out V2 P P' r102 r104 hs h104 hP hPw hR hRw hne
   simp only [HF.out] at HK
   exact HK)
 have K200 : Hid (∀ (V : World) (r102 : Value) (r104 : Value), Below w.heap.size w V → NIntV V (w.heap.size ≤ ·) r104 (-t - r) → goU Tryz.prog O (noPanic Q) (fun V => Below w.heap.size w V) [13, 14] reg15T200 (F t16 t17 r102 r104 t106 t109 t111) V) := Lib.hid (by
  intro V r102 r104 hs h104
  simp only [HF.out]
  refine goU_three HO5.out HO11.out HO12.out ?_ ?_ ?_ 
  ·refine goU_call1 106 (by rfl) (by rfl) (by go_simp) (up_any h104.int (hrf.below hs).int (by omega) (by omega) hf) ?_
   rintro e V2 ⟨r106, rfl, h106, hb⟩
   replace h106 : NIntV V2 (w.heap.size ≤ ·) r106 _ := h106.mono fun b (hx : V.heap.size ≤ b) _ => Nat.le_trans hs.size hx
   replace hs := hs.trans (hb.mono hs.size)
   refine ⟨_, rfl, fun _ => hs, ?_⟩
   simp only [sIB, List.set]
   have HK := K300.out V2 r102 r104 r106 hs h106
   simp only [HF.out] at HK
   exact HK
  ·go_wp2_with fail
   obtain ⟨V2, hV2⟩ : ∃ U, U = V.alloc (.cells #[.bool false, .slice none 0 0] 40) := ⟨_, rfl⟩
   obtain ⟨P, hXe⟩ : ∃ B, B = V.heap.size := ⟨_, rfl⟩
   have hP : Arr V2 P 40 [.bool false, .slice none 0 0] := by rw [hV2, hXe]; exact Arr.new V _ [.bool false, .slice none 0 0]
   have hb : Below V.heap.size V V2 := by rw [hV2]; exact (Below.refl _ _).alloc (Nat.le_refl _) _
   have hPw : w.heap.size ≤ P := by rw [hXe]; exact hs.size
   rw [← hV2, ← hXe]
   replace h104 := h104.below hb
   clear hV2 hXe
   replace hs := hs.trans (hb.mono hs.size)
   first | refine ⟨fun _ => hs, ?_⟩ | refine ⟨hs, ?_⟩
   have HK := K210.out V2 P r102 r104 hs h104 hP hPw
   simp only [HF.out] at HK
   exact HK
  ·go_wp2_with fail
   obtain ⟨V2, hV2⟩ : ∃ U, U = V.alloc (.cells #[.bool false, .slice none 0 0] 40) := ⟨_, rfl⟩
   obtain ⟨P', hXe⟩ : ∃ B, B = V.heap.size := ⟨_, rfl⟩
   have hR : Arr V2 P' 40 [.bool false, .slice none 0 0] := by rw [hV2, hXe]; exact Arr.new V _ [.bool false, .slice none 0 0]
   have hb : Below V.heap.size V V2 := by rw [hV2]; exact (Below.refl _ _).alloc (Nat.le_refl _) _
   have hRw : w.heap.size ≤ P' := by rw [hXe]; exact hs.size
   rw [← hV2, ← hXe]
   replace h104 := h104.below hb
   clear hV2 hXe
   replace hs := hs.trans (hb.mono hs.size)
   first | refine ⟨fun _ => hs, ?_⟩ | refine ⟨hs, ?_⟩
   have HK := K201.out V2 P' r102 r104 hs h104 hR hRw
   simp only [HF.out] at HK
   exact HK)
 have K111 : Hid (∀ (V : World) (P : Nat) (P' : Nat) (r102 : Value), Below w.heap.size w V → NIntV V (w.heap.size ≤ ·) r102 (-t) → Arr V P 40 [.bool false, .slice none 0 0] → w.heap.size ≤ P → Arr V P' 40 [.bool false, .slice none 0 0] → w.heap.size ≤ P' → P ≠ P' → goU Tryz.prog O (noPanic Q) (fun V => Below w.heap.size w V) [13, 14] reg15T111 (F (.pointer (some ⟨P, 0, none⟩)) (.pointer (some ⟨P', 0, none⟩)) r102 t104 t106 t109 t111) V) := Lib.hid (by
  intro V P P' r102 hs h102 hP hPw hR hRw hne
  simp only [HF.out]
  refine goU_call 104 HO3.out (by rfl) (by rfl) (by go_simp) (Sub_any h102.int (hrr.below hs).int (by omega) (by omega)) ?_
  rintro e V2 ⟨r104, rfl, h104, hb⟩
  replace h104 : NIntV V2 (w.heap.size ≤ ·) r104 _ := h104.mono fun b (hx : V.heap.size ≤ b) _ => Nat.le_trans hs.size hx
  replace hP := keepA hP hb hP.lt
  replace hR := keepA hR hb hR.lt
  replace hs := hs.trans (hb.mono hs.size)
  refine ⟨_, rfl, fun _ => hs, ?_⟩
  simp only [sIB, List.set]
  have HK := K211.out V2 P P' r102 r104 hs h104 hP hPw hR hRw hne
  simp only [HF.out] at HK
  exact HK)
 have K110 : Hid (∀ (V : World) (P : Nat) (r102 : Value), Below w.heap.size w V → NIntV V (w.heap.size ≤ ·) r102 (-t) → Arr V P 40 [.bool false, .slice none 0 0] → w.heap.size ≤ P → goU Tryz.prog O (noPanic Q) (fun V => Below w.heap.size w V) [13, 14] reg15T110 (F (.pointer (some ⟨P, 0, none⟩)) t17 r102 t104 t106 t109 t111) V) := Lib.hid (by
  intro V P r102 hs h102 hP hPw
  simp only [HF.out]
  refine goU_two HO3.out HO12.out ?_ ?_ 
  ·refine goU_call1 104 (by rfl) (by rfl) (by go_simp) (Sub_any h102.int (hrr.below hs).int (by omega) (by omega)) ?_
   rintro e V2 ⟨r104, rfl, h104, hb⟩
   replace h104 : NIntV V2 (w.heap.size ≤ ·) r104 _ := h104.mono fun b (hx : V.heap.size ≤ b) _ => Nat.le_trans hs.size hx
   replace hP := keepA hP hb hP.lt
   replace hs := hs.trans (hb.mono hs.size)
   refine ⟨_, rfl, fun _ => hs, ?_⟩
   simp only [sIB, List.set]
   have HK := K210.out V2 P r102 r104 hs h104 hP hPw
   simp only [HF.out] at HK
   exact HK
  ·go_wp2_with fail
   obtain ⟨V2, hV2⟩ : ∃ U, U = V.alloc (.cells #[.bool false, .slice none 0 0] 40) := ⟨_, rfl⟩
   obtain ⟨P', hXe⟩ : ∃ B, B = V.heap.size := ⟨_, rfl⟩
   have hR : Arr V2 P' 40 [.bool false, .slice none 0 0] := by rw [hV2, hXe]; exact Arr.new V _ [.bool false, .slice none 0 0]
   have hb : Below V.heap.size V V2 := by rw [hV2]; exact (Below.refl _ _).alloc (Nat.le_refl _) _
   have hRw : w.heap.size ≤ P' := by rw [hXe]; exact hs.size
   rw [← hV2, ← hXe]
   have hne : P ≠ P' := by rw [hXe]; exact Nat.ne_of_lt hP.lt
   replace hP := keepA hP hb hP.lt
   replace h102 := h102.below hb
   clear hV2 hXe
   replace hs := hs.trans (hb.mono hs.size)
   first | refine ⟨fun _ => hs, ?_⟩ | refine ⟨hs, ?_⟩
   have HK := K111.out V2 P P' r102 hs h102 hP hPw hR hRw hne
   simp only [HF.out] at HK
   exact HK)
 have K101 : Hid (∀ (V : World) (P' : Nat) (r102 : Value), Below w.heap.size w V → NIntV V (w.heap.size ≤ ·) r102 (-t) → Arr V P' 40 [.bool false, .slice none 0 0] → w.heap.size ≤ P' → goU Tryz.prog O (noPanic Q) (fun V => Below w.heap.size w V) [13, 14] reg15T101 (F t16 (.pointer (some ⟨P', 0, none⟩)) r102 t104 t106 t109 t111) V) := Lib.hid (by
  intro V P' r102 hs h102 hR hRw
  simp only [HF.out]
  refine goU_two HO3.out HO11.out ?_ ?_ 
  ·refine goU_call1 104 (by rfl) (by rfl) (by go_simp) (Sub_any h102.int (hrr.below hs).int (by omega) (by omega)) ?_
   rintro e V2 ⟨r104, rfl, h104, hb⟩
   replace h104 : NIntV V2 (w.heap.size ≤ ·) r104 _ := h104.mono fun b (hx : V.heap.size ≤ b) _ => Nat.le_trans hs.size hx
   replace hR := keepA hR hb hR.lt
   replace hs := hs.trans (hb.mono hs.size)
   refine ⟨_, rfl, fun _ => hs, ?_⟩
   simp only [sIB, List.set]
   have HK := K201.out V2 P' r102 r104 hs h104 hR hRw
   simp only [HF.out] at HK
   exact HK
  ·go_wp2_with fail
   obtain ⟨V2, hV2⟩ : ∃ U, U = V.alloc (.cells #[.bool false, .slice none 0 0] 40) := ⟨_, rfl⟩
   obtain ⟨P, hXe⟩ : ∃ B, B = V.heap.size := ⟨_, rfl⟩
   have hP : Arr V2 P 40 [.bool false, .slice none 0 0] := by rw [hV2, hXe]; exact Arr.new V _ [.bool false, .slice none 0 0]
   have hb : Below V.heap.size V V2 := by rw [hV2]; exact (Below.refl _ _).alloc (Nat.le_refl _) _
   have hPw : w.heap.size ≤ P := by rw [hXe]; exact hs.size
   rw [← hV2, ← hXe]
   have hne : P ≠ P' := by rw [hXe]; exact Nat.ne_of_gt hR.lt
   replace hR := keepA hR hb hR.lt
   replace h102 := h102.below hb
   clear hV2 hXe
   replace hs := hs.trans (hb.mono hs.size)
   first | refine ⟨fun _ => hs, ?_⟩ | refine ⟨hs, ?_⟩
   have HK := K111.out V2 P P' r102 hs h102 hP hPw hR hRw hne
   simp only [HF.out] at HK
   exact HK)
 have K100 : Hid (∀ (V : World) (r102 : Value), Below w.heap.size w V → NIntV V (w.heap.size ≤ ·) r102 (-t) → goU Tryz.prog O (noPanic Q) (fun V => Below w.heap.size w V) [13, 14] reg15T100 (F t16 t17 r102 t104 t106 t109 t111) V) := Lib.hid (by
  intro V r102 hs h102
  simp only [HF.out]
  refine goU_three HO3.out HO11.out HO12.out ?_ ?_ ?_ 
  ·refine goU_call1 104 (by rfl) (by rfl) (by go_simp) (Sub_any h102.int (hrr.below hs).int (by omega) (by omega)) ?_
   rintro e V2 ⟨r104, rfl, h104, hb⟩
   replace h104 : NIntV V2 (w.heap.size ≤ ·) r104 _ := h104.mono fun b (hx : V.heap.size ≤ b) _ => Nat.le_trans hs.size hx
   replace hs := hs.trans (hb.mono hs.size)
   refine ⟨_, rfl, fun _ => hs, ?_⟩
   simp only [sIB, List.set]
   have HK := K200.out V2 r102 r104 hs h104
   simp only [HF.out] at HK
   exact HK
  ·go_wp2_with fail
   obtain ⟨V2, hV2⟩ : ∃ U, U = V.alloc (.cells #[.bool false, .slice none 0 0] 40) := ⟨_, rfl⟩
   obtain ⟨P, hXe⟩ : ∃ B, B = V.heap.size := ⟨_, rfl⟩
   have hP : Arr V2 P 40 [.bool false, .slice none 0 0] := by rw [hV2, hXe]; exact Arr.new V _ [.bool false, .slice none 0 0]
   have hb : Below V.heap.size V V2 := by rw [hV2]; exact (Below.refl _ _).alloc (Nat.le_refl _) _
   have hPw : w.heap.size ≤ P := by rw [hXe]; exact hs.size
   rw [← hV2, ← hXe]
   replace h102 := h102.below hb
   clear hV2 hXe
   replace hs := hs.trans (hb.mono hs.size)
   first | refine ⟨fun _ => hs, ?_⟩ | refine ⟨hs, ?_⟩
   have HK := K110.out V2 P r102 hs h102 hP hPw
   simp only [HF.out] at HK
   exact HK
  ·go_wp2_with fail
   obtain ⟨V2, hV2⟩ : ∃ U, U = V.alloc (.cells #[.bool false, .slice none 0 0] 40) := ⟨_, rfl⟩
   obtain ⟨P', hXe⟩ : ∃ B, B = V.heap.size := ⟨_, rfl⟩
   have hR : Arr V2 P' 40 [.bool false, .slice none 0 0] := by rw [hV2, hXe]; exact Arr.new V _ [.bool false, .slice none 0 0]
   have hb : Below V.heap.size V V2 := by rw [hV2]; exact (Below.refl _ _).alloc (Nat.le_refl _) _
   have hRw : w.heap.size ≤ P' := by rw [hXe]; exact hs.size
   rw [← hV2, ← hXe]
   replace h102 := h102.below hb
   clear hV2 hXe
   replace hs := hs.trans (hb.mono hs.size)
   first | refine ⟨fun _ => hs, ?_⟩ | refine ⟨hs, ?_⟩
   have HK := K101.out V2 P' r102 hs h102 hR hRw
   simp only [HF.out] at HK
   exact HK)
 have K011 : Hid (∀ (V : World) (P : Nat) (P' : Nat), Below w.heap.size w V → Arr V P 40 [.bool false, .slice none 0 0] → w.heap.size ≤ P → Arr V P' 40 [.bool false, .slice none 0 0] → w.heap.size ≤ P' → P ≠ P' → goU Tryz.prog O (noPanic Q) (fun V => Below w.heap.size w V) [13, 14] reg15T011 (F (.pointer (some ⟨P, 0, none⟩)) (.pointer (some ⟨P', 0, none⟩)) t102 t104 t106 t109 t111) V) := Lib.hid (by
  intro V P P' hs hP hPw hR hRw hne
  simp only [HF.out]
  refine goU_call 102 HO1.out (by rfl) (by rfl) (by go_simp) (wNeg_any (hrt.below hs).int (by omega)) ?_
  rintro e V2 ⟨r102, rfl, h102, hb⟩
  replace h102 : NIntV V2 (w.heap.size ≤ ·) r102 _ := h102.mono fun b (hx : V.heap.size ≤ b) _ => Nat.le_trans hs.size hx
  replace hP := keepA hP hb hP.lt
  replace hR := keepA hR hb hR.lt
  replace hs := hs.trans (hb.mono hs.size)
  refine ⟨_, rfl, fun _ => hs, ?_⟩
  simp only [sIB, List.set]
  have HK := K111.out V2 P P' r102 hs h102 hP hPw hR hRw hne
  simp only [HF.out] at HK
  exact HK)
 have K010 : Hid (∀ (V : World) (P : Nat), Below w.heap.size w V → Arr V P 40 [.bool false, .slice none 0 0] → w.heap.size ≤ P → goU Tryz.prog O (noPanic Q) (fun V => Below w.heap.size w V) [13, 14] reg15T010 (F (.pointer (some ⟨P, 0, none⟩)) t17 t102 t104 t106 t109 t111) V) := Lib.hid (by
  intro V P hs hP hPw
  simp only [HF.out]
  refine goU_two HO1.out HO12.out ?_ ?_ 
  ·refine goU_call1 102 (by rfl) (by rfl) (by go_simp) (wNeg_any (hrt.below hs).int (by omega)) ?_
   rintro e V2 ⟨r102, rfl, h102, hb⟩
   replace h102 : NIntV V2 (w.heap.size ≤ ·) r102 _ := h102.mono fun b (hx : V.heap.size ≤ b) _ => Nat.le_trans hs.size hx
   replace hP := keepA hP hb hP.lt
   replace hs := hs.trans (hb.mono hs.size)
   refine ⟨_, rfl, fun _ => hs, ?_⟩
   simp only [sIB, List.set]
   have HK := K110.out V2 P r102 hs h102 hP hPw
   simp only [HF.out] at HK
   exact HK
  ·go_wp2_with fail
   obtain ⟨V2, hV2⟩ : ∃ U, U = V.alloc (.cells #[.bool false, .slice none 0 0] 40) := ⟨_, rfl⟩
   obtain ⟨P', hXe⟩ : ∃ B, B = V.heap.size := ⟨_, rfl⟩
   have hR : Arr V2 P' 40 [.bool false, .slice none 0 0] := by rw [hV2, hXe]; exact Arr.new V _ [.bool false, .slice none 0 0]
   have hb : Below V.heap.size V V2 := by rw [hV2]; exact (Below.refl _ _).alloc (Nat.le_refl _) _
   have hRw : w.heap.size ≤ P' := by rw [hXe]; exact hs.size
   rw [← hV2, ← hXe]
   have hne : P ≠ P' := by rw [hXe]; exact Nat.ne_of_lt hP.lt
   replace hP := keepA hP hb hP.lt
   clear hV2 hXe
   replace hs := hs.trans (hb.mono hs.size)
   first | refine ⟨fun _ => hs, ?_⟩ | refine ⟨hs, ?_⟩
   have HK := K011.out V2 P P' hs hP hPw hR hRw hne
   simp only [HF.out] at HK
   exact HK)
 have K001 : Hid (∀ (V : World) (P' : Nat), Below w.heap.size w V → Arr V P' 40 [.bool false, .slice none 0 0] → w.heap.size ≤ P' → goU Tryz.prog O (noPanic Q) (fun V => Below w.heap.size w V) [13, 14] reg15T001 (F t16 (.pointer (some ⟨P', 0, none⟩)) t102 t104 t106 t109 t111) V) := Lib.hid (by
  intro V P' hs hR hRw
  simp only [HF.out]
  refine goU_two HO1.out HO11.out ?_ ?_ 
  ·refine goU_call1 102 (by rfl) (by rfl) (by go_simp) (wNeg_any (hrt.below hs).int (by omega)) ?_
   rintro e V2 ⟨r102, rfl, h102, hb⟩
   replace h102 : NIntV V2 (w.heap.size ≤ ·) r102 _ := h102.mono fun b (hx : V.heap.size ≤ b) _ => Nat.le_trans hs.size hx
   replace hR := keepA hR hb hR.lt
   replace hs := hs.trans (hb.mono hs.size)
   refine ⟨_, rfl, fun _ => hs, ?_⟩
   simp only [sIB, List.set]
   have HK := K101.out V2 P' r102 hs h102 hR hRw
   simp only [HF.out] at HK
   exact HK
  ·go_wp2_with fail
   obtain ⟨V2, hV2⟩ : ∃ U, U = V.alloc (.cells #[.bool false, .slice none 0 0] 40) := ⟨_, rfl⟩
   obtain ⟨P, hXe⟩ : ∃ B, B = V.heap.size := ⟨_, rfl⟩
   have hP : Arr V2 P 40 [.bool false, .slice none 0 0] := by rw [hV2, hXe]; exact Arr.new V _ [.bool false, .slice none 0 0]
   have hb : Below V.heap.size V V2 := by rw [hV2]; exact (Below.refl _ _).alloc (Nat.le_refl _) _
   have hPw : w.heap.size ≤ P := by rw [hXe]; exact hs.size
   rw [← hV2, ← hXe]
   have hne : P ≠ P' := by rw [hXe]; exact Nat.ne_of_gt hR.lt
   replace hR := keepA hR hb hR.lt
   clear hV2 hXe
   replace hs := hs.trans (hb.mono hs.size)
   first | refine ⟨fun _ => hs, ?_⟩ | refine ⟨hs, ?_⟩
   have HK := K011.out V2 P P' hs hP hPw hR hRw hne
   simp only [HF.out] at HK
   exact HK)
 have K000 : Hid (∀ (V : World), Below w.heap.size w V → goU Tryz.prog O (noPanic Q) (fun V => Below w.heap.size w V) [13, 14] reg15T000 (F t16 t17 t102 t104 t106 t109 t111) V) := Lib.hid (by
  intro V hs
  simp only [HF.out]
  refine goU_three HO1.out HO11.out HO12.out ?_ ?_ ?_ 
  ·refine goU_call1 102 (by rfl) (by rfl) (by go_simp) (wNeg_any (hrt.below hs).int (by omega)) ?_
   rintro e V2 ⟨r102, rfl, h102, hb⟩
   replace h102 : NIntV V2 (w.heap.size ≤ ·) r102 _ := h102.mono fun b (hx : V.heap.size ≤ b) _ => Nat.le_trans hs.size hx
   replace hs := hs.trans (hb.mono hs.size)
   refine ⟨_, rfl, fun _ => hs, ?_⟩
   simp only [sIB, List.set]
   have HK := K100.out V2 r102 hs h102
   simp only [HF.out] at HK
   exact HK
  ·go_wp2_with fail
   obtain ⟨V2, hV2⟩ : ∃ U, U = V.alloc (.cells #[.bool false, .slice none 0 0] 40) := ⟨_, rfl⟩
   obtain ⟨P, hXe⟩ : ∃ B, B = V.heap.size := ⟨_, rfl⟩
   have hP : Arr V2 P 40 [.bool false, .slice none 0 0] := by rw [hV2, hXe]; exact Arr.new V _ [.bool false, .slice none 0 0]
   have hb : Below V.heap.size V V2 := by rw [hV2]; exact (Below.refl _ _).alloc (Nat.le_refl _) _
   have hPw : w.heap.size ≤ P := by rw [hXe]; exact hs.size
   rw [← hV2, ← hXe]
   clear hV2 hXe
   replace hs := hs.trans (hb.mono hs.size)
   first | refine ⟨fun _ => hs, ?_⟩ | refine ⟨hs, ?_⟩
   have HK := K010.out V2 P hs hP hPw
   simp only [HF.out] at HK
   exact HK
  ·go_wp2_with fail
   obtain ⟨V2, hV2⟩ : ∃ U, U = V.alloc (.cells #[.bool false, .slice none 0 0] 40) := ⟨_, rfl⟩
   obtain ⟨P', hXe⟩ : ∃ B, B = V.heap.size := ⟨_, rfl⟩
   have hR : Arr V2 P' 40 [.bool false, .slice none 0 0] := by rw [hV2, hXe]; exact Arr.new V _ [.bool false, .slice none 0 0]
   have hb : Below V.heap.size V V2 := by rw [hV2]; exact (Below.refl _ _).alloc (Nat.le_refl _) _
   have hRw : w.heap.size ≤ P' := by rw [hXe]; exact hs.size
   rw [← hV2, ← hXe]
   clear hV2 hXe
   replace hs := hs.trans (hb.mono hs.size)
   first | refine ⟨fun _ => hs, ?_⟩ | refine ⟨hs, ?_⟩
   have HK := K001.out V2 P' hs hR hRw
   simp only [HF.out] at HK
   exact HK)
 have HZ := K000.out v0 hs
 simp only [HF.out] at HZ
 exact HZ
end Go.Proofs.YtdjpeimecfhdjaaGreat
