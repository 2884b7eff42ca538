/- Package wide: regions of Bring. -/
import Derived.Test.YtdjpeimecfhdjaaGreatXq
namespace Go.Proofs.YtdjpeimecfhdjaaGreat
open Go.RowKit
section
variable {P : Program} {ops : Array Oper} {Q : Exit → Act → World → Prop} {S : World → Prop} {Z : List Nat}
theorem goU_call1 (d : Nat) {i : Nat} {o : Oper} {r : Tr5} {a : Act} {w : World} {f : FuncId} {args : Array Value} (hd : o.dst = some d) (hw : Region.wanted o (yielded ops a.tmps) = true) (hrun : (execOp a.eval o).run P w = .ok (.enter f args) w)
  {post : Ending → World → Prop} (hc : Calls P f args w post) (h : ∀ e w', post e w' → ∃ v, e = .returned v ∧ (Z.contains i = false → S w') ∧ goU P ops Q S Z r { a with tmps := a.tmps.setIfInBounds d v } w') : wpList P ops (Exit.then (fun a' w' => (Z.contains i = false → S w') ∧ goU P ops Q S Z r a' w') Q) [o] a w := by
 unfold wpList
 rw [if_pos hw]
 left
 unfold Oper.wp
 rw [hrun]
 refine Calls.mono hc ?_
 intro e w' hp
 obtain ⟨v, rfl, h1, h2⟩ := h e w' hp
 show wpList P ops _ [] (a.put o.dst v) w'
 unfold wpList
 rw [put_some hd]
 exact ⟨h1, h2⟩
end
noncomputable def brAC : Code := (regOf 12 ((Tryz.f186.body).getD .skip)).getD .skip
set_option maxRecDepth 100000 in
set_option maxHeartbeats 4000000 in
theorem brA {w : World} {Q : Exit → Act → World → Prop} {bT oT n cT i k : Nat} {gv vk : Value} {x1 : Int} {t1 t2 t4 t7 t8 t9 t10 t11 t12 t13 t14 t15 t16 t17 t18 t19 t20 t21 t22 t23 t24 t25 t26 t27 t28 t29 t30 t31 t32 t33 t34 t35 t36 t37 t38 t39 t40 t41 t42 t43 t44 t45 t46 t47 t48 t49 t50 t51 t52 t53 t54 t55 t56 t57 t58 t59 t60 t61 t62 t63 t64 t65 t66 t67 t68 t69 t70 t71 t72 t73 t74 t75 t76 t77 t78 t79 t80 t81 t82 t83 t84 t85 t86 t87 t88 t89 t90 t91 t92 t93 t94 t95 t96 t97 t98 t99 t100 t101 : Value}
  (hTk : w.cell? ⟨bT, oT + k, none⟩ = some vk) (hk0 : (0 : Int) ≤ (k : Int)) (hkn : (k : Int) < (n : Int))
  (HV1 : ∀ w', Below w.heap.size w w' → Calls Tryz.prog 190 #[gv, vk, vk] w' (Gives w' fun w'' v => NIntV w'' (w'.heap.size ≤ ·) v x1)) (hx : wl x1.natAbs ≤ 800000000)
  (hQ : ∀ (w' : World) (P : Nat) (u27 u28 u29 u30 u31 u32 u33 u34 u35 u36 u37 u38 : Value), Bx w' P (· ≠ P) (2 * x1) → w.heap.size ≤ P → Below w.heap.size w w' → Q .normal ⟨#[gv, t1, t2, .slice (some ⟨bT, oT, none⟩) n cT, t4, .int .i64 i, .int .i64 k, .pointer (some ⟨P, 0, none⟩), t8, t9, t10, t11, t12, t13, t14, t15, t16, t17, t18, t19, t20, t21, t22, t23, t24, t25, t26, u27, u28, u29, u30, u31, u32, u33, u34, u35, u36, u37, u38, t39, t40, t41, t42, t43, t44, t45, t46, t47, t48, t49, t50, t51, t52, t53, t54, t55, t56, t57, t58, t59, t60, t61, t62, t63, t64, t65, t66, t67, t68, t69, t70, t71, t72, t73, t74, t75, t76, t77, t78, t79, t80, t81, t82, t83, t84, t85, t86, t87, t88, t89, t90, t91, t92, t93, t94, t95, t96, t97, t98, t99, t100, t101], []⟩ w') :
  (brAC).wp Tryz.prog Q ⟨#[gv, t1, t2, .slice (some ⟨bT, oT, none⟩) n cT, t4, .int .i64 i, .int .i64 k, t7, t8, t9, t10, t11, t12, t13, t14, t15, t16, t17, t18, t19, t20, t21, t22, t23, t24, t25, t26, t27, t28, t29, t30, t31, t32, t33, t34, t35, t36, t37, t38, t39, t40, t41, t42, t43, t44, t45, t46, t47, t48, t49, t50, t51, t52, t53, t54, t55, t56, t57, t58, t59, t60, t61, t62, t63, t64, t65, t66, t67, t68, t69, t70, t71, t72, t73, t74, t75, t76, t77, t78, t79, t80, t81, t82, t83, t84, t85, t86, t87, t88, t89, t90, t91, t92, t93, t94, t95, t96, t97, t98, t99, t100, t101], []⟩ w := by
 have HQ := Lib.hid hQ
 clear hQ
 show Code.wp _ (Code.region 12 (List.toArray _) true) _ _ _
 obtain ⟨v0, hv0⟩ : ∃ v0, v0 = w.drew := ⟨_, rfl⟩
 have hs : Below w.heap.size w v0 := by rw [hv0]; exact (Below.refl _ _).drew
 refine wp_region_tq5 (.read 1 (.read 2 (.read 3 (.read 4 (.read 5 (.read 6 (.read 7 (.read 8 (.read 9 (.two 0 12 (.two 10 12 (.two 11 12 (.step 12 (.step 13 .nil)) (.step 11 (.step 13 .nil))) (.step 10 (.step 11 (.step 13 .nil)))) (.step 0 (.step 10 (.step 11 (.step 13 .nil)))))))))))))) [13] (by kernel_rfl) (by rfl) (by kernel_rfl) (by kernel_rfl) (fun V => Below w.heap.size w V) ?_
 change goU _ _ _ _ _ _ _ w.drew
 rw [← hv0]
 clear hv0
 refine goU_read 28 hs (by rfl) (by rfl) ?_ (by rfl) (fun wz hSw => ?_) ?_
 rotate_left
 ·have e0 := keepB hSw hTk; go_simp
  try with_reducible rfl
 simp only [sIB, List.set]
 refine goU_read 29 hs (by rfl) (by rfl) ?_ (by rfl) (fun wz hSw => ?_) ?_
 rotate_left
 ·have e0 := keepB hSw hTk; go_simp
  try with_reducible rfl
 simp only [sIB, List.set]
 refine goU_read 30 hs (by rfl) (by rfl) ?_ (by rfl) (fun wz hSw => ?_) ?_
 rotate_left
 ·have e0 := keepB hSw hTk; go_simp
  try with_reducible rfl
 simp only [sIB, List.set]
 refine goU_read 31 hs (by rfl) (by rfl) ?_ (by rfl) (fun wz hSw => ?_) ?_
 rotate_left
 ·have e0 := keepB hSw hTk; go_simp
  try with_reducible rfl
 simp only [sIB, List.set]
 refine goU_read 32 hs (by rfl) (by rfl) ?_ (by rfl) (fun wz hSw => ?_) ?_
 rotate_left
 ·have e0 := keepB hSw hTk; go_simp
  try with_reducible rfl
 simp only [sIB, List.set]
 refine goU_read 33 hs (by rfl) (by rfl) ?_ (by rfl) (fun wz hSw => ?_) ?_
 rotate_left
 ·have e0 := keepB hSw hTk; go_simp
  try with_reducible rfl
 simp only [sIB, List.set]
 refine goU_read 34 hs (by rfl) (by rfl) ?_ (by rfl) (fun wz hSw => ?_) ?_
 rotate_left
 ·have e0 := keepB hSw hTk; go_simp
  try with_reducible rfl
 simp only [sIB, List.set]
 refine goU_read 35 hs (by rfl) (by rfl) ?_ (by rfl) (fun wz hSw => ?_) ?_
 rotate_left
 ·have e0 := keepB hSw hTk; go_simp
  try with_reducible rfl
 simp only [sIB, List.set]
 refine goU_read 36 hs (by rfl) (by rfl) ?_ (by rfl) (fun wz hSw => ?_) ?_
 rotate_left
 ·have e0 := keepB hSw hTk; go_simp
  try with_reducible rfl
 simp only [sIB, List.set]
 refine goU_two (by rfl) (by rfl) ?_ ?_
 ·refine goU_call1 27 (by rfl) (by rfl) (by go_simp) (Of_any 2 _ (by omega) (by omega)) ?_
  rintro e v1 ⟨y0, rfl, hx0, hb0⟩
  replace hs := hs.trans (hb0.mono hs.size)
  refine ⟨_, rfl, fun _ => hs, ?_⟩
  simp only [sIB, List.set]
  refine goU_two (by rfl) (by rfl) ?_ ?_
  ·refine goU_call1 37 (by rfl) (by rfl) (by go_simp) (HV1 _ hs) ?_
   rintro e v2 ⟨y10, rfl, hx10, hb1⟩
   replace hx0 := hx0.below hb1
   replace hs := hs.trans (hb1.mono hs.size)
   refine ⟨_, rfl, fun _ => hs, ?_⟩
   simp only [sIB, List.set]
   refine goU_two (by rfl) (by rfl) ?_ ?_
   ·refine goU_call1 38 (by rfl) (by rfl) (by go_simp) (Mul_any hx0.int hx10.int (by decide) (by omega)) ?_
    rintro e v3 ⟨y11, rfl, hx11, hb2⟩
    replace hx0 := hx0.below hb2
    replace hx10 := hx10.below hb2
    obtain ⟨n11, A11, m11, c11, rfl, hx11⟩ := hx11.shp
    replace hs := hs.trans (hb2.mono hs.size)
    refine ⟨_, rfl, fun _ => hs, ?_⟩
    simp only [sIB, List.set]
    refine goU_step (by rfl) ?_
    go_wp2_with fail
    obtain ⟨v4, hv4⟩ : ∃ V, V = v3.alloc (.cells #[.bool false, .slice none 0 0] 40) := ⟨_, rfl⟩
    obtain ⟨P, hPe⟩ : ∃ P, P = v3.heap.size := ⟨_, rfl⟩
    have hP : Arr v4 P 40 [.bool false, .slice none 0 0] := by rw [hv4, hPe]; exact Arr.new v3 _ [.bool false, .slice none 0 0]
    have hb3 : Below v3.heap.size v3 v4 := by rw [hv4]; exact (Below.refl _ _).alloc (Nat.le_refl _) _
    have hPw : w.heap.size ≤ P := by rw [hPe]; exact hs.size
    rw [← hv4, ← hPe]
    replace hx11 : NIntV v3 (· ≠ P) _ _ := hx11.mono fun b hb hl => by omega
    clear hv4 hPe
    replace hx0 := hx0.below hb3
    replace hx10 := hx10.below hb3
    replace hx11 := hx11.below hb3
    replace hs := hs.trans (hb3.mono hs.size)
    first | refine ⟨fun _ => hs, ?_⟩ | refine ⟨hs, ?_⟩
    obtain ⟨r0, r1, f0, f1⟩ := hP.c2
    refine goU_step (by rfl) ?_
    go_wp2_with fail
    try (refine ⟨fun h => absurd h (by decide), ?_⟩)
    refine goU_nilN ?_
    exact HQ.out _ P _ _ _ _ _ _ _ _ _ _ _ _ (Bx.put hP hx11 (fun h => h rfl)) hPw ((hs.setCell (p := ⟨P, 0, none⟩) hPw _).setCell (p := ⟨P, 1, none⟩) hPw _)
   ·go_wp2_with fail
    obtain ⟨v3, hv3⟩ : ∃ V, V = v2.alloc (.cells #[.bool false, .slice none 0 0] 40) := ⟨_, rfl⟩
    obtain ⟨P, hPe⟩ : ∃ P, P = v2.heap.size := ⟨_, rfl⟩
    have hP : Arr v3 P 40 [.bool false, .slice none 0 0] := by rw [hv3, hPe]; exact Arr.new v2 _ [.bool false, .slice none 0 0]
    have hb2 : Below v2.heap.size v2 v3 := by rw [hv3]; exact (Below.refl _ _).alloc (Nat.le_refl _) _
    have hPw : w.heap.size ≤ P := by rw [hPe]; exact hs.size
    rw [← hv3, ← hPe]
    clear hv3 hPe
    replace hx0 := hx0.below hb2
    replace hx10 := hx10.below hb2
    replace hs := hs.trans (hb2.mono hs.size)
    first | refine ⟨fun _ => hs, ?_⟩ | refine ⟨hs, ?_⟩
    refine goU_call 38 (by rfl) (by rfl) (by rfl) (by go_simp) (Mul_any hx0.int hx10.int (by decide) (by omega)) ?_
    rintro e v4 ⟨y11, rfl, hx11, hb3⟩
    replace hx11 : NIntV v4 (· ≠ P) _ _ := hx11.dd fun b (hb : _ ≤ b) e => by have := hP.lt; omega
    replace hx0 := hx0.below hb3
    replace hx10 := hx10.below hb3
    replace hP := keepA hP hb3 hP.lt
    obtain ⟨n11, A11, m11, c11, rfl, hx11⟩ := hx11.shp
    replace hs := hs.trans (hb3.mono hs.size)
    refine ⟨_, rfl, fun _ => hs, ?_⟩
    simp only [sIB, List.set]
    obtain ⟨r0, r1, f0, f1⟩ := hP.c2
    refine goU_step (by rfl) ?_
    go_wp2_with fail
    try (refine ⟨fun h => absurd h (by decide), ?_⟩)
    refine goU_nilN ?_
    exact HQ.out _ P _ _ _ _ _ _ _ _ _ _ _ _ (Bx.put hP hx11 (fun h => h rfl)) hPw ((hs.setCell (p := ⟨P, 0, none⟩) hPw _).setCell (p := ⟨P, 1, none⟩) hPw _)
  ·go_wp2_with fail
   obtain ⟨v2, hv2⟩ : ∃ V, V = v1.alloc (.cells #[.bool false, .slice none 0 0] 40) := ⟨_, rfl⟩
   obtain ⟨P, hPe⟩ : ∃ P, P = v1.heap.size := ⟨_, rfl⟩
   have hP : Arr v2 P 40 [.bool false, .slice none 0 0] := by rw [hv2, hPe]; exact Arr.new v1 _ [.bool false, .slice none 0 0]
   have hb1 : Below v1.heap.size v1 v2 := by rw [hv2]; exact (Below.refl _ _).alloc (Nat.le_refl _) _
   have hPw : w.heap.size ≤ P := by rw [hPe]; exact hs.size
   rw [← hv2, ← hPe]
   clear hv2 hPe
   replace hx0 := hx0.below hb1
   replace hs := hs.trans (hb1.mono hs.size)
   first | refine ⟨fun _ => hs, ?_⟩ | refine ⟨hs, ?_⟩
   refine goU_call 37 (by rfl) (by rfl) (by rfl) (by go_simp) (HV1 _ hs) ?_
   rintro e v3 ⟨y10, rfl, hx10, hb2⟩
   replace hx0 := hx0.below hb2
   replace hP := keepA hP hb2 hP.lt
   replace hs := hs.trans (hb2.mono hs.size)
   refine ⟨_, rfl, fun _ => hs, ?_⟩
   simp only [sIB, List.set]
   refine goU_call 38 (by rfl) (by rfl) (by rfl) (by go_simp) (Mul_any hx0.int hx10.int (by decide) (by omega)) ?_
   rintro e v4 ⟨y11, rfl, hx11, hb3⟩
   replace hx11 : NIntV v4 (· ≠ P) _ _ := hx11.dd fun b (hb : _ ≤ b) e => by have := hP.lt; omega
   replace hx0 := hx0.below hb3
   replace hx10 := hx10.below hb3
   replace hP := keepA hP hb3 hP.lt
   obtain ⟨n11, A11, m11, c11, rfl, hx11⟩ := hx11.shp
   replace hs := hs.trans (hb3.mono hs.size)
   refine ⟨_, rfl, fun _ => hs, ?_⟩
   simp only [sIB, List.set]
   obtain ⟨r0, r1, f0, f1⟩ := hP.c2
   refine goU_step (by rfl) ?_
   go_wp2_with fail
   try (refine ⟨fun h => absurd h (by decide), ?_⟩)
   refine goU_nilN ?_
   exact HQ.out _ P _ _ _ _ _ _ _ _ _ _ _ _ (Bx.put hP hx11 (fun h => h rfl)) hPw ((hs.setCell (p := ⟨P, 0, none⟩) hPw _).setCell (p := ⟨P, 1, none⟩) hPw _)
 ·go_wp2_with fail
  obtain ⟨v1, hv1⟩ : ∃ V, V = v0.alloc (.cells #[.bool false, .slice none 0 0] 40) := ⟨_, rfl⟩
  obtain ⟨P, hPe⟩ : ∃ P, P = v0.heap.size := ⟨_, rfl⟩
  have hP : Arr v1 P 40 [.bool false, .slice none 0 0] := by rw [hv1, hPe]; exact Arr.new v0 _ [.bool false, .slice none 0 0]
  have hb0 : Below v0.heap.size v0 v1 := by rw [hv1]; exact (Below.refl _ _).alloc (Nat.le_refl _) _
  have hPw : w.heap.size ≤ P := by rw [hPe]; exact hs.size
  rw [← hv1, ← hPe]
  clear hv1 hPe
  replace hs := hs.trans (hb0.mono hs.size)
  first | refine ⟨fun _ => hs, ?_⟩ | refine ⟨hs, ?_⟩
  refine goU_call 27 (by rfl) (by rfl) (by rfl) (by go_simp) (Of_any 2 _ (by omega) (by omega)) ?_
  rintro e v2 ⟨y0, rfl, hx0, hb1⟩
  replace hP := keepA hP hb1 hP.lt
  replace hs := hs.trans (hb1.mono hs.size)
  refine ⟨_, rfl, fun _ => hs, ?_⟩
  simp only [sIB, List.set]
  refine goU_call 37 (by rfl) (by rfl) (by rfl) (by go_simp) (HV1 _ hs) ?_
  rintro e v3 ⟨y10, rfl, hx10, hb2⟩
  replace hx0 := hx0.below hb2
  replace hP := keepA hP hb2 hP.lt
  replace hs := hs.trans (hb2.mono hs.size)
  refine ⟨_, rfl, fun _ => hs, ?_⟩
  simp only [sIB, List.set]
  refine goU_call 38 (by rfl) (by rfl) (by rfl) (by go_simp) (Mul_any hx0.int hx10.int (by decide) (by omega)) ?_
  rintro e v4 ⟨y11, rfl, hx11, hb3⟩
  replace hx11 : NIntV v4 (· ≠ P) _ _ := hx11.dd fun b (hb : _ ≤ b) e => by have := hP.lt; omega
  replace hx0 := hx0.below hb3
  replace hx10 := hx10.below hb3
  replace hP := keepA hP hb3 hP.lt
  obtain ⟨n11, A11, m11, c11, rfl, hx11⟩ := hx11.shp
  replace hs := hs.trans (hb3.mono hs.size)
  refine ⟨_, rfl, fun _ => hs, ?_⟩
  simp only [sIB, List.set]
  obtain ⟨r0, r1, f0, f1⟩ := hP.c2
  refine goU_step (by rfl) ?_
  go_wp2_with fail
  try (refine ⟨fun h => absurd h (by decide), ?_⟩)
  refine goU_nilN ?_
  exact HQ.out _ P _ _ _ _ _ _ _ _ _ _ _ _ (Bx.put hP hx11 (fun h => h rfl)) hPw ((hs.setCell (p := ⟨P, 0, none⟩) hPw _).setCell (p := ⟨P, 1, none⟩) hPw _)
noncomputable def brBC : Code := (regOf 13 ((Tryz.f186.body).getD .skip)).getD .skip
set_option maxRecDepth 100000 in
set_option maxHeartbeats 4000000 in
theorem brB {w : World} {Q : Exit → Act → World → Prop} {bT oT n cT i k R7 m7 : Nat} {n7 : Bool} {A7 : Option Addr} {c7 : Nat} {gv vi vk : Value} {x1 x2 x7 : Int} {t1 t2 t4 t8 t9 t10 t11 t12 t13 t14 t15 t16 t17 t18 t19 t20 t21 t22 t23 t24 t25 t26 t27 t28 t29 t30 t31 t32 t33 t34 t35 t36 t37 t38 t39 t40 t41 t42 t43 t44 t45 t46 t47 t48 t49 t50 t51 t52 t53 t54 t55 t56 t57 t58 t59 t60 t61 t62 t63 t64 t65 t66 t67 t68 t69 t70 t71 t72 t73 t74 t75 t76 t77 t78 t79 t80 t81 t82 t83 t84 t85 t86 t87 t88 t89 t90 t91 t92 t93 t94 t95 t96 t97 t98 t99 t100 t101 : Value}
  (hTk : w.cell? ⟨bT, oT + k, none⟩ = some vk) (hk0 : (0 : Int) ≤ (k : Int)) (hkn : (k : Int) < (n : Int)) (hTi : w.cell? ⟨bT, oT + i, none⟩ = some vi) (hi0 : (0 : Int) ≤ (i : Int)) (hin : (i : Int) < (n : Int))
  (HV1 : ∀ w', Below w.heap.size w w' → Calls Tryz.prog 190 #[gv, vk, vk] w' (Gives w' fun w'' v => NIntV w'' (w'.heap.size ≤ ·) v x1))
  (HV2 : ∀ w', Below w.heap.size w w' → Calls Tryz.prog 190 #[gv, vi, vk] w' (Gives w' fun w'' v => NIntV w'' (w'.heap.size ≤ ·) v x2))
  (r70 : w.cell? ⟨R7, 0, none⟩ = some (.bool n7)) (r71 : w.cell? ⟨R7, 1, none⟩ = some (.slice A7 m7 c7)) (h7 : NIntV w (fun _ => True) (.agg #[.bool n7, .slice A7 m7 c7]) x7) (h0 : x7 ≠ 0) (hx : wl x1.natAbs ≤ 800000) (hy : wl x2.natAbs ≤ 800000) (hz : wl x7.natAbs ≤ 800000) (hm : wl (2 * x2).natAbs ≤ 1600000) (hm2 : wl (2 * x2 + x1).natAbs ≤ 3200000)
  (hQ : ∀ (w' : World) (P : Nat) (u39 u40 u41 u42 u43 u44 u45 u46 u47 u48 u49 u50 u51 u52 u53 u54 u55 u56 u57 u58 u59 u60 u61 u62 u63 : Value), Bx w' P (· ≠ P) ((2 * x2 + x1) / x7) → w.heap.size ≤ P → Below w.heap.size w w' → Q .normal ⟨#[gv, t1, t2, .slice (some ⟨bT, oT, none⟩) n cT, t4, .int .i64 i, .int .i64 k, .pointer (some ⟨R7, 0, none⟩), .pointer (some ⟨P, 0, none⟩), t9, t10, t11, t12, t13, t14, t15, t16, t17, t18, t19, t20, t21, t22, t23, t24, t25, t26, t27, t28, t29, t30, t31, t32, t33, t34, t35, t36, t37, t38, u39, u40, u41, u42, u43, u44, u45, u46, u47, u48, u49, u50, u51, u52, u53, u54, u55, u56, u57, u58, u59, u60, u61, u62, u63, t64, t65, t66, t67, t68, t69, t70, t71, t72, t73, t74, t75, t76, t77, t78, t79, t80, t81, t82, t83, t84, t85, t86, t87, t88, t89, t90, t91, t92, t93, t94, t95, t96, t97, t98, t99, t100, t101], []⟩ w') :
  (brBC).wp Tryz.prog Q ⟨#[gv, t1, t2, .slice (some ⟨bT, oT, none⟩) n cT, t4, .int .i64 i, .int .i64 k, .pointer (some ⟨R7, 0, none⟩), t8, t9, t10, t11, t12, t13, t14, t15, t16, t17, t18, t19, t20, t21, t22, t23, t24, t25, t26, t27, t28, t29, t30, t31, t32, t33, t34, t35, t36, t37, t38, t39, t40, t41, t42, t43, t44, t45, t46, t47, t48, t49, t50, t51, t52, t53, t54, t55, t56, t57, t58, t59, t60, t61, t62, t63, t64, t65, t66, t67, t68, t69, t70, t71, t72, t73, t74, t75, t76, t77, t78, t79, t80, t81, t82, t83, t84, t85, t86, t87, t88, t89, t90, t91, t92, t93, t94, t95, t96, t97, t98, t99, t100, t101], []⟩ w := by
 have HQ := Lib.hid hQ
 clear hQ
 show Code.wp _ (Code.region 13 (List.toArray _) true) _ _ _
 obtain ⟨v0, hv0⟩ : ∃ v0, v0 = w.drew := ⟨_, rfl⟩
 have hs : Below w.heap.size w v0 := by rw [hv0]; exact (Below.refl _ _).drew
 refine wp_region_tq5 (.read 1 (.read 2 (.read 3 (.read 4 (.read 5 (.read 6 (.read 7 (.read 8 (.read 9 (.read 12 (.read 13 (.read 14 (.read 15 (.read 16 (.read 17 (.read 18 (.read 19 (.read 20 (.read 23 (.two 0 25 (.two 10 25 (.two 11 25 (.two 21 25 (.two 22 25 (.two 24 25 (.step 25 (.step 26 .nil)) (.step 24 (.step 26 .nil))) (.step 22 (.step 24 (.step 26 .nil)))) (.step 21 (.step 22 (.step 24 (.step 26 .nil))))) (.step 11 (.step 21 (.step 22 (.step 24 (.step 26 .nil)))))) (.step 10 (.step 11 (.step 21 (.step 22 (.step 24 (.step 26 .nil))))))) (.step 0 (.step 10 (.step 11 (.step 21 (.step 22 (.step 24 (.step 26 .nil))))))))))))))))))))))))))) [26] (by kernel_rfl) (by rfl) (by kernel_rfl) (by kernel_rfl) (fun V => Below w.heap.size w V) ?_
 change goU _ _ _ _ _ _ _ w.drew
 rw [← hv0]
 clear hv0
 refine goU_read 40 hs (by rfl) (by rfl) ?_ (by rfl) (fun wz hSw => ?_) ?_
 rotate_left
 ·have e0 := keepB hSw hTk; have e1 := keepB hSw hTi; have e2 := keepB hSw r70; have e3 := keepB hSw r71; go_simp
  try with_reducible rfl
 simp only [sIB, List.set]
 refine goU_read 41 hs (by rfl) (by rfl) ?_ (by rfl) (fun wz hSw => ?_) ?_
 rotate_left
 ·have e0 := keepB hSw hTk; have e1 := keepB hSw hTi; have e2 := keepB hSw r70; have e3 := keepB hSw r71; go_simp
  try with_reducible rfl
 simp only [sIB, List.set]
 refine goU_read 42 hs (by rfl) (by rfl) ?_ (by rfl) (fun wz hSw => ?_) ?_
 rotate_left
 ·have e0 := keepB hSw hTk; have e1 := keepB hSw hTi; have e2 := keepB hSw r70; have e3 := keepB hSw r71; go_simp
  try with_reducible rfl
 simp only [sIB, List.set]
 refine goU_read 43 hs (by rfl) (by rfl) ?_ (by rfl) (fun wz hSw => ?_) ?_
 rotate_left
 ·have e0 := keepB hSw hTk; have e1 := keepB hSw hTi; have e2 := keepB hSw r70; have e3 := keepB hSw r71; go_simp
  try with_reducible rfl
 simp only [sIB, List.set]
 refine goU_read 44 hs (by rfl) (by rfl) ?_ (by rfl) (fun wz hSw => ?_) ?_
 rotate_left
 ·have e0 := keepB hSw hTk; have e1 := keepB hSw hTi; have e2 := keepB hSw r70; have e3 := keepB hSw r71; go_simp
  try with_reducible rfl
 simp only [sIB, List.set]
 refine goU_read 45 hs (by rfl) (by rfl) ?_ (by rfl) (fun wz hSw => ?_) ?_
 rotate_left
 ·have e0 := keepB hSw hTk; have e1 := keepB hSw hTi; have e2 := keepB hSw r70; have e3 := keepB hSw r71; go_simp
  try with_reducible rfl
 simp only [sIB, List.set]
 refine goU_read 46 hs (by rfl) (by rfl) ?_ (by rfl) (fun wz hSw => ?_) ?_
 rotate_left
 ·have e0 := keepB hSw hTk; have e1 := keepB hSw hTi; have e2 := keepB hSw r70; have e3 := keepB hSw r71; go_simp
  try with_reducible rfl
 simp only [sIB, List.set]
 refine goU_read 47 hs (by rfl) (by rfl) ?_ (by rfl) (fun wz hSw => ?_) ?_
 rotate_left
 ·have e0 := keepB hSw hTk; have e1 := keepB hSw hTi; have e2 := keepB hSw r70; have e3 := keepB hSw r71; go_simp
  try with_reducible rfl
 simp only [sIB, List.set]
 refine goU_read 48 hs (by rfl) (by rfl) ?_ (by rfl) (fun wz hSw => ?_) ?_
 rotate_left
 ·have e0 := keepB hSw hTk; have e1 := keepB hSw hTi; have e2 := keepB hSw r70; have e3 := keepB hSw r71; go_simp
  try with_reducible rfl
 simp only [sIB, List.set]
 refine goU_read 51 hs (by rfl) (by rfl) ?_ (by rfl) (fun wz hSw => ?_) ?_
 rotate_left
 ·have e0 := keepB hSw hTk; have e1 := keepB hSw hTi; have e2 := keepB hSw r70; have e3 := keepB hSw r71; go_simp
  try with_reducible rfl
 simp only [sIB, List.set]
 refine goU_read 52 hs (by rfl) (by rfl) ?_ (by rfl) (fun wz hSw => ?_) ?_
 rotate_left
 ·have e0 := keepB hSw hTk; have e1 := keepB hSw hTi; have e2 := keepB hSw r70; have e3 := keepB hSw r71; go_simp
  try with_reducible rfl
 simp only [sIB, List.set]
 refine goU_read 53 hs (by rfl) (by rfl) ?_ (by rfl) (fun wz hSw => ?_) ?_
 rotate_left
 ·have e0 := keepB hSw hTk; have e1 := keepB hSw hTi; have e2 := keepB hSw r70; have e3 := keepB hSw r71; go_simp
  try with_reducible rfl
 simp only [sIB, List.set]
 refine goU_read 54 hs (by rfl) (by rfl) ?_ (by rfl) (fun wz hSw => ?_) ?_
 rotate_left
 ·have e0 := keepB hSw hTk; have e1 := keepB hSw hTi; have e2 := keepB hSw r70; have e3 := keepB hSw r71; go_simp
  try with_reducible rfl
 simp only [sIB, List.set]
 refine goU_read 55 hs (by rfl) (by rfl) ?_ (by rfl) (fun wz hSw => ?_) ?_
 rotate_left
 ·have e0 := keepB hSw hTk; have e1 := keepB hSw hTi; have e2 := keepB hSw r70; have e3 := keepB hSw r71; go_simp
  try with_reducible rfl
 simp only [sIB, List.set]
 refine goU_read 56 hs (by rfl) (by rfl) ?_ (by rfl) (fun wz hSw => ?_) ?_
 rotate_left
 ·have e0 := keepB hSw hTk; have e1 := keepB hSw hTi; have e2 := keepB hSw r70; have e3 := keepB hSw r71; go_simp
  try with_reducible rfl
 simp only [sIB, List.set]
 refine goU_read 57 hs (by rfl) (by rfl) ?_ (by rfl) (fun wz hSw => ?_) ?_
 rotate_left
 ·have e0 := keepB hSw hTk; have e1 := keepB hSw hTi; have e2 := keepB hSw r70; have e3 := keepB hSw r71; go_simp
  try with_reducible rfl
 simp only [sIB, List.set]
 refine goU_read 58 hs (by rfl) (by rfl) ?_ (by rfl) (fun wz hSw => ?_) ?_
 rotate_left
 ·have e0 := keepB hSw hTk; have e1 := keepB hSw hTi; have e2 := keepB hSw r70; have e3 := keepB hSw r71; go_simp
  try with_reducible rfl
 simp only [sIB, List.set]
 refine goU_read 59 hs (by rfl) (by rfl) ?_ (by rfl) (fun wz hSw => ?_) ?_
 rotate_left
 ·have e0 := keepB hSw hTk; have e1 := keepB hSw hTi; have e2 := keepB hSw r70; have e3 := keepB hSw r71; go_simp
  try with_reducible rfl
 simp only [sIB, List.set]
 refine goU_read 62 hs (by rfl) (by rfl) ?_ (by rfl) (fun wz hSw => ?_) ?_
 rotate_left
 ·have e0 := keepB hSw hTk; have e1 := keepB hSw hTi; have e2 := keepB hSw r70; have e3 := keepB hSw r71; go_simp
  try with_reducible rfl
 simp only [sIB, List.set]
 refine goU_two (by rfl) (by rfl) ?_ ?_
 ·refine goU_call1 39 (by rfl) (by rfl) (by go_simp) (Of_any 2 _ (by omega) (by omega)) ?_
  rintro e v1 ⟨y0, rfl, hx0, hb0⟩
  replace hs := hs.trans (hb0.mono hs.size)
  refine ⟨_, rfl, fun _ => hs, ?_⟩
  simp only [sIB, List.set]
  refine goU_two (by rfl) (by rfl) ?_ ?_
  ·refine goU_call1 49 (by rfl) (by rfl) (by go_simp) (HV2 _ hs) ?_
   rintro e v2 ⟨y10, rfl, hx10, hb1⟩
   replace hx0 := hx0.below hb1
   replace hs := hs.trans (hb1.mono hs.size)
   refine ⟨_, rfl, fun _ => hs, ?_⟩
   simp only [sIB, List.set]
   refine goU_two (by rfl) (by rfl) ?_ ?_
   ·refine goU_call1 50 (by rfl) (by rfl) (by go_simp) (Mul_any hx0.int hx10.int (by decide) (by omega)) ?_
    rintro e v3 ⟨y11, rfl, hx11, hb2⟩
    replace hx0 := hx0.below hb2
    replace hx10 := hx10.below hb2
    replace hs := hs.trans (hb2.mono hs.size)
    refine ⟨_, rfl, fun _ => hs, ?_⟩
    simp only [sIB, List.set]
    refine goU_two (by rfl) (by rfl) ?_ ?_
    ·refine goU_call1 60 (by rfl) (by rfl) (by go_simp) (HV1 _ hs) ?_
     rintro e v4 ⟨y21, rfl, hx21, hb3⟩
     replace hx0 := hx0.below hb3
     replace hx10 := hx10.below hb3
     replace hx11 := hx11.below hb3
     replace hs := hs.trans (hb3.mono hs.size)
     refine ⟨_, rfl, fun _ => hs, ?_⟩
     simp only [sIB, List.set]
     refine goU_two (by rfl) (by rfl) ?_ ?_
     ·refine goU_call1 61 (by rfl) (by rfl) (by go_simp) (Add_any hx11.int hx21.int (by omega) (by omega)) ?_
      rintro e v5 ⟨y22, rfl, hx22, hb4⟩
      replace hx0 := hx0.below hb4
      replace hx10 := hx10.below hb4
      replace hx11 := hx11.below hb4
      replace hx21 := hx21.below hb4
      replace hs := hs.trans (hb4.mono hs.size)
      refine ⟨_, rfl, fun _ => hs, ?_⟩
      simp only [sIB, List.set]
      refine goU_two (by rfl) (by rfl) ?_ ?_
      ·refine goU_call1 63 (by rfl) (by rfl) (by go_simp) (wQuo_any hx22.int (h7.below hs).int (by omega) (by omega) h0) ?_
       rintro e v6 ⟨y24, rfl, hx24, hb5⟩
       replace hx0 := hx0.below hb5
       replace hx10 := hx10.below hb5
       replace hx11 := hx11.below hb5
       replace hx21 := hx21.below hb5
       replace hx22 := hx22.below hb5
       obtain ⟨n24, A24, m24, c24, rfl, hx24⟩ := hx24.shp
       replace hs := hs.trans (hb5.mono hs.size)
       refine ⟨_, rfl, fun _ => hs, ?_⟩
       simp only [sIB, List.set]
       refine goU_step (by rfl) ?_
       go_wp2_with fail
       obtain ⟨v7, hv7⟩ : ∃ V, V = v6.alloc (.cells #[.bool false, .slice none 0 0] 40) := ⟨_, rfl⟩
       obtain ⟨P, hPe⟩ : ∃ P, P = v6.heap.size := ⟨_, rfl⟩
       have hP : Arr v7 P 40 [.bool false, .slice none 0 0] := by rw [hv7, hPe]; exact Arr.new v6 _ [.bool false, .slice none 0 0]
       have hb6 : Below v6.heap.size v6 v7 := by rw [hv7]; exact (Below.refl _ _).alloc (Nat.le_refl _) _
       have hPw : w.heap.size ≤ P := by rw [hPe]; exact hs.size
       rw [← hv7, ← hPe]
       replace hx24 : NIntV v6 (· ≠ P) _ _ := hx24.mono fun b hb hl => by omega
       clear hv7 hPe
       replace hx0 := hx0.below hb6
       replace hx10 := hx10.below hb6
       replace hx11 := hx11.below hb6
       replace hx21 := hx21.below hb6
       replace hx22 := hx22.below hb6
       replace hx24 := hx24.below hb6
       replace hs := hs.trans (hb6.mono hs.size)
       first | refine ⟨fun _ => hs, ?_⟩ | refine ⟨hs, ?_⟩
       obtain ⟨r0, r1, f0, f1⟩ := hP.c2
       refine goU_step (by rfl) ?_
       go_wp2_with fail
       try (refine ⟨fun h => absurd h (by decide), ?_⟩)
       refine goU_nilN ?_
       exact HQ.out _ P _ _ _ _ _ _ _ _ _ _ _ _ _ _ _ _ _ _ _ _ _ _ _ _ _ (Bx.put hP hx24 (fun h => h rfl)) hPw ((hs.setCell (p := ⟨P, 0, none⟩) hPw _).setCell (p := ⟨P, 1, none⟩) hPw _)
      ·go_wp2_with fail
       obtain ⟨v6, hv6⟩ : ∃ V, V = v5.alloc (.cells #[.bool false, .slice none 0 0] 40) := ⟨_, rfl⟩
       obtain ⟨P, hPe⟩ : ∃ P, P = v5.heap.size := ⟨_, rfl⟩
       have hP : Arr v6 P 40 [.bool false, .slice none 0 0] := by rw [hv6, hPe]; exact Arr.new v5 _ [.bool false, .slice none 0 0]
       have hb5 : Below v5.heap.size v5 v6 := by rw [hv6]; exact (Below.refl _ _).alloc (Nat.le_refl _) _
       have hPw : w.heap.size ≤ P := by rw [hPe]; exact hs.size
       rw [← hv6, ← hPe]
       clear hv6 hPe
       replace hx0 := hx0.below hb5
       replace hx10 := hx10.below hb5
       replace hx11 := hx11.below hb5
       replace hx21 := hx21.below hb5
       replace hx22 := hx22.below hb5
       replace hs := hs.trans (hb5.mono hs.size)
       first | refine ⟨fun _ => hs, ?_⟩ | refine ⟨hs, ?_⟩
       refine goU_call 63 (by rfl) (by rfl) (by rfl) (by go_simp) (wQuo_any hx22.int (h7.below hs).int (by omega) (by omega) h0) ?_
       rintro e v7 ⟨y24, rfl, hx24, hb6⟩
       replace hx24 : NIntV v7 (· ≠ P) _ _ := hx24.dd fun b (hb : _ ≤ b) e => by have := hP.lt; omega
       replace hx0 := hx0.below hb6
       replace hx10 := hx10.below hb6
       replace hx11 := hx11.below hb6
       replace hx21 := hx21.below hb6
       replace hx22 := hx22.below hb6
       replace hP := keepA hP hb6 hP.lt
       obtain ⟨n24, A24, m24, c24, rfl, hx24⟩ := hx24.shp
       replace hs := hs.trans (hb6.mono hs.size)
       refine ⟨_, rfl, fun _ => hs, ?_⟩
       simp only [sIB, List.set]
       obtain ⟨r0, r1, f0, f1⟩ := hP.c2
       refine goU_step (by rfl) ?_
       go_wp2_with fail
       try (refine ⟨fun h => absurd h (by decide), ?_⟩)
       refine goU_nilN ?_
       exact HQ.out _ P _ _ _ _ _ _ _ _ _ _ _ _ _ _ _ _ _ _ _ _ _ _ _ _ _ (Bx.put hP hx24 (fun h => h rfl)) hPw ((hs.setCell (p := ⟨P, 0, none⟩) hPw _).setCell (p := ⟨P, 1, none⟩) hPw _)
     ·go_wp2_with fail
      obtain ⟨v5, hv5⟩ : ∃ V, V = v4.alloc (.cells #[.bool false, .slice none 0 0] 40) := ⟨_, rfl⟩
      obtain ⟨P, hPe⟩ : ∃ P, P = v4.heap.size := ⟨_, rfl⟩
      have hP : Arr v5 P 40 [.bool false, .slice none 0 0] := by rw [hv5, hPe]; exact Arr.new v4 _ [.bool false, .slice none 0 0]
      have hb4 : Below v4.heap.size v4 v5 := by rw [hv5]; exact (Below.refl _ _).alloc (Nat.le_refl _) _
      have hPw : w.heap.size ≤ P := by rw [hPe]; exact hs.size
      rw [← hv5, ← hPe]
      clear hv5 hPe
      replace hx0 := hx0.below hb4
      replace hx10 := hx10.below hb4
      replace hx11 := hx11.below hb4
      replace hx21 := hx21.below hb4
      replace hs := hs.trans (hb4.mono hs.size)
      first | refine ⟨fun _ => hs, ?_⟩ | refine ⟨hs, ?_⟩
      refine goU_call 61 (by rfl) (by rfl) (by rfl) (by go_simp) (Add_any hx11.int hx21.int (by omega) (by omega)) ?_
      rintro e v6 ⟨y22, rfl, hx22, hb5⟩
      replace hx0 := hx0.below hb5
      replace hx10 := hx10.below hb5
      replace hx11 := hx11.below hb5
      replace hx21 := hx21.below hb5
      replace hP := keepA hP hb5 hP.lt
      replace hs := hs.trans (hb5.mono hs.size)
      refine ⟨_, rfl, fun _ => hs, ?_⟩
      simp only [sIB, List.set]
      refine goU_call 63 (by rfl) (by rfl) (by rfl) (by go_simp) (wQuo_any hx22.int (h7.below hs).int (by omega) (by omega) h0) ?_
      rintro e v7 ⟨y24, rfl, hx24, hb6⟩
      replace hx24 : NIntV v7 (· ≠ P) _ _ := hx24.dd fun b (hb : _ ≤ b) e => by have := hP.lt; omega
      replace hx0 := hx0.below hb6
      replace hx10 := hx10.below hb6
      replace hx11 := hx11.below hb6
      replace hx21 := hx21.below hb6
      replace hx22 := hx22.below hb6
      replace hP := keepA hP hb6 hP.lt
      obtain ⟨n24, A24, m24, c24, rfl, hx24⟩ := hx24.shp
      replace hs := hs.trans (hb6.mono hs.size)
      refine ⟨_, rfl, fun _ => hs, ?_⟩
      simp only [sIB, List.set]
      obtain ⟨r0, r1, f0, f1⟩ := hP.c2
      refine goU_step (by rfl) ?_
      go_wp2_with fail
      try (refine ⟨fun h => absurd h (by decide), ?_⟩)
      refine goU_nilN ?_
      exact HQ.out _ P _ _ _ _ _ _ _ _ _ _ _ _ _ _ _ _ _ _ _ _ _ _ _ _ _ (Bx.put hP hx24 (fun h => h rfl)) hPw ((hs.setCell (p := ⟨P, 0, none⟩) hPw _).setCell (p := ⟨P, 1, none⟩) hPw _)
    ·go_wp2_with fail
     obtain ⟨v4, hv4⟩ : ∃ V, V = v3.alloc (.cells #[.bool false, .slice none 0 0] 40) := ⟨_, rfl⟩
     obtain ⟨P, hPe⟩ : ∃ P, P = v3.heap.size := ⟨_, rfl⟩
     have hP : Arr v4 P 40 [.bool false, .slice none 0 0] := by rw [hv4, hPe]; exact Arr.new v3 _ [.bool false, .slice none 0 0]
     have hb3 : Below v3.heap.size v3 v4 := by rw [hv4]; exact (Below.refl _ _).alloc (Nat.le_refl _) _
     have hPw : w.heap.size ≤ P := by rw [hPe]; exact hs.size
     rw [← hv4, ← hPe]
     clear hv4 hPe
     replace hx0 := hx0.below hb3
     replace hx10 := hx10.below hb3
     replace hx11 := hx11.below hb3
     replace hs := hs.trans (hb3.mono hs.size)
     first | refine ⟨fun _ => hs, ?_⟩ | refine ⟨hs, ?_⟩
     refine goU_call 60 (by rfl) (by rfl) (by rfl) (by go_simp) (HV1 _ hs) ?_
     rintro e v5 ⟨y21, rfl, hx21, hb4⟩
     replace hx0 := hx0.below hb4
     replace hx10 := hx10.below hb4
     replace hx11 := hx11.below hb4
     replace hP := keepA hP hb4 hP.lt
     replace hs := hs.trans (hb4.mono hs.size)
     refine ⟨_, rfl, fun _ => hs, ?_⟩
     simp only [sIB, List.set]
     refine goU_call 61 (by rfl) (by rfl) (by rfl) (by go_simp) (Add_any hx11.int hx21.int (by omega) (by omega)) ?_
     rintro e v6 ⟨y22, rfl, hx22, hb5⟩
     replace hx0 := hx0.below hb5
     replace hx10 := hx10.below hb5
     replace hx11 := hx11.below hb5
     replace hx21 := hx21.below hb5
     replace hP := keepA hP hb5 hP.lt
     replace hs := hs.trans (hb5.mono hs.size)
     refine ⟨_, rfl, fun _ => hs, ?_⟩
     simp only [sIB, List.set]
     refine goU_call 63 (by rfl) (by rfl) (by rfl) (by go_simp) (wQuo_any hx22.int (h7.below hs).int (by omega) (by omega) h0) ?_
     rintro e v7 ⟨y24, rfl, hx24, hb6⟩
     replace hx24 : NIntV v7 (· ≠ P) _ _ := hx24.dd fun b (hb : _ ≤ b) e => by have := hP.lt; omega
     replace hx0 := hx0.below hb6
     replace hx10 := hx10.below hb6
     replace hx11 := hx11.below hb6
     replace hx21 := hx21.below hb6
     replace hx22 := hx22.below hb6
     replace hP := keepA hP hb6 hP.lt
     obtain ⟨n24, A24, m24, c24, rfl, hx24⟩ := hx24.shp
     replace hs := hs.trans (hb6.mono hs.size)
     refine ⟨_, rfl, fun _ => hs, ?_⟩
     simp only [sIB, List.set]
     obtain ⟨r0, r1, f0, f1⟩ := hP.c2
     refine goU_step (by rfl) ?_
     go_wp2_with fail
     try (refine ⟨fun h => absurd h (by decide), ?_⟩)
     refine goU_nilN ?_
     exact HQ.out _ P _ _ _ _ _ _ _ _ _ _ _ _ _ _ _ _ _ _ _ _ _ _ _ _ _ (Bx.put hP hx24 (fun h => h rfl)) hPw ((hs.setCell (p := ⟨P, 0, none⟩) hPw _).setCell (p := ⟨P, 1, none⟩) hPw _)
   ·go_wp2_with fail
    obtain ⟨v3, hv3⟩ : ∃ V, V = v2.alloc (.cells #[.bool false, .slice none 0 0] 40) := ⟨_, rfl⟩
    obtain ⟨P, hPe⟩ : ∃ P, P = v2.heap.size := ⟨_, rfl⟩
    have hP : Arr v3 P 40 [.bool false, .slice none 0 0] := by rw [hv3, hPe]; exact Arr.new v2 _ [.bool false, .slice none 0 0]
    have hb2 : Below v2.heap.size v2 v3 := by rw [hv3]; exact (Below.refl _ _).alloc (Nat.le_refl _) _
    have hPw : w.heap.size ≤ P := by rw [hPe]; exact hs.size
    rw [← hv3, ← hPe]
    clear hv3 hPe
    replace hx0 := hx0.below hb2
    replace hx10 := hx10.below hb2
    replace hs := hs.trans (hb2.mono hs.size)
    first | refine ⟨fun _ => hs, ?_⟩ | refine ⟨hs, ?_⟩
    refine goU_call 50 (by rfl) (by rfl) (by rfl) (by go_simp) (Mul_any hx0.int hx10.int (by decide) (by omega)) ?_
    rintro e v4 ⟨y11, rfl, hx11, hb3⟩
    replace hx0 := hx0.below hb3
    replace hx10 := hx10.below hb3
    replace hP := keepA hP hb3 hP.lt
    replace hs := hs.trans (hb3.mono hs.size)
    refine ⟨_, rfl, fun _ => hs, ?_⟩
    simp only [sIB, List.set]
    refine goU_call 60 (by rfl) (by rfl) (by rfl) (by go_simp) (HV1 _ hs) ?_
    rintro e v5 ⟨y21, rfl, hx21, hb4⟩
    replace hx0 := hx0.below hb4
    replace hx10 := hx10.below hb4
    replace hx11 := hx11.below hb4
    replace hP := keepA hP hb4 hP.lt
    replace hs := hs.trans (hb4.mono hs.size)
    refine ⟨_, rfl, fun _ => hs, ?_⟩
    simp only [sIB, List.set]
    refine goU_call 61 (by rfl) (by rfl) (by rfl) (by go_simp) (Add_any hx11.int hx21.int (by omega) (by omega)) ?_
    rintro e v6 ⟨y22, rfl, hx22, hb5⟩
    replace hx0 := hx0.below hb5
    replace hx10 := hx10.below hb5
    replace hx11 := hx11.below hb5
    replace hx21 := hx21.below hb5
    replace hP := keepA hP hb5 hP.lt
    replace hs := hs.trans (hb5.mono hs.size)
    refine ⟨_, rfl, fun _ => hs, ?_⟩
    simp only [sIB, List.set]
    refine goU_call 63 (by rfl) (by rfl) (by rfl) (by go_simp) (wQuo_any hx22.int (h7.below hs).int (by omega) (by omega) h0) ?_
    rintro e v7 ⟨y24, rfl, hx24, hb6⟩
    replace hx24 : NIntV v7 (· ≠ P) _ _ := hx24.dd fun b (hb : _ ≤ b) e => by have := hP.lt; omega
    replace hx0 := hx0.below hb6
    replace hx10 := hx10.below hb6
    replace hx11 := hx11.below hb6
    replace hx21 := hx21.below hb6
    replace hx22 := hx22.below hb6
    replace hP := keepA hP hb6 hP.lt
    obtain ⟨n24, A24, m24, c24, rfl, hx24⟩ := hx24.shp
    replace hs := hs.trans (hb6.mono hs.size)
    refine ⟨_, rfl, fun _ => hs, ?_⟩
    simp only [sIB, List.set]
    obtain ⟨r0, r1, f0, f1⟩ := hP.c2
    refine goU_step (by rfl) ?_
    go_wp2_with fail
    try (refine ⟨fun h => absurd h (by decide), ?_⟩)
    refine goU_nilN ?_
    exact HQ.out _ P _ _ _ _ _ _ _ _ _ _ _ _ _ _ _ _ _ _ _ _ _ _ _ _ _ (Bx.put hP hx24 (fun h => h rfl)) hPw ((hs.setCell (p := ⟨P, 0, none⟩) hPw _).setCell (p := ⟨P, 1, none⟩) hPw _)
  ·go_wp2_with fail
   obtain ⟨v2, hv2⟩ : ∃ V, V = v1.alloc (.cells #[.bool false, .slice none 0 0] 40) := ⟨_, rfl⟩
   obtain ⟨P, hPe⟩ : ∃ P, P = v1.heap.size := ⟨_, rfl⟩
   have hP : Arr v2 P 40 [.bool false, .slice none 0 0] := by rw [hv2, hPe]; exact Arr.new v1 _ [.bool false, .slice none 0 0]
   have hb1 : Below v1.heap.size v1 v2 := by rw [hv2]; exact (Below.refl _ _).alloc (Nat.le_refl _) _
   have hPw : w.heap.size ≤ P := by rw [hPe]; exact hs.size
   rw [← hv2, ← hPe]
   clear hv2 hPe
   replace hx0 := hx0.below hb1
   replace hs := hs.trans (hb1.mono hs.size)
   first | refine ⟨fun _ => hs, ?_⟩ | refine ⟨hs, ?_⟩
   refine goU_call 49 (by rfl) (by rfl) (by rfl) (by go_simp) (HV2 _ hs) ?_
   rintro e v3 ⟨y10, rfl, hx10, hb2⟩
   replace hx0 := hx0.below hb2
   replace hP := keepA hP hb2 hP.lt
   replace hs := hs.trans (hb2.mono hs.size)
   refine ⟨_, rfl, fun _ => hs, ?_⟩
   simp only [sIB, List.set]
   refine goU_call 50 (by rfl) (by rfl) (by rfl) (by go_simp) (Mul_any hx0.int hx10.int (by decide) (by omega)) ?_
   rintro e v4 ⟨y11, rfl, hx11, hb3⟩
   replace hx0 := hx0.below hb3
   replace hx10 := hx10.below hb3
   replace hP := keepA hP hb3 hP.lt
   replace hs := hs.trans (hb3.mono hs.size)
   refine ⟨_, rfl, fun _ => hs, ?_⟩
   simp only [sIB, List.set]
   refine goU_call 60 (by rfl) (by rfl) (by rfl) (by go_simp) (HV1 _ hs) ?_
   rintro e v5 ⟨y21, rfl, hx21, hb4⟩
   replace hx0 := hx0.below hb4
   replace hx10 := hx10.below hb4
   replace hx11 := hx11.below hb4
   replace hP := keepA hP hb4 hP.lt
   replace hs := hs.trans (hb4.mono hs.size)
   refine ⟨_, rfl, fun _ => hs, ?_⟩
   simp only [sIB, List.set]
   refine goU_call 61 (by rfl) (by rfl) (by rfl) (by go_simp) (Add_any hx11.int hx21.int (by omega) (by omega)) ?_
   rintro e v6 ⟨y22, rfl, hx22, hb5⟩
   replace hx0 := hx0.below hb5
   replace hx10 := hx10.below hb5
   replace hx11 := hx11.below hb5
   replace hx21 := hx21.below hb5
   replace hP := keepA hP hb5 hP.lt
   replace hs := hs.trans (hb5.mono hs.size)
   refine ⟨_, rfl, fun _ => hs, ?_⟩
   simp only [sIB, List.set]
   refine goU_call 63 (by rfl) (by rfl) (by rfl) (by go_simp) (wQuo_any hx22.int (h7.below hs).int (by omega) (by omega) h0) ?_
   rintro e v7 ⟨y24, rfl, hx24, hb6⟩
   replace hx24 : NIntV v7 (· ≠ P) _ _ := hx24.dd fun b (hb : _ ≤ b) e => by have := hP.lt; omega
   replace hx0 := hx0.below hb6
   replace hx10 := hx10.below hb6
   replace hx11 := hx11.below hb6
   replace hx21 := hx21.below hb6
   replace hx22 := hx22.below hb6
   replace hP := keepA hP hb6 hP.lt
   obtain ⟨n24, A24, m24, c24, rfl, hx24⟩ := hx24.shp
   replace hs := hs.trans (hb6.mono hs.size)
   refine ⟨_, rfl, fun _ => hs, ?_⟩
   simp only [sIB, List.set]
   obtain ⟨r0, r1, f0, f1⟩ := hP.c2
   refine goU_step (by rfl) ?_
   go_wp2_with fail
   try (refine ⟨fun h => absurd h (by decide), ?_⟩)
   refine goU_nilN ?_
   exact HQ.out _ P _ _ _ _ _ _ _ _ _ _ _ _ _ _ _ _ _ _ _ _ _ _ _ _ _ (Bx.put hP hx24 (fun h => h rfl)) hPw ((hs.setCell (p := ⟨P, 0, none⟩) hPw _).setCell (p := ⟨P, 1, none⟩) hPw _)
 ·go_wp2_with fail
  obtain ⟨v1, hv1⟩ : ∃ V, V = v0.alloc (.cells #[.bool false, .slice none 0 0] 40) := ⟨_, rfl⟩
  obtain ⟨P, hPe⟩ : ∃ P, P = v0.heap.size := ⟨_, rfl⟩
  have hP : Arr v1 P 40 [.bool false, .slice none 0 0] := by rw [hv1, hPe]; exact Arr.new v0 _ [.bool false, .slice none 0 0]
  have hb0 : Below v0.heap.size v0 v1 := by rw [hv1]; exact (Below.refl _ _).alloc (Nat.le_refl _) _
  have hPw : w.heap.size ≤ P := by rw [hPe]; exact hs.size
  rw [← hv1, ← hPe]
  clear hv1 hPe
  replace hs := hs.trans (hb0.mono hs.size)
  first | refine ⟨fun _ => hs, ?_⟩ | refine ⟨hs, ?_⟩
  refine goU_call 39 (by rfl) (by rfl) (by rfl) (by go_simp) (Of_any 2 _ (by omega) (by omega)) ?_
  rintro e v2 ⟨y0, rfl, hx0, hb1⟩
  replace hP := keepA hP hb1 hP.lt
  replace hs := hs.trans (hb1.mono hs.size)
  refine ⟨_, rfl, fun _ => hs, ?_⟩
  simp only [sIB, List.set]
  refine goU_call 49 (by rfl) (by rfl) (by rfl) (by go_simp) (HV2 _ hs) ?_
  rintro e v3 ⟨y10, rfl, hx10, hb2⟩
  replace hx0 := hx0.below hb2
  replace hP := keepA hP hb2 hP.lt
  replace hs := hs.trans (hb2.mono hs.size)
  refine ⟨_, rfl, fun _ => hs, ?_⟩
  simp only [sIB, List.set]
  refine goU_call 50 (by rfl) (by rfl) (by rfl) (by go_simp) (Mul_any hx0.int hx10.int (by decide) (by omega)) ?_
  rintro e v4 ⟨y11, rfl, hx11, hb3⟩
  replace hx0 := hx0.below hb3
  replace hx10 := hx10.below hb3
  replace hP := keepA hP hb3 hP.lt
  replace hs := hs.trans (hb3.mono hs.size)
  refine ⟨_, rfl, fun _ => hs, ?_⟩
  simp only [sIB, List.set]
  refine goU_call 60 (by rfl) (by rfl) (by rfl) (by go_simp) (HV1 _ hs) ?_
  rintro e v5 ⟨y21, rfl, hx21, hb4⟩
  replace hx0 := hx0.below hb4
  replace hx10 := hx10.below hb4
  replace hx11 := hx11.below hb4
  replace hP := keepA hP hb4 hP.lt
  replace hs := hs.trans (hb4.mono hs.size)
  refine ⟨_, rfl, fun _ => hs, ?_⟩
  simp only [sIB, List.set]
  refine goU_call 61 (by rfl) (by rfl) (by rfl) (by go_simp) (Add_any hx11.int hx21.int (by omega) (by omega)) ?_
  rintro e v6 ⟨y22, rfl, hx22, hb5⟩
  replace hx0 := hx0.below hb5
  replace hx10 := hx10.below hb5
  replace hx11 := hx11.below hb5
  replace hx21 := hx21.below hb5
  replace hP := keepA hP hb5 hP.lt
  replace hs := hs.trans (hb5.mono hs.size)
  refine ⟨_, rfl, fun _ => hs, ?_⟩
  simp only [sIB, List.set]
  refine goU_call 63 (by rfl) (by rfl) (by rfl) (by go_simp) (wQuo_any hx22.int (h7.below hs).int (by omega) (by omega) h0) ?_
  rintro e v7 ⟨y24, rfl, hx24, hb6⟩
  replace hx24 : NIntV v7 (· ≠ P) _ _ := hx24.dd fun b (hb : _ ≤ b) e => by have := hP.lt; omega
  replace hx0 := hx0.below hb6
  replace hx10 := hx10.below hb6
  replace hx11 := hx11.below hb6
  replace hx21 := hx21.below hb6
  replace hx22 := hx22.below hb6
  replace hP := keepA hP hb6 hP.lt
  obtain ⟨n24, A24, m24, c24, rfl, hx24⟩ := hx24.shp
  replace hs := hs.trans (hb6.mono hs.size)
  refine ⟨_, rfl, fun _ => hs, ?_⟩
  simp only [sIB, List.set]
  obtain ⟨r0, r1, f0, f1⟩ := hP.c2
  refine goU_step (by rfl) ?_
  go_wp2_with fail
  try (refine ⟨fun h => absurd h (by decide), ?_⟩)
  refine goU_nilN ?_
  exact HQ.out _ P _ _ _ _ _ _ _ _ _ _ _ _ _ _ _ _ _ _ _ _ _ _ _ _ _ (Bx.put hP hx24 (fun h => h rfl)) hPw ((hs.setCell (p := ⟨P, 0, none⟩) hPw _).setCell (p := ⟨P, 1, none⟩) hPw _)
end Go.Proofs.YtdjpeimecfhdjaaGreat
