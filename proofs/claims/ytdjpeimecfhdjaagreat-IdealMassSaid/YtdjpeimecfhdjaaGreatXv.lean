/- Package wide: drawn regions of the walk over short vectors: the room, the rest, the next number. -/
import Derived.Test.YtdjpeimecfhdjaaGreatXu
import Derived.Test.YtdjpeimecfhdjaaGreatXn
namespace Go.Proofs.YtdjpeimecfhdjaaGreat
open Go.RowKit
theorem NIntV.clr {w : World} {D : Nat → Prop} {v : Value} {x : Int} {P : Nat} {neg : Bool} {B : Option Addr} {m k : Nat} (h : NIntV w D v x) (hP : Arr w P 40 [.bool neg, .slice B m k]) : NIntV w (fun b => D b ∧ b ≠ P) v x := by
 obtain ⟨A, c, e, h1⟩ := h
 refine ⟨A, c, e, h1.len, h1.cap, h1.room, h1.small, fun hn => ?_⟩
 obtain ⟨b, off, e2, hd, hc⟩ := h1.cells hn
 refine ⟨b, off, e2, ⟨hd, ?_⟩, hc⟩
 rintro rfl
 have h2 := hc 0 hn
 have h3 := hP.cell (off + 0)
 rw [h2] at h3
 match off with
 | 0 => simp at h3
 | 1 => simp at h3
 | o + 2 => simp at h3
def BT (w : World) (P : Nat) (x : Int) : Prop := Bx w P (fun _ => True) x
theorem BT.below {w w' : World} {P : Nat} {x : Int} (h : BT w P x) (hb : Below w.heap.size w w') : BT w' P x := Bx.below h hb
theorem Bx.bt {w : World} {D : Nat → Prop} {P : Nat} {x : Int} (h : Bx w P D x) : BT w P x := Bx.mono h fun _ _ _ => trivial
theorem BT.lt {w : World} {P : Nat} {x : Int} (h : BT w P x) : P < w.heap.size := by
 obtain ⟨_, _, _, _, h1, _⟩ := h
 exact h1.lt
theorem BT.other {w w' : World} {P Q : Nat} {x y : Int} (h : BT w P x) (hQ : BT w Q y) (hf : Frm (· = Q) w w') (hne : P ≠ Q) : BT w' P x := by
 obtain ⟨_, _, _, _, h1, h2⟩ := h
 obtain ⟨_, _, _, _, h3, _⟩ := hQ
 exact ⟨_, _, _, _, hf.arr h1 hne, (hf.nint (h2.clr h3) fun b hb => hb.2).mono fun _ _ _ => trivial⟩
theorem Frm.put2 (w : World) (P : Nat) (a b : Value) : Frm (· = P) w ((w.setCell ⟨P, 0, none⟩ a).setCell ⟨P, 1, none⟩ b) := (Frm.setCell (O := (· = P)) (p := ⟨P, 0, none⟩) (fun _ => rfl) a).trans (Frm.setCell (O := (· = P)) (p := ⟨P, 1, none⟩) (fun _ => rfl) b)
theorem StV.at {w : World} {D : Nat → Prop} {A : Option Addr} {n c : Nat} {S : List Stg} (h : StV w D (.slice A n c) S) {j : Nat} {s : Stg} (hs : S[j]? = some s) : ∃ b off A1 q1 c1 neg B m k, A = some ⟨b, off, none⟩ ∧ w.cell? ⟨b, off + j * 3, none⟩ = some (.slice A1 q1 c1) ∧ w.cell? ⟨b, off + j * 3 + 1, none⟩ = some (.bool neg) ∧ w.cell? ⟨b, off + j * 3 + 2, none⟩ = some (.slice B m k) ∧ RowsD PvD w D (.slice A1 q1 c1) s.1 ∧ NIntV w D (.agg #[.bool neg, .slice B m k]) s.2 := by
 obtain ⟨A', c', e, h⟩ := h
 injection e with e1 e2 e3
 subst e1
 obtain ⟨b, off, A1, q1, c1, neg, B, m, k, k1, _, k2, k3, k4, k5, k6⟩ := h j s hs
 exact ⟨b, off, A1, q1, c1, neg, B, m, k, k1, k2, k3, k4, k5, k6⟩
theorem stL_at {g : List (List Int)} {b : Int} {m j : Nat} (h : j < m) : (stL g b m)[j]? = some (gS g j, bS g b j) := by
 unfold stL
 rw [List.getElem?_map, List.getElem?_range h]
 rfl
theorem fitR_drop {l : List Int} (h : fitR l = true) (k : Nat) : fitR (l.drop k) = true := List.all_eq_true.mpr fun _ hx => fitR_mem h (List.mem_of_mem_drop hx)
theorem wl_vl {g : List (List Int)} {x : List Int} (hg : fitM g = true) (hx : fitR x = true) (hn : x.length ≤ 1000) : wl (vl g x x).natAbs ≤ 1012000 := by
 have h := wl_vlS hg hx hx x.length
 have h2 : x.length * x.length ≤ 1000 * 1000 := Nat.mul_le_mul hn hn
 unfold vl
 omega
noncomputable def reg7C : Code := (regOf 7 ((Tryz.f189.body).getD .skip)).getD .skip
set_option maxRecDepth 100000 in
set_option maxHeartbeats 4000000 in
theorem reg7 {w : World} {Q : Exit → Act → World → Prop} {p : WkP} {xs : List Int} {j J P : Nat} {r : Int} {t1 t3 t4 t6 t7 t8 t9 t10 t12 t13 t14 t15 t16 t17 t18 t19 t20 t21 t22 t23 t24 t25 t26 t27 t28 t29 t30 t31 t32 t33 t34 t35 t36 t37 t38 t39 t40 t41 t42 t43 t44 t45 t46 t47 t48 t49 t50 t51 t52 t53 t54 t55 t56 t57 t58 t59 t60 t61 t62 t63 t64 t65 t66 t67 t68 t69 t70 t71 t72 t73 t74 t75 t76 t77 t78 t79 t80 t81 t82 t83 t84 t85 t86 t87 t88 t89 t90 t91 t92 t93 t94 t95 t96 t97 t98 t99 t100 t101 t102 t103 t104 t105 t106 t107 t108 t109 t110 t111 t112 t113 t114 t115 t116 t117 t118 t119 t120 t121 t122 t123 t124 t125 t126 t127 t128 t129 t130 t131 t132 t133 : Value}
  (hI : WkI p w) (hX : PvD w (fun _ => True) (.slice (some ⟨p.GX, 0, none⟩) p.n p.n) xs) (hS : WkS p) (hJ : Hid (J = j + 1)) (hJn : J < p.n) (hR : BT w P r) (hl : wl r.natAbs ≤ 100000) (hfx : fitR xs = true)
  (hQ : ∀ (w' : World) (u53 u54 u55 u56 u57 u58 u59 u60 u61 u62 u63 u64 u65 u66 u67 u68 u69 : Value), Bx w' P (w.heap.size ≤ ·) (r - vl (gS p.H J) (xs.drop J) (xs.drop J)) → Frm (· = P) w w' → Q .normal ⟨#[.int .i64 (j : Nat), t1, .pointer (some ⟨p.x, 0, none⟩), t3, t4, .pointer (some ⟨p.a, 0, none⟩), t6, t7, t8, t9, t10, .pointer (some ⟨P, 0, none⟩), t12, t13, t14, t15, t16, t17, t18, t19, t20, t21, t22, t23, t24, t25, t26, t27, t28, t29, t30, t31, t32, t33, t34, t35, t36, t37, t38, t39, t40, t41, t42, t43, t44, t45, t46, t47, t48, t49, t50, t51, t52, u53, u54, u55, u56, u57, u58, u59, u60, u61, u62, u63, u64, u65, u66, u67, u68, u69, t70, t71, t72, t73, t74, t75, t76, t77, t78, t79, t80, t81, t82, t83, t84, t85, t86, t87, t88, t89, t90, t91, t92, t93, t94, t95, t96, t97, t98, t99, t100, t101, t102, t103, t104, t105, t106, t107, t108, t109, t110, t111, t112, t113, t114, t115, t116, t117, t118, t119, t120, t121, t122, t123, t124, t125, t126, t127, t128, t129, t130, t131, t132, t133], []⟩ w') :
  (reg7C).wp Tryz.prog Q ⟨#[.int .i64 (j : Nat), t1, .pointer (some ⟨p.x, 0, none⟩), t3, t4, .pointer (some ⟨p.a, 0, none⟩), t6, t7, t8, t9, t10, .pointer (some ⟨P, 0, none⟩), t12, t13, t14, t15, t16, t17, t18, t19, t20, t21, t22, t23, t24, t25, t26, t27, t28, t29, t30, t31, t32, t33, t34, t35, t36, t37, t38, t39, t40, t41, t42, t43, t44, t45, t46, t47, t48, t49, t50, t51, t52, t53, t54, t55, t56, t57, t58, t59, t60, t61, t62, t63, t64, t65, t66, t67, t68, t69, t70, t71, t72, t73, t74, t75, t76, t77, t78, t79, t80, t81, t82, t83, t84, t85, t86, t87, t88, t89, t90, t91, t92, t93, t94, t95, t96, t97, t98, t99, t100, t101, t102, t103, t104, t105, t106, t107, t108, t109, t110, t111, t112, t113, t114, t115, t116, t117, t118, t119, t120, t121, t122, t123, t124, t125, t126, t127, t128, t129, t130, t131, t132, t133], []⟩ w := by
 have HQ := Lib.hid hQ
 clear hQ
 show Code.wp _ (Code.region 7 (List.toArray _) true) _ _ _
 obtain ⟨v0, hv0⟩ : ∃ v0, v0 = w.drew := ⟨_, rfl⟩
 have hs : Below w.heap.size w v0 := by rw [hv0]; exact (Below.refl _ _).drew
 have cx := hI.cx
 have ca := hI.ca
 obtain ⟨nb, Ab, mb, cb, hP, hr0⟩ := hR
 have hPl := hP.lt
 obtain ⟨r0, r1, f0, f1⟩ := hP.c2
 obtain ⟨bA, offA, A1, q1, c1, neg, B, m, kk, eA, k2, k3, k4, hG, hB⟩ := hI.A.at (stL_at (g := p.H) (b := p.b) hJn)
 rw [eA] at ca
 have hn1 := hS.n1
 have hshp := gS_shp (RowsD.room hI.H).1.symm hS.H J
 have hq1 : q1 = p.n - J := by rw [(RowsD.room hG).1, hshp.1]
 have hft := (hS.fit J hJn).1
 have hxd := hX.drop hJn
 have hxl : xs.length = p.n := hX.len
 have hfd := fitR_drop hfx J
 have a1 : (0 : Int) ≤ (J : Int) := by omega
 have a4 : ¬ p.n = J := by omega
 have wJ : IntKind.i64.wrap ((j : Int) + 1) = (J : Int) := by
  have := hJ.out
  rw [IntWalk.i64_in _ (by omega)]
  omega
 rw [Nat.zero_add] at hxd
 replace hG : RowsD PvD w p.N (.slice A1 q1 c1) (gS p.H J) := hG
 have a2 : (J : Int) < (p.n : Int) := by omega
 have a3 : (J : Int) ≤ (p.n : Int) := by omega
 have hdl : (xs.drop J).length ≤ 1000 := by rw [List.length_drop]; omega
 have hwv := wl_vl hft hfd hdl
 have hrows : ∀ i, i < p.n - J → p.n - J ≤ (rw_ (gS p.H J) i).length := fun i hi => by rw [hshp.2 _ (rw_mem (by rw [hshp.1]; exact hi))]; exact Nat.le_refl _
 refine wp_region_yld 1 (.read 0 (.read 1 (.read 2 (.read 3 (.read 4 (.read 5 (.read 6 (.read 7 (.read 8 (.read 9 (.read 10 (.read 11 (.read 12 (.read 13 (.read 14 (.step 15 (.step 16 (.step 17 .nil)))))))))))))))))) [17] (by kernel_rfl) (by rfl) (by kernel_rfl) (by kernel_rfl) (fun V => Below w.heap.size w V) ?_
 change goY _ _ _ _ _ _ _ _ w.drew
 rw [← hv0]
 clear hv0
 refine goY_read 53 hs (by rfl) (by rfl) ?_ (by rfl) (fun wz hSw => ?_) ?_
 rotate_left
 ·have e0 := keepB hSw r0; have e1 := keepB hSw r1; go_simp
  try with_reducible rfl
 simp only [sIB, List.set]
 refine goY_read 54 hs (by rfl) (by rfl) ?_ (by rfl) (fun wz hSw => ?_) ?_
 rotate_left
 ·have e0 := keepB hSw ca; go_simp
  try with_reducible rfl
 simp only [sIB, List.set]
 refine goY_read 55 hs (by rfl) (by rfl) ?_ (by rfl) (fun wz hSw => ?_) ?_
 rotate_left
 ·go_simp
  try with_reducible rfl
 simp only [sIB, List.set]
 refine goY_read 56 hs (by rfl) (by rfl) (.int .i64 (J : Nat)) (by rfl) (fun wz hSw => ?_) ?_
 ·go_simp
  try exact wJ
 simp only [sIB, List.set]
 refine goY_read 57 hs (by rfl) (by rfl) ?_ (by rfl) (fun wz hSw => ?_) ?_
 rotate_left
 ·go_simp
  try with_reducible rfl
 simp only [sIB, List.set]
 refine goY_read 58 hs (by rfl) (by rfl) ?_ (by rfl) (fun wz hSw => ?_) ?_
 rotate_left
 ·go_simp
  try with_reducible rfl
 simp only [sIB, List.set]
 refine goY_read 59 hs (by rfl) (by rfl) ?_ (by rfl) (fun wz hSw => ?_) ?_
 rotate_left
 ·have e0 := keepB hSw k2; go_simp
  try with_reducible rfl
 simp only [sIB, List.set]
 refine goY_read 60 hs (by rfl) (by rfl) ?_ (by rfl) (fun wz hSw => ?_) ?_
 rotate_left
 ·have e0 := keepB hSw cx; go_simp
  try with_reducible rfl
 simp only [sIB, List.set]
 refine goY_read 61 hs (by rfl) (by rfl) ?_ (by rfl) (fun wz hSw => ?_) ?_
 rotate_left
 ·go_simp
  try with_reducible rfl
 simp only [sIB, List.set]
 refine goY_read 62 hs (by rfl) (by rfl) (.int .i64 (J : Nat)) (by rfl) (fun wz hSw => ?_) ?_
 ·go_simp
  try exact wJ
 simp only [sIB, List.set]
 refine goY_read 63 hs (by rfl) (by rfl) ?_ (by rfl) (fun wz hSw => ?_) ?_
 rotate_left
 ·go_simp
  try with_reducible rfl
 simp only [sIB, List.set]
 refine goY_read 64 hs (by rfl) (by rfl) ?_ (by rfl) (fun wz hSw => ?_) ?_
 rotate_left
 ·have e0 := keepB hSw cx; go_simp
  try with_reducible rfl
 simp only [sIB, List.set]
 refine goY_read 65 hs (by rfl) (by rfl) ?_ (by rfl) (fun wz hSw => ?_) ?_
 rotate_left
 ·go_simp
  try with_reducible rfl
 simp only [sIB, List.set]
 refine goY_read 66 hs (by rfl) (by rfl) (.int .i64 (J : Nat)) (by rfl) (fun wz hSw => ?_) ?_
 ·go_simp
  try exact wJ
 simp only [sIB, List.set]
 refine goY_read 67 hs (by rfl) (by rfl) ?_ (by rfl) (fun wz hSw => ?_) ?_
 rotate_left
 ·go_simp
  try with_reducible rfl
 simp only [sIB, List.set]
 refine goY_call 68 (by rfl) (by rfl) (by rfl) (by go_simp) (value_any (RowsD.below (RowsD.t hG) hs) (hxd.below hs) (hxd.below hs) (by omega) hrows (by omega) (by omega) (by omega) hft hfd hfd) ?_
 rintro e v1 ⟨y15, rfl, hx15, hb0⟩
 replace hs := hs.trans (hb0.mono hs.size)
 refine ⟨_, rfl, fun _ => hs, fun V => Below w.heap.size w V, fun _ h => h, ?_⟩
 simp only [sIB, List.set]
 have hsP := hs
 refine goY_call 69 (by rfl) (by rfl) (by rfl) (by go_simp) (Sub_any (hr0.below hs).int hx15.int (by omega) (by omega)) ?_
 rintro e v2 ⟨y16, rfl, hx16, hb1⟩
 replace hx15 := hx15.below hb1
 replace hs := hs.trans (hb1.mono hs.size)
 refine ⟨_, rfl, fun _ => hs, fun V => Below w.heap.size w V, fun _ h => h, ?_⟩
 simp only [sIB, List.set]
 obtain ⟨n16, A16, m16, c16, rfl, hx16⟩ := hx16.shp
 have hP9 := keepA hP hs hPl
 obtain ⟨r0, r1, f0, f1⟩ := hP9.c2
 refine goY_step (by rfl) ?_
 go_wp2_with fail
 first | refine ⟨fun V => Below w.heap.size w V, fun _ h => h, goY_nil ?_⟩ | refine ⟨fun h => absurd h (by decide), fun V => Below w.heap.size w V, fun _ h => h, goY_nil ?_⟩
 exact HQ.out _ _ _ _ _ _ _ _ _ _ _ _ _ _ _ _ _ _ (Bx.mono (Bx.put hP9 hx16 (fun h : v1.heap.size ≤ P => by have := hsP.size; omega)) fun b (h : v1.heap.size ≤ b) _ => by have := hsP.size; show w.heap.size ≤ b; omega) ((Frm.of_below hs).trans (Frm.put2 v2 P _ _))
noncomputable def reg11C : Code := (regOf 11 ((Tryz.f189.body).getD .skip)).getD .skip
set_option maxRecDepth 100000 in
set_option maxHeartbeats 4000000 in
theorem reg11 {w : World} {Q : Exit → Act → World → Prop} {p : WkP} {xs : List Int} {j k t n q S P : Nat} {r : Int} {A1 : Option Addr} {c1 : Nat} {G : List (List Int)} {t1 t3 t4 t5 t6 t7 t8 t10 t11 t14 t15 t16 t17 t18 t19 t20 t21 t22 t23 t24 t25 t26 t27 t28 t29 t30 t31 t32 t33 t34 t35 t36 t37 t38 t39 t40 t41 t42 t43 t44 t45 t46 t47 t48 t49 t50 t51 t52 t53 t54 t55 t56 t57 t58 t59 t60 t61 t62 t63 t64 t65 t66 t67 t68 t69 t70 t71 t72 t73 t74 t75 t76 t77 t78 t79 t80 t81 t82 t83 t84 t85 t86 t87 t88 t89 t90 t91 t92 t93 t94 t95 t96 t97 t98 t99 t100 t101 t102 t103 t104 t105 t106 t107 t108 t109 t110 t111 t112 t113 t114 t115 t116 t117 t118 t119 t120 t121 t122 t123 t124 t125 t126 t127 t128 t129 t130 t131 t132 t133 : Value}
  (hI : WkI p w) (hX : PvD w (fun _ => True) (.slice (some ⟨p.GX, 0, none⟩) p.n p.n) xs) (hS : WkS p) (ht : Hid (k = j + t)) (htn : t < n) (hkn : k < p.n) (s0 : w.cell? ⟨S, 0, none⟩ = some (.slice A1 q c1)) (hG : RowsD PvD w (fun _ => True) (.slice A1 q c1) G) (hq : 0 < q) (hrl : (rw_ G 0).length = n) (hfg : fitM G = true) (hR : BT w P r) (hl : wl r.natAbs ≤ 100000) (hfx : fitR xs = true)
  (hQ : ∀ (w' : World) (u78 u79 u80 u81 u82 u83 u84 u85 u86 u87 u88 u89 u90 u91 u92 u93 : Value), Bx w' P (w.heap.size ≤ ·) (r + gm G 0 t * gz xs k) → Frm (· = P) w w' → Q .normal ⟨#[.int .i64 (j : Nat), t1, .pointer (some ⟨p.x, 0, none⟩), t3, t4, t5, t6, t7, t8, .pointer (some ⟨S, 0, none⟩), t10, t11, .pointer (some ⟨P, 0, none⟩), .int .i64 (k : Nat), t14, t15, t16, t17, t18, t19, t20, t21, t22, t23, t24, t25, t26, t27, t28, t29, t30, t31, t32, t33, t34, t35, t36, t37, t38, t39, t40, t41, t42, t43, t44, t45, t46, t47, t48, t49, t50, t51, t52, t53, t54, t55, t56, t57, t58, t59, t60, t61, t62, t63, t64, t65, t66, t67, t68, t69, t70, t71, t72, t73, t74, t75, t76, t77, u78, u79, u80, u81, u82, u83, u84, u85, u86, u87, u88, u89, u90, u91, u92, u93, t94, t95, t96, t97, t98, t99, t100, t101, t102, t103, t104, t105, t106, t107, t108, t109, t110, t111, t112, t113, t114, t115, t116, t117, t118, t119, t120, t121, t122, t123, t124, t125, t126, t127, t128, t129, t130, t131, t132, t133], []⟩ w') :
  (reg11C).wp Tryz.prog Q ⟨#[.int .i64 (j : Nat), t1, .pointer (some ⟨p.x, 0, none⟩), t3, t4, t5, t6, t7, t8, .pointer (some ⟨S, 0, none⟩), t10, t11, .pointer (some ⟨P, 0, none⟩), .int .i64 (k : Nat), t14, t15, t16, t17, t18, t19, t20, t21, t22, t23, t24, t25, t26, t27, t28, t29, t30, t31, t32, t33, t34, t35, t36, t37, t38, t39, t40, t41, t42, t43, t44, t45, t46, t47, t48, t49, t50, t51, t52, t53, t54, t55, t56, t57, t58, t59, t60, t61, t62, t63, t64, t65, t66, t67, t68, t69, t70, t71, t72, t73, t74, t75, t76, t77, t78, t79, t80, t81, t82, t83, t84, t85, t86, t87, t88, t89, t90, t91, t92, t93, t94, t95, t96, t97, t98, t99, t100, t101, t102, t103, t104, t105, t106, t107, t108, t109, t110, t111, t112, t113, t114, t115, t116, t117, t118, t119, t120, t121, t122, t123, t124, t125, t126, t127, t128, t129, t130, t131, t132, t133], []⟩ w := by
 have HQ := Lib.hid hQ
 clear hQ
 show Code.wp _ (Code.region 11 (List.toArray _) true) _ _ _
 obtain ⟨v0, hv0⟩ : ∃ v0, v0 = w.drew := ⟨_, rfl⟩
 have hs : Below w.heap.size w v0 := by rw [hv0]; exact (Below.refl _ _).drew
 have cx := hI.cx
 obtain ⟨nb, Ab, mb, cb, hP, hr0⟩ := hR
 have hPl := hP.lt
 obtain ⟨r0, r1, f0, f1⟩ := hP.c2
 obtain ⟨bA, offA, u, eA, hcu, hu⟩ := RowsD.at hG (rw_some (L := G) (i := 0) (by rw [← (RowsD.room hG).1]; omega))
 obtain ⟨Au, cu, rfl⟩ := hu.slice_
 rw [hrl] at hcu hu
 obtain ⟨bu, ou, eu, hgc⟩ := PvD.all hu (by omega)
 obtain ⟨ng, Ag, mg, cg, g1, g2, g3⟩ := hgc t (by omega)
 obtain ⟨bx, ox, ex, hxc⟩ := PvD.all hX (by omega)
 obtain ⟨nx, Ax, mx, c9, x1, x2, x3⟩ := hxc k (by omega)
 injection ex with ex
 injection ex with ex ey ez
 subst ex ey eA eu
 rw [Nat.zero_add] at x1 x2
 rw [Nat.add_zero] at hcu
 clear hgc hxc ez
 have hn1 := hS.n1
 have a1 : (0 : Int) ≤ (t : Int) := by omega
 have a2 : (t : Int) < ((n : Nat) : Int) := by omega
 have a3 : (0 : Int) ≤ (k : Int) := by omega
 have a4 : (k : Int) < (p.n : Int) := by omega
 have hq0 : (0 : Int) < (q : Int) := by omega
 have wT : IntKind.i64.wrap ((k : Int) - (j : Int)) = (t : Int) := by
  have := ht.out
  rw [IntWalk.i64_in _ (by omega)]
  omega
 have hw1 := fit_wl (fitR_gz (fitM_rw hfg 0) t)
 have hw2 := fit_wl (fitR_gz hfx k)
 have hw3 := wl_mulI (gz (rw_ G 0) t) (gz xs k)
 refine wp_region_yld 1 (.read 0 (.read 1 (.read 2 (.read 3 (.read 4 (.read 5 (.read 6 (.read 7 (.read 8 (.read 9 (.read 10 (.read 11 (.read 12 (.read 13 (.step 14 (.step 15 (.step 16 .nil))))))))))))))))) [16] (by kernel_rfl) (by rfl) (by kernel_rfl) (by kernel_rfl) (fun V => Below w.heap.size w V) ?_
 change goY _ _ _ _ _ _ _ _ w.drew
 rw [← hv0]
 clear hv0
 refine goY_read 78 hs (by rfl) (by rfl) ?_ (by rfl) (fun wz hSw => ?_) ?_
 rotate_left
 ·have e0 := keepB hSw r0; have e1 := keepB hSw r1; go_simp
  try with_reducible rfl
 simp only [sIB, List.set]
 refine goY_read 79 hs (by rfl) (by rfl) ?_ (by rfl) (fun wz hSw => ?_) ?_
 rotate_left
 ·go_simp
  try with_reducible rfl
 simp only [sIB, List.set]
 refine goY_read 80 hs (by rfl) (by rfl) ?_ (by rfl) (fun wz hSw => ?_) ?_
 rotate_left
 ·have e0 := keepB hSw s0; go_simp
  try with_reducible rfl
 simp only [sIB, List.set]
 refine goY_read 81 hs (by rfl) (by rfl) ?_ (by rfl) (fun wz hSw => ?_) ?_
 rotate_left
 ·go_simp
  try with_reducible rfl
 simp only [sIB, List.set]
 refine goY_read 82 hs (by rfl) (by rfl) ?_ (by rfl) (fun wz hSw => ?_) ?_
 rotate_left
 ·have e0 := keepB hSw hcu; go_simp
  try with_reducible rfl
 simp only [sIB, List.set]
 refine goY_read 83 hs (by rfl) (by rfl) ?_ (by rfl) (fun wz hSw => ?_) ?_
 rotate_left
 ·go_simp
  try with_reducible rfl
 simp only [sIB, List.set]
 refine goY_read 84 hs (by rfl) (by rfl) ?_ (by rfl) (fun wz hSw => ?_) ?_
 rotate_left
 ·go_simp
  try with_reducible rfl
 simp only [sIB, List.set]
 refine goY_read 85 hs (by rfl) (by rfl) (.int .i64 (t : Nat)) (by rfl) (fun wz hSw => ?_) ?_
 ·go_simp
  try exact wT
 simp only [sIB, List.set]
 refine goY_read 86 hs (by rfl) (by rfl) ?_ (by rfl) (fun wz hSw => ?_) ?_
 rotate_left
 ·go_simp
  try with_reducible rfl
 simp only [sIB, List.set]
 refine goY_read 87 hs (by rfl) (by rfl) ?_ (by rfl) (fun wz hSw => ?_) ?_
 rotate_left
 ·have e0 := keepB hSw g1; have e1 := keepB hSw g2; go_simp
  try with_reducible rfl
 simp only [sIB, List.set]
 refine goY_read 88 hs (by rfl) (by rfl) ?_ (by rfl) (fun wz hSw => ?_) ?_
 rotate_left
 ·have e0 := keepB hSw cx; go_simp
  try with_reducible rfl
 simp only [sIB, List.set]
 refine goY_read 89 hs (by rfl) (by rfl) ?_ (by rfl) (fun wz hSw => ?_) ?_
 rotate_left
 ·go_simp
  try with_reducible rfl
 simp only [sIB, List.set]
 refine goY_read 90 hs (by rfl) (by rfl) ?_ (by rfl) (fun wz hSw => ?_) ?_
 rotate_left
 ·go_simp
  try with_reducible rfl
 simp only [sIB, List.set]
 refine goY_read 91 hs (by rfl) (by rfl) ?_ (by rfl) (fun wz hSw => ?_) ?_
 rotate_left
 ·have e0 := keepB hSw x1; have e1 := keepB hSw x2; go_simp
  try with_reducible rfl
 simp only [sIB, List.set]
 refine goY_call 92 (by rfl) (by rfl) (by rfl) (by go_simp) (Mul_any (g3.below hs).int (x3.below hs).int (by omega) (by omega)) ?_
 rintro e v1 ⟨y14, rfl, hx14, hb0⟩
 replace hs := hs.trans (hb0.mono hs.size)
 refine ⟨_, rfl, fun _ => hs, fun V => Below w.heap.size w V, fun _ h => h, ?_⟩
 simp only [sIB, List.set]
 have hsP := hs
 refine goY_call 93 (by rfl) (by rfl) (by rfl) (by go_simp) (Add_any (hr0.below hs).int hx14.int (by omega) (by omega)) ?_
 rintro e v2 ⟨y15, rfl, hx15, hb1⟩
 replace hx14 := hx14.below hb1
 replace hs := hs.trans (hb1.mono hs.size)
 refine ⟨_, rfl, fun _ => hs, fun V => Below w.heap.size w V, fun _ h => h, ?_⟩
 simp only [sIB, List.set]
 obtain ⟨n15, A15, m15, c15, rfl, hx15⟩ := hx15.shp
 have hP9 := keepA hP hs hPl
 obtain ⟨r0, r1, f0, f1⟩ := hP9.c2
 refine goY_step (by rfl) ?_
 go_wp2_with fail
 first | refine ⟨fun V => Below w.heap.size w V, fun _ h => h, goY_nil ?_⟩ | refine ⟨fun h => absurd h (by decide), fun V => Below w.heap.size w V, fun _ h => h, goY_nil ?_⟩
 exact HQ.out _ _ _ _ _ _ _ _ _ _ _ _ _ _ _ _ _ (Bx.mono (Bx.put hP9 hx15 (fun h : v1.heap.size ≤ P => by have := hsP.size; omega)) fun b (h : v1.heap.size ≤ b) _ => by have := hsP.size; show w.heap.size ≤ b; omega) ((Frm.of_below hs).trans (Frm.put2 v2 P _ _))
noncomputable def reg18C : Code := (regOf 18 ((Tryz.f189.body).getD .skip)).getD .skip
set_option maxRecDepth 100000 in
set_option maxHeartbeats 4000000 in
theorem reg18 {w : World} {Q : Exit → Act → World → Prop} {P : Nat} {r : Int} {t0 t1 t2 t3 t4 t5 t6 t7 t8 t9 t10 t11 t12 t13 t14 t15 t16 t17 t19 t20 t21 t22 t23 t24 t25 t26 t27 t28 t29 t30 t31 t32 t33 t34 t35 t36 t37 t38 t39 t40 t41 t42 t43 t44 t45 t46 t47 t48 t49 t50 t51 t52 t53 t54 t55 t56 t57 t58 t59 t60 t61 t62 t63 t64 t65 t66 t67 t68 t69 t70 t71 t72 t73 t74 t75 t76 t77 t78 t79 t80 t81 t82 t83 t84 t85 t86 t87 t88 t89 t90 t91 t92 t93 t94 t95 t96 t97 t98 t99 t100 t101 t102 t103 t104 t105 t106 t107 t108 t109 t110 t111 t112 t113 t114 t115 t116 t117 t118 t119 t120 t121 t122 t123 t124 t125 t126 t127 t128 t129 t130 t131 t132 t133 : Value}
  (hR : BT w P r) (hl : wl r.natAbs ≤ 100000)
  (hQ : ∀ (w' : World) (u117 u118 u119 : Value), Bx w' P (w.heap.size ≤ ·) (r + 1) → Frm (· = P) w w' → Q .normal ⟨#[t0, t1, t2, t3, t4, t5, t6, t7, t8, t9, t10, t11, t12, t13, t14, t15, t16, t17, .pointer (some ⟨P, 0, none⟩), t19, t20, t21, t22, t23, t24, t25, t26, t27, t28, t29, t30, t31, t32, t33, t34, t35, t36, t37, t38, t39, t40, t41, t42, t43, t44, t45, t46, t47, t48, t49, t50, t51, t52, t53, t54, t55, t56, t57, t58, t59, t60, t61, t62, t63, t64, t65, t66, t67, t68, t69, t70, t71, t72, t73, t74, t75, t76, t77, t78, t79, t80, t81, t82, t83, t84, t85, t86, t87, t88, t89, t90, t91, t92, t93, t94, t95, t96, t97, t98, t99, t100, t101, t102, t103, t104, t105, t106, t107, t108, t109, t110, t111, t112, t113, t114, t115, t116, u117, u118, u119, t120, t121, t122, t123, t124, t125, t126, t127, t128, t129, t130, t131, t132, t133], []⟩ w') :
  (reg18C).wp Tryz.prog Q ⟨#[t0, t1, t2, t3, t4, t5, t6, t7, t8, t9, t10, t11, t12, t13, t14, t15, t16, t17, .pointer (some ⟨P, 0, none⟩), t19, t20, t21, t22, t23, t24, t25, t26, t27, t28, t29, t30, t31, t32, t33, t34, t35, t36, t37, t38, t39, t40, t41, t42, t43, t44, t45, t46, t47, t48, t49, t50, t51, t52, t53, t54, t55, t56, t57, t58, t59, t60, t61, t62, t63, t64, t65, t66, t67, t68, t69, t70, t71, t72, t73, t74, t75, t76, t77, t78, t79, t80, t81, t82, t83, t84, t85, t86, t87, t88, t89, t90, t91, t92, t93, t94, t95, t96, t97, t98, t99, t100, t101, t102, t103, t104, t105, t106, t107, t108, t109, t110, t111, t112, t113, t114, t115, t116, t117, t118, t119, t120, t121, t122, t123, t124, t125, t126, t127, t128, t129, t130, t131, t132, t133], []⟩ w := by
 have HQ := Lib.hid hQ
 clear hQ
 show Code.wp _ (Code.region 18 (List.toArray _) true) _ _ _
 obtain ⟨v0, hv0⟩ : ∃ v0, v0 = w.drew := ⟨_, rfl⟩
 have hs : Below w.heap.size w v0 := by rw [hv0]; exact (Below.refl _ _).drew
 obtain ⟨nb, Ab, mb, cb, hP, hr0⟩ := hR
 have hPl := hP.lt
 obtain ⟨r0, r1, f0, f1⟩ := hP.c2
 have hw1 : wl (1 : Int).natAbs ≤ 1000 := by decide +kernel
 refine wp_region_yld 1 (.read 0 (.step 1 (.step 2 (.step 3 .nil)))) [3] (by kernel_rfl) (by rfl) (by kernel_rfl) (by kernel_rfl) (fun V => Below w.heap.size w V) ?_
 change goY _ _ _ _ _ _ _ _ w.drew
 rw [← hv0]
 clear hv0
 refine goY_read 117 hs (by rfl) (by rfl) ?_ (by rfl) (fun wz hSw => ?_) ?_
 rotate_left
 ·have e0 := keepB hSw r0; have e1 := keepB hSw r1; go_simp
  try with_reducible rfl
 simp only [sIB, List.set]
 refine goY_call 118 (by rfl) (by rfl) (by rfl) (by go_simp) (Of_any 1 _ (by omega) (by omega)) ?_
 rintro e v1 ⟨y1, rfl, hx1, hb0⟩
 replace hs := hs.trans (hb0.mono hs.size)
 refine ⟨_, rfl, fun _ => hs, fun V => Below w.heap.size w V, fun _ h => h, ?_⟩
 simp only [sIB, List.set]
 have hsP := hs
 refine goY_call 119 (by rfl) (by rfl) (by rfl) (by go_simp) (Add_any (hr0.below hs).int hx1.int (by omega) (by omega)) ?_
 rintro e v2 ⟨y2, rfl, hx2, hb1⟩
 replace hx1 := hx1.below hb1
 replace hs := hs.trans (hb1.mono hs.size)
 refine ⟨_, rfl, fun _ => hs, fun V => Below w.heap.size w V, fun _ h => h, ?_⟩
 simp only [sIB, List.set]
 obtain ⟨n2, A2, m2, c2, rfl, hx2⟩ := hx2.shp
 have hP9 := keepA hP hs hPl
 obtain ⟨r0, r1, f0, f1⟩ := hP9.c2
 refine goY_step (by rfl) ?_
 go_wp2_with fail
 first | refine ⟨fun V => Below w.heap.size w V, fun _ h => h, goY_nil ?_⟩ | refine ⟨fun h => absurd h (by decide), fun V => Below w.heap.size w V, fun _ h => h, goY_nil ?_⟩
 exact HQ.out _ _ _ _ (Bx.mono (Bx.put hP9 hx2 (fun h : v1.heap.size ≤ P => by have := hsP.size; omega)) fun b (h : v1.heap.size ≤ b) _ => by have := hsP.size; show w.heap.size ≤ b; omega) ((Frm.of_below hs).trans (Frm.put2 v2 P _ _))
end Go.Proofs.YtdjpeimecfhdjaaGreat
