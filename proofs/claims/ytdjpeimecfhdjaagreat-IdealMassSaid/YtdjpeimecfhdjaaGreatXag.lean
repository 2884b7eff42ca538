/- Package ideal: elements of a norm: the first region. -/
import Derived.Test.YtdjpeimecfhdjaaGreatXaf
import Derived.Test.YtdjpeimecfhdjaaGreatXae
import Derived.Test.YtdjpeimecfhdjaaGreatXz
import Derived.Test.YtdjpeimecfhdjaaGreatXp
namespace Go.Proofs.YtdjpeimecfhdjaaGreat
open Go.RowKit Go.Shelf
theorem wl_2 : wl (2 : Int).natAbs = 1 := by decide +kernel
noncomputable def elreg1C : Code := (regOf 1 ((Tryz.f103.body).getD .skip)).getD .skip
set_option maxRecDepth 100000 in
set_option maxHeartbeats 4000000 in
theorem elreg1 {w : World} {Q : Exit → Act → World → Prop} {S3 S4 S5 S6 S7 qR cR md kd mn kn me ke : Nat} {AR Ad An Ae : Option Addr} {nd nn ne : Bool} {aA aB d num : Int} {t8 t9 t10 t11 t12 t13 t14 t15 t16 t17 t18 t19 t20 t21 t22 t23 t24 t25 t26 t27 t28 t29 t30 t31 t32 t33 t34 t35 t36 t37 t38 t39 t40 t41 t42 t43 t44 t45 t46 t47 t48 t49 t50 t51 t52 t53 t54 t55 t56 t57 t58 t59 t60 t61 t62 t63 t64 t65 t66 t67 t68 t69 t70 t71 t72 t73 t74 t75 t76 t77 t78 t79 t80 t81 t82 : Value}
  (a3 : w.cell? ⟨S3, 3, none⟩ = some (.bool nd)) (a4 : w.cell? ⟨S3, 4, none⟩ = some (.slice Ad md kd)) (b0 : w.cell? ⟨S4, 0, none⟩ = some (.bool nn)) (b1 : w.cell? ⟨S4, 1, none⟩ = some (.slice An mn kn)) (hd : Hid (NIntV w (fun _ => True) (.agg #[.bool nd, .slice Ad md kd]) d)) (hn : Hid (NIntV w (fun _ => True) (.agg #[.bool nn, .slice An mn kn]) num)) (hwd : wl d.natAbs ≤ 4000) (hwn : wl num.natAbs ≤ 4000)
  (hQ : ∀ (w' : World) (P : Nat) (u18 u19 u20 u21 u22 u23 u24 u25 u26 u27 : Value), Bx w' P (· ≠ P) (2 * (num * (d * d))) → w.heap.size ≤ P → Below w.heap.size w w' → Q .normal ⟨#[.agg #[.int .i64 aA, .int .i64 aB, .slice AR qR cR, .bool nd, .slice Ad md kd], .agg #[.bool nn, .slice An mn kn, .bool ne, .slice Ae me ke], .int .i64 20000, .pointer (some ⟨S3, 0, none⟩), .pointer (some ⟨S4, 0, none⟩), .pointer (some ⟨S5, 0, none⟩), .pointer (some ⟨S6, 0, none⟩), .pointer (some ⟨S7, 0, none⟩), .pointer (some ⟨P, 0, none⟩), t9, t10, t11, t12, t13, t14, t15, t16, t17, u18, u19, u20, u21, u22, u23, u24, u25, u26, u27, t28, t29, t30, t31, t32, t33, t34, t35, t36, t37, t38, t39, t40, t41, t42, t43, t44, t45, t46, t47, t48, t49, t50, t51, t52, t53, t54, t55, t56, t57, t58, t59, t60, t61, t62, t63, t64, t65, t66, t67, t68, t69, t70, t71, t72, t73, t74, t75, t76, t77, t78, t79, t80, t81, t82], []⟩ w') :
  (elreg1C).wp Tryz.prog Q ⟨#[.agg #[.int .i64 aA, .int .i64 aB, .slice AR qR cR, .bool nd, .slice Ad md kd], .agg #[.bool nn, .slice An mn kn, .bool ne, .slice Ae me ke], .int .i64 20000, .pointer (some ⟨S3, 0, none⟩), .pointer (some ⟨S4, 0, none⟩), .pointer (some ⟨S5, 0, none⟩), .pointer (some ⟨S6, 0, none⟩), .pointer (some ⟨S7, 0, none⟩), t8, t9, t10, t11, t12, t13, t14, t15, t16, t17, t18, t19, t20, t21, t22, t23, t24, t25, t26, t27, t28, t29, t30, t31, t32, t33, t34, t35, t36, t37, t38, t39, t40, t41, t42, t43, t44, t45, t46, t47, t48, t49, t50, t51, t52, t53, t54, t55, t56, t57, t58, t59, t60, t61, t62, t63, t64, t65, t66, t67, t68, t69, t70, t71, t72, t73, t74, t75, t76, t77, t78, t79, t80, t81, t82], []⟩ w := by
 have HQ := Lib.hid hQ
 clear hQ
 show Code.wp _ (Code.region 1 (List.toArray _) true) _ _ _
 obtain ⟨v0, hv0⟩ : ∃ v0, v0 = w.drew := ⟨_, rfl⟩
 have hs : Below w.heap.size w v0 := by rw [hv0]; exact (Below.refl _ _).drew
 refine wp_region_tq5 (.read 1 (.read 2 (.read 3 (.read 4 (.read 5 (.read 6 (.two 0 10 (.two 7 10 (.two 8 10 (.two 9 10 (.step 10 (.step 11 .nil)) (.step 9 (.step 11 .nil))) (.step 8 (.step 9 (.step 11 .nil)))) (.step 7 (.step 8 (.step 9 (.step 11 .nil))))) (.step 0 (.step 7 (.step 8 (.step 9 (.step 11 .nil)))))))))))) [11] (by kernel_rfl) (by rfl) (by kernel_rfl) (by kernel_rfl) (fun V => Below w.heap.size w V) ?_
 change goU _ _ _ _ _ _ _ w.drew
 rw [← hv0]
 clear hv0
 refine goU_read 19 hs (by rfl) (by rfl) ?_ (by rfl) (fun wz hSw => ?_) ?_
 rotate_left
 ·have e0 := keepB hSw a3; have e1 := keepB hSw a4; have e2 := keepB hSw b0; have e3 := keepB hSw b1; go_simp
  try with_reducible rfl
 simp only [sIB, List.set]
 refine goU_read 20 hs (by rfl) (by rfl) ?_ (by rfl) (fun wz hSw => ?_) ?_
 rotate_left
 ·have e0 := keepB hSw a3; have e1 := keepB hSw a4; have e2 := keepB hSw b0; have e3 := keepB hSw b1; go_simp
  try with_reducible rfl
 simp only [sIB, List.set]
 refine goU_read 21 hs (by rfl) (by rfl) ?_ (by rfl) (fun wz hSw => ?_) ?_
 rotate_left
 ·have e0 := keepB hSw a3; have e1 := keepB hSw a4; have e2 := keepB hSw b0; have e3 := keepB hSw b1; go_simp
  try with_reducible rfl
 simp only [sIB, List.set]
 refine goU_read 22 hs (by rfl) (by rfl) ?_ (by rfl) (fun wz hSw => ?_) ?_
 rotate_left
 ·have e0 := keepB hSw a3; have e1 := keepB hSw a4; have e2 := keepB hSw b0; have e3 := keepB hSw b1; go_simp
  try with_reducible rfl
 simp only [sIB, List.set]
 refine goU_read 23 hs (by rfl) (by rfl) ?_ (by rfl) (fun wz hSw => ?_) ?_
 rotate_left
 ·have e0 := keepB hSw a3; have e1 := keepB hSw a4; have e2 := keepB hSw b0; have e3 := keepB hSw b1; go_simp
  try with_reducible rfl
 simp only [sIB, List.set]
 refine goU_read 24 hs (by rfl) (by rfl) ?_ (by rfl) (fun wz hSw => ?_) ?_
 rotate_left
 ·have e0 := keepB hSw a3; have e1 := keepB hSw a4; have e2 := keepB hSw b0; have e3 := keepB hSw b1; go_simp
  try with_reducible rfl
 simp only [sIB, List.set]
 refine goU_two (by rfl) (by rfl) ?_ ?_
 ·refine goU_call1 18 (by rfl) (by rfl) (by go_simp) (Of_any (2 : Int) _ (by omega) (by omega)) ?_
  rintro e v1 ⟨y0, rfl, hx0, hb0⟩
  replace hs := hs.trans (hb0.mono hs.size)
  refine ⟨_, rfl, fun _ => hs, ?_⟩
  simp only [sIB, List.set]
  refine goU_two (by rfl) (by rfl) ?_ ?_
  ·refine goU_call1 25 (by rfl) (by rfl) (by go_simp) (Mul_any (hd.out.below hs).int (hd.out.below hs).int (by omega) (by omega)) ?_
   rintro e v2 ⟨y7, rfl, hx7, hb1⟩
   replace hx0 := hx0.below hb1
   replace hs := hs.trans (hb1.mono hs.size)
   refine ⟨_, rfl, fun _ => hs, ?_⟩
   simp only [sIB, List.set]
   refine goU_two (by rfl) (by rfl) ?_ ?_
   ·refine goU_call1 26 (by rfl) (by rfl) (by go_simp) (Mul_any (hn.out.below hs).int hx7.int (by omega) (by have := wl_mulI d d; omega)) ?_
    rintro e v3 ⟨y8, rfl, hx8, hb2⟩
    replace hx0 := hx0.below hb2
    replace hx7 := hx7.below hb2
    replace hs := hs.trans (hb2.mono hs.size)
    refine ⟨_, rfl, fun _ => hs, ?_⟩
    simp only [sIB, List.set]
    refine goU_two (by rfl) (by rfl) ?_ ?_
    ·refine goU_call1 27 (by rfl) (by rfl) (by go_simp) (Mul_any hx0.int hx8.int (by have := wl_2; omega) (by have := wl_mulI d d; have := wl_mulI num (d * d); omega)) ?_
     rintro e v4 ⟨y9, rfl, hx9, hb3⟩
     replace hx0 := hx0.below hb3
     replace hx7 := hx7.below hb3
     replace hx8 := hx8.below hb3
     obtain ⟨n9, A9, m9, c9, rfl, hx9⟩ := hx9.shp
     replace hs := hs.trans (hb3.mono hs.size)
     refine ⟨_, rfl, fun _ => hs, ?_⟩
     simp only [sIB, List.set]
     refine goU_step (by rfl) ?_
     go_wp2_with fail
     obtain ⟨v5, hv5⟩ : ∃ V, V = v4.alloc (.cells #[.bool false, .slice none 0 0] 40) := ⟨_, rfl⟩
     obtain ⟨P, hPe⟩ : ∃ P, P = v4.heap.size := ⟨_, rfl⟩
     have hP : Arr v5 P 40 [.bool false, .slice none 0 0] := by rw [hv5, hPe]; exact Arr.new v4 _ [.bool false, .slice none 0 0]
     have hb4 : Below v4.heap.size v4 v5 := by rw [hv5]; exact (Below.refl _ _).alloc (Nat.le_refl _) _
     have hPw : w.heap.size ≤ P := by rw [hPe]; exact hs.size
     rw [← hv5, ← hPe]
     replace hx9 : NIntV v4 (· ≠ P) _ _ := hx9.mono fun b hb hl => by omega
     clear hv5 hPe
     replace hx0 := hx0.below hb4
     replace hx7 := hx7.below hb4
     replace hx8 := hx8.below hb4
     replace hx9 := hx9.below hb4
     replace hs := hs.trans (hb4.mono hs.size)
     first | refine ⟨fun _ => hs, ?_⟩ | refine ⟨hs, ?_⟩
     obtain ⟨r0, r1, f0, f1⟩ := hP.c2
     refine goU_step (by rfl) ?_
     go_wp2_with fail
     try (refine ⟨fun h => absurd h (by decide), ?_⟩)
     refine goU_nilN ?_
     exact HQ.out _ P _ _ _ _ _ _ _ _ _ _ (Bx.put hP hx9 (fun h => h rfl)) hPw ((hs.setCell (p := ⟨P, 0, none⟩) hPw _).setCell (p := ⟨P, 1, none⟩) hPw _)
    ·go_wp2_with fail
     obtain ⟨v4, hv4⟩ : ∃ V, V = v3.alloc (.cells #[.bool false, .slice none 0 0] 40) := ⟨_, rfl⟩
     obtain ⟨P, hPe⟩ : ∃ P, P = v3.heap.size := ⟨_, rfl⟩
     have hP : Arr v4 P 40 [.bool false, .slice none 0 0] := by rw [hv4, hPe]; exact Arr.new v3 _ [.bool false, .slice none 0 0]
     have hb3 : Below v3.heap.size v3 v4 := by rw [hv4]; exact (Below.refl _ _).alloc (Nat.le_refl _) _
     have hPw : w.heap.size ≤ P := by rw [hPe]; exact hs.size
     rw [← hv4, ← hPe]
     clear hv4 hPe
     replace hx0 := hx0.below hb3
     replace hx7 := hx7.below hb3
     replace hx8 := hx8.below hb3
     replace hs := hs.trans (hb3.mono hs.size)
     first | refine ⟨fun _ => hs, ?_⟩ | refine ⟨hs, ?_⟩
     refine goU_call 27 (by rfl) (by rfl) (by rfl) (by go_simp) (Mul_any hx0.int hx8.int (by have := wl_2; omega) (by have := wl_mulI d d; have := wl_mulI num (d * d); omega)) ?_
     rintro e v5 ⟨y9, rfl, hx9, hb4⟩
     replace hx9 : NIntV v5 (· ≠ P) _ _ := hx9.dd fun b (hb : _ ≤ b) e => by have := hP.lt; omega
     replace hx0 := hx0.below hb4
     replace hx7 := hx7.below hb4
     replace hx8 := hx8.below hb4
     replace hP := keepA hP hb4 hP.lt
     obtain ⟨n9, A9, m9, c9, rfl, hx9⟩ := hx9.shp
     replace hs := hs.trans (hb4.mono hs.size)
     refine ⟨_, rfl, fun _ => hs, ?_⟩
     simp only [sIB, List.set]
     obtain ⟨r0, r1, f0, f1⟩ := hP.c2
     refine goU_step (by rfl) ?_
     go_wp2_with fail
     try (refine ⟨fun h => absurd h (by decide), ?_⟩)
     refine goU_nilN ?_
     exact HQ.out _ P _ _ _ _ _ _ _ _ _ _ (Bx.put hP hx9 (fun h => h rfl)) hPw ((hs.setCell (p := ⟨P, 0, none⟩) hPw _).setCell (p := ⟨P, 1, none⟩) hPw _)
   ·go_wp2_with fail
    obtain ⟨v3, hv3⟩ : ∃ V, V = v2.alloc (.cells #[.bool false, .slice none 0 0] 40) := ⟨_, rfl⟩
    obtain ⟨P, hPe⟩ : ∃ P, P = v2.heap.size := ⟨_, rfl⟩
    have hP : Arr v3 P 40 [.bool false, .slice none 0 0] := by rw [hv3, hPe]; exact Arr.new v2 _ [.bool false, .slice none 0 0]
    have hb2 : Below v2.heap.size v2 v3 := by rw [hv3]; exact (Below.refl _ _).alloc (Nat.le_refl _) _
    have hPw : w.heap.size ≤ P := by rw [hPe]; exact hs.size
    rw [← hv3, ← hPe]
    clear hv3 hPe
    replace hx0 := hx0.below hb2
    replace hx7 := hx7.below hb2
    replace hs := hs.trans (hb2.mono hs.size)
    first | refine ⟨fun _ => hs, ?_⟩ | refine ⟨hs, ?_⟩
    refine goU_call 26 (by rfl) (by rfl) (by rfl) (by go_simp) (Mul_any (hn.out.below hs).int hx7.int (by omega) (by have := wl_mulI d d; omega)) ?_
    rintro e v4 ⟨y8, rfl, hx8, hb3⟩
    replace hx0 := hx0.below hb3
    replace hx7 := hx7.below hb3
    replace hP := keepA hP hb3 hP.lt
    replace hs := hs.trans (hb3.mono hs.size)
    refine ⟨_, rfl, fun _ => hs, ?_⟩
    simp only [sIB, List.set]
    refine goU_call 27 (by rfl) (by rfl) (by rfl) (by go_simp) (Mul_any hx0.int hx8.int (by have := wl_2; omega) (by have := wl_mulI d d; have := wl_mulI num (d * d); omega)) ?_
    rintro e v5 ⟨y9, rfl, hx9, hb4⟩
    replace hx9 : NIntV v5 (· ≠ P) _ _ := hx9.dd fun b (hb : _ ≤ b) e => by have := hP.lt; omega
    replace hx0 := hx0.below hb4
    replace hx7 := hx7.below hb4
    replace hx8 := hx8.below hb4
    replace hP := keepA hP hb4 hP.lt
    obtain ⟨n9, A9, m9, c9, rfl, hx9⟩ := hx9.shp
    replace hs := hs.trans (hb4.mono hs.size)
    refine ⟨_, rfl, fun _ => hs, ?_⟩
    simp only [sIB, List.set]
    obtain ⟨r0, r1, f0, f1⟩ := hP.c2
    refine goU_step (by rfl) ?_
    go_wp2_with fail
    try (refine ⟨fun h => absurd h (by decide), ?_⟩)
    refine goU_nilN ?_
    exact HQ.out _ P _ _ _ _ _ _ _ _ _ _ (Bx.put hP hx9 (fun h => h rfl)) hPw ((hs.setCell (p := ⟨P, 0, none⟩) hPw _).setCell (p := ⟨P, 1, none⟩) hPw _)
  ·go_wp2_with fail
   obtain ⟨v2, hv2⟩ : ∃ V, V = v1.alloc (.cells #[.bool false, .slice none 0 0] 40) := ⟨_, rfl⟩
   obtain ⟨P, hPe⟩ : ∃ P, P = v1.heap.size := ⟨_, rfl⟩
   have hP : Arr v2 P 40 [.bool false, .slice none 0 0] := by rw [hv2, hPe]; exact Arr.new v1 _ [.bool false, .slice none 0 0]
   have hb1 : Below v1.heap.size v1 v2 := by rw [hv2]; exact (Below.refl _ _).alloc (Nat.le_refl _) _
   have hPw : w.heap.size ≤ P := by rw [hPe]; exact hs.size
   rw [← hv2, ← hPe]
   clear hv2 hPe
   replace hx0 := hx0.below hb1
   replace hs := hs.trans (hb1.mono hs.size)
   first | refine ⟨fun _ => hs, ?_⟩ | refine ⟨hs, ?_⟩
   refine goU_call 25 (by rfl) (by rfl) (by rfl) (by go_simp) (Mul_any (hd.out.below hs).int (hd.out.below hs).int (by omega) (by omega)) ?_
   rintro e v3 ⟨y7, rfl, hx7, hb2⟩
   replace hx0 := hx0.below hb2
   replace hP := keepA hP hb2 hP.lt
   replace hs := hs.trans (hb2.mono hs.size)
   refine ⟨_, rfl, fun _ => hs, ?_⟩
   simp only [sIB, List.set]
   refine goU_call 26 (by rfl) (by rfl) (by rfl) (by go_simp) (Mul_any (hn.out.below hs).int hx7.int (by omega) (by have := wl_mulI d d; omega)) ?_
   rintro e v4 ⟨y8, rfl, hx8, hb3⟩
   replace hx0 := hx0.below hb3
   replace hx7 := hx7.below hb3
   replace hP := keepA hP hb3 hP.lt
   replace hs := hs.trans (hb3.mono hs.size)
   refine ⟨_, rfl, fun _ => hs, ?_⟩
   simp only [sIB, List.set]
   refine goU_call 27 (by rfl) (by rfl) (by rfl) (by go_simp) (Mul_any hx0.int hx8.int (by have := wl_2; omega) (by have := wl_mulI d d; have := wl_mulI num (d * d); omega)) ?_
   rintro e v5 ⟨y9, rfl, hx9, hb4⟩
   replace hx9 : NIntV v5 (· ≠ P) _ _ := hx9.dd fun b (hb : _ ≤ b) e => by have := hP.lt; omega
   replace hx0 := hx0.below hb4
   replace hx7 := hx7.below hb4
   replace hx8 := hx8.below hb4
   replace hP := keepA hP hb4 hP.lt
   obtain ⟨n9, A9, m9, c9, rfl, hx9⟩ := hx9.shp
   replace hs := hs.trans (hb4.mono hs.size)
   refine ⟨_, rfl, fun _ => hs, ?_⟩
   simp only [sIB, List.set]
   obtain ⟨r0, r1, f0, f1⟩ := hP.c2
   refine goU_step (by rfl) ?_
   go_wp2_with fail
   try (refine ⟨fun h => absurd h (by decide), ?_⟩)
   refine goU_nilN ?_
   exact HQ.out _ P _ _ _ _ _ _ _ _ _ _ (Bx.put hP hx9 (fun h => h rfl)) hPw ((hs.setCell (p := ⟨P, 0, none⟩) hPw _).setCell (p := ⟨P, 1, none⟩) hPw _)
 ·go_wp2_with fail
  obtain ⟨v1, hv1⟩ : ∃ V, V = v0.alloc (.cells #[.bool false, .slice none 0 0] 40) := ⟨_, rfl⟩
  obtain ⟨P, hPe⟩ : ∃ P, P = v0.heap.size := ⟨_, rfl⟩
  have hP : Arr v1 P 40 [.bool false, .slice none 0 0] := by rw [hv1, hPe]; exact Arr.new v0 _ [.bool false, .slice none 0 0]
  have hb0 : Below v0.heap.size v0 v1 := by rw [hv1]; exact (Below.refl _ _).alloc (Nat.le_refl _) _
  have hPw : w.heap.size ≤ P := by rw [hPe]; exact hs.size
  rw [← hv1, ← hPe]
  clear hv1 hPe
  replace hs := hs.trans (hb0.mono hs.size)
  first | refine ⟨fun _ => hs, ?_⟩ | refine ⟨hs, ?_⟩
  refine goU_call 18 (by rfl) (by rfl) (by rfl) (by go_simp) (Of_any (2 : Int) _ (by omega) (by omega)) ?_
  rintro e v2 ⟨y0, rfl, hx0, hb1⟩
  replace hP := keepA hP hb1 hP.lt
  replace hs := hs.trans (hb1.mono hs.size)
  refine ⟨_, rfl, fun _ => hs, ?_⟩
  simp only [sIB, List.set]
  refine goU_call 25 (by rfl) (by rfl) (by rfl) (by go_simp) (Mul_any (hd.out.below hs).int (hd.out.below hs).int (by omega) (by omega)) ?_
  rintro e v3 ⟨y7, rfl, hx7, hb2⟩
  replace hx0 := hx0.below hb2
  replace hP := keepA hP hb2 hP.lt
  replace hs := hs.trans (hb2.mono hs.size)
  refine ⟨_, rfl, fun _ => hs, ?_⟩
  simp only [sIB, List.set]
  refine goU_call 26 (by rfl) (by rfl) (by rfl) (by go_simp) (Mul_any (hn.out.below hs).int hx7.int (by omega) (by have := wl_mulI d d; omega)) ?_
  rintro e v4 ⟨y8, rfl, hx8, hb3⟩
  replace hx0 := hx0.below hb3
  replace hx7 := hx7.below hb3
  replace hP := keepA hP hb3 hP.lt
  replace hs := hs.trans (hb3.mono hs.size)
  refine ⟨_, rfl, fun _ => hs, ?_⟩
  simp only [sIB, List.set]
  refine goU_call 27 (by rfl) (by rfl) (by rfl) (by go_simp) (Mul_any hx0.int hx8.int (by have := wl_2; omega) (by have := wl_mulI d d; have := wl_mulI num (d * d); omega)) ?_
  rintro e v5 ⟨y9, rfl, hx9, hb4⟩
  replace hx9 : NIntV v5 (· ≠ P) _ _ := hx9.dd fun b (hb : _ ≤ b) e => by have := hP.lt; omega
  replace hx0 := hx0.below hb4
  replace hx7 := hx7.below hb4
  replace hx8 := hx8.below hb4
  replace hP := keepA hP hb4 hP.lt
  obtain ⟨n9, A9, m9, c9, rfl, hx9⟩ := hx9.shp
  replace hs := hs.trans (hb4.mono hs.size)
  refine ⟨_, rfl, fun _ => hs, ?_⟩
  simp only [sIB, List.set]
  obtain ⟨r0, r1, f0, f1⟩ := hP.c2
  refine goU_step (by rfl) ?_
  go_wp2_with fail
  try (refine ⟨fun h => absurd h (by decide), ?_⟩)
  refine goU_nilN ?_
  exact HQ.out _ P _ _ _ _ _ _ _ _ _ _ (Bx.put hP hx9 (fun h => h rfl)) hPw ((hs.setCell (p := ⟨P, 0, none⟩) hPw _).setCell (p := ⟨P, 1, none⟩) hPw _)
end Go.Proofs.YtdjpeimecfhdjaaGreat
