/- Package ideal: Elements: its fractions. -/
import Derived.Test.YtdjpeimecfhdjaaGreatXai
namespace Go.Proofs.YtdjpeimecfhdjaaGreat
open Go.RowKit
def FrB (w : World) (P : Nat) (num den : Int) : Prop := ∃ n1 A1 m1 c1 n2 A2 m2 c2, Arr w P 140 [.bool n1, .slice A1 m1 c1, .bool n2, .slice A2 m2 c2] ∧ NIntV w (fun _ => True) (.agg #[.bool n1, .slice A1 m1 c1]) num ∧ NIntV w (fun _ => True) (.agg #[.bool n2, .slice A2 m2 c2]) den
theorem FrB.below {w w' : World} {P : Nat} {num den : Int} (h : FrB w P num den) (hb : Below w.heap.size w w') : FrB w' P num den := by
 obtain ⟨n1, A1, m1, c1, n2, A2, m2, c2, h1, h2, h3⟩ := h
 exact ⟨n1, A1, m1, c1, n2, A2, m2, c2, keepA h1 hb h1.lt, h2.below hb, h3.below hb⟩
theorem no32F {w : World} {P : Nat} {t : TypeId} {n1 n2 : Bool} {A1 A2 : Option Addr} {m1 c1 m2 c2 : Nat} (h : Arr w P t [.bool n1, .slice A1 m1 c1, .bool n2, .slice A2 m2 c2]) : ∀ b, b = P → ∀ o x, w.cell? ⟨b, o, none⟩ ≠ some (.int .u32 x) := by
 rintro b rfl o x hx
 have := Arr.cell h o
 rw [hx] at this
 rcases o with _ | _ | _ | _ | o
 ·cases this
 ·cases this
 ·cases this
 ·cases this
 ·simp at this
theorem NIntV.putF {w w' : World} {D : Nat → Prop} {P : Nat} {t : TypeId} {v : Value} {x : Int} {n1 n2 : Bool} {A1 A2 : Option Addr} {m1 c1 m2 c2 : Nat} (h : NIntV w D v x) (ha : Arr w P t [.bool n1, .slice A1 m1 c1, .bool n2, .slice A2 m2 c2]) (hf : Frm (· = P) w w') : NIntV w' (fun _ => True) v x :=
 (hf.nint (h.no32 (no32F ha)) fun _ hb => hb).mono fun _ _ _ => trivial
theorem FrB.other {w w' : World} {P Q : Nat} {t : TypeId} {num den : Int} {n1 n2 : Bool} {A1 A2 : Option Addr} {m1 c1 m2 c2 : Nat} (h : FrB w P num den) (ha : Arr w Q t [.bool n1, .slice A1 m1 c1, .bool n2, .slice A2 m2 c2]) (hf : Frm (· = Q) w w') (hne : P ≠ Q) : FrB w' P num den := by
 obtain ⟨k1, B1, l1, d1, k2, B2, l2, d2, h1, h2, h3⟩ := h
 exact ⟨k1, B1, l1, d1, k2, B2, l2, d2, hf.arr h1 hne, h2.putF ha hf, h3.putF ha hf⟩
theorem frm4 (w : World) (P : Nat) (a b c d : Value) : Frm (· = P) w ((((w.setCell ⟨P, 0, none⟩ a).setCell ⟨P, 1, none⟩ b).setCell ⟨P, 2, none⟩ c).setCell ⟨P, 3, none⟩ d) :=
 (((Frm.setCell (O := (· = P)) (p := ⟨P, 0, none⟩) (fun _ => rfl) a).trans (Frm.setCell (O := (· = P)) (p := ⟨P, 1, none⟩) (fun _ => rfl) b)).trans (Frm.setCell (O := (· = P)) (p := ⟨P, 2, none⟩) (fun _ => rfl) c)).trans (Frm.setCell (O := (· = P)) (p := ⟨P, 3, none⟩) (fun _ => rfl) d)
theorem arr4 {w : World} {P : Nat} {t : TypeId} {x y z u : Value} (h : Arr w P t [x, y, z, u]) (a b c d : Value) : Arr ((((w.setCell ⟨P, 0, none⟩ a).setCell ⟨P, 1, none⟩ b).setCell ⟨P, 2, none⟩ c).setCell ⟨P, 3, none⟩ d) P t [a, b, c, d] := (((h.set_ 0 a).set_ 1 b).set_ 2 c).set_ 3 d
noncomputable def elsr9C : Code := (regOf 9 ((Tryz.f46.body).getD .skip)).getD .skip
set_option maxRecDepth 100000 in
set_option maxHeartbeats 4000000 in
theorem elsr9 {w : World} {Q : Exit → Act → World → Prop} {lo S5 S9 qR cR md kd : Nat} {AR Ad : Option Addr} {nd : Bool} {aA aB d num den : Int} {R : List (List Int)} {t0 t1 t2 t3 t4 t6 t7 t8 t10 t11 t12 t13 t14 t15 t16 t17 t18 t19 t20 t21 t22 t23 t24 t25 t26 t27 t28 t29 t30 t31 t32 t33 t34 t35 t36 t37 t38 t39 t40 t41 t42 t43 t44 t45 t46 t47 t48 t49 t50 t51 t52 t53 t54 t55 t56 t57 t58 t59 t60 t61 t62 t63 t64 t65 : Value}
  (b0 : w.cell? ⟨S5, 0, none⟩ = some (.int .i64 num)) (b1 : w.cell? ⟨S5, 1, none⟩ = some (.int .i64 den)) (hS9 : Arr w S9 136 [.int .i64 aA, .int .i64 aB, .slice AR qR cR, .bool nd, .slice Ad md kd]) (hNI : NetI w lo (.agg #[.int .i64 aA, .int .i64 aB, .slice AR qR cR, .bool nd, .slice Ad md kd]) aA aB R d)
  (hn1 : -9223372036854775808 ≤ num) (hn2 : num ≤ 9223372036854775807) (hd1 : -9223372036854775808 ≤ den) (hd2 : den ≤ 9223372036854775807)
  (h1 : -1000 ≤ aA ∧ aA ≤ 1000) (h2 : -1000 ≤ aB ∧ aB ≤ 1000) (hl : R.length = 4) (h4 : ∀ l ∈ R, l.length = 4) (hf : fitM R = true) (hft : fitM (tms R (formL aA aB)) = true) (hfg : fitM (gramL aA aB R) = true) (hfd : fit d = true) (hd0 : d ≠ 0)
  (hQ : ∀ (w' : World) (P P' : Nat) (u30 u31 u32 u33 u34 u35 u36 u37 u38 : Value), FrB w' P num den → FrB w' P' (nrmM (gramL aA aB R) 4 / (Int.gcd (nrmM (gramL aA aB R) 4) (d * d) : Int)) (d * d / (Int.gcd (nrmM (gramL aA aB R) 4) (d * d) : Int)) → P ≠ P' → w.heap.size ≤ P → w.heap.size ≤ P' → Below w.heap.size w w' → Q .normal ⟨#[t0, t1, t2, t3, t4, .pointer (some ⟨S5, 0, none⟩), t6, t7, t8, .pointer (some ⟨S9, 0, none⟩), t10, .pointer (some ⟨P, 0, none⟩), .pointer (some ⟨P', 0, none⟩), t13, t14, t15, t16, t17, t18, t19, t20, t21, t22, t23, t24, t25, t26, t27, t28, t29, u30, u31, u32, u33, u34, u35, u36, u37, u38, t39, t40, t41, t42, t43, t44, t45, t46, t47, t48, t49, t50, t51, t52, t53, t54, t55, t56, t57, t58, t59, t60, t61, t62, t63, t64, t65], []⟩ w') :
  (elsr9C).wp Tryz.prog Q ⟨#[t0, t1, t2, t3, t4, .pointer (some ⟨S5, 0, none⟩), t6, t7, t8, .pointer (some ⟨S9, 0, none⟩), t10, t11, t12, t13, t14, t15, t16, t17, t18, t19, t20, t21, t22, t23, t24, t25, t26, t27, t28, t29, t30, t31, t32, t33, t34, t35, t36, t37, t38, t39, t40, t41, t42, t43, t44, t45, t46, t47, t48, t49, t50, t51, t52, t53, t54, t55, t56, t57, t58, t59, t60, t61, t62, t63, t64, t65], []⟩ w := by
 have HQ := Lib.hid hQ
 have HNI := Lib.hid hNI
 have HA := Lib.hid h1
 have HB := Lib.hid h2
 have HL := Lib.hid hl
 have HLR := Lib.hid h4
 have HF1 := Lib.hid hf
 have HF2 := Lib.hid hft
 have HF3 := Lib.hid hfg
 have HF4 := Lib.hid hfd
 have HD0 := Lib.hid hd0
 have e0 := hS9.rd (i := 0) rfl
 have e1 := hS9.rd (i := 1) rfl
 have e2 := hS9.rd (i := 2) rfl
 have e3 := hS9.rd (i := 3) rfl
 have e4 := hS9.rd (i := 4) rfl
 generalize hg1 : nrmM (gramL aA aB R) 4 / (Int.gcd (nrmM (gramL aA aB R) 4) (d * d) : Int) = nn1 at *
 generalize hg2 : d * d / (Int.gcd (nrmM (gramL aA aB R) 4) (d * d) : Int) = nn2 at *
 have HG1 := Lib.hid hg1
 have HG2 := Lib.hid hg2
 clear hQ hNI h1 h2 hl h4 hf hft hfg hfd hd0 hS9 hg1 hg2
 show Code.wp _ (Code.region 9 (List.toArray _) true) _ _ _
 obtain ⟨v0, hv0⟩ : ∃ v0, v0 = w.drew := ⟨_, rfl⟩
 have hs : Below w.heap.size w v0 := by rw [hv0]; exact (Below.refl _ _).drew
 refine wp_region_tq5 (.read 0 (.read 1 (.read 3 (.read 4 (.read 7 (.three 2 9 10 (.three 5 9 10 (.read 6 (.three 8 9 10 (.two 9 10 (.step 10 (.step 11 (.step 12 .nil))) (.step 9 (.step 11 (.step 12 .nil)))) (.two 8 10 (.step 10 (.step 11 (.step 12 .nil))) (.step 8 (.step 11 (.step 12 .nil)))) (.two 8 9 (.step 9 (.step 11 (.step 12 .nil))) (.step 8 (.step 11 (.step 12 .nil)))))) (.two 5 10 (.read 6 (.two 8 10 (.step 10 (.step 11 (.step 12 .nil))) (.step 8 (.step 11 (.step 12 .nil))))) (.step 5 (.read 6 (.step 8 (.step 11 (.step 12 .nil)))))) (.two 5 9 (.read 6 (.two 8 9 (.step 9 (.step 11 (.step 12 .nil))) (.step 8 (.step 11 (.step 12 .nil))))) (.step 5 (.read 6 (.step 8 (.step 11 (.step 12 .nil))))))) (.two 2 10 (.two 5 10 (.read 6 (.two 8 10 (.step 10 (.step 11 (.step 12 .nil))) (.step 8 (.step 11 (.step 12 .nil))))) (.step 5 (.read 6 (.step 8 (.step 11 (.step 12 .nil)))))) (.step 2 (.step 5 (.read 6 (.step 8 (.step 11 (.step 12 .nil))))))) (.two 2 9 (.two 5 9 (.read 6 (.two 8 9 (.step 9 (.step 11 (.step 12 .nil))) (.step 8 (.step 11 (.step 12 .nil))))) (.step 5 (.read 6 (.step 8 (.step 11 (.step 12 .nil)))))) (.step 2 (.step 5 (.read 6 (.step 8 (.step 11 (.step 12 .nil))))))))))))) [11, 12] (by kernel_rfl) (by rfl) (by kernel_rfl) (by kernel_rfl) (fun V => Below w.heap.size w V) ?_
 change goU _ _ _ _ _ _ _ w.drew
 rw [← hv0]
 clear hv0
 refine goU_read 30 hs (by rfl) (by rfl) ?_ (by rfl) (fun wz hSw => ?_) ?_
 rotate_left
 ·go_simp
  try with_reducible rfl
 simp only [sIB, List.set]
 refine goU_read 31 hs (by rfl) (by rfl) ?_ (by rfl) (fun wz hSw => ?_) ?_
 rotate_left
 ·have e0 := keepB hSw b0; go_simp
  try with_reducible rfl
 simp only [sIB, List.set]
 refine goU_read 33 hs (by rfl) (by rfl) ?_ (by rfl) (fun wz hSw => ?_) ?_
 rotate_left
 ·go_simp
  try with_reducible rfl
 simp only [sIB, List.set]
 refine goU_read 34 hs (by rfl) (by rfl) ?_ (by rfl) (fun wz hSw => ?_) ?_
 rotate_left
 ·have e0 := keepB hSw b1; go_simp
  try with_reducible rfl
 simp only [sIB, List.set]
 refine goU_read 37 hs (by rfl) (by rfl) ?_ (by rfl) (fun wz hSw => ?_) ?_
 rotate_left
 ·have y0 := keepB hSw e0; have y1 := keepB hSw e1; have y2 := keepB hSw e2; have y3 := keepB hSw e3; have y4 := keepB hSw e4; go_simp
  try with_reducible rfl
 simp only [sIB, List.set]
 refine goU_three (by rfl) (by rfl) (by rfl) ?_ ?_ ?_ 
 ·refine goU_call1 32 (by rfl) (by rfl) (by go_simp) (Of_any num _ hn1 hn2) ?_
  rintro e v1 ⟨y2, rfl, hx2, hb0⟩
  obtain ⟨n2, A2, m2, c2, rfl, hx2⟩ := hx2.shp
  replace hs := hs.trans (hb0.mono hs.size)
  refine ⟨_, rfl, fun _ => hs, ?_⟩
  simp only [sIB, List.set]
  refine goU_three (by rfl) (by rfl) (by rfl) ?_ ?_ ?_ 
  ·refine goU_call1 35 (by rfl) (by rfl) (by go_simp) (Of_any den _ hd1 hd2) ?_
   rintro e v2 ⟨y5, rfl, hx5, hb1⟩
   obtain ⟨n5, A5, m5, c5, rfl, hx5⟩ := hx5.shp
   replace hx2 := hx2.below hb1
   replace hs := hs.trans (hb1.mono hs.size)
   refine ⟨_, rfl, fun _ => hs, ?_⟩
   simp only [sIB, List.set]
   refine goU_read 36 hs (by rfl) (by rfl) ?_ (by rfl) (fun wz hSw => ?_) ?_
   rotate_left
   ·go_simp
    try with_reducible rfl
   simp only [sIB, List.set]
   refine goU_three (by rfl) (by rfl) (by rfl) ?_ ?_ ?_ 
   ·refine goU_call1 38 (by rfl) (by rfl) (by go_simp) (norm_any (HNI.out.below hs) HA.out HB.out HL.out HLR.out HF1.out HF2.out HF3.out HF4.out HD0.out) ?_
    rintro e v3 ⟨y8, rfl, ⟨n8, A8, m8, c8, n9, A9, m9, c9, rfl, hx8, hx9⟩, hb2⟩
    rw [HG1.out] at hx8
    rw [HG2.out] at hx9
    replace hx2 := hx2.below hb2
    replace hx5 := hx5.below hb2
    replace hs := hs.trans (hb2.mono hs.size)
    refine ⟨_, rfl, fun _ => hs, ?_⟩
    simp only [sIB, List.set]
    refine goU_two (by rfl) (by rfl) ?_ ?_ 
    ·go_wp2_with fail
     obtain ⟨v4, hv4⟩ : ∃ V, V = v3.alloc (.cells #[.bool false, .slice none 0 0, .bool false, .slice none 0 0] 140) := ⟨_, rfl⟩
     obtain ⟨P, hXe⟩ : ∃ B, B = v3.heap.size := ⟨_, rfl⟩
     have hP : Arr v4 P 140 [.bool false, .slice none 0 0, .bool false, .slice none 0 0] := by rw [hv4, hXe]; exact Arr.new v3 _ [.bool false, .slice none 0 0, .bool false, .slice none 0 0]
     have hb3 : Below v3.heap.size v3 v4 := by rw [hv4]; exact (Below.refl _ _).alloc (Nat.le_refl _) _
     have hPw : w.heap.size ≤ P := by rw [hXe]; exact hs.size
     rw [← hv4, ← hXe]
     replace hx2 := hx2.below hb3
     replace hx5 := hx5.below hb3
     replace hx8 := hx8.below hb3
     replace hx9 := hx9.below hb3
     clear hv4 hXe
     replace hs := hs.trans (hb3.mono hs.size)
     first | refine ⟨fun _ => hs, ?_⟩ | refine ⟨hs, ?_⟩
     refine goU_step (by rfl) ?_
     go_wp2_with fail
     obtain ⟨v5, hv5⟩ : ∃ V, V = v4.alloc (.cells #[.bool false, .slice none 0 0, .bool false, .slice none 0 0] 140) := ⟨_, rfl⟩
     obtain ⟨P', hXe⟩ : ∃ B, B = v4.heap.size := ⟨_, rfl⟩
     have hR : Arr v5 P' 140 [.bool false, .slice none 0 0, .bool false, .slice none 0 0] := by rw [hv5, hXe]; exact Arr.new v4 _ [.bool false, .slice none 0 0, .bool false, .slice none 0 0]
     have hb4 : Below v4.heap.size v4 v5 := by rw [hv5]; exact (Below.refl _ _).alloc (Nat.le_refl _) _
     have hRw : w.heap.size ≤ P' := by rw [hXe]; exact hs.size
     rw [← hv5, ← hXe]
     have hne : P ≠ P' := by rw [hXe]; exact Nat.ne_of_lt hP.lt
     replace hx2 := hx2.below hb4
     replace hx5 := hx5.below hb4
     replace hx8 := hx8.below hb4
     replace hx9 := hx9.below hb4
     replace hP := keepA hP hb4 hP.lt
     clear hv5 hXe
     replace hs := hs.trans (hb4.mono hs.size)
     first | refine ⟨fun _ => hs, ?_⟩ | refine ⟨hs, ?_⟩
     obtain ⟨q0, q1, q2, q3⟩ : v5.cell? ⟨P, 0, none⟩ = some (.bool false) ∧ v5.cell? ⟨P, 1, none⟩ = some (.slice none 0 0) ∧ v5.cell? ⟨P, 2, none⟩ = some (.bool false) ∧ v5.cell? ⟨P, 3, none⟩ = some (.slice none 0 0) := ⟨hP.cell 0, hP.cell 1, hP.cell 2, hP.cell 3⟩
     have f0 := hP.frozen 0
     have f1 := hP.frozen 1
     have f2 := hP.frozen 2
     have f3 := hP.frozen 3
     refine goU_step (by rfl) ?_
     go_wp2_with fail
     try (refine ⟨fun h => absurd h (by decide), ?_⟩)
     obtain ⟨V1, hV1⟩ : ∃ U, U = (((v5.setCell ⟨P, 0, none⟩ (.bool n2)).setCell ⟨P, 1, none⟩ (.slice A2 m2 c2)).setCell ⟨P, 2, none⟩ (.bool n5)).setCell ⟨P, 3, none⟩ (.slice A5 m5 c5) := ⟨_, rfl⟩
     rw [← hV1]
     have hf1 : Frm (· = P) v5 V1 := by rw [hV1]; exact frm4 v5 P _ _ _ _
     have hP1 : Arr V1 P 140 [.bool n2, .slice A2 m2 c2, .bool n5, .slice A5 m5 c5] := by rw [hV1]; exact arr4 hP _ _ _ _
     have hB1 : FrB V1 P num den := ⟨n2, A2, m2, c2, n5, A5, m5, c5, hP1, hx2.putF hP hf1, hx5.putF hP hf1⟩
     have hR1 := hf1.arr hR (fun e => hne e.symm)
     replace hx8 := hx8.putF hP hf1
     replace hx9 := hx9.putF hP hf1
     have hs1 : Below w.heap.size w V1 := hs.trans (hf1.below (B := w.heap.size) hs.size fun b (e : b = P) => by rw [e]; exact hPw)
     clear hV1 q0 q1 q2 q3 f0 f1 f2 f3
     obtain ⟨q0, q1, q2, q3⟩ : V1.cell? ⟨P', 0, none⟩ = some (.bool false) ∧ V1.cell? ⟨P', 1, none⟩ = some (.slice none 0 0) ∧ V1.cell? ⟨P', 2, none⟩ = some (.bool false) ∧ V1.cell? ⟨P', 3, none⟩ = some (.slice none 0 0) := ⟨hR1.cell 0, hR1.cell 1, hR1.cell 2, hR1.cell 3⟩
     have f0 := hR1.frozen 0
     have f1 := hR1.frozen 1
     have f2 := hR1.frozen 2
     have f3 := hR1.frozen 3
     refine goU_step (by rfl) ?_
     go_wp2_with fail
     try (refine ⟨fun h => absurd h (by decide), ?_⟩)
     obtain ⟨V3, hV3⟩ : ∃ U, U = (((V1.setCell ⟨P', 0, none⟩ (.bool n8)).setCell ⟨P', 1, none⟩ (.slice A8 m8 c8)).setCell ⟨P', 2, none⟩ (.bool n9)).setCell ⟨P', 3, none⟩ (.slice A9 m9 c9) := ⟨_, rfl⟩
     rw [← hV3]
     have hf2 : Frm (· = P') V1 V3 := by rw [hV3]; exact frm4 V1 P' _ _ _ _
     have hR3 : Arr V3 P' 140 [.bool n8, .slice A8 m8 c8, .bool n9, .slice A9 m9 c9] := by rw [hV3]; exact arr4 hR1 _ _ _ _
     have hs3 : Below w.heap.size w V3 := hs1.trans (hf2.below (B := w.heap.size) hs1.size fun b (e : b = P') => by rw [e]; exact hRw)
     refine goU_nilN ?_
     exact HQ.out _ P P' _ _ _ _ _ _ _ _ _ (hB1.other hR1 hf2 hne) ⟨n8, A8, m8, c8, n9, A9, m9, c9, hR3, hx8.putF hR1 hf2, hx9.putF hR1 hf2⟩ hne hPw hRw hs3
    ·go_wp2_with fail
     obtain ⟨v4, hv4⟩ : ∃ V, V = v3.alloc (.cells #[.bool false, .slice none 0 0, .bool false, .slice none 0 0] 140) := ⟨_, rfl⟩
     obtain ⟨P', hXe⟩ : ∃ B, B = v3.heap.size := ⟨_, rfl⟩
     have hR : Arr v4 P' 140 [.bool false, .slice none 0 0, .bool false, .slice none 0 0] := by rw [hv4, hXe]; exact Arr.new v3 _ [.bool false, .slice none 0 0, .bool false, .slice none 0 0]
     have hb3 : Below v3.heap.size v3 v4 := by rw [hv4]; exact (Below.refl _ _).alloc (Nat.le_refl _) _
     have hRw : w.heap.size ≤ P' := by rw [hXe]; exact hs.size
     rw [← hv4, ← hXe]
     replace hx2 := hx2.below hb3
     replace hx5 := hx5.below hb3
     replace hx8 := hx8.below hb3
     replace hx9 := hx9.below hb3
     clear hv4 hXe
     replace hs := hs.trans (hb3.mono hs.size)
     first | refine ⟨fun _ => hs, ?_⟩ | refine ⟨hs, ?_⟩
     refine goU_step (by rfl) ?_
     go_wp2_with fail
     obtain ⟨v5, hv5⟩ : ∃ V, V = v4.alloc (.cells #[.bool false, .slice none 0 0, .bool false, .slice none 0 0] 140) := ⟨_, rfl⟩
     obtain ⟨P, hXe⟩ : ∃ B, B = v4.heap.size := ⟨_, rfl⟩
     have hP : Arr v5 P 140 [.bool false, .slice none 0 0, .bool false, .slice none 0 0] := by rw [hv5, hXe]; exact Arr.new v4 _ [.bool false, .slice none 0 0, .bool false, .slice none 0 0]
     have hb4 : Below v4.heap.size v4 v5 := by rw [hv5]; exact (Below.refl _ _).alloc (Nat.le_refl _) _
     have hPw : w.heap.size ≤ P := by rw [hXe]; exact hs.size
     rw [← hv5, ← hXe]
     have hne : P ≠ P' := by rw [hXe]; exact Nat.ne_of_gt hR.lt
     replace hx2 := hx2.below hb4
     replace hx5 := hx5.below hb4
     replace hx8 := hx8.below hb4
     replace hx9 := hx9.below hb4
     replace hR := keepA hR hb4 hR.lt
     clear hv5 hXe
     replace hs := hs.trans (hb4.mono hs.size)
     first | refine ⟨fun _ => hs, ?_⟩ | refine ⟨hs, ?_⟩
     obtain ⟨q0, q1, q2, q3⟩ : v5.cell? ⟨P, 0, none⟩ = some (.bool false) ∧ v5.cell? ⟨P, 1, none⟩ = some (.slice none 0 0) ∧ v5.cell? ⟨P, 2, none⟩ = some (.bool false) ∧ v5.cell? ⟨P, 3, none⟩ = some (.slice none 0 0) := ⟨hP.cell 0, hP.cell 1, hP.cell 2, hP.cell 3⟩
     have f0 := hP.frozen 0
     have f1 := hP.frozen 1
     have f2 := hP.frozen 2
     have f3 := hP.frozen 3
     refine goU_step (by rfl) ?_
     go_wp2_with fail
     try (refine ⟨fun h => absurd h (by decide), ?_⟩)
     obtain ⟨V1, hV1⟩ : ∃ U, U = (((v5.setCell ⟨P, 0, none⟩ (.bool n2)).setCell ⟨P, 1, none⟩ (.slice A2 m2 c2)).setCell ⟨P, 2, none⟩ (.bool n5)).setCell ⟨P, 3, none⟩ (.slice A5 m5 c5) := ⟨_, rfl⟩
     rw [← hV1]
     have hf1 : Frm (· = P) v5 V1 := by rw [hV1]; exact frm4 v5 P _ _ _ _
     have hP1 : Arr V1 P 140 [.bool n2, .slice A2 m2 c2, .bool n5, .slice A5 m5 c5] := by rw [hV1]; exact arr4 hP _ _ _ _
     have hB1 : FrB V1 P num den := ⟨n2, A2, m2, c2, n5, A5, m5, c5, hP1, hx2.putF hP hf1, hx5.putF hP hf1⟩
     have hR1 := hf1.arr hR (fun e => hne e.symm)
     replace hx8 := hx8.putF hP hf1
     replace hx9 := hx9.putF hP hf1
     have hs1 : Below w.heap.size w V1 := hs.trans (hf1.below (B := w.heap.size) hs.size fun b (e : b = P) => by rw [e]; exact hPw)
     clear hV1 q0 q1 q2 q3 f0 f1 f2 f3
     obtain ⟨q0, q1, q2, q3⟩ : V1.cell? ⟨P', 0, none⟩ = some (.bool false) ∧ V1.cell? ⟨P', 1, none⟩ = some (.slice none 0 0) ∧ V1.cell? ⟨P', 2, none⟩ = some (.bool false) ∧ V1.cell? ⟨P', 3, none⟩ = some (.slice none 0 0) := ⟨hR1.cell 0, hR1.cell 1, hR1.cell 2, hR1.cell 3⟩
     have f0 := hR1.frozen 0
     have f1 := hR1.frozen 1
     have f2 := hR1.frozen 2
     have f3 := hR1.frozen 3
     refine goU_step (by rfl) ?_
     go_wp2_with fail
     try (refine ⟨fun h => absurd h (by decide), ?_⟩)
     obtain ⟨V3, hV3⟩ : ∃ U, U = (((V1.setCell ⟨P', 0, none⟩ (.bool n8)).setCell ⟨P', 1, none⟩ (.slice A8 m8 c8)).setCell ⟨P', 2, none⟩ (.bool n9)).setCell ⟨P', 3, none⟩ (.slice A9 m9 c9) := ⟨_, rfl⟩
     rw [← hV3]
     have hf2 : Frm (· = P') V1 V3 := by rw [hV3]; exact frm4 V1 P' _ _ _ _
     have hR3 : Arr V3 P' 140 [.bool n8, .slice A8 m8 c8, .bool n9, .slice A9 m9 c9] := by rw [hV3]; exact arr4 hR1 _ _ _ _
     have hs3 : Below w.heap.size w V3 := hs1.trans (hf2.below (B := w.heap.size) hs1.size fun b (e : b = P') => by rw [e]; exact hRw)
     refine goU_nilN ?_
     exact HQ.out _ P P' _ _ _ _ _ _ _ _ _ (hB1.other hR1 hf2 hne) ⟨n8, A8, m8, c8, n9, A9, m9, c9, hR3, hx8.putF hR1 hf2, hx9.putF hR1 hf2⟩ hne hPw hRw hs3
   ·go_wp2_with fail
    obtain ⟨v3, hv3⟩ : ∃ V, V = v2.alloc (.cells #[.bool false, .slice none 0 0, .bool false, .slice none 0 0] 140) := ⟨_, rfl⟩
    obtain ⟨P, hXe⟩ : ∃ B, B = v2.heap.size := ⟨_, rfl⟩
    have hP : Arr v3 P 140 [.bool false, .slice none 0 0, .bool false, .slice none 0 0] := by rw [hv3, hXe]; exact Arr.new v2 _ [.bool false, .slice none 0 0, .bool false, .slice none 0 0]
    have hb2 : Below v2.heap.size v2 v3 := by rw [hv3]; exact (Below.refl _ _).alloc (Nat.le_refl _) _
    have hPw : w.heap.size ≤ P := by rw [hXe]; exact hs.size
    rw [← hv3, ← hXe]
    replace hx2 := hx2.below hb2
    replace hx5 := hx5.below hb2
    clear hv3 hXe
    replace hs := hs.trans (hb2.mono hs.size)
    first | refine ⟨fun _ => hs, ?_⟩ | refine ⟨hs, ?_⟩
    refine goU_two (by rfl) (by rfl) ?_ ?_ 
    ·refine goU_call1 38 (by rfl) (by rfl) (by go_simp) (norm_any (HNI.out.below hs) HA.out HB.out HL.out HLR.out HF1.out HF2.out HF3.out HF4.out HD0.out) ?_
     rintro e v4 ⟨y8, rfl, ⟨n8, A8, m8, c8, n9, A9, m9, c9, rfl, hx8, hx9⟩, hb3⟩
     rw [HG1.out] at hx8
     rw [HG2.out] at hx9
     replace hx2 := hx2.below hb3
     replace hx5 := hx5.below hb3
     replace hP := keepA hP hb3 hP.lt
     replace hs := hs.trans (hb3.mono hs.size)
     refine ⟨_, rfl, fun _ => hs, ?_⟩
     simp only [sIB, List.set]
     refine goU_step (by rfl) ?_
     go_wp2_with fail
     obtain ⟨v5, hv5⟩ : ∃ V, V = v4.alloc (.cells #[.bool false, .slice none 0 0, .bool false, .slice none 0 0] 140) := ⟨_, rfl⟩
     obtain ⟨P', hXe⟩ : ∃ B, B = v4.heap.size := ⟨_, rfl⟩
     have hR : Arr v5 P' 140 [.bool false, .slice none 0 0, .bool false, .slice none 0 0] := by rw [hv5, hXe]; exact Arr.new v4 _ [.bool false, .slice none 0 0, .bool false, .slice none 0 0]
     have hb4 : Below v4.heap.size v4 v5 := by rw [hv5]; exact (Below.refl _ _).alloc (Nat.le_refl _) _
     have hRw : w.heap.size ≤ P' := by rw [hXe]; exact hs.size
     rw [← hv5, ← hXe]
     have hne : P ≠ P' := by rw [hXe]; exact Nat.ne_of_lt hP.lt
     replace hx2 := hx2.below hb4
     replace hx5 := hx5.below hb4
     replace hx8 := hx8.below hb4
     replace hx9 := hx9.below hb4
     replace hP := keepA hP hb4 hP.lt
     clear hv5 hXe
     replace hs := hs.trans (hb4.mono hs.size)
     first | refine ⟨fun _ => hs, ?_⟩ | refine ⟨hs, ?_⟩
     obtain ⟨q0, q1, q2, q3⟩ : v5.cell? ⟨P, 0, none⟩ = some (.bool false) ∧ v5.cell? ⟨P, 1, none⟩ = some (.slice none 0 0) ∧ v5.cell? ⟨P, 2, none⟩ = some (.bool false) ∧ v5.cell? ⟨P, 3, none⟩ = some (.slice none 0 0) := ⟨hP.cell 0, hP.cell 1, hP.cell 2, hP.cell 3⟩
     have f0 := hP.frozen 0
     have f1 := hP.frozen 1
     have f2 := hP.frozen 2
     have f3 := hP.frozen 3
     refine goU_step (by rfl) ?_
     go_wp2_with fail
     try (refine ⟨fun h => absurd h (by decide), ?_⟩)
     obtain ⟨V1, hV1⟩ : ∃ U, U = (((v5.setCell ⟨P, 0, none⟩ (.bool n2)).setCell ⟨P, 1, none⟩ (.slice A2 m2 c2)).setCell ⟨P, 2, none⟩ (.bool n5)).setCell ⟨P, 3, none⟩ (.slice A5 m5 c5) := ⟨_, rfl⟩
     rw [← hV1]
     have hf1 : Frm (· = P) v5 V1 := by rw [hV1]; exact frm4 v5 P _ _ _ _
     have hP1 : Arr V1 P 140 [.bool n2, .slice A2 m2 c2, .bool n5, .slice A5 m5 c5] := by rw [hV1]; exact arr4 hP _ _ _ _
     have hB1 : FrB V1 P num den := ⟨n2, A2, m2, c2, n5, A5, m5, c5, hP1, hx2.putF hP hf1, hx5.putF hP hf1⟩
     have hR1 := hf1.arr hR (fun e => hne e.symm)
     replace hx8 := hx8.putF hP hf1
     replace hx9 := hx9.putF hP hf1
     have hs1 : Below w.heap.size w V1 := hs.trans (hf1.below (B := w.heap.size) hs.size fun b (e : b = P) => by rw [e]; exact hPw)
     clear hV1 q0 q1 q2 q3 f0 f1 f2 f3
     obtain ⟨q0, q1, q2, q3⟩ : V1.cell? ⟨P', 0, none⟩ = some (.bool false) ∧ V1.cell? ⟨P', 1, none⟩ = some (.slice none 0 0) ∧ V1.cell? ⟨P', 2, none⟩ = some (.bool false) ∧ V1.cell? ⟨P', 3, none⟩ = some (.slice none 0 0) := ⟨hR1.cell 0, hR1.cell 1, hR1.cell 2, hR1.cell 3⟩
     have f0 := hR1.frozen 0
     have f1 := hR1.frozen 1
     have f2 := hR1.frozen 2
     have f3 := hR1.frozen 3
     refine goU_step (by rfl) ?_
     go_wp2_with fail
     try (refine ⟨fun h => absurd h (by decide), ?_⟩)
     obtain ⟨V3, hV3⟩ : ∃ U, U = (((V1.setCell ⟨P', 0, none⟩ (.bool n8)).setCell ⟨P', 1, none⟩ (.slice A8 m8 c8)).setCell ⟨P', 2, none⟩ (.bool n9)).setCell ⟨P', 3, none⟩ (.slice A9 m9 c9) := ⟨_, rfl⟩
     rw [← hV3]
     have hf2 : Frm (· = P') V1 V3 := by rw [hV3]; exact frm4 V1 P' _ _ _ _
     have hR3 : Arr V3 P' 140 [.bool n8, .slice A8 m8 c8, .bool n9, .slice A9 m9 c9] := by rw [hV3]; exact arr4 hR1 _ _ _ _
     have hs3 : Below w.heap.size w V3 := hs1.trans (hf2.below (B := w.heap.size) hs1.size fun b (e : b = P') => by rw [e]; exact hRw)
     refine goU_nilN ?_
     exact HQ.out _ P P' _ _ _ _ _ _ _ _ _ (hB1.other hR1 hf2 hne) ⟨n8, A8, m8, c8, n9, A9, m9, c9, hR3, hx8.putF hR1 hf2, hx9.putF hR1 hf2⟩ hne hPw hRw hs3
    ·go_wp2_with fail
     obtain ⟨v4, hv4⟩ : ∃ V, V = v3.alloc (.cells #[.bool false, .slice none 0 0, .bool false, .slice none 0 0] 140) := ⟨_, rfl⟩
     obtain ⟨P', hXe⟩ : ∃ B, B = v3.heap.size := ⟨_, rfl⟩
     have hR : Arr v4 P' 140 [.bool false, .slice none 0 0, .bool false, .slice none 0 0] := by rw [hv4, hXe]; exact Arr.new v3 _ [.bool false, .slice none 0 0, .bool false, .slice none 0 0]
     have hb3 : Below v3.heap.size v3 v4 := by rw [hv4]; exact (Below.refl _ _).alloc (Nat.le_refl _) _
     have hRw : w.heap.size ≤ P' := by rw [hXe]; exact hs.size
     rw [← hv4, ← hXe]
     have hne : P ≠ P' := by rw [hXe]; exact Nat.ne_of_lt hP.lt
     replace hx2 := hx2.below hb3
     replace hx5 := hx5.below hb3
     replace hP := keepA hP hb3 hP.lt
     clear hv4 hXe
     replace hs := hs.trans (hb3.mono hs.size)
     first | refine ⟨fun _ => hs, ?_⟩ | refine ⟨hs, ?_⟩
     refine goU_call 38 (by rfl) (by rfl) (by rfl) (by go_simp) (norm_any (HNI.out.below hs) HA.out HB.out HL.out HLR.out HF1.out HF2.out HF3.out HF4.out HD0.out) ?_
     rintro e v5 ⟨y8, rfl, ⟨n8, A8, m8, c8, n9, A9, m9, c9, rfl, hx8, hx9⟩, hb4⟩
     rw [HG1.out] at hx8
     rw [HG2.out] at hx9
     replace hx2 := hx2.below hb4
     replace hx5 := hx5.below hb4
     replace hP := keepA hP hb4 hP.lt
     replace hR := keepA hR hb4 hR.lt
     replace hs := hs.trans (hb4.mono hs.size)
     refine ⟨_, rfl, fun _ => hs, ?_⟩
     simp only [sIB, List.set]
     obtain ⟨q0, q1, q2, q3⟩ : v5.cell? ⟨P, 0, none⟩ = some (.bool false) ∧ v5.cell? ⟨P, 1, none⟩ = some (.slice none 0 0) ∧ v5.cell? ⟨P, 2, none⟩ = some (.bool false) ∧ v5.cell? ⟨P, 3, none⟩ = some (.slice none 0 0) := ⟨hP.cell 0, hP.cell 1, hP.cell 2, hP.cell 3⟩
     have f0 := hP.frozen 0
     have f1 := hP.frozen 1
     have f2 := hP.frozen 2
     have f3 := hP.frozen 3
     refine goU_step (by rfl) ?_
     go_wp2_with fail
     try (refine ⟨fun h => absurd h (by decide), ?_⟩)
     obtain ⟨V1, hV1⟩ : ∃ U, U = (((v5.setCell ⟨P, 0, none⟩ (.bool n2)).setCell ⟨P, 1, none⟩ (.slice A2 m2 c2)).setCell ⟨P, 2, none⟩ (.bool n5)).setCell ⟨P, 3, none⟩ (.slice A5 m5 c5) := ⟨_, rfl⟩
     rw [← hV1]
     have hf1 : Frm (· = P) v5 V1 := by rw [hV1]; exact frm4 v5 P _ _ _ _
     have hP1 : Arr V1 P 140 [.bool n2, .slice A2 m2 c2, .bool n5, .slice A5 m5 c5] := by rw [hV1]; exact arr4 hP _ _ _ _
     have hB1 : FrB V1 P num den := ⟨n2, A2, m2, c2, n5, A5, m5, c5, hP1, hx2.putF hP hf1, hx5.putF hP hf1⟩
     have hR1 := hf1.arr hR (fun e => hne e.symm)
     replace hx8 := hx8.putF hP hf1
     replace hx9 := hx9.putF hP hf1
     have hs1 : Below w.heap.size w V1 := hs.trans (hf1.below (B := w.heap.size) hs.size fun b (e : b = P) => by rw [e]; exact hPw)
     clear hV1 q0 q1 q2 q3 f0 f1 f2 f3
     obtain ⟨q0, q1, q2, q3⟩ : V1.cell? ⟨P', 0, none⟩ = some (.bool false) ∧ V1.cell? ⟨P', 1, none⟩ = some (.slice none 0 0) ∧ V1.cell? ⟨P', 2, none⟩ = some (.bool false) ∧ V1.cell? ⟨P', 3, none⟩ = some (.slice none 0 0) := ⟨hR1.cell 0, hR1.cell 1, hR1.cell 2, hR1.cell 3⟩
     have f0 := hR1.frozen 0
     have f1 := hR1.frozen 1
     have f2 := hR1.frozen 2
     have f3 := hR1.frozen 3
     refine goU_step (by rfl) ?_
     go_wp2_with fail
     try (refine ⟨fun h => absurd h (by decide), ?_⟩)
     obtain ⟨V3, hV3⟩ : ∃ U, U = (((V1.setCell ⟨P', 0, none⟩ (.bool n8)).setCell ⟨P', 1, none⟩ (.slice A8 m8 c8)).setCell ⟨P', 2, none⟩ (.bool n9)).setCell ⟨P', 3, none⟩ (.slice A9 m9 c9) := ⟨_, rfl⟩
     rw [← hV3]
     have hf2 : Frm (· = P') V1 V3 := by rw [hV3]; exact frm4 V1 P' _ _ _ _
     have hR3 : Arr V3 P' 140 [.bool n8, .slice A8 m8 c8, .bool n9, .slice A9 m9 c9] := by rw [hV3]; exact arr4 hR1 _ _ _ _
     have hs3 : Below w.heap.size w V3 := hs1.trans (hf2.below (B := w.heap.size) hs1.size fun b (e : b = P') => by rw [e]; exact hRw)
     refine goU_nilN ?_
     exact HQ.out _ P P' _ _ _ _ _ _ _ _ _ (hB1.other hR1 hf2 hne) ⟨n8, A8, m8, c8, n9, A9, m9, c9, hR3, hx8.putF hR1 hf2, hx9.putF hR1 hf2⟩ hne hPw hRw hs3
   ·go_wp2_with fail
    obtain ⟨v3, hv3⟩ : ∃ V, V = v2.alloc (.cells #[.bool false, .slice none 0 0, .bool false, .slice none 0 0] 140) := ⟨_, rfl⟩
    obtain ⟨P', hXe⟩ : ∃ B, B = v2.heap.size := ⟨_, rfl⟩
    have hR : Arr v3 P' 140 [.bool false, .slice none 0 0, .bool false, .slice none 0 0] := by rw [hv3, hXe]; exact Arr.new v2 _ [.bool false, .slice none 0 0, .bool false, .slice none 0 0]
    have hb2 : Below v2.heap.size v2 v3 := by rw [hv3]; exact (Below.refl _ _).alloc (Nat.le_refl _) _
    have hRw : w.heap.size ≤ P' := by rw [hXe]; exact hs.size
    rw [← hv3, ← hXe]
    replace hx2 := hx2.below hb2
    replace hx5 := hx5.below hb2
    clear hv3 hXe
    replace hs := hs.trans (hb2.mono hs.size)
    first | refine ⟨fun _ => hs, ?_⟩ | refine ⟨hs, ?_⟩
    refine goU_two (by rfl) (by rfl) ?_ ?_ 
    ·refine goU_call1 38 (by rfl) (by rfl) (by go_simp) (norm_any (HNI.out.below hs) HA.out HB.out HL.out HLR.out HF1.out HF2.out HF3.out HF4.out HD0.out) ?_
     rintro e v4 ⟨y8, rfl, ⟨n8, A8, m8, c8, n9, A9, m9, c9, rfl, hx8, hx9⟩, hb3⟩
     rw [HG1.out] at hx8
     rw [HG2.out] at hx9
     replace hx2 := hx2.below hb3
     replace hx5 := hx5.below hb3
     replace hR := keepA hR hb3 hR.lt
     replace hs := hs.trans (hb3.mono hs.size)
     refine ⟨_, rfl, fun _ => hs, ?_⟩
     simp only [sIB, List.set]
     refine goU_step (by rfl) ?_
     go_wp2_with fail
     obtain ⟨v5, hv5⟩ : ∃ V, V = v4.alloc (.cells #[.bool false, .slice none 0 0, .bool false, .slice none 0 0] 140) := ⟨_, rfl⟩
     obtain ⟨P, hXe⟩ : ∃ B, B = v4.heap.size := ⟨_, rfl⟩
     have hP : Arr v5 P 140 [.bool false, .slice none 0 0, .bool false, .slice none 0 0] := by rw [hv5, hXe]; exact Arr.new v4 _ [.bool false, .slice none 0 0, .bool false, .slice none 0 0]
     have hb4 : Below v4.heap.size v4 v5 := by rw [hv5]; exact (Below.refl _ _).alloc (Nat.le_refl _) _
     have hPw : w.heap.size ≤ P := by rw [hXe]; exact hs.size
     rw [← hv5, ← hXe]
     have hne : P ≠ P' := by rw [hXe]; exact Nat.ne_of_gt hR.lt
     replace hx2 := hx2.below hb4
     replace hx5 := hx5.below hb4
     replace hx8 := hx8.below hb4
     replace hx9 := hx9.below hb4
     replace hR := keepA hR hb4 hR.lt
     clear hv5 hXe
     replace hs := hs.trans (hb4.mono hs.size)
     first | refine ⟨fun _ => hs, ?_⟩ | refine ⟨hs, ?_⟩
     obtain ⟨q0, q1, q2, q3⟩ : v5.cell? ⟨P, 0, none⟩ = some (.bool false) ∧ v5.cell? ⟨P, 1, none⟩ = some (.slice none 0 0) ∧ v5.cell? ⟨P, 2, none⟩ = some (.bool false) ∧ v5.cell? ⟨P, 3, none⟩ = some (.slice none 0 0) := ⟨hP.cell 0, hP.cell 1, hP.cell 2, hP.cell 3⟩
     have f0 := hP.frozen 0
     have f1 := hP.frozen 1
     have f2 := hP.frozen 2
     have f3 := hP.frozen 3
     refine goU_step (by rfl) ?_
     go_wp2_with fail
     try (refine ⟨fun h => absurd h (by decide), ?_⟩)
     obtain ⟨V1, hV1⟩ : ∃ U, U = (((v5.setCell ⟨P, 0, none⟩ (.bool n2)).setCell ⟨P, 1, none⟩ (.slice A2 m2 c2)).setCell ⟨P, 2, none⟩ (.bool n5)).setCell ⟨P, 3, none⟩ (.slice A5 m5 c5) := ⟨_, rfl⟩
     rw [← hV1]
     have hf1 : Frm (· = P) v5 V1 := by rw [hV1]; exact frm4 v5 P _ _ _ _
     have hP1 : Arr V1 P 140 [.bool n2, .slice A2 m2 c2, .bool n5, .slice A5 m5 c5] := by rw [hV1]; exact arr4 hP _ _ _ _
     have hB1 : FrB V1 P num den := ⟨n2, A2, m2, c2, n5, A5, m5, c5, hP1, hx2.putF hP hf1, hx5.putF hP hf1⟩
     have hR1 := hf1.arr hR (fun e => hne e.symm)
     replace hx8 := hx8.putF hP hf1
     replace hx9 := hx9.putF hP hf1
     have hs1 : Below w.heap.size w V1 := hs.trans (hf1.below (B := w.heap.size) hs.size fun b (e : b = P) => by rw [e]; exact hPw)
     clear hV1 q0 q1 q2 q3 f0 f1 f2 f3
     obtain ⟨q0, q1, q2, q3⟩ : V1.cell? ⟨P', 0, none⟩ = some (.bool false) ∧ V1.cell? ⟨P', 1, none⟩ = some (.slice none 0 0) ∧ V1.cell? ⟨P', 2, none⟩ = some (.bool false) ∧ V1.cell? ⟨P', 3, none⟩ = some (.slice none 0 0) := ⟨hR1.cell 0, hR1.cell 1, hR1.cell 2, hR1.cell 3⟩
     have f0 := hR1.frozen 0
     have f1 := hR1.frozen 1
     have f2 := hR1.frozen 2
     have f3 := hR1.frozen 3
     refine goU_step (by rfl) ?_
     go_wp2_with fail
     try (refine ⟨fun h => absurd h (by decide), ?_⟩)
     obtain ⟨V3, hV3⟩ : ∃ U, U = (((V1.setCell ⟨P', 0, none⟩ (.bool n8)).setCell ⟨P', 1, none⟩ (.slice A8 m8 c8)).setCell ⟨P', 2, none⟩ (.bool n9)).setCell ⟨P', 3, none⟩ (.slice A9 m9 c9) := ⟨_, rfl⟩
     rw [← hV3]
     have hf2 : Frm (· = P') V1 V3 := by rw [hV3]; exact frm4 V1 P' _ _ _ _
     have hR3 : Arr V3 P' 140 [.bool n8, .slice A8 m8 c8, .bool n9, .slice A9 m9 c9] := by rw [hV3]; exact arr4 hR1 _ _ _ _
     have hs3 : Below w.heap.size w V3 := hs1.trans (hf2.below (B := w.heap.size) hs1.size fun b (e : b = P') => by rw [e]; exact hRw)
     refine goU_nilN ?_
     exact HQ.out _ P P' _ _ _ _ _ _ _ _ _ (hB1.other hR1 hf2 hne) ⟨n8, A8, m8, c8, n9, A9, m9, c9, hR3, hx8.putF hR1 hf2, hx9.putF hR1 hf2⟩ hne hPw hRw hs3
    ·go_wp2_with fail
     obtain ⟨v4, hv4⟩ : ∃ V, V = v3.alloc (.cells #[.bool false, .slice none 0 0, .bool false, .slice none 0 0] 140) := ⟨_, rfl⟩
     obtain ⟨P, hXe⟩ : ∃ B, B = v3.heap.size := ⟨_, rfl⟩
     have hP : Arr v4 P 140 [.bool false, .slice none 0 0, .bool false, .slice none 0 0] := by rw [hv4, hXe]; exact Arr.new v3 _ [.bool false, .slice none 0 0, .bool false, .slice none 0 0]
     have hb3 : Below v3.heap.size v3 v4 := by rw [hv4]; exact (Below.refl _ _).alloc (Nat.le_refl _) _
     have hPw : w.heap.size ≤ P := by rw [hXe]; exact hs.size
     rw [← hv4, ← hXe]
     have hne : P ≠ P' := by rw [hXe]; exact Nat.ne_of_gt hR.lt
     replace hx2 := hx2.below hb3
     replace hx5 := hx5.below hb3
     replace hR := keepA hR hb3 hR.lt
     clear hv4 hXe
     replace hs := hs.trans (hb3.mono hs.size)
     first | refine ⟨fun _ => hs, ?_⟩ | refine ⟨hs, ?_⟩
     refine goU_call 38 (by rfl) (by rfl) (by rfl) (by go_simp) (norm_any (HNI.out.below hs) HA.out HB.out HL.out HLR.out HF1.out HF2.out HF3.out HF4.out HD0.out) ?_
     rintro e v5 ⟨y8, rfl, ⟨n8, A8, m8, c8, n9, A9, m9, c9, rfl, hx8, hx9⟩, hb4⟩
     rw [HG1.out] at hx8
     rw [HG2.out] at hx9
     replace hx2 := hx2.below hb4
     replace hx5 := hx5.below hb4
     replace hP := keepA hP hb4 hP.lt
     replace hR := keepA hR hb4 hR.lt
     replace hs := hs.trans (hb4.mono hs.size)
     refine ⟨_, rfl, fun _ => hs, ?_⟩
     simp only [sIB, List.set]
     obtain ⟨q0, q1, q2, q3⟩ : v5.cell? ⟨P, 0, none⟩ = some (.bool false) ∧ v5.cell? ⟨P, 1, none⟩ = some (.slice none 0 0) ∧ v5.cell? ⟨P, 2, none⟩ = some (.bool false) ∧ v5.cell? ⟨P, 3, none⟩ = some (.slice none 0 0) := ⟨hP.cell 0, hP.cell 1, hP.cell 2, hP.cell 3⟩
     have f0 := hP.frozen 0
     have f1 := hP.frozen 1
     have f2 := hP.frozen 2
     have f3 := hP.frozen 3
     refine goU_step (by rfl) ?_
     go_wp2_with fail
     try (refine ⟨fun h => absurd h (by decide), ?_⟩)
     obtain ⟨V1, hV1⟩ : ∃ U, U = (((v5.setCell ⟨P, 0, none⟩ (.bool n2)).setCell ⟨P, 1, none⟩ (.slice A2 m2 c2)).setCell ⟨P, 2, none⟩ (.bool n5)).setCell ⟨P, 3, none⟩ (.slice A5 m5 c5) := ⟨_, rfl⟩
     rw [← hV1]
     have hf1 : Frm (· = P) v5 V1 := by rw [hV1]; exact frm4 v5 P _ _ _ _
     have hP1 : Arr V1 P 140 [.bool n2, .slice A2 m2 c2, .bool n5, .slice A5 m5 c5] := by rw [hV1]; exact arr4 hP _ _ _ _
     have hB1 : FrB V1 P num den := ⟨n2, A2, m2, c2, n5, A5, m5, c5, hP1, hx2.putF hP hf1, hx5.putF hP hf1⟩
     have hR1 := hf1.arr hR (fun e => hne e.symm)
     replace hx8 := hx8.putF hP hf1
     replace hx9 := hx9.putF hP hf1
     have hs1 : Below w.heap.size w V1 := hs.trans (hf1.below (B := w.heap.size) hs.size fun b (e : b = P) => by rw [e]; exact hPw)
     clear hV1 q0 q1 q2 q3 f0 f1 f2 f3
     obtain ⟨q0, q1, q2, q3⟩ : V1.cell? ⟨P', 0, none⟩ = some (.bool false) ∧ V1.cell? ⟨P', 1, none⟩ = some (.slice none 0 0) ∧ V1.cell? ⟨P', 2, none⟩ = some (.bool false) ∧ V1.cell? ⟨P', 3, none⟩ = some (.slice none 0 0) := ⟨hR1.cell 0, hR1.cell 1, hR1.cell 2, hR1.cell 3⟩
     have f0 := hR1.frozen 0
     have f1 := hR1.frozen 1
     have f2 := hR1.frozen 2
     have f3 := hR1.frozen 3
     refine goU_step (by rfl) ?_
     go_wp2_with fail
     try (refine ⟨fun h => absurd h (by decide), ?_⟩)
     obtain ⟨V3, hV3⟩ : ∃ U, U = (((V1.setCell ⟨P', 0, none⟩ (.bool n8)).setCell ⟨P', 1, none⟩ (.slice A8 m8 c8)).setCell ⟨P', 2, none⟩ (.bool n9)).setCell ⟨P', 3, none⟩ (.slice A9 m9 c9) := ⟨_, rfl⟩
     rw [← hV3]
     have hf2 : Frm (· = P') V1 V3 := by rw [hV3]; exact frm4 V1 P' _ _ _ _
     have hR3 : Arr V3 P' 140 [.bool n8, .slice A8 m8 c8, .bool n9, .slice A9 m9 c9] := by rw [hV3]; exact arr4 hR1 _ _ _ _
     have hs3 : Below w.heap.size w V3 := hs1.trans (hf2.below (B := w.heap.size) hs1.size fun b (e : b = P') => by rw [e]; exact hRw)
     refine goU_nilN ?_
     exact HQ.out _ P P' _ _ _ _ _ _ _ _ _ (hB1.other hR1 hf2 hne) ⟨n8, A8, m8, c8, n9, A9, m9, c9, hR3, hx8.putF hR1 hf2, hx9.putF hR1 hf2⟩ hne hPw hRw hs3
  ·go_wp2_with fail
   obtain ⟨v2, hv2⟩ : ∃ V, V = v1.alloc (.cells #[.bool false, .slice none 0 0, .bool false, .slice none 0 0] 140) := ⟨_, rfl⟩
   obtain ⟨P, hXe⟩ : ∃ B, B = v1.heap.size := ⟨_, rfl⟩
   have hP : Arr v2 P 140 [.bool false, .slice none 0 0, .bool false, .slice none 0 0] := by rw [hv2, hXe]; exact Arr.new v1 _ [.bool false, .slice none 0 0, .bool false, .slice none 0 0]
   have hb1 : Below v1.heap.size v1 v2 := by rw [hv2]; exact (Below.refl _ _).alloc (Nat.le_refl _) _
   have hPw : w.heap.size ≤ P := by rw [hXe]; exact hs.size
   rw [← hv2, ← hXe]
   replace hx2 := hx2.below hb1
   clear hv2 hXe
   replace hs := hs.trans (hb1.mono hs.size)
   first | refine ⟨fun _ => hs, ?_⟩ | refine ⟨hs, ?_⟩
   refine goU_two (by rfl) (by rfl) ?_ ?_ 
   ·refine goU_call1 35 (by rfl) (by rfl) (by go_simp) (Of_any den _ hd1 hd2) ?_
    rintro e v3 ⟨y5, rfl, hx5, hb2⟩
    obtain ⟨n5, A5, m5, c5, rfl, hx5⟩ := hx5.shp
    replace hx2 := hx2.below hb2
    replace hP := keepA hP hb2 hP.lt
    replace hs := hs.trans (hb2.mono hs.size)
    refine ⟨_, rfl, fun _ => hs, ?_⟩
    simp only [sIB, List.set]
    refine goU_read 36 hs (by rfl) (by rfl) ?_ (by rfl) (fun wz hSw => ?_) ?_
    rotate_left
    ·go_simp
     try with_reducible rfl
    simp only [sIB, List.set]
    refine goU_two (by rfl) (by rfl) ?_ ?_ 
    ·refine goU_call1 38 (by rfl) (by rfl) (by go_simp) (norm_any (HNI.out.below hs) HA.out HB.out HL.out HLR.out HF1.out HF2.out HF3.out HF4.out HD0.out) ?_
     rintro e v4 ⟨y8, rfl, ⟨n8, A8, m8, c8, n9, A9, m9, c9, rfl, hx8, hx9⟩, hb3⟩
     rw [HG1.out] at hx8
     rw [HG2.out] at hx9
     replace hx2 := hx2.below hb3
     replace hx5 := hx5.below hb3
     replace hP := keepA hP hb3 hP.lt
     replace hs := hs.trans (hb3.mono hs.size)
     refine ⟨_, rfl, fun _ => hs, ?_⟩
     simp only [sIB, List.set]
     refine goU_step (by rfl) ?_
     go_wp2_with fail
     obtain ⟨v5, hv5⟩ : ∃ V, V = v4.alloc (.cells #[.bool false, .slice none 0 0, .bool false, .slice none 0 0] 140) := ⟨_, rfl⟩
     obtain ⟨P', hXe⟩ : ∃ B, B = v4.heap.size := ⟨_, rfl⟩
     have hR : Arr v5 P' 140 [.bool false, .slice none 0 0, .bool false, .slice none 0 0] := by rw [hv5, hXe]; exact Arr.new v4 _ [.bool false, .slice none 0 0, .bool false, .slice none 0 0]
     have hb4 : Below v4.heap.size v4 v5 := by rw [hv5]; exact (Below.refl _ _).alloc (Nat.le_refl _) _
     have hRw : w.heap.size ≤ P' := by rw [hXe]; exact hs.size
     rw [← hv5, ← hXe]
     have hne : P ≠ P' := by rw [hXe]; exact Nat.ne_of_lt hP.lt
     replace hx2 := hx2.below hb4
     replace hx5 := hx5.below hb4
     replace hx8 := hx8.below hb4
     replace hx9 := hx9.below hb4
     replace hP := keepA hP hb4 hP.lt
     clear hv5 hXe
     replace hs := hs.trans (hb4.mono hs.size)
     first | refine ⟨fun _ => hs, ?_⟩ | refine ⟨hs, ?_⟩
     obtain ⟨q0, q1, q2, q3⟩ : v5.cell? ⟨P, 0, none⟩ = some (.bool false) ∧ v5.cell? ⟨P, 1, none⟩ = some (.slice none 0 0) ∧ v5.cell? ⟨P, 2, none⟩ = some (.bool false) ∧ v5.cell? ⟨P, 3, none⟩ = some (.slice none 0 0) := ⟨hP.cell 0, hP.cell 1, hP.cell 2, hP.cell 3⟩
     have f0 := hP.frozen 0
     have f1 := hP.frozen 1
     have f2 := hP.frozen 2
     have f3 := hP.frozen 3
     refine goU_step (by rfl) ?_
     go_wp2_with fail
     try (refine ⟨fun h => absurd h (by decide), ?_⟩)
     obtain ⟨V1, hV1⟩ : ∃ U, U = (((v5.setCell ⟨P, 0, none⟩ (.bool n2)).setCell ⟨P, 1, none⟩ (.slice A2 m2 c2)).setCell ⟨P, 2, none⟩ (.bool n5)).setCell ⟨P, 3, none⟩ (.slice A5 m5 c5) := ⟨_, rfl⟩
     rw [← hV1]
     have hf1 : Frm (· = P) v5 V1 := by rw [hV1]; exact frm4 v5 P _ _ _ _
     have hP1 : Arr V1 P 140 [.bool n2, .slice A2 m2 c2, .bool n5, .slice A5 m5 c5] := by rw [hV1]; exact arr4 hP _ _ _ _
     have hB1 : FrB V1 P num den := ⟨n2, A2, m2, c2, n5, A5, m5, c5, hP1, hx2.putF hP hf1, hx5.putF hP hf1⟩
     have hR1 := hf1.arr hR (fun e => hne e.symm)
     replace hx8 := hx8.putF hP hf1
     replace hx9 := hx9.putF hP hf1
     have hs1 : Below w.heap.size w V1 := hs.trans (hf1.below (B := w.heap.size) hs.size fun b (e : b = P) => by rw [e]; exact hPw)
     clear hV1 q0 q1 q2 q3 f0 f1 f2 f3
     obtain ⟨q0, q1, q2, q3⟩ : V1.cell? ⟨P', 0, none⟩ = some (.bool false) ∧ V1.cell? ⟨P', 1, none⟩ = some (.slice none 0 0) ∧ V1.cell? ⟨P', 2, none⟩ = some (.bool false) ∧ V1.cell? ⟨P', 3, none⟩ = some (.slice none 0 0) := ⟨hR1.cell 0, hR1.cell 1, hR1.cell 2, hR1.cell 3⟩
     have f0 := hR1.frozen 0
     have f1 := hR1.frozen 1
     have f2 := hR1.frozen 2
     have f3 := hR1.frozen 3
     refine goU_step (by rfl) ?_
     go_wp2_with fail
     try (refine ⟨fun h => absurd h (by decide), ?_⟩)
     obtain ⟨V3, hV3⟩ : ∃ U, U = (((V1.setCell ⟨P', 0, none⟩ (.bool n8)).setCell ⟨P', 1, none⟩ (.slice A8 m8 c8)).setCell ⟨P', 2, none⟩ (.bool n9)).setCell ⟨P', 3, none⟩ (.slice A9 m9 c9) := ⟨_, rfl⟩
     rw [← hV3]
     have hf2 : Frm (· = P') V1 V3 := by rw [hV3]; exact frm4 V1 P' _ _ _ _
     have hR3 : Arr V3 P' 140 [.bool n8, .slice A8 m8 c8, .bool n9, .slice A9 m9 c9] := by rw [hV3]; exact arr4 hR1 _ _ _ _
     have hs3 : Below w.heap.size w V3 := hs1.trans (hf2.below (B := w.heap.size) hs1.size fun b (e : b = P') => by rw [e]; exact hRw)
     refine goU_nilN ?_
     exact HQ.out _ P P' _ _ _ _ _ _ _ _ _ (hB1.other hR1 hf2 hne) ⟨n8, A8, m8, c8, n9, A9, m9, c9, hR3, hx8.putF hR1 hf2, hx9.putF hR1 hf2⟩ hne hPw hRw hs3
    ·go_wp2_with fail
     obtain ⟨v4, hv4⟩ : ∃ V, V = v3.alloc (.cells #[.bool false, .slice none 0 0, .bool false, .slice none 0 0] 140) := ⟨_, rfl⟩
     obtain ⟨P', hXe⟩ : ∃ B, B = v3.heap.size := ⟨_, rfl⟩
     have hR : Arr v4 P' 140 [.bool false, .slice none 0 0, .bool false, .slice none 0 0] := by rw [hv4, hXe]; exact Arr.new v3 _ [.bool false, .slice none 0 0, .bool false, .slice none 0 0]
     have hb3 : Below v3.heap.size v3 v4 := by rw [hv4]; exact (Below.refl _ _).alloc (Nat.le_refl _) _
     have hRw : w.heap.size ≤ P' := by rw [hXe]; exact hs.size
     rw [← hv4, ← hXe]
     have hne : P ≠ P' := by rw [hXe]; exact Nat.ne_of_lt hP.lt
     replace hx2 := hx2.below hb3
     replace hx5 := hx5.below hb3
     replace hP := keepA hP hb3 hP.lt
     clear hv4 hXe
     replace hs := hs.trans (hb3.mono hs.size)
     first | refine ⟨fun _ => hs, ?_⟩ | refine ⟨hs, ?_⟩
     refine goU_call 38 (by rfl) (by rfl) (by rfl) (by go_simp) (norm_any (HNI.out.below hs) HA.out HB.out HL.out HLR.out HF1.out HF2.out HF3.out HF4.out HD0.out) ?_
     rintro e v5 ⟨y8, rfl, ⟨n8, A8, m8, c8, n9, A9, m9, c9, rfl, hx8, hx9⟩, hb4⟩
     rw [HG1.out] at hx8
     rw [HG2.out] at hx9
     replace hx2 := hx2.below hb4
     replace hx5 := hx5.below hb4
     replace hP := keepA hP hb4 hP.lt
     replace hR := keepA hR hb4 hR.lt
     replace hs := hs.trans (hb4.mono hs.size)
     refine ⟨_, rfl, fun _ => hs, ?_⟩
     simp only [sIB, List.set]
     obtain ⟨q0, q1, q2, q3⟩ : v5.cell? ⟨P, 0, none⟩ = some (.bool false) ∧ v5.cell? ⟨P, 1, none⟩ = some (.slice none 0 0) ∧ v5.cell? ⟨P, 2, none⟩ = some (.bool false) ∧ v5.cell? ⟨P, 3, none⟩ = some (.slice none 0 0) := ⟨hP.cell 0, hP.cell 1, hP.cell 2, hP.cell 3⟩
     have f0 := hP.frozen 0
     have f1 := hP.frozen 1
     have f2 := hP.frozen 2
     have f3 := hP.frozen 3
     refine goU_step (by rfl) ?_
     go_wp2_with fail
     try (refine ⟨fun h => absurd h (by decide), ?_⟩)
     obtain ⟨V1, hV1⟩ : ∃ U, U = (((v5.setCell ⟨P, 0, none⟩ (.bool n2)).setCell ⟨P, 1, none⟩ (.slice A2 m2 c2)).setCell ⟨P, 2, none⟩ (.bool n5)).setCell ⟨P, 3, none⟩ (.slice A5 m5 c5) := ⟨_, rfl⟩
     rw [← hV1]
     have hf1 : Frm (· = P) v5 V1 := by rw [hV1]; exact frm4 v5 P _ _ _ _
     have hP1 : Arr V1 P 140 [.bool n2, .slice A2 m2 c2, .bool n5, .slice A5 m5 c5] := by rw [hV1]; exact arr4 hP _ _ _ _
     have hB1 : FrB V1 P num den := ⟨n2, A2, m2, c2, n5, A5, m5, c5, hP1, hx2.putF hP hf1, hx5.putF hP hf1⟩
     have hR1 := hf1.arr hR (fun e => hne e.symm)
     replace hx8 := hx8.putF hP hf1
     replace hx9 := hx9.putF hP hf1
     have hs1 : Below w.heap.size w V1 := hs.trans (hf1.below (B := w.heap.size) hs.size fun b (e : b = P) => by rw [e]; exact hPw)
     clear hV1 q0 q1 q2 q3 f0 f1 f2 f3
     obtain ⟨q0, q1, q2, q3⟩ : V1.cell? ⟨P', 0, none⟩ = some (.bool false) ∧ V1.cell? ⟨P', 1, none⟩ = some (.slice none 0 0) ∧ V1.cell? ⟨P', 2, none⟩ = some (.bool false) ∧ V1.cell? ⟨P', 3, none⟩ = some (.slice none 0 0) := ⟨hR1.cell 0, hR1.cell 1, hR1.cell 2, hR1.cell 3⟩
     have f0 := hR1.frozen 0
     have f1 := hR1.frozen 1
     have f2 := hR1.frozen 2
     have f3 := hR1.frozen 3
     refine goU_step (by rfl) ?_
     go_wp2_with fail
     try (refine ⟨fun h => absurd h (by decide), ?_⟩)
     obtain ⟨V3, hV3⟩ : ∃ U, U = (((V1.setCell ⟨P', 0, none⟩ (.bool n8)).setCell ⟨P', 1, none⟩ (.slice A8 m8 c8)).setCell ⟨P', 2, none⟩ (.bool n9)).setCell ⟨P', 3, none⟩ (.slice A9 m9 c9) := ⟨_, rfl⟩
     rw [← hV3]
     have hf2 : Frm (· = P') V1 V3 := by rw [hV3]; exact frm4 V1 P' _ _ _ _
     have hR3 : Arr V3 P' 140 [.bool n8, .slice A8 m8 c8, .bool n9, .slice A9 m9 c9] := by rw [hV3]; exact arr4 hR1 _ _ _ _
     have hs3 : Below w.heap.size w V3 := hs1.trans (hf2.below (B := w.heap.size) hs1.size fun b (e : b = P') => by rw [e]; exact hRw)
     refine goU_nilN ?_
     exact HQ.out _ P P' _ _ _ _ _ _ _ _ _ (hB1.other hR1 hf2 hne) ⟨n8, A8, m8, c8, n9, A9, m9, c9, hR3, hx8.putF hR1 hf2, hx9.putF hR1 hf2⟩ hne hPw hRw hs3
   ·go_wp2_with fail
    obtain ⟨v3, hv3⟩ : ∃ V, V = v2.alloc (.cells #[.bool false, .slice none 0 0, .bool false, .slice none 0 0] 140) := ⟨_, rfl⟩
    obtain ⟨P', hXe⟩ : ∃ B, B = v2.heap.size := ⟨_, rfl⟩
    have hR : Arr v3 P' 140 [.bool false, .slice none 0 0, .bool false, .slice none 0 0] := by rw [hv3, hXe]; exact Arr.new v2 _ [.bool false, .slice none 0 0, .bool false, .slice none 0 0]
    have hb2 : Below v2.heap.size v2 v3 := by rw [hv3]; exact (Below.refl _ _).alloc (Nat.le_refl _) _
    have hRw : w.heap.size ≤ P' := by rw [hXe]; exact hs.size
    rw [← hv3, ← hXe]
    have hne : P ≠ P' := by rw [hXe]; exact Nat.ne_of_lt hP.lt
    replace hx2 := hx2.below hb2
    replace hP := keepA hP hb2 hP.lt
    clear hv3 hXe
    replace hs := hs.trans (hb2.mono hs.size)
    first | refine ⟨fun _ => hs, ?_⟩ | refine ⟨hs, ?_⟩
    refine goU_call 35 (by rfl) (by rfl) (by rfl) (by go_simp) (Of_any den _ hd1 hd2) ?_
    rintro e v4 ⟨y5, rfl, hx5, hb3⟩
    obtain ⟨n5, A5, m5, c5, rfl, hx5⟩ := hx5.shp
    replace hx2 := hx2.below hb3
    replace hP := keepA hP hb3 hP.lt
    replace hR := keepA hR hb3 hR.lt
    replace hs := hs.trans (hb3.mono hs.size)
    refine ⟨_, rfl, fun _ => hs, ?_⟩
    simp only [sIB, List.set]
    refine goU_read 36 hs (by rfl) (by rfl) ?_ (by rfl) (fun wz hSw => ?_) ?_
    rotate_left
    ·go_simp
     try with_reducible rfl
    simp only [sIB, List.set]
    refine goU_call 38 (by rfl) (by rfl) (by rfl) (by go_simp) (norm_any (HNI.out.below hs) HA.out HB.out HL.out HLR.out HF1.out HF2.out HF3.out HF4.out HD0.out) ?_
    rintro e v5 ⟨y8, rfl, ⟨n8, A8, m8, c8, n9, A9, m9, c9, rfl, hx8, hx9⟩, hb4⟩
    rw [HG1.out] at hx8
    rw [HG2.out] at hx9
    replace hx2 := hx2.below hb4
    replace hx5 := hx5.below hb4
    replace hP := keepA hP hb4 hP.lt
    replace hR := keepA hR hb4 hR.lt
    replace hs := hs.trans (hb4.mono hs.size)
    refine ⟨_, rfl, fun _ => hs, ?_⟩
    simp only [sIB, List.set]
    obtain ⟨q0, q1, q2, q3⟩ : v5.cell? ⟨P, 0, none⟩ = some (.bool false) ∧ v5.cell? ⟨P, 1, none⟩ = some (.slice none 0 0) ∧ v5.cell? ⟨P, 2, none⟩ = some (.bool false) ∧ v5.cell? ⟨P, 3, none⟩ = some (.slice none 0 0) := ⟨hP.cell 0, hP.cell 1, hP.cell 2, hP.cell 3⟩
    have f0 := hP.frozen 0
    have f1 := hP.frozen 1
    have f2 := hP.frozen 2
    have f3 := hP.frozen 3
    refine goU_step (by rfl) ?_
    go_wp2_with fail
    try (refine ⟨fun h => absurd h (by decide), ?_⟩)
    obtain ⟨V1, hV1⟩ : ∃ U, U = (((v5.setCell ⟨P, 0, none⟩ (.bool n2)).setCell ⟨P, 1, none⟩ (.slice A2 m2 c2)).setCell ⟨P, 2, none⟩ (.bool n5)).setCell ⟨P, 3, none⟩ (.slice A5 m5 c5) := ⟨_, rfl⟩
    rw [← hV1]
    have hf1 : Frm (· = P) v5 V1 := by rw [hV1]; exact frm4 v5 P _ _ _ _
    have hP1 : Arr V1 P 140 [.bool n2, .slice A2 m2 c2, .bool n5, .slice A5 m5 c5] := by rw [hV1]; exact arr4 hP _ _ _ _
    have hB1 : FrB V1 P num den := ⟨n2, A2, m2, c2, n5, A5, m5, c5, hP1, hx2.putF hP hf1, hx5.putF hP hf1⟩
    have hR1 := hf1.arr hR (fun e => hne e.symm)
    replace hx8 := hx8.putF hP hf1
    replace hx9 := hx9.putF hP hf1
    have hs1 : Below w.heap.size w V1 := hs.trans (hf1.below (B := w.heap.size) hs.size fun b (e : b = P) => by rw [e]; exact hPw)
    clear hV1 q0 q1 q2 q3 f0 f1 f2 f3
    obtain ⟨q0, q1, q2, q3⟩ : V1.cell? ⟨P', 0, none⟩ = some (.bool false) ∧ V1.cell? ⟨P', 1, none⟩ = some (.slice none 0 0) ∧ V1.cell? ⟨P', 2, none⟩ = some (.bool false) ∧ V1.cell? ⟨P', 3, none⟩ = some (.slice none 0 0) := ⟨hR1.cell 0, hR1.cell 1, hR1.cell 2, hR1.cell 3⟩
    have f0 := hR1.frozen 0
    have f1 := hR1.frozen 1
    have f2 := hR1.frozen 2
    have f3 := hR1.frozen 3
    refine goU_step (by rfl) ?_
    go_wp2_with fail
    try (refine ⟨fun h => absurd h (by decide), ?_⟩)
    obtain ⟨V3, hV3⟩ : ∃ U, U = (((V1.setCell ⟨P', 0, none⟩ (.bool n8)).setCell ⟨P', 1, none⟩ (.slice A8 m8 c8)).setCell ⟨P', 2, none⟩ (.bool n9)).setCell ⟨P', 3, none⟩ (.slice A9 m9 c9) := ⟨_, rfl⟩
    rw [← hV3]
    have hf2 : Frm (· = P') V1 V3 := by rw [hV3]; exact frm4 V1 P' _ _ _ _
    have hR3 : Arr V3 P' 140 [.bool n8, .slice A8 m8 c8, .bool n9, .slice A9 m9 c9] := by rw [hV3]; exact arr4 hR1 _ _ _ _
    have hs3 : Below w.heap.size w V3 := hs1.trans (hf2.below (B := w.heap.size) hs1.size fun b (e : b = P') => by rw [e]; exact hRw)
    refine goU_nilN ?_
    exact HQ.out _ P P' _ _ _ _ _ _ _ _ _ (hB1.other hR1 hf2 hne) ⟨n8, A8, m8, c8, n9, A9, m9, c9, hR3, hx8.putF hR1 hf2, hx9.putF hR1 hf2⟩ hne hPw hRw hs3
  ·go_wp2_with fail
   obtain ⟨v2, hv2⟩ : ∃ V, V = v1.alloc (.cells #[.bool false, .slice none 0 0, .bool false, .slice none 0 0] 140) := ⟨_, rfl⟩
   obtain ⟨P', hXe⟩ : ∃ B, B = v1.heap.size := ⟨_, rfl⟩
   have hR : Arr v2 P' 140 [.bool false, .slice none 0 0, .bool false, .slice none 0 0] := by rw [hv2, hXe]; exact Arr.new v1 _ [.bool false, .slice none 0 0, .bool false, .slice none 0 0]
   have hb1 : Below v1.heap.size v1 v2 := by rw [hv2]; exact (Below.refl _ _).alloc (Nat.le_refl _) _
   have hRw : w.heap.size ≤ P' := by rw [hXe]; exact hs.size
   rw [← hv2, ← hXe]
   replace hx2 := hx2.below hb1
   clear hv2 hXe
   replace hs := hs.trans (hb1.mono hs.size)
   first | refine ⟨fun _ => hs, ?_⟩ | refine ⟨hs, ?_⟩
   refine goU_two (by rfl) (by rfl) ?_ ?_ 
   ·refine goU_call1 35 (by rfl) (by rfl) (by go_simp) (Of_any den _ hd1 hd2) ?_
    rintro e v3 ⟨y5, rfl, hx5, hb2⟩
    obtain ⟨n5, A5, m5, c5, rfl, hx5⟩ := hx5.shp
    replace hx2 := hx2.below hb2
    replace hR := keepA hR hb2 hR.lt
    replace hs := hs.trans (hb2.mono hs.size)
    refine ⟨_, rfl, fun _ => hs, ?_⟩
    simp only [sIB, List.set]
    refine goU_read 36 hs (by rfl) (by rfl) ?_ (by rfl) (fun wz hSw => ?_) ?_
    rotate_left
    ·go_simp
     try with_reducible rfl
    simp only [sIB, List.set]
    refine goU_two (by rfl) (by rfl) ?_ ?_ 
    ·refine goU_call1 38 (by rfl) (by rfl) (by go_simp) (norm_any (HNI.out.below hs) HA.out HB.out HL.out HLR.out HF1.out HF2.out HF3.out HF4.out HD0.out) ?_
     rintro e v4 ⟨y8, rfl, ⟨n8, A8, m8, c8, n9, A9, m9, c9, rfl, hx8, hx9⟩, hb3⟩
     rw [HG1.out] at hx8
     rw [HG2.out] at hx9
     replace hx2 := hx2.below hb3
     replace hx5 := hx5.below hb3
     replace hR := keepA hR hb3 hR.lt
     replace hs := hs.trans (hb3.mono hs.size)
     refine ⟨_, rfl, fun _ => hs, ?_⟩
     simp only [sIB, List.set]
     refine goU_step (by rfl) ?_
     go_wp2_with fail
     obtain ⟨v5, hv5⟩ : ∃ V, V = v4.alloc (.cells #[.bool false, .slice none 0 0, .bool false, .slice none 0 0] 140) := ⟨_, rfl⟩
     obtain ⟨P, hXe⟩ : ∃ B, B = v4.heap.size := ⟨_, rfl⟩
     have hP : Arr v5 P 140 [.bool false, .slice none 0 0, .bool false, .slice none 0 0] := by rw [hv5, hXe]; exact Arr.new v4 _ [.bool false, .slice none 0 0, .bool false, .slice none 0 0]
     have hb4 : Below v4.heap.size v4 v5 := by rw [hv5]; exact (Below.refl _ _).alloc (Nat.le_refl _) _
     have hPw : w.heap.size ≤ P := by rw [hXe]; exact hs.size
     rw [← hv5, ← hXe]
     have hne : P ≠ P' := by rw [hXe]; exact Nat.ne_of_gt hR.lt
     replace hx2 := hx2.below hb4
     replace hx5 := hx5.below hb4
     replace hx8 := hx8.below hb4
     replace hx9 := hx9.below hb4
     replace hR := keepA hR hb4 hR.lt
     clear hv5 hXe
     replace hs := hs.trans (hb4.mono hs.size)
     first | refine ⟨fun _ => hs, ?_⟩ | refine ⟨hs, ?_⟩
     obtain ⟨q0, q1, q2, q3⟩ : v5.cell? ⟨P, 0, none⟩ = some (.bool false) ∧ v5.cell? ⟨P, 1, none⟩ = some (.slice none 0 0) ∧ v5.cell? ⟨P, 2, none⟩ = some (.bool false) ∧ v5.cell? ⟨P, 3, none⟩ = some (.slice none 0 0) := ⟨hP.cell 0, hP.cell 1, hP.cell 2, hP.cell 3⟩
     have f0 := hP.frozen 0
     have f1 := hP.frozen 1
     have f2 := hP.frozen 2
     have f3 := hP.frozen 3
     refine goU_step (by rfl) ?_
     go_wp2_with fail
     try (refine ⟨fun h => absurd h (by decide), ?_⟩)
     obtain ⟨V1, hV1⟩ : ∃ U, U = (((v5.setCell ⟨P, 0, none⟩ (.bool n2)).setCell ⟨P, 1, none⟩ (.slice A2 m2 c2)).setCell ⟨P, 2, none⟩ (.bool n5)).setCell ⟨P, 3, none⟩ (.slice A5 m5 c5) := ⟨_, rfl⟩
     rw [← hV1]
     have hf1 : Frm (· = P) v5 V1 := by rw [hV1]; exact frm4 v5 P _ _ _ _
     have hP1 : Arr V1 P 140 [.bool n2, .slice A2 m2 c2, .bool n5, .slice A5 m5 c5] := by rw [hV1]; exact arr4 hP _ _ _ _
     have hB1 : FrB V1 P num den := ⟨n2, A2, m2, c2, n5, A5, m5, c5, hP1, hx2.putF hP hf1, hx5.putF hP hf1⟩
     have hR1 := hf1.arr hR (fun e => hne e.symm)
     replace hx8 := hx8.putF hP hf1
     replace hx9 := hx9.putF hP hf1
     have hs1 : Below w.heap.size w V1 := hs.trans (hf1.below (B := w.heap.size) hs.size fun b (e : b = P) => by rw [e]; exact hPw)
     clear hV1 q0 q1 q2 q3 f0 f1 f2 f3
     obtain ⟨q0, q1, q2, q3⟩ : V1.cell? ⟨P', 0, none⟩ = some (.bool false) ∧ V1.cell? ⟨P', 1, none⟩ = some (.slice none 0 0) ∧ V1.cell? ⟨P', 2, none⟩ = some (.bool false) ∧ V1.cell? ⟨P', 3, none⟩ = some (.slice none 0 0) := ⟨hR1.cell 0, hR1.cell 1, hR1.cell 2, hR1.cell 3⟩
     have f0 := hR1.frozen 0
     have f1 := hR1.frozen 1
     have f2 := hR1.frozen 2
     have f3 := hR1.frozen 3
     refine goU_step (by rfl) ?_
     go_wp2_with fail
     try (refine ⟨fun h => absurd h (by decide), ?_⟩)
     obtain ⟨V3, hV3⟩ : ∃ U, U = (((V1.setCell ⟨P', 0, none⟩ (.bool n8)).setCell ⟨P', 1, none⟩ (.slice A8 m8 c8)).setCell ⟨P', 2, none⟩ (.bool n9)).setCell ⟨P', 3, none⟩ (.slice A9 m9 c9) := ⟨_, rfl⟩
     rw [← hV3]
     have hf2 : Frm (· = P') V1 V3 := by rw [hV3]; exact frm4 V1 P' _ _ _ _
     have hR3 : Arr V3 P' 140 [.bool n8, .slice A8 m8 c8, .bool n9, .slice A9 m9 c9] := by rw [hV3]; exact arr4 hR1 _ _ _ _
     have hs3 : Below w.heap.size w V3 := hs1.trans (hf2.below (B := w.heap.size) hs1.size fun b (e : b = P') => by rw [e]; exact hRw)
     refine goU_nilN ?_
     exact HQ.out _ P P' _ _ _ _ _ _ _ _ _ (hB1.other hR1 hf2 hne) ⟨n8, A8, m8, c8, n9, A9, m9, c9, hR3, hx8.putF hR1 hf2, hx9.putF hR1 hf2⟩ hne hPw hRw hs3
    ·go_wp2_with fail
     obtain ⟨v4, hv4⟩ : ∃ V, V = v3.alloc (.cells #[.bool false, .slice none 0 0, .bool false, .slice none 0 0] 140) := ⟨_, rfl⟩
     obtain ⟨P, hXe⟩ : ∃ B, B = v3.heap.size := ⟨_, rfl⟩
     have hP : Arr v4 P 140 [.bool false, .slice none 0 0, .bool false, .slice none 0 0] := by rw [hv4, hXe]; exact Arr.new v3 _ [.bool false, .slice none 0 0, .bool false, .slice none 0 0]
     have hb3 : Below v3.heap.size v3 v4 := by rw [hv4]; exact (Below.refl _ _).alloc (Nat.le_refl _) _
     have hPw : w.heap.size ≤ P := by rw [hXe]; exact hs.size
     rw [← hv4, ← hXe]
     have hne : P ≠ P' := by rw [hXe]; exact Nat.ne_of_gt hR.lt
     replace hx2 := hx2.below hb3
     replace hx5 := hx5.below hb3
     replace hR := keepA hR hb3 hR.lt
     clear hv4 hXe
     replace hs := hs.trans (hb3.mono hs.size)
     first | refine ⟨fun _ => hs, ?_⟩ | refine ⟨hs, ?_⟩
     refine goU_call 38 (by rfl) (by rfl) (by rfl) (by go_simp) (norm_any (HNI.out.below hs) HA.out HB.out HL.out HLR.out HF1.out HF2.out HF3.out HF4.out HD0.out) ?_
     rintro e v5 ⟨y8, rfl, ⟨n8, A8, m8, c8, n9, A9, m9, c9, rfl, hx8, hx9⟩, hb4⟩
     rw [HG1.out] at hx8
     rw [HG2.out] at hx9
     replace hx2 := hx2.below hb4
     replace hx5 := hx5.below hb4
     replace hP := keepA hP hb4 hP.lt
     replace hR := keepA hR hb4 hR.lt
     replace hs := hs.trans (hb4.mono hs.size)
     refine ⟨_, rfl, fun _ => hs, ?_⟩
     simp only [sIB, List.set]
     obtain ⟨q0, q1, q2, q3⟩ : v5.cell? ⟨P, 0, none⟩ = some (.bool false) ∧ v5.cell? ⟨P, 1, none⟩ = some (.slice none 0 0) ∧ v5.cell? ⟨P, 2, none⟩ = some (.bool false) ∧ v5.cell? ⟨P, 3, none⟩ = some (.slice none 0 0) := ⟨hP.cell 0, hP.cell 1, hP.cell 2, hP.cell 3⟩
     have f0 := hP.frozen 0
     have f1 := hP.frozen 1
     have f2 := hP.frozen 2
     have f3 := hP.frozen 3
     refine goU_step (by rfl) ?_
     go_wp2_with fail
     try (refine ⟨fun h => absurd h (by decide), ?_⟩)
     obtain ⟨V1, hV1⟩ : ∃ U, U = (((v5.setCell ⟨P, 0, none⟩ (.bool n2)).setCell ⟨P, 1, none⟩ (.slice A2 m2 c2)).setCell ⟨P, 2, none⟩ (.bool n5)).setCell ⟨P, 3, none⟩ (.slice A5 m5 c5) := ⟨_, rfl⟩
     rw [← hV1]
     have hf1 : Frm (· = P) v5 V1 := by rw [hV1]; exact frm4 v5 P _ _ _ _
     have hP1 : Arr V1 P 140 [.bool n2, .slice A2 m2 c2, .bool n5, .slice A5 m5 c5] := by rw [hV1]; exact arr4 hP _ _ _ _
     have hB1 : FrB V1 P num den := ⟨n2, A2, m2, c2, n5, A5, m5, c5, hP1, hx2.putF hP hf1, hx5.putF hP hf1⟩
     have hR1 := hf1.arr hR (fun e => hne e.symm)
     replace hx8 := hx8.putF hP hf1
     replace hx9 := hx9.putF hP hf1
     have hs1 : Below w.heap.size w V1 := hs.trans (hf1.below (B := w.heap.size) hs.size fun b (e : b = P) => by rw [e]; exact hPw)
     clear hV1 q0 q1 q2 q3 f0 f1 f2 f3
     obtain ⟨q0, q1, q2, q3⟩ : V1.cell? ⟨P', 0, none⟩ = some (.bool false) ∧ V1.cell? ⟨P', 1, none⟩ = some (.slice none 0 0) ∧ V1.cell? ⟨P', 2, none⟩ = some (.bool false) ∧ V1.cell? ⟨P', 3, none⟩ = some (.slice none 0 0) := ⟨hR1.cell 0, hR1.cell 1, hR1.cell 2, hR1.cell 3⟩
     have f0 := hR1.frozen 0
     have f1 := hR1.frozen 1
     have f2 := hR1.frozen 2
     have f3 := hR1.frozen 3
     refine goU_step (by rfl) ?_
     go_wp2_with fail
     try (refine ⟨fun h => absurd h (by decide), ?_⟩)
     obtain ⟨V3, hV3⟩ : ∃ U, U = (((V1.setCell ⟨P', 0, none⟩ (.bool n8)).setCell ⟨P', 1, none⟩ (.slice A8 m8 c8)).setCell ⟨P', 2, none⟩ (.bool n9)).setCell ⟨P', 3, none⟩ (.slice A9 m9 c9) := ⟨_, rfl⟩
     rw [← hV3]
     have hf2 : Frm (· = P') V1 V3 := by rw [hV3]; exact frm4 V1 P' _ _ _ _
     have hR3 : Arr V3 P' 140 [.bool n8, .slice A8 m8 c8, .bool n9, .slice A9 m9 c9] := by rw [hV3]; exact arr4 hR1 _ _ _ _
     have hs3 : Below w.heap.size w V3 := hs1.trans (hf2.below (B := w.heap.size) hs1.size fun b (e : b = P') => by rw [e]; exact hRw)
     refine goU_nilN ?_
     exact HQ.out _ P P' _ _ _ _ _ _ _ _ _ (hB1.other hR1 hf2 hne) ⟨n8, A8, m8, c8, n9, A9, m9, c9, hR3, hx8.putF hR1 hf2, hx9.putF hR1 hf2⟩ hne hPw hRw hs3
   ·go_wp2_with fail
    obtain ⟨v3, hv3⟩ : ∃ V, V = v2.alloc (.cells #[.bool false, .slice none 0 0, .bool false, .slice none 0 0] 140) := ⟨_, rfl⟩
    obtain ⟨P, hXe⟩ : ∃ B, B = v2.heap.size := ⟨_, rfl⟩
    have hP : Arr v3 P 140 [.bool false, .slice none 0 0, .bool false, .slice none 0 0] := by rw [hv3, hXe]; exact Arr.new v2 _ [.bool false, .slice none 0 0, .bool false, .slice none 0 0]
    have hb2 : Below v2.heap.size v2 v3 := by rw [hv3]; exact (Below.refl _ _).alloc (Nat.le_refl _) _
    have hPw : w.heap.size ≤ P := by rw [hXe]; exact hs.size
    rw [← hv3, ← hXe]
    have hne : P ≠ P' := by rw [hXe]; exact Nat.ne_of_gt hR.lt
    replace hx2 := hx2.below hb2
    replace hR := keepA hR hb2 hR.lt
    clear hv3 hXe
    replace hs := hs.trans (hb2.mono hs.size)
    first | refine ⟨fun _ => hs, ?_⟩ | refine ⟨hs, ?_⟩
    refine goU_call 35 (by rfl) (by rfl) (by rfl) (by go_simp) (Of_any den _ hd1 hd2) ?_
    rintro e v4 ⟨y5, rfl, hx5, hb3⟩
    obtain ⟨n5, A5, m5, c5, rfl, hx5⟩ := hx5.shp
    replace hx2 := hx2.below hb3
    replace hP := keepA hP hb3 hP.lt
    replace hR := keepA hR hb3 hR.lt
    replace hs := hs.trans (hb3.mono hs.size)
    refine ⟨_, rfl, fun _ => hs, ?_⟩
    simp only [sIB, List.set]
    refine goU_read 36 hs (by rfl) (by rfl) ?_ (by rfl) (fun wz hSw => ?_) ?_
    rotate_left
    ·go_simp
     try with_reducible rfl
    simp only [sIB, List.set]
    refine goU_call 38 (by rfl) (by rfl) (by rfl) (by go_simp) (norm_any (HNI.out.below hs) HA.out HB.out HL.out HLR.out HF1.out HF2.out HF3.out HF4.out HD0.out) ?_
    rintro e v5 ⟨y8, rfl, ⟨n8, A8, m8, c8, n9, A9, m9, c9, rfl, hx8, hx9⟩, hb4⟩
    rw [HG1.out] at hx8
    rw [HG2.out] at hx9
    replace hx2 := hx2.below hb4
    replace hx5 := hx5.below hb4
    replace hP := keepA hP hb4 hP.lt
    replace hR := keepA hR hb4 hR.lt
    replace hs := hs.trans (hb4.mono hs.size)
    refine ⟨_, rfl, fun _ => hs, ?_⟩
    simp only [sIB, List.set]
    obtain ⟨q0, q1, q2, q3⟩ : v5.cell? ⟨P, 0, none⟩ = some (.bool false) ∧ v5.cell? ⟨P, 1, none⟩ = some (.slice none 0 0) ∧ v5.cell? ⟨P, 2, none⟩ = some (.bool false) ∧ v5.cell? ⟨P, 3, none⟩ = some (.slice none 0 0) := ⟨hP.cell 0, hP.cell 1, hP.cell 2, hP.cell 3⟩
    have f0 := hP.frozen 0
    have f1 := hP.frozen 1
    have f2 := hP.frozen 2
    have f3 := hP.frozen 3
    refine goU_step (by rfl) ?_
    go_wp2_with fail
    try (refine ⟨fun h => absurd h (by decide), ?_⟩)
    obtain ⟨V1, hV1⟩ : ∃ U, U = (((v5.setCell ⟨P, 0, none⟩ (.bool n2)).setCell ⟨P, 1, none⟩ (.slice A2 m2 c2)).setCell ⟨P, 2, none⟩ (.bool n5)).setCell ⟨P, 3, none⟩ (.slice A5 m5 c5) := ⟨_, rfl⟩
    rw [← hV1]
    have hf1 : Frm (· = P) v5 V1 := by rw [hV1]; exact frm4 v5 P _ _ _ _
    have hP1 : Arr V1 P 140 [.bool n2, .slice A2 m2 c2, .bool n5, .slice A5 m5 c5] := by rw [hV1]; exact arr4 hP _ _ _ _
    have hB1 : FrB V1 P num den := ⟨n2, A2, m2, c2, n5, A5, m5, c5, hP1, hx2.putF hP hf1, hx5.putF hP hf1⟩
    have hR1 := hf1.arr hR (fun e => hne e.symm)
    replace hx8 := hx8.putF hP hf1
    replace hx9 := hx9.putF hP hf1
    have hs1 : Below w.heap.size w V1 := hs.trans (hf1.below (B := w.heap.size) hs.size fun b (e : b = P) => by rw [e]; exact hPw)
    clear hV1 q0 q1 q2 q3 f0 f1 f2 f3
    obtain ⟨q0, q1, q2, q3⟩ : V1.cell? ⟨P', 0, none⟩ = some (.bool false) ∧ V1.cell? ⟨P', 1, none⟩ = some (.slice none 0 0) ∧ V1.cell? ⟨P', 2, none⟩ = some (.bool false) ∧ V1.cell? ⟨P', 3, none⟩ = some (.slice none 0 0) := ⟨hR1.cell 0, hR1.cell 1, hR1.cell 2, hR1.cell 3⟩
    have f0 := hR1.frozen 0
    have f1 := hR1.frozen 1
    have f2 := hR1.frozen 2
    have f3 := hR1.frozen 3
    refine goU_step (by rfl) ?_
    go_wp2_with fail
    try (refine ⟨fun h => absurd h (by decide), ?_⟩)
    obtain ⟨V3, hV3⟩ : ∃ U, U = (((V1.setCell ⟨P', 0, none⟩ (.bool n8)).setCell ⟨P', 1, none⟩ (.slice A8 m8 c8)).setCell ⟨P', 2, none⟩ (.bool n9)).setCell ⟨P', 3, none⟩ (.slice A9 m9 c9) := ⟨_, rfl⟩
    rw [← hV3]
    have hf2 : Frm (· = P') V1 V3 := by rw [hV3]; exact frm4 V1 P' _ _ _ _
    have hR3 : Arr V3 P' 140 [.bool n8, .slice A8 m8 c8, .bool n9, .slice A9 m9 c9] := by rw [hV3]; exact arr4 hR1 _ _ _ _
    have hs3 : Below w.heap.size w V3 := hs1.trans (hf2.below (B := w.heap.size) hs1.size fun b (e : b = P') => by rw [e]; exact hRw)
    refine goU_nilN ?_
    exact HQ.out _ P P' _ _ _ _ _ _ _ _ _ (hB1.other hR1 hf2 hne) ⟨n8, A8, m8, c8, n9, A9, m9, c9, hR3, hx8.putF hR1 hf2, hx9.putF hR1 hf2⟩ hne hPw hRw hs3
 ·go_wp2_with fail
  obtain ⟨v1, hv1⟩ : ∃ V, V = v0.alloc (.cells #[.bool false, .slice none 0 0, .bool false, .slice none 0 0] 140) := ⟨_, rfl⟩
  obtain ⟨P, hXe⟩ : ∃ B, B = v0.heap.size := ⟨_, rfl⟩
  have hP : Arr v1 P 140 [.bool false, .slice none 0 0, .bool false, .slice none 0 0] := by rw [hv1, hXe]; exact Arr.new v0 _ [.bool false, .slice none 0 0, .bool false, .slice none 0 0]
  have hb0 : Below v0.heap.size v0 v1 := by rw [hv1]; exact (Below.refl _ _).alloc (Nat.le_refl _) _
  have hPw : w.heap.size ≤ P := by rw [hXe]; exact hs.size
  rw [← hv1, ← hXe]
  clear hv1 hXe
  replace hs := hs.trans (hb0.mono hs.size)
  first | refine ⟨fun _ => hs, ?_⟩ | refine ⟨hs, ?_⟩
  refine goU_two (by rfl) (by rfl) ?_ ?_ 
  ·refine goU_call1 32 (by rfl) (by rfl) (by go_simp) (Of_any num _ hn1 hn2) ?_
   rintro e v2 ⟨y2, rfl, hx2, hb1⟩
   obtain ⟨n2, A2, m2, c2, rfl, hx2⟩ := hx2.shp
   replace hP := keepA hP hb1 hP.lt
   replace hs := hs.trans (hb1.mono hs.size)
   refine ⟨_, rfl, fun _ => hs, ?_⟩
   simp only [sIB, List.set]
   refine goU_two (by rfl) (by rfl) ?_ ?_ 
   ·refine goU_call1 35 (by rfl) (by rfl) (by go_simp) (Of_any den _ hd1 hd2) ?_
    rintro e v3 ⟨y5, rfl, hx5, hb2⟩
    obtain ⟨n5, A5, m5, c5, rfl, hx5⟩ := hx5.shp
    replace hx2 := hx2.below hb2
    replace hP := keepA hP hb2 hP.lt
    replace hs := hs.trans (hb2.mono hs.size)
    refine ⟨_, rfl, fun _ => hs, ?_⟩
    simp only [sIB, List.set]
    refine goU_read 36 hs (by rfl) (by rfl) ?_ (by rfl) (fun wz hSw => ?_) ?_
    rotate_left
    ·go_simp
     try with_reducible rfl
    simp only [sIB, List.set]
    refine goU_two (by rfl) (by rfl) ?_ ?_ 
    ·refine goU_call1 38 (by rfl) (by rfl) (by go_simp) (norm_any (HNI.out.below hs) HA.out HB.out HL.out HLR.out HF1.out HF2.out HF3.out HF4.out HD0.out) ?_
     rintro e v4 ⟨y8, rfl, ⟨n8, A8, m8, c8, n9, A9, m9, c9, rfl, hx8, hx9⟩, hb3⟩
     rw [HG1.out] at hx8
     rw [HG2.out] at hx9
     replace hx2 := hx2.below hb3
     replace hx5 := hx5.below hb3
     replace hP := keepA hP hb3 hP.lt
     replace hs := hs.trans (hb3.mono hs.size)
     refine ⟨_, rfl, fun _ => hs, ?_⟩
     simp only [sIB, List.set]
     refine goU_step (by rfl) ?_
     go_wp2_with fail
     obtain ⟨v5, hv5⟩ : ∃ V, V = v4.alloc (.cells #[.bool false, .slice none 0 0, .bool false, .slice none 0 0] 140) := ⟨_, rfl⟩
     obtain ⟨P', hXe⟩ : ∃ B, B = v4.heap.size := ⟨_, rfl⟩
     have hR : Arr v5 P' 140 [.bool false, .slice none 0 0, .bool false, .slice none 0 0] := by rw [hv5, hXe]; exact Arr.new v4 _ [.bool false, .slice none 0 0, .bool false, .slice none 0 0]
     have hb4 : Below v4.heap.size v4 v5 := by rw [hv5]; exact (Below.refl _ _).alloc (Nat.le_refl _) _
     have hRw : w.heap.size ≤ P' := by rw [hXe]; exact hs.size
     rw [← hv5, ← hXe]
     have hne : P ≠ P' := by rw [hXe]; exact Nat.ne_of_lt hP.lt
     replace hx2 := hx2.below hb4
     replace hx5 := hx5.below hb4
     replace hx8 := hx8.below hb4
     replace hx9 := hx9.below hb4
     replace hP := keepA hP hb4 hP.lt
     clear hv5 hXe
     replace hs := hs.trans (hb4.mono hs.size)
     first | refine ⟨fun _ => hs, ?_⟩ | refine ⟨hs, ?_⟩
     obtain ⟨q0, q1, q2, q3⟩ : v5.cell? ⟨P, 0, none⟩ = some (.bool false) ∧ v5.cell? ⟨P, 1, none⟩ = some (.slice none 0 0) ∧ v5.cell? ⟨P, 2, none⟩ = some (.bool false) ∧ v5.cell? ⟨P, 3, none⟩ = some (.slice none 0 0) := ⟨hP.cell 0, hP.cell 1, hP.cell 2, hP.cell 3⟩
     have f0 := hP.frozen 0
     have f1 := hP.frozen 1
     have f2 := hP.frozen 2
     have f3 := hP.frozen 3
     refine goU_step (by rfl) ?_
     go_wp2_with fail
     try (refine ⟨fun h => absurd h (by decide), ?_⟩)
     obtain ⟨V1, hV1⟩ : ∃ U, U = (((v5.setCell ⟨P, 0, none⟩ (.bool n2)).setCell ⟨P, 1, none⟩ (.slice A2 m2 c2)).setCell ⟨P, 2, none⟩ (.bool n5)).setCell ⟨P, 3, none⟩ (.slice A5 m5 c5) := ⟨_, rfl⟩
     rw [← hV1]
     have hf1 : Frm (· = P) v5 V1 := by rw [hV1]; exact frm4 v5 P _ _ _ _
     have hP1 : Arr V1 P 140 [.bool n2, .slice A2 m2 c2, .bool n5, .slice A5 m5 c5] := by rw [hV1]; exact arr4 hP _ _ _ _
     have hB1 : FrB V1 P num den := ⟨n2, A2, m2, c2, n5, A5, m5, c5, hP1, hx2.putF hP hf1, hx5.putF hP hf1⟩
     have hR1 := hf1.arr hR (fun e => hne e.symm)
     replace hx8 := hx8.putF hP hf1
     replace hx9 := hx9.putF hP hf1
     have hs1 : Below w.heap.size w V1 := hs.trans (hf1.below (B := w.heap.size) hs.size fun b (e : b = P) => by rw [e]; exact hPw)
     clear hV1 q0 q1 q2 q3 f0 f1 f2 f3
     obtain ⟨q0, q1, q2, q3⟩ : V1.cell? ⟨P', 0, none⟩ = some (.bool false) ∧ V1.cell? ⟨P', 1, none⟩ = some (.slice none 0 0) ∧ V1.cell? ⟨P', 2, none⟩ = some (.bool false) ∧ V1.cell? ⟨P', 3, none⟩ = some (.slice none 0 0) := ⟨hR1.cell 0, hR1.cell 1, hR1.cell 2, hR1.cell 3⟩
     have f0 := hR1.frozen 0
     have f1 := hR1.frozen 1
     have f2 := hR1.frozen 2
     have f3 := hR1.frozen 3
     refine goU_step (by rfl) ?_
     go_wp2_with fail
     try (refine ⟨fun h => absurd h (by decide), ?_⟩)
     obtain ⟨V3, hV3⟩ : ∃ U, U = (((V1.setCell ⟨P', 0, none⟩ (.bool n8)).setCell ⟨P', 1, none⟩ (.slice A8 m8 c8)).setCell ⟨P', 2, none⟩ (.bool n9)).setCell ⟨P', 3, none⟩ (.slice A9 m9 c9) := ⟨_, rfl⟩
     rw [← hV3]
     have hf2 : Frm (· = P') V1 V3 := by rw [hV3]; exact frm4 V1 P' _ _ _ _
     have hR3 : Arr V3 P' 140 [.bool n8, .slice A8 m8 c8, .bool n9, .slice A9 m9 c9] := by rw [hV3]; exact arr4 hR1 _ _ _ _
     have hs3 : Below w.heap.size w V3 := hs1.trans (hf2.below (B := w.heap.size) hs1.size fun b (e : b = P') => by rw [e]; exact hRw)
     refine goU_nilN ?_
     exact HQ.out _ P P' _ _ _ _ _ _ _ _ _ (hB1.other hR1 hf2 hne) ⟨n8, A8, m8, c8, n9, A9, m9, c9, hR3, hx8.putF hR1 hf2, hx9.putF hR1 hf2⟩ hne hPw hRw hs3
    ·go_wp2_with fail
     obtain ⟨v4, hv4⟩ : ∃ V, V = v3.alloc (.cells #[.bool false, .slice none 0 0, .bool false, .slice none 0 0] 140) := ⟨_, rfl⟩
     obtain ⟨P', hXe⟩ : ∃ B, B = v3.heap.size := ⟨_, rfl⟩
     have hR : Arr v4 P' 140 [.bool false, .slice none 0 0, .bool false, .slice none 0 0] := by rw [hv4, hXe]; exact Arr.new v3 _ [.bool false, .slice none 0 0, .bool false, .slice none 0 0]
     have hb3 : Below v3.heap.size v3 v4 := by rw [hv4]; exact (Below.refl _ _).alloc (Nat.le_refl _) _
     have hRw : w.heap.size ≤ P' := by rw [hXe]; exact hs.size
     rw [← hv4, ← hXe]
     have hne : P ≠ P' := by rw [hXe]; exact Nat.ne_of_lt hP.lt
     replace hx2 := hx2.below hb3
     replace hx5 := hx5.below hb3
     replace hP := keepA hP hb3 hP.lt
     clear hv4 hXe
     replace hs := hs.trans (hb3.mono hs.size)
     first | refine ⟨fun _ => hs, ?_⟩ | refine ⟨hs, ?_⟩
     refine goU_call 38 (by rfl) (by rfl) (by rfl) (by go_simp) (norm_any (HNI.out.below hs) HA.out HB.out HL.out HLR.out HF1.out HF2.out HF3.out HF4.out HD0.out) ?_
     rintro e v5 ⟨y8, rfl, ⟨n8, A8, m8, c8, n9, A9, m9, c9, rfl, hx8, hx9⟩, hb4⟩
     rw [HG1.out] at hx8
     rw [HG2.out] at hx9
     replace hx2 := hx2.below hb4
     replace hx5 := hx5.below hb4
     replace hP := keepA hP hb4 hP.lt
     replace hR := keepA hR hb4 hR.lt
     replace hs := hs.trans (hb4.mono hs.size)
     refine ⟨_, rfl, fun _ => hs, ?_⟩
     simp only [sIB, List.set]
     obtain ⟨q0, q1, q2, q3⟩ : v5.cell? ⟨P, 0, none⟩ = some (.bool false) ∧ v5.cell? ⟨P, 1, none⟩ = some (.slice none 0 0) ∧ v5.cell? ⟨P, 2, none⟩ = some (.bool false) ∧ v5.cell? ⟨P, 3, none⟩ = some (.slice none 0 0) := ⟨hP.cell 0, hP.cell 1, hP.cell 2, hP.cell 3⟩
     have f0 := hP.frozen 0
     have f1 := hP.frozen 1
     have f2 := hP.frozen 2
     have f3 := hP.frozen 3
     refine goU_step (by rfl) ?_
     go_wp2_with fail
     try (refine ⟨fun h => absurd h (by decide), ?_⟩)
     obtain ⟨V1, hV1⟩ : ∃ U, U = (((v5.setCell ⟨P, 0, none⟩ (.bool n2)).setCell ⟨P, 1, none⟩ (.slice A2 m2 c2)).setCell ⟨P, 2, none⟩ (.bool n5)).setCell ⟨P, 3, none⟩ (.slice A5 m5 c5) := ⟨_, rfl⟩
     rw [← hV1]
     have hf1 : Frm (· = P) v5 V1 := by rw [hV1]; exact frm4 v5 P _ _ _ _
     have hP1 : Arr V1 P 140 [.bool n2, .slice A2 m2 c2, .bool n5, .slice A5 m5 c5] := by rw [hV1]; exact arr4 hP _ _ _ _
     have hB1 : FrB V1 P num den := ⟨n2, A2, m2, c2, n5, A5, m5, c5, hP1, hx2.putF hP hf1, hx5.putF hP hf1⟩
     have hR1 := hf1.arr hR (fun e => hne e.symm)
     replace hx8 := hx8.putF hP hf1
     replace hx9 := hx9.putF hP hf1
     have hs1 : Below w.heap.size w V1 := hs.trans (hf1.below (B := w.heap.size) hs.size fun b (e : b = P) => by rw [e]; exact hPw)
     clear hV1 q0 q1 q2 q3 f0 f1 f2 f3
     obtain ⟨q0, q1, q2, q3⟩ : V1.cell? ⟨P', 0, none⟩ = some (.bool false) ∧ V1.cell? ⟨P', 1, none⟩ = some (.slice none 0 0) ∧ V1.cell? ⟨P', 2, none⟩ = some (.bool false) ∧ V1.cell? ⟨P', 3, none⟩ = some (.slice none 0 0) := ⟨hR1.cell 0, hR1.cell 1, hR1.cell 2, hR1.cell 3⟩
     have f0 := hR1.frozen 0
     have f1 := hR1.frozen 1
     have f2 := hR1.frozen 2
     have f3 := hR1.frozen 3
     refine goU_step (by rfl) ?_
     go_wp2_with fail
     try (refine ⟨fun h => absurd h (by decide), ?_⟩)
     obtain ⟨V3, hV3⟩ : ∃ U, U = (((V1.setCell ⟨P', 0, none⟩ (.bool n8)).setCell ⟨P', 1, none⟩ (.slice A8 m8 c8)).setCell ⟨P', 2, none⟩ (.bool n9)).setCell ⟨P', 3, none⟩ (.slice A9 m9 c9) := ⟨_, rfl⟩
     rw [← hV3]
     have hf2 : Frm (· = P') V1 V3 := by rw [hV3]; exact frm4 V1 P' _ _ _ _
     have hR3 : Arr V3 P' 140 [.bool n8, .slice A8 m8 c8, .bool n9, .slice A9 m9 c9] := by rw [hV3]; exact arr4 hR1 _ _ _ _
     have hs3 : Below w.heap.size w V3 := hs1.trans (hf2.below (B := w.heap.size) hs1.size fun b (e : b = P') => by rw [e]; exact hRw)
     refine goU_nilN ?_
     exact HQ.out _ P P' _ _ _ _ _ _ _ _ _ (hB1.other hR1 hf2 hne) ⟨n8, A8, m8, c8, n9, A9, m9, c9, hR3, hx8.putF hR1 hf2, hx9.putF hR1 hf2⟩ hne hPw hRw hs3
   ·go_wp2_with fail
    obtain ⟨v3, hv3⟩ : ∃ V, V = v2.alloc (.cells #[.bool false, .slice none 0 0, .bool false, .slice none 0 0] 140) := ⟨_, rfl⟩
    obtain ⟨P', hXe⟩ : ∃ B, B = v2.heap.size := ⟨_, rfl⟩
    have hR : Arr v3 P' 140 [.bool false, .slice none 0 0, .bool false, .slice none 0 0] := by rw [hv3, hXe]; exact Arr.new v2 _ [.bool false, .slice none 0 0, .bool false, .slice none 0 0]
    have hb2 : Below v2.heap.size v2 v3 := by rw [hv3]; exact (Below.refl _ _).alloc (Nat.le_refl _) _
    have hRw : w.heap.size ≤ P' := by rw [hXe]; exact hs.size
    rw [← hv3, ← hXe]
    have hne : P ≠ P' := by rw [hXe]; exact Nat.ne_of_lt hP.lt
    replace hx2 := hx2.below hb2
    replace hP := keepA hP hb2 hP.lt
    clear hv3 hXe
    replace hs := hs.trans (hb2.mono hs.size)
    first | refine ⟨fun _ => hs, ?_⟩ | refine ⟨hs, ?_⟩
    refine goU_call 35 (by rfl) (by rfl) (by rfl) (by go_simp) (Of_any den _ hd1 hd2) ?_
    rintro e v4 ⟨y5, rfl, hx5, hb3⟩
    obtain ⟨n5, A5, m5, c5, rfl, hx5⟩ := hx5.shp
    replace hx2 := hx2.below hb3
    replace hP := keepA hP hb3 hP.lt
    replace hR := keepA hR hb3 hR.lt
    replace hs := hs.trans (hb3.mono hs.size)
    refine ⟨_, rfl, fun _ => hs, ?_⟩
    simp only [sIB, List.set]
    refine goU_read 36 hs (by rfl) (by rfl) ?_ (by rfl) (fun wz hSw => ?_) ?_
    rotate_left
    ·go_simp
     try with_reducible rfl
    simp only [sIB, List.set]
    refine goU_call 38 (by rfl) (by rfl) (by rfl) (by go_simp) (norm_any (HNI.out.below hs) HA.out HB.out HL.out HLR.out HF1.out HF2.out HF3.out HF4.out HD0.out) ?_
    rintro e v5 ⟨y8, rfl, ⟨n8, A8, m8, c8, n9, A9, m9, c9, rfl, hx8, hx9⟩, hb4⟩
    rw [HG1.out] at hx8
    rw [HG2.out] at hx9
    replace hx2 := hx2.below hb4
    replace hx5 := hx5.below hb4
    replace hP := keepA hP hb4 hP.lt
    replace hR := keepA hR hb4 hR.lt
    replace hs := hs.trans (hb4.mono hs.size)
    refine ⟨_, rfl, fun _ => hs, ?_⟩
    simp only [sIB, List.set]
    obtain ⟨q0, q1, q2, q3⟩ : v5.cell? ⟨P, 0, none⟩ = some (.bool false) ∧ v5.cell? ⟨P, 1, none⟩ = some (.slice none 0 0) ∧ v5.cell? ⟨P, 2, none⟩ = some (.bool false) ∧ v5.cell? ⟨P, 3, none⟩ = some (.slice none 0 0) := ⟨hP.cell 0, hP.cell 1, hP.cell 2, hP.cell 3⟩
    have f0 := hP.frozen 0
    have f1 := hP.frozen 1
    have f2 := hP.frozen 2
    have f3 := hP.frozen 3
    refine goU_step (by rfl) ?_
    go_wp2_with fail
    try (refine ⟨fun h => absurd h (by decide), ?_⟩)
    obtain ⟨V1, hV1⟩ : ∃ U, U = (((v5.setCell ⟨P, 0, none⟩ (.bool n2)).setCell ⟨P, 1, none⟩ (.slice A2 m2 c2)).setCell ⟨P, 2, none⟩ (.bool n5)).setCell ⟨P, 3, none⟩ (.slice A5 m5 c5) := ⟨_, rfl⟩
    rw [← hV1]
    have hf1 : Frm (· = P) v5 V1 := by rw [hV1]; exact frm4 v5 P _ _ _ _
    have hP1 : Arr V1 P 140 [.bool n2, .slice A2 m2 c2, .bool n5, .slice A5 m5 c5] := by rw [hV1]; exact arr4 hP _ _ _ _
    have hB1 : FrB V1 P num den := ⟨n2, A2, m2, c2, n5, A5, m5, c5, hP1, hx2.putF hP hf1, hx5.putF hP hf1⟩
    have hR1 := hf1.arr hR (fun e => hne e.symm)
    replace hx8 := hx8.putF hP hf1
    replace hx9 := hx9.putF hP hf1
    have hs1 : Below w.heap.size w V1 := hs.trans (hf1.below (B := w.heap.size) hs.size fun b (e : b = P) => by rw [e]; exact hPw)
    clear hV1 q0 q1 q2 q3 f0 f1 f2 f3
    obtain ⟨q0, q1, q2, q3⟩ : V1.cell? ⟨P', 0, none⟩ = some (.bool false) ∧ V1.cell? ⟨P', 1, none⟩ = some (.slice none 0 0) ∧ V1.cell? ⟨P', 2, none⟩ = some (.bool false) ∧ V1.cell? ⟨P', 3, none⟩ = some (.slice none 0 0) := ⟨hR1.cell 0, hR1.cell 1, hR1.cell 2, hR1.cell 3⟩
    have f0 := hR1.frozen 0
    have f1 := hR1.frozen 1
    have f2 := hR1.frozen 2
    have f3 := hR1.frozen 3
    refine goU_step (by rfl) ?_
    go_wp2_with fail
    try (refine ⟨fun h => absurd h (by decide), ?_⟩)
    obtain ⟨V3, hV3⟩ : ∃ U, U = (((V1.setCell ⟨P', 0, none⟩ (.bool n8)).setCell ⟨P', 1, none⟩ (.slice A8 m8 c8)).setCell ⟨P', 2, none⟩ (.bool n9)).setCell ⟨P', 3, none⟩ (.slice A9 m9 c9) := ⟨_, rfl⟩
    rw [← hV3]
    have hf2 : Frm (· = P') V1 V3 := by rw [hV3]; exact frm4 V1 P' _ _ _ _
    have hR3 : Arr V3 P' 140 [.bool n8, .slice A8 m8 c8, .bool n9, .slice A9 m9 c9] := by rw [hV3]; exact arr4 hR1 _ _ _ _
    have hs3 : Below w.heap.size w V3 := hs1.trans (hf2.below (B := w.heap.size) hs1.size fun b (e : b = P') => by rw [e]; exact hRw)
    refine goU_nilN ?_
    exact HQ.out _ P P' _ _ _ _ _ _ _ _ _ (hB1.other hR1 hf2 hne) ⟨n8, A8, m8, c8, n9, A9, m9, c9, hR3, hx8.putF hR1 hf2, hx9.putF hR1 hf2⟩ hne hPw hRw hs3
  ·go_wp2_with fail
   obtain ⟨v2, hv2⟩ : ∃ V, V = v1.alloc (.cells #[.bool false, .slice none 0 0, .bool false, .slice none 0 0] 140) := ⟨_, rfl⟩
   obtain ⟨P', hXe⟩ : ∃ B, B = v1.heap.size := ⟨_, rfl⟩
   have hR : Arr v2 P' 140 [.bool false, .slice none 0 0, .bool false, .slice none 0 0] := by rw [hv2, hXe]; exact Arr.new v1 _ [.bool false, .slice none 0 0, .bool false, .slice none 0 0]
   have hb1 : Below v1.heap.size v1 v2 := by rw [hv2]; exact (Below.refl _ _).alloc (Nat.le_refl _) _
   have hRw : w.heap.size ≤ P' := by rw [hXe]; exact hs.size
   rw [← hv2, ← hXe]
   have hne : P ≠ P' := by rw [hXe]; exact Nat.ne_of_lt hP.lt
   replace hP := keepA hP hb1 hP.lt
   clear hv2 hXe
   replace hs := hs.trans (hb1.mono hs.size)
   first | refine ⟨fun _ => hs, ?_⟩ | refine ⟨hs, ?_⟩
   refine goU_call 32 (by rfl) (by rfl) (by rfl) (by go_simp) (Of_any num _ hn1 hn2) ?_
   rintro e v3 ⟨y2, rfl, hx2, hb2⟩
   obtain ⟨n2, A2, m2, c2, rfl, hx2⟩ := hx2.shp
   replace hP := keepA hP hb2 hP.lt
   replace hR := keepA hR hb2 hR.lt
   replace hs := hs.trans (hb2.mono hs.size)
   refine ⟨_, rfl, fun _ => hs, ?_⟩
   simp only [sIB, List.set]
   refine goU_call 35 (by rfl) (by rfl) (by rfl) (by go_simp) (Of_any den _ hd1 hd2) ?_
   rintro e v4 ⟨y5, rfl, hx5, hb3⟩
   obtain ⟨n5, A5, m5, c5, rfl, hx5⟩ := hx5.shp
   replace hx2 := hx2.below hb3
   replace hP := keepA hP hb3 hP.lt
   replace hR := keepA hR hb3 hR.lt
   replace hs := hs.trans (hb3.mono hs.size)
   refine ⟨_, rfl, fun _ => hs, ?_⟩
   simp only [sIB, List.set]
   refine goU_read 36 hs (by rfl) (by rfl) ?_ (by rfl) (fun wz hSw => ?_) ?_
   rotate_left
   ·go_simp
    try with_reducible rfl
   simp only [sIB, List.set]
   refine goU_call 38 (by rfl) (by rfl) (by rfl) (by go_simp) (norm_any (HNI.out.below hs) HA.out HB.out HL.out HLR.out HF1.out HF2.out HF3.out HF4.out HD0.out) ?_
   rintro e v5 ⟨y8, rfl, ⟨n8, A8, m8, c8, n9, A9, m9, c9, rfl, hx8, hx9⟩, hb4⟩
   rw [HG1.out] at hx8
   rw [HG2.out] at hx9
   replace hx2 := hx2.below hb4
   replace hx5 := hx5.below hb4
   replace hP := keepA hP hb4 hP.lt
   replace hR := keepA hR hb4 hR.lt
   replace hs := hs.trans (hb4.mono hs.size)
   refine ⟨_, rfl, fun _ => hs, ?_⟩
   simp only [sIB, List.set]
   obtain ⟨q0, q1, q2, q3⟩ : v5.cell? ⟨P, 0, none⟩ = some (.bool false) ∧ v5.cell? ⟨P, 1, none⟩ = some (.slice none 0 0) ∧ v5.cell? ⟨P, 2, none⟩ = some (.bool false) ∧ v5.cell? ⟨P, 3, none⟩ = some (.slice none 0 0) := ⟨hP.cell 0, hP.cell 1, hP.cell 2, hP.cell 3⟩
   have f0 := hP.frozen 0
   have f1 := hP.frozen 1
   have f2 := hP.frozen 2
   have f3 := hP.frozen 3
   refine goU_step (by rfl) ?_
   go_wp2_with fail
   try (refine ⟨fun h => absurd h (by decide), ?_⟩)
   obtain ⟨V1, hV1⟩ : ∃ U, U = (((v5.setCell ⟨P, 0, none⟩ (.bool n2)).setCell ⟨P, 1, none⟩ (.slice A2 m2 c2)).setCell ⟨P, 2, none⟩ (.bool n5)).setCell ⟨P, 3, none⟩ (.slice A5 m5 c5) := ⟨_, rfl⟩
   rw [← hV1]
   have hf1 : Frm (· = P) v5 V1 := by rw [hV1]; exact frm4 v5 P _ _ _ _
   have hP1 : Arr V1 P 140 [.bool n2, .slice A2 m2 c2, .bool n5, .slice A5 m5 c5] := by rw [hV1]; exact arr4 hP _ _ _ _
   have hB1 : FrB V1 P num den := ⟨n2, A2, m2, c2, n5, A5, m5, c5, hP1, hx2.putF hP hf1, hx5.putF hP hf1⟩
   have hR1 := hf1.arr hR (fun e => hne e.symm)
   replace hx8 := hx8.putF hP hf1
   replace hx9 := hx9.putF hP hf1
   have hs1 : Below w.heap.size w V1 := hs.trans (hf1.below (B := w.heap.size) hs.size fun b (e : b = P) => by rw [e]; exact hPw)
   clear hV1 q0 q1 q2 q3 f0 f1 f2 f3
   obtain ⟨q0, q1, q2, q3⟩ : V1.cell? ⟨P', 0, none⟩ = some (.bool false) ∧ V1.cell? ⟨P', 1, none⟩ = some (.slice none 0 0) ∧ V1.cell? ⟨P', 2, none⟩ = some (.bool false) ∧ V1.cell? ⟨P', 3, none⟩ = some (.slice none 0 0) := ⟨hR1.cell 0, hR1.cell 1, hR1.cell 2, hR1.cell 3⟩
   have f0 := hR1.frozen 0
   have f1 := hR1.frozen 1
   have f2 := hR1.frozen 2
   have f3 := hR1.frozen 3
   refine goU_step (by rfl) ?_
   go_wp2_with fail
   try (refine ⟨fun h => absurd h (by decide), ?_⟩)
   obtain ⟨V3, hV3⟩ : ∃ U, U = (((V1.setCell ⟨P', 0, none⟩ (.bool n8)).setCell ⟨P', 1, none⟩ (.slice A8 m8 c8)).setCell ⟨P', 2, none⟩ (.bool n9)).setCell ⟨P', 3, none⟩ (.slice A9 m9 c9) := ⟨_, rfl⟩
   rw [← hV3]
   have hf2 : Frm (· = P') V1 V3 := by rw [hV3]; exact frm4 V1 P' _ _ _ _
   have hR3 : Arr V3 P' 140 [.bool n8, .slice A8 m8 c8, .bool n9, .slice A9 m9 c9] := by rw [hV3]; exact arr4 hR1 _ _ _ _
   have hs3 : Below w.heap.size w V3 := hs1.trans (hf2.below (B := w.heap.size) hs1.size fun b (e : b = P') => by rw [e]; exact hRw)
   refine goU_nilN ?_
   exact HQ.out _ P P' _ _ _ _ _ _ _ _ _ (hB1.other hR1 hf2 hne) ⟨n8, A8, m8, c8, n9, A9, m9, c9, hR3, hx8.putF hR1 hf2, hx9.putF hR1 hf2⟩ hne hPw hRw hs3
 ·go_wp2_with fail
  obtain ⟨v1, hv1⟩ : ∃ V, V = v0.alloc (.cells #[.bool false, .slice none 0 0, .bool false, .slice none 0 0] 140) := ⟨_, rfl⟩
  obtain ⟨P', hXe⟩ : ∃ B, B = v0.heap.size := ⟨_, rfl⟩
  have hR : Arr v1 P' 140 [.bool false, .slice none 0 0, .bool false, .slice none 0 0] := by rw [hv1, hXe]; exact Arr.new v0 _ [.bool false, .slice none 0 0, .bool false, .slice none 0 0]
  have hb0 : Below v0.heap.size v0 v1 := by rw [hv1]; exact (Below.refl _ _).alloc (Nat.le_refl _) _
  have hRw : w.heap.size ≤ P' := by rw [hXe]; exact hs.size
  rw [← hv1, ← hXe]
  clear hv1 hXe
  replace hs := hs.trans (hb0.mono hs.size)
  first | refine ⟨fun _ => hs, ?_⟩ | refine ⟨hs, ?_⟩
  refine goU_two (by rfl) (by rfl) ?_ ?_ 
  ·refine goU_call1 32 (by rfl) (by rfl) (by go_simp) (Of_any num _ hn1 hn2) ?_
   rintro e v2 ⟨y2, rfl, hx2, hb1⟩
   obtain ⟨n2, A2, m2, c2, rfl, hx2⟩ := hx2.shp
   replace hR := keepA hR hb1 hR.lt
   replace hs := hs.trans (hb1.mono hs.size)
   refine ⟨_, rfl, fun _ => hs, ?_⟩
   simp only [sIB, List.set]
   refine goU_two (by rfl) (by rfl) ?_ ?_ 
   ·refine goU_call1 35 (by rfl) (by rfl) (by go_simp) (Of_any den _ hd1 hd2) ?_
    rintro e v3 ⟨y5, rfl, hx5, hb2⟩
    obtain ⟨n5, A5, m5, c5, rfl, hx5⟩ := hx5.shp
    replace hx2 := hx2.below hb2
    replace hR := keepA hR hb2 hR.lt
    replace hs := hs.trans (hb2.mono hs.size)
    refine ⟨_, rfl, fun _ => hs, ?_⟩
    simp only [sIB, List.set]
    refine goU_read 36 hs (by rfl) (by rfl) ?_ (by rfl) (fun wz hSw => ?_) ?_
    rotate_left
    ·go_simp
     try with_reducible rfl
    simp only [sIB, List.set]
    refine goU_two (by rfl) (by rfl) ?_ ?_ 
    ·refine goU_call1 38 (by rfl) (by rfl) (by go_simp) (norm_any (HNI.out.below hs) HA.out HB.out HL.out HLR.out HF1.out HF2.out HF3.out HF4.out HD0.out) ?_
     rintro e v4 ⟨y8, rfl, ⟨n8, A8, m8, c8, n9, A9, m9, c9, rfl, hx8, hx9⟩, hb3⟩
     rw [HG1.out] at hx8
     rw [HG2.out] at hx9
     replace hx2 := hx2.below hb3
     replace hx5 := hx5.below hb3
     replace hR := keepA hR hb3 hR.lt
     replace hs := hs.trans (hb3.mono hs.size)
     refine ⟨_, rfl, fun _ => hs, ?_⟩
     simp only [sIB, List.set]
     refine goU_step (by rfl) ?_
     go_wp2_with fail
     obtain ⟨v5, hv5⟩ : ∃ V, V = v4.alloc (.cells #[.bool false, .slice none 0 0, .bool false, .slice none 0 0] 140) := ⟨_, rfl⟩
     obtain ⟨P, hXe⟩ : ∃ B, B = v4.heap.size := ⟨_, rfl⟩
     have hP : Arr v5 P 140 [.bool false, .slice none 0 0, .bool false, .slice none 0 0] := by rw [hv5, hXe]; exact Arr.new v4 _ [.bool false, .slice none 0 0, .bool false, .slice none 0 0]
     have hb4 : Below v4.heap.size v4 v5 := by rw [hv5]; exact (Below.refl _ _).alloc (Nat.le_refl _) _
     have hPw : w.heap.size ≤ P := by rw [hXe]; exact hs.size
     rw [← hv5, ← hXe]
     have hne : P ≠ P' := by rw [hXe]; exact Nat.ne_of_gt hR.lt
     replace hx2 := hx2.below hb4
     replace hx5 := hx5.below hb4
     replace hx8 := hx8.below hb4
     replace hx9 := hx9.below hb4
     replace hR := keepA hR hb4 hR.lt
     clear hv5 hXe
     replace hs := hs.trans (hb4.mono hs.size)
     first | refine ⟨fun _ => hs, ?_⟩ | refine ⟨hs, ?_⟩
     obtain ⟨q0, q1, q2, q3⟩ : v5.cell? ⟨P, 0, none⟩ = some (.bool false) ∧ v5.cell? ⟨P, 1, none⟩ = some (.slice none 0 0) ∧ v5.cell? ⟨P, 2, none⟩ = some (.bool false) ∧ v5.cell? ⟨P, 3, none⟩ = some (.slice none 0 0) := ⟨hP.cell 0, hP.cell 1, hP.cell 2, hP.cell 3⟩
     have f0 := hP.frozen 0
     have f1 := hP.frozen 1
     have f2 := hP.frozen 2
     have f3 := hP.frozen 3
     refine goU_step (by rfl) ?_
     go_wp2_with fail
     try (refine ⟨fun h => absurd h (by decide), ?_⟩)
     obtain ⟨V1, hV1⟩ : ∃ U, U = (((v5.setCell ⟨P, 0, none⟩ (.bool n2)).setCell ⟨P, 1, none⟩ (.slice A2 m2 c2)).setCell ⟨P, 2, none⟩ (.bool n5)).setCell ⟨P, 3, none⟩ (.slice A5 m5 c5) := ⟨_, rfl⟩
     rw [← hV1]
     have hf1 : Frm (· = P) v5 V1 := by rw [hV1]; exact frm4 v5 P _ _ _ _
     have hP1 : Arr V1 P 140 [.bool n2, .slice A2 m2 c2, .bool n5, .slice A5 m5 c5] := by rw [hV1]; exact arr4 hP _ _ _ _
     have hB1 : FrB V1 P num den := ⟨n2, A2, m2, c2, n5, A5, m5, c5, hP1, hx2.putF hP hf1, hx5.putF hP hf1⟩
     have hR1 := hf1.arr hR (fun e => hne e.symm)
     replace hx8 := hx8.putF hP hf1
     replace hx9 := hx9.putF hP hf1
     have hs1 : Below w.heap.size w V1 := hs.trans (hf1.below (B := w.heap.size) hs.size fun b (e : b = P) => by rw [e]; exact hPw)
     clear hV1 q0 q1 q2 q3 f0 f1 f2 f3
     obtain ⟨q0, q1, q2, q3⟩ : V1.cell? ⟨P', 0, none⟩ = some (.bool false) ∧ V1.cell? ⟨P', 1, none⟩ = some (.slice none 0 0) ∧ V1.cell? ⟨P', 2, none⟩ = some (.bool false) ∧ V1.cell? ⟨P', 3, none⟩ = some (.slice none 0 0) := ⟨hR1.cell 0, hR1.cell 1, hR1.cell 2, hR1.cell 3⟩
     have f0 := hR1.frozen 0
     have f1 := hR1.frozen 1
     have f2 := hR1.frozen 2
     have f3 := hR1.frozen 3
     refine goU_step (by rfl) ?_
     go_wp2_with fail
     try (refine ⟨fun h => absurd h (by decide), ?_⟩)
     obtain ⟨V3, hV3⟩ : ∃ U, U = (((V1.setCell ⟨P', 0, none⟩ (.bool n8)).setCell ⟨P', 1, none⟩ (.slice A8 m8 c8)).setCell ⟨P', 2, none⟩ (.bool n9)).setCell ⟨P', 3, none⟩ (.slice A9 m9 c9) := ⟨_, rfl⟩
     rw [← hV3]
     have hf2 : Frm (· = P') V1 V3 := by rw [hV3]; exact frm4 V1 P' _ _ _ _
     have hR3 : Arr V3 P' 140 [.bool n8, .slice A8 m8 c8, .bool n9, .slice A9 m9 c9] := by rw [hV3]; exact arr4 hR1 _ _ _ _
     have hs3 : Below w.heap.size w V3 := hs1.trans (hf2.below (B := w.heap.size) hs1.size fun b (e : b = P') => by rw [e]; exact hRw)
     refine goU_nilN ?_
     exact HQ.out _ P P' _ _ _ _ _ _ _ _ _ (hB1.other hR1 hf2 hne) ⟨n8, A8, m8, c8, n9, A9, m9, c9, hR3, hx8.putF hR1 hf2, hx9.putF hR1 hf2⟩ hne hPw hRw hs3
    ·go_wp2_with fail
     obtain ⟨v4, hv4⟩ : ∃ V, V = v3.alloc (.cells #[.bool false, .slice none 0 0, .bool false, .slice none 0 0] 140) := ⟨_, rfl⟩
     obtain ⟨P, hXe⟩ : ∃ B, B = v3.heap.size := ⟨_, rfl⟩
     have hP : Arr v4 P 140 [.bool false, .slice none 0 0, .bool false, .slice none 0 0] := by rw [hv4, hXe]; exact Arr.new v3 _ [.bool false, .slice none 0 0, .bool false, .slice none 0 0]
     have hb3 : Below v3.heap.size v3 v4 := by rw [hv4]; exact (Below.refl _ _).alloc (Nat.le_refl _) _
     have hPw : w.heap.size ≤ P := by rw [hXe]; exact hs.size
     rw [← hv4, ← hXe]
     have hne : P ≠ P' := by rw [hXe]; exact Nat.ne_of_gt hR.lt
     replace hx2 := hx2.below hb3
     replace hx5 := hx5.below hb3
     replace hR := keepA hR hb3 hR.lt
     clear hv4 hXe
     replace hs := hs.trans (hb3.mono hs.size)
     first | refine ⟨fun _ => hs, ?_⟩ | refine ⟨hs, ?_⟩
     refine goU_call 38 (by rfl) (by rfl) (by rfl) (by go_simp) (norm_any (HNI.out.below hs) HA.out HB.out HL.out HLR.out HF1.out HF2.out HF3.out HF4.out HD0.out) ?_
     rintro e v5 ⟨y8, rfl, ⟨n8, A8, m8, c8, n9, A9, m9, c9, rfl, hx8, hx9⟩, hb4⟩
     rw [HG1.out] at hx8
     rw [HG2.out] at hx9
     replace hx2 := hx2.below hb4
     replace hx5 := hx5.below hb4
     replace hP := keepA hP hb4 hP.lt
     replace hR := keepA hR hb4 hR.lt
     replace hs := hs.trans (hb4.mono hs.size)
     refine ⟨_, rfl, fun _ => hs, ?_⟩
     simp only [sIB, List.set]
     obtain ⟨q0, q1, q2, q3⟩ : v5.cell? ⟨P, 0, none⟩ = some (.bool false) ∧ v5.cell? ⟨P, 1, none⟩ = some (.slice none 0 0) ∧ v5.cell? ⟨P, 2, none⟩ = some (.bool false) ∧ v5.cell? ⟨P, 3, none⟩ = some (.slice none 0 0) := ⟨hP.cell 0, hP.cell 1, hP.cell 2, hP.cell 3⟩
     have f0 := hP.frozen 0
     have f1 := hP.frozen 1
     have f2 := hP.frozen 2
     have f3 := hP.frozen 3
     refine goU_step (by rfl) ?_
     go_wp2_with fail
     try (refine ⟨fun h => absurd h (by decide), ?_⟩)
     obtain ⟨V1, hV1⟩ : ∃ U, U = (((v5.setCell ⟨P, 0, none⟩ (.bool n2)).setCell ⟨P, 1, none⟩ (.slice A2 m2 c2)).setCell ⟨P, 2, none⟩ (.bool n5)).setCell ⟨P, 3, none⟩ (.slice A5 m5 c5) := ⟨_, rfl⟩
     rw [← hV1]
     have hf1 : Frm (· = P) v5 V1 := by rw [hV1]; exact frm4 v5 P _ _ _ _
     have hP1 : Arr V1 P 140 [.bool n2, .slice A2 m2 c2, .bool n5, .slice A5 m5 c5] := by rw [hV1]; exact arr4 hP _ _ _ _
     have hB1 : FrB V1 P num den := ⟨n2, A2, m2, c2, n5, A5, m5, c5, hP1, hx2.putF hP hf1, hx5.putF hP hf1⟩
     have hR1 := hf1.arr hR (fun e => hne e.symm)
     replace hx8 := hx8.putF hP hf1
     replace hx9 := hx9.putF hP hf1
     have hs1 : Below w.heap.size w V1 := hs.trans (hf1.below (B := w.heap.size) hs.size fun b (e : b = P) => by rw [e]; exact hPw)
     clear hV1 q0 q1 q2 q3 f0 f1 f2 f3
     obtain ⟨q0, q1, q2, q3⟩ : V1.cell? ⟨P', 0, none⟩ = some (.bool false) ∧ V1.cell? ⟨P', 1, none⟩ = some (.slice none 0 0) ∧ V1.cell? ⟨P', 2, none⟩ = some (.bool false) ∧ V1.cell? ⟨P', 3, none⟩ = some (.slice none 0 0) := ⟨hR1.cell 0, hR1.cell 1, hR1.cell 2, hR1.cell 3⟩
     have f0 := hR1.frozen 0
     have f1 := hR1.frozen 1
     have f2 := hR1.frozen 2
     have f3 := hR1.frozen 3
     refine goU_step (by rfl) ?_
     go_wp2_with fail
     try (refine ⟨fun h => absurd h (by decide), ?_⟩)
     obtain ⟨V3, hV3⟩ : ∃ U, U = (((V1.setCell ⟨P', 0, none⟩ (.bool n8)).setCell ⟨P', 1, none⟩ (.slice A8 m8 c8)).setCell ⟨P', 2, none⟩ (.bool n9)).setCell ⟨P', 3, none⟩ (.slice A9 m9 c9) := ⟨_, rfl⟩
     rw [← hV3]
     have hf2 : Frm (· = P') V1 V3 := by rw [hV3]; exact frm4 V1 P' _ _ _ _
     have hR3 : Arr V3 P' 140 [.bool n8, .slice A8 m8 c8, .bool n9, .slice A9 m9 c9] := by rw [hV3]; exact arr4 hR1 _ _ _ _
     have hs3 : Below w.heap.size w V3 := hs1.trans (hf2.below (B := w.heap.size) hs1.size fun b (e : b = P') => by rw [e]; exact hRw)
     refine goU_nilN ?_
     exact HQ.out _ P P' _ _ _ _ _ _ _ _ _ (hB1.other hR1 hf2 hne) ⟨n8, A8, m8, c8, n9, A9, m9, c9, hR3, hx8.putF hR1 hf2, hx9.putF hR1 hf2⟩ hne hPw hRw hs3
   ·go_wp2_with fail
    obtain ⟨v3, hv3⟩ : ∃ V, V = v2.alloc (.cells #[.bool false, .slice none 0 0, .bool false, .slice none 0 0] 140) := ⟨_, rfl⟩
    obtain ⟨P, hXe⟩ : ∃ B, B = v2.heap.size := ⟨_, rfl⟩
    have hP : Arr v3 P 140 [.bool false, .slice none 0 0, .bool false, .slice none 0 0] := by rw [hv3, hXe]; exact Arr.new v2 _ [.bool false, .slice none 0 0, .bool false, .slice none 0 0]
    have hb2 : Below v2.heap.size v2 v3 := by rw [hv3]; exact (Below.refl _ _).alloc (Nat.le_refl _) _
    have hPw : w.heap.size ≤ P := by rw [hXe]; exact hs.size
    rw [← hv3, ← hXe]
    have hne : P ≠ P' := by rw [hXe]; exact Nat.ne_of_gt hR.lt
    replace hx2 := hx2.below hb2
    replace hR := keepA hR hb2 hR.lt
    clear hv3 hXe
    replace hs := hs.trans (hb2.mono hs.size)
    first | refine ⟨fun _ => hs, ?_⟩ | refine ⟨hs, ?_⟩
    refine goU_call 35 (by rfl) (by rfl) (by rfl) (by go_simp) (Of_any den _ hd1 hd2) ?_
    rintro e v4 ⟨y5, rfl, hx5, hb3⟩
    obtain ⟨n5, A5, m5, c5, rfl, hx5⟩ := hx5.shp
    replace hx2 := hx2.below hb3
    replace hP := keepA hP hb3 hP.lt
    replace hR := keepA hR hb3 hR.lt
    replace hs := hs.trans (hb3.mono hs.size)
    refine ⟨_, rfl, fun _ => hs, ?_⟩
    simp only [sIB, List.set]
    refine goU_read 36 hs (by rfl) (by rfl) ?_ (by rfl) (fun wz hSw => ?_) ?_
    rotate_left
    ·go_simp
     try with_reducible rfl
    simp only [sIB, List.set]
    refine goU_call 38 (by rfl) (by rfl) (by rfl) (by go_simp) (norm_any (HNI.out.below hs) HA.out HB.out HL.out HLR.out HF1.out HF2.out HF3.out HF4.out HD0.out) ?_
    rintro e v5 ⟨y8, rfl, ⟨n8, A8, m8, c8, n9, A9, m9, c9, rfl, hx8, hx9⟩, hb4⟩
    rw [HG1.out] at hx8
    rw [HG2.out] at hx9
    replace hx2 := hx2.below hb4
    replace hx5 := hx5.below hb4
    replace hP := keepA hP hb4 hP.lt
    replace hR := keepA hR hb4 hR.lt
    replace hs := hs.trans (hb4.mono hs.size)
    refine ⟨_, rfl, fun _ => hs, ?_⟩
    simp only [sIB, List.set]
    obtain ⟨q0, q1, q2, q3⟩ : v5.cell? ⟨P, 0, none⟩ = some (.bool false) ∧ v5.cell? ⟨P, 1, none⟩ = some (.slice none 0 0) ∧ v5.cell? ⟨P, 2, none⟩ = some (.bool false) ∧ v5.cell? ⟨P, 3, none⟩ = some (.slice none 0 0) := ⟨hP.cell 0, hP.cell 1, hP.cell 2, hP.cell 3⟩
    have f0 := hP.frozen 0
    have f1 := hP.frozen 1
    have f2 := hP.frozen 2
    have f3 := hP.frozen 3
    refine goU_step (by rfl) ?_
    go_wp2_with fail
    try (refine ⟨fun h => absurd h (by decide), ?_⟩)
    obtain ⟨V1, hV1⟩ : ∃ U, U = (((v5.setCell ⟨P, 0, none⟩ (.bool n2)).setCell ⟨P, 1, none⟩ (.slice A2 m2 c2)).setCell ⟨P, 2, none⟩ (.bool n5)).setCell ⟨P, 3, none⟩ (.slice A5 m5 c5) := ⟨_, rfl⟩
    rw [← hV1]
    have hf1 : Frm (· = P) v5 V1 := by rw [hV1]; exact frm4 v5 P _ _ _ _
    have hP1 : Arr V1 P 140 [.bool n2, .slice A2 m2 c2, .bool n5, .slice A5 m5 c5] := by rw [hV1]; exact arr4 hP _ _ _ _
    have hB1 : FrB V1 P num den := ⟨n2, A2, m2, c2, n5, A5, m5, c5, hP1, hx2.putF hP hf1, hx5.putF hP hf1⟩
    have hR1 := hf1.arr hR (fun e => hne e.symm)
    replace hx8 := hx8.putF hP hf1
    replace hx9 := hx9.putF hP hf1
    have hs1 : Below w.heap.size w V1 := hs.trans (hf1.below (B := w.heap.size) hs.size fun b (e : b = P) => by rw [e]; exact hPw)
    clear hV1 q0 q1 q2 q3 f0 f1 f2 f3
    obtain ⟨q0, q1, q2, q3⟩ : V1.cell? ⟨P', 0, none⟩ = some (.bool false) ∧ V1.cell? ⟨P', 1, none⟩ = some (.slice none 0 0) ∧ V1.cell? ⟨P', 2, none⟩ = some (.bool false) ∧ V1.cell? ⟨P', 3, none⟩ = some (.slice none 0 0) := ⟨hR1.cell 0, hR1.cell 1, hR1.cell 2, hR1.cell 3⟩
    have f0 := hR1.frozen 0
    have f1 := hR1.frozen 1
    have f2 := hR1.frozen 2
    have f3 := hR1.frozen 3
    refine goU_step (by rfl) ?_
    go_wp2_with fail
    try (refine ⟨fun h => absurd h (by decide), ?_⟩)
    obtain ⟨V3, hV3⟩ : ∃ U, U = (((V1.setCell ⟨P', 0, none⟩ (.bool n8)).setCell ⟨P', 1, none⟩ (.slice A8 m8 c8)).setCell ⟨P', 2, none⟩ (.bool n9)).setCell ⟨P', 3, none⟩ (.slice A9 m9 c9) := ⟨_, rfl⟩
    rw [← hV3]
    have hf2 : Frm (· = P') V1 V3 := by rw [hV3]; exact frm4 V1 P' _ _ _ _
    have hR3 : Arr V3 P' 140 [.bool n8, .slice A8 m8 c8, .bool n9, .slice A9 m9 c9] := by rw [hV3]; exact arr4 hR1 _ _ _ _
    have hs3 : Below w.heap.size w V3 := hs1.trans (hf2.below (B := w.heap.size) hs1.size fun b (e : b = P') => by rw [e]; exact hRw)
    refine goU_nilN ?_
    exact HQ.out _ P P' _ _ _ _ _ _ _ _ _ (hB1.other hR1 hf2 hne) ⟨n8, A8, m8, c8, n9, A9, m9, c9, hR3, hx8.putF hR1 hf2, hx9.putF hR1 hf2⟩ hne hPw hRw hs3
  ·go_wp2_with fail
   obtain ⟨v2, hv2⟩ : ∃ V, V = v1.alloc (.cells #[.bool false, .slice none 0 0, .bool false, .slice none 0 0] 140) := ⟨_, rfl⟩
   obtain ⟨P, hXe⟩ : ∃ B, B = v1.heap.size := ⟨_, rfl⟩
   have hP : Arr v2 P 140 [.bool false, .slice none 0 0, .bool false, .slice none 0 0] := by rw [hv2, hXe]; exact Arr.new v1 _ [.bool false, .slice none 0 0, .bool false, .slice none 0 0]
   have hb1 : Below v1.heap.size v1 v2 := by rw [hv2]; exact (Below.refl _ _).alloc (Nat.le_refl _) _
   have hPw : w.heap.size ≤ P := by rw [hXe]; exact hs.size
   rw [← hv2, ← hXe]
   have hne : P ≠ P' := by rw [hXe]; exact Nat.ne_of_gt hR.lt
   replace hR := keepA hR hb1 hR.lt
   clear hv2 hXe
   replace hs := hs.trans (hb1.mono hs.size)
   first | refine ⟨fun _ => hs, ?_⟩ | refine ⟨hs, ?_⟩
   refine goU_call 32 (by rfl) (by rfl) (by rfl) (by go_simp) (Of_any num _ hn1 hn2) ?_
   rintro e v3 ⟨y2, rfl, hx2, hb2⟩
   obtain ⟨n2, A2, m2, c2, rfl, hx2⟩ := hx2.shp
   replace hP := keepA hP hb2 hP.lt
   replace hR := keepA hR hb2 hR.lt
   replace hs := hs.trans (hb2.mono hs.size)
   refine ⟨_, rfl, fun _ => hs, ?_⟩
   simp only [sIB, List.set]
   refine goU_call 35 (by rfl) (by rfl) (by rfl) (by go_simp) (Of_any den _ hd1 hd2) ?_
   rintro e v4 ⟨y5, rfl, hx5, hb3⟩
   obtain ⟨n5, A5, m5, c5, rfl, hx5⟩ := hx5.shp
   replace hx2 := hx2.below hb3
   replace hP := keepA hP hb3 hP.lt
   replace hR := keepA hR hb3 hR.lt
   replace hs := hs.trans (hb3.mono hs.size)
   refine ⟨_, rfl, fun _ => hs, ?_⟩
   simp only [sIB, List.set]
   refine goU_read 36 hs (by rfl) (by rfl) ?_ (by rfl) (fun wz hSw => ?_) ?_
   rotate_left
   ·go_simp
    try with_reducible rfl
   simp only [sIB, List.set]
   refine goU_call 38 (by rfl) (by rfl) (by rfl) (by go_simp) (norm_any (HNI.out.below hs) HA.out HB.out HL.out HLR.out HF1.out HF2.out HF3.out HF4.out HD0.out) ?_
   rintro e v5 ⟨y8, rfl, ⟨n8, A8, m8, c8, n9, A9, m9, c9, rfl, hx8, hx9⟩, hb4⟩
   rw [HG1.out] at hx8
   rw [HG2.out] at hx9
   replace hx2 := hx2.below hb4
   replace hx5 := hx5.below hb4
   replace hP := keepA hP hb4 hP.lt
   replace hR := keepA hR hb4 hR.lt
   replace hs := hs.trans (hb4.mono hs.size)
   refine ⟨_, rfl, fun _ => hs, ?_⟩
   simp only [sIB, List.set]
   obtain ⟨q0, q1, q2, q3⟩ : v5.cell? ⟨P, 0, none⟩ = some (.bool false) ∧ v5.cell? ⟨P, 1, none⟩ = some (.slice none 0 0) ∧ v5.cell? ⟨P, 2, none⟩ = some (.bool false) ∧ v5.cell? ⟨P, 3, none⟩ = some (.slice none 0 0) := ⟨hP.cell 0, hP.cell 1, hP.cell 2, hP.cell 3⟩
   have f0 := hP.frozen 0
   have f1 := hP.frozen 1
   have f2 := hP.frozen 2
   have f3 := hP.frozen 3
   refine goU_step (by rfl) ?_
   go_wp2_with fail
   try (refine ⟨fun h => absurd h (by decide), ?_⟩)
   obtain ⟨V1, hV1⟩ : ∃ U, U = (((v5.setCell ⟨P, 0, none⟩ (.bool n2)).setCell ⟨P, 1, none⟩ (.slice A2 m2 c2)).setCell ⟨P, 2, none⟩ (.bool n5)).setCell ⟨P, 3, none⟩ (.slice A5 m5 c5) := ⟨_, rfl⟩
   rw [← hV1]
   have hf1 : Frm (· = P) v5 V1 := by rw [hV1]; exact frm4 v5 P _ _ _ _
   have hP1 : Arr V1 P 140 [.bool n2, .slice A2 m2 c2, .bool n5, .slice A5 m5 c5] := by rw [hV1]; exact arr4 hP _ _ _ _
   have hB1 : FrB V1 P num den := ⟨n2, A2, m2, c2, n5, A5, m5, c5, hP1, hx2.putF hP hf1, hx5.putF hP hf1⟩
   have hR1 := hf1.arr hR (fun e => hne e.symm)
   replace hx8 := hx8.putF hP hf1
   replace hx9 := hx9.putF hP hf1
   have hs1 : Below w.heap.size w V1 := hs.trans (hf1.below (B := w.heap.size) hs.size fun b (e : b = P) => by rw [e]; exact hPw)
   clear hV1 q0 q1 q2 q3 f0 f1 f2 f3
   obtain ⟨q0, q1, q2, q3⟩ : V1.cell? ⟨P', 0, none⟩ = some (.bool false) ∧ V1.cell? ⟨P', 1, none⟩ = some (.slice none 0 0) ∧ V1.cell? ⟨P', 2, none⟩ = some (.bool false) ∧ V1.cell? ⟨P', 3, none⟩ = some (.slice none 0 0) := ⟨hR1.cell 0, hR1.cell 1, hR1.cell 2, hR1.cell 3⟩
   have f0 := hR1.frozen 0
   have f1 := hR1.frozen 1
   have f2 := hR1.frozen 2
   have f3 := hR1.frozen 3
   refine goU_step (by rfl) ?_
   go_wp2_with fail
   try (refine ⟨fun h => absurd h (by decide), ?_⟩)
   obtain ⟨V3, hV3⟩ : ∃ U, U = (((V1.setCell ⟨P', 0, none⟩ (.bool n8)).setCell ⟨P', 1, none⟩ (.slice A8 m8 c8)).setCell ⟨P', 2, none⟩ (.bool n9)).setCell ⟨P', 3, none⟩ (.slice A9 m9 c9) := ⟨_, rfl⟩
   rw [← hV3]
   have hf2 : Frm (· = P') V1 V3 := by rw [hV3]; exact frm4 V1 P' _ _ _ _
   have hR3 : Arr V3 P' 140 [.bool n8, .slice A8 m8 c8, .bool n9, .slice A9 m9 c9] := by rw [hV3]; exact arr4 hR1 _ _ _ _
   have hs3 : Below w.heap.size w V3 := hs1.trans (hf2.below (B := w.heap.size) hs1.size fun b (e : b = P') => by rw [e]; exact hRw)
   refine goU_nilN ?_
   exact HQ.out _ P P' _ _ _ _ _ _ _ _ _ (hB1.other hR1 hf2 hne) ⟨n8, A8, m8, c8, n9, A9, m9, c9, hR3, hx8.putF hR1 hf2, hx9.putF hR1 hf2⟩ hne hPw hRw hs3
end Go.Proofs.YtdjpeimecfhdjaaGreat
