/- Package brandt: products of elements. Package brandt: gram: one element. -/
import Derived.Test.YtdjpeimecfhdjaaGreatTg
import Derived.Test.YtdjpeimecfhdjaaGreatSz
namespace Go.Proofs.YtdjpeimecfhdjaaGreat
open Go.RowKit
set_option maxRecDepth 100000 in
set_option maxHeartbeats 4000000 in
theorem tmQ_any {w : World} {D1 D2 : Nat → Prop} {Ap Aq AM : Option Addr} {cp cq qM cM : Nat} {p q : List Int} {va vb : Int} (hp : PvD w D1 (.slice Ap 4 cp) p) (hq : PvD w D2 (.slice Aq 4 cq) q) (hfp : fitR p = true) (hfq : fitR q = true) (ha : va.natAbs ≤ 1000000000) (hb : vb.natAbs ≤ 1000000000) :
  Calls Tryz.prog 183 #[.agg #[.int .i64 va, .int .i64 vb, .slice AM qM cM], .slice Ap 4 cp, .slice Aq 4 cq] w (Gives w fun w' v => PvD w' (w.heap.size ≤ ·) v (tmQ va vb p q)) := by
 obtain ⟨bp, op, rfl, hcp⟩ := PvD.all hp (by omega)
 obtain ⟨bq, oq, rfl, hcq⟩ := PvD.all hq (by omega)
 obtain ⟨n0, B0, m0, k0, p0, u0, x0⟩ := hcp 0 (by omega)
 obtain ⟨n1, B1, m1, k1, p1, u1, x1⟩ := hcp 1 (by omega)
 obtain ⟨n2, B2, m2, k2, p2, u2, x2⟩ := hcp 2 (by omega)
 obtain ⟨n3, B3, m3, k3, p3, u3, x3⟩ := hcp 3 (by omega)
 simp only [Nat.zero_mul, Nat.one_mul, Nat.add_zero] at p0 u0 p1 u1
 rw [show op + 2 * 2 = op + 4 from rfl] at p2 u2
 rw [show op + 3 * 2 = op + 6 from rfl] at p3 u3
 rw [show op + 2 + 1 = op + 3 from rfl] at u1
 rw [show op + 4 + 1 = op + 5 from rfl] at u2
 rw [show op + 6 + 1 = op + 7 from rfl] at u3
 obtain ⟨o0, E0, r0, l0, q0, vv0, y0⟩ := hcq 0 (by omega)
 obtain ⟨o1, E1, r1, l1, q1, vv1, y1⟩ := hcq 1 (by omega)
 obtain ⟨o2, E2, r2, l2, q2, vv2, y2⟩ := hcq 2 (by omega)
 obtain ⟨o3, E3, r3, l3, q3, vv3, y3⟩ := hcq 3 (by omega)
 simp only [Nat.zero_mul, Nat.one_mul, Nat.add_zero] at q0 vv0 q1 vv1
 rw [show oq + 2 * 2 = oq + 4 from rfl] at q2 vv2
 rw [show oq + 3 * 2 = oq + 6 from rfl] at q3 vv3
 rw [show oq + 2 + 1 = oq + 3 from rfl] at vv1
 rw [show oq + 4 + 1 = oq + 5 from rfl] at vv2
 rw [show oq + 6 + 1 = oq + 7 from rfl] at vv3
 obtain ⟨W, hW⟩ : ∃ W, W = w.alloc (.cells #[.int .i64 va, .int .i64 vb, .slice AM qM cM] 115) := ⟨_, rfl⟩
 obtain ⟨S, hS⟩ : ∃ S, S = w.heap.size := ⟨_, rfl⟩
 have hbW : Below w.heap.size w W := by rw [hW]; exact (Below.refl _ _).alloc (Nat.le_refl _) _
 have s0 : W.cell? ⟨S, 0, none⟩ = some (.int .i64 va) := by rw [hW, hS]; go_simp
 have s1 : W.cell? ⟨S, 1, none⟩ = some (.int .i64 vb) := by rw [hW, hS]; go_simp
 replace p0 := keepB hbW p0
 replace p1 := keepB hbW p1
 replace p2 := keepB hbW p2
 replace p3 := keepB hbW p3
 replace u0 := keepB hbW u0
 replace u1 := keepB hbW u1
 replace u2 := keepB hbW u2
 replace u3 := keepB hbW u3
 replace q0 := keepB hbW q0
 replace q1 := keepB hbW q1
 replace q2 := keepB hbW q2
 replace q3 := keepB hbW q3
 replace vv0 := keepB hbW vv0
 replace vv1 := keepB hbW vv1
 replace vv2 := keepB hbW vv2
 replace vv3 := keepB hbW vv3
 have X0 : Hid (NIntV W (fun _ => True) (.agg #[.bool n0, .slice B0 m0 k0]) (gz p 0)) := Lib.hid ((x0.below hbW).mono fun _ _ _ => trivial)
 have Y0 : Hid (NIntV W (fun _ => True) (.agg #[.bool o0, .slice E0 r0 l0]) (gz q 0)) := Lib.hid ((y0.below hbW).mono fun _ _ _ => trivial)
 have X1 : Hid (NIntV W (fun _ => True) (.agg #[.bool n1, .slice B1 m1 k1]) (gz p 1)) := Lib.hid ((x1.below hbW).mono fun _ _ _ => trivial)
 have Y1 : Hid (NIntV W (fun _ => True) (.agg #[.bool o1, .slice E1 r1 l1]) (gz q 1)) := Lib.hid ((y1.below hbW).mono fun _ _ _ => trivial)
 have X2 : Hid (NIntV W (fun _ => True) (.agg #[.bool n2, .slice B2 m2 k2]) (gz p 2)) := Lib.hid ((x2.below hbW).mono fun _ _ _ => trivial)
 have Y2 : Hid (NIntV W (fun _ => True) (.agg #[.bool o2, .slice E2 r2 l2]) (gz q 2)) := Lib.hid ((y2.below hbW).mono fun _ _ _ => trivial)
 have X3 : Hid (NIntV W (fun _ => True) (.agg #[.bool n3, .slice B3 m3 k3]) (gz p 3)) := Lib.hid ((x3.below hbW).mono fun _ _ _ => trivial)
 have Y3 : Hid (NIntV W (fun _ => True) (.agg #[.bool o3, .slice E3 r3 l3]) (gz q 3)) := Lib.hid ((y3.below hbW).mono fun _ _ _ => trivial)
 have wx0 := Lib.hid (fit_wl (fitR_gz hfp 0))
 have wy0 := Lib.hid (fit_wl (fitR_gz hfq 0))
 have wx1 := Lib.hid (fit_wl (fitR_gz hfp 1))
 have wy1 := Lib.hid (fit_wl (fitR_gz hfq 1))
 have wx2 := Lib.hid (fit_wl (fitR_gz hfp 2))
 have wy2 := Lib.hid (fit_wl (fitR_gz hfq 2))
 have wx3 := Lib.hid (fit_wl (fitR_gz hfp 3))
 have wy3 := Lib.hid (fit_wl (fitR_gz hfq 3))
 have HA := Lib.hid ha
 have HB := Lib.hid hb
 have HBW := Lib.hid hbW
 have HW := Lib.hid hW
 have HSS := Lib.hid hS
 clear hp hq hfp hfq hcp hcq x0 y0 x1 y1 x2 y2 x3 y3 ha hb hW hS hbW
 go_enter Tryz.func183, Tryz.ntmps183
 go_upto_region 1 with (fail)
 rw [← HSS.out, ← HW.out]
 have hs : Below W.heap.size W W.drew := (Below.refl _ _).drew
 refine wp_region_tr7 (.read 0 (.read 1 (.read 2 (.read 3 (.read 4 (.read 5 (.read 6 (.read 7 .nil)))))))) [] (by kernel_rfl) (by rfl) (by kernel_rfl) (by kernel_rfl) (fun V => Below W.heap.size W V) ?_
 change goX _ _ _ _ _ _ _ W.drew
 refine goX_read 9 hs (by rfl) (by rfl) (.pointer (some ⟨S, 0, none⟩)) (by rfl) (fun wz hSw => ?_) ?_
 ·go_simp
  try with_reducible rfl
 simp only [sIB, List.set]
 refine goX_read 10 hs (by rfl) (by rfl) (.pointer (some ⟨S, 0, none⟩)) (by rfl) (fun wz hSw => ?_) ?_
 ·go_simp
  try with_reducible rfl
 simp only [sIB, List.set]
 refine goX_read 11 hs (by rfl) (by rfl) (.int .i64 va) (by rfl) (fun wz hSw => ?_) ?_
 ·have e0 := keepB hSw s0; go_simp
  try with_reducible rfl
 simp only [sIB, List.set]
 refine goX_read 12 hs (by rfl) (by rfl) (.pointer (some ⟨S, 0, none⟩)) (by rfl) (fun wz hSw => ?_) ?_
 ·go_simp
  try with_reducible rfl
 simp only [sIB, List.set]
 refine goX_read 13 hs (by rfl) (by rfl) (.pointer (some ⟨S, 1, none⟩)) (by rfl) (fun wz hSw => ?_) ?_
 ·go_simp
  try with_reducible rfl
 simp only [sIB, List.set]
 refine goX_read 14 hs (by rfl) (by rfl) (.int .i64 vb) (by rfl) (fun wz hSw => ?_) ?_
 ·have e0 := keepB hSw s1; go_simp
  try with_reducible rfl
 simp only [sIB, List.set]
 refine goX_read 7 hs (by rfl) (by rfl) (.int .i64 va) (by rfl) (fun wz hSw => ?_) ?_
 ·go_simp
  try with_reducible rfl
 simp only [sIB, List.set]
 refine goX_read 8 hs (by rfl) (by rfl) (.int .i64 vb) (by rfl) (fun wz hSw => ?_) ?_
 ·go_simp
  try with_reducible rfl
 simp only [sIB, List.set]
 refine goX_nil ?_
 rename_i K hK
 refine hK _ _ ?_
 have hs : Below W.heap.size W W.drew := (Below.refl _ _).drew
 replace p0 := keepB hs p0
 replace p1 := keepB hs p1
 replace p2 := keepB hs p2
 replace p3 := keepB hs p3
 replace u0 := keepB hs u0
 replace u1 := keepB hs u1
 replace u2 := keepB hs u2
 replace u3 := keepB hs u3
 replace q0 := keepB hs q0
 replace q1 := keepB hs q1
 replace q2 := keepB hs q2
 replace q3 := keepB hs q3
 replace vv0 := keepB hs vv0
 replace vv1 := keepB hs vv1
 replace vv2 := keepB hs vv2
 replace vv3 := keepB hs vv3
 replace X0 := Lib.hid (X0.out.below hs)
 replace Y0 := Lib.hid (Y0.out.below hs)
 replace X1 := Lib.hid (X1.out.below hs)
 replace Y1 := Lib.hid (Y1.out.below hs)
 replace X2 := Lib.hid (X2.out.below hs)
 replace Y2 := Lib.hid (Y2.out.below hs)
 replace X3 := Lib.hid (X3.out.below hs)
 replace Y3 := Lib.hid (Y3.out.below hs)
 go_upto_region 2 with (fail)
 obtain ⟨V, hV⟩ : ∃ V, V = W.drew := ⟨_, rfl⟩
 rw [← hV] at hs p0 u0 q0 vv0 X0 Y0 p1 u1 q1 vv1 X1 Y1 p2 u2 q2 vv2 X2 Y2 p3 u3 q3 vv3 X3 Y3 ⊢
 clear hV
 refine tmreg HA.out HB.out p0 u0 p1 u1 p2 u2 p3 u3 q0 vv0 q1 vv1 q2 vv2 q3 vv3 X0 Y0 wx0 wy0 X1 Y1 wx1 wy1 X2 Y2 wx2 wy2 X3 Y3 wx3 wy3 ?_
 intro w9 g v s49 s50 s82 s83 s115 s116 s145 s146 hv hP hb
 subst hv
 rename_i K hK
 refine hK _ _ ?_
 go_wp2_with fail
 go_ret
 exact ⟨_, rfl, hP.mono fun b (hx : _ ≤ b) _ => Nat.le_trans (Nat.le_trans HBW.out.size hs.size) hx, HBW.out.trans ((hs.trans (hb.mono hs.size)).mono HBW.out.size)⟩
end Go.Proofs.YtdjpeimecfhdjaaGreat

namespace Go.Proofs.YtdjpeimecfhdjaaGreat
open Go.RowKit
theorem fitR_cj {l : List Int} (h : fitR l = true) : fitR (cjL l) = true := by
 refine List.all_eq_true.mpr fun x hx => ?_
 unfold cjL at hx
 simp only [List.mem_cons, List.not_mem_nil, or_false] at hx
 rcases hx with rfl | rfl | rfl | rfl
 ·exact fitR_gz h 0
 ·exact fit_neg (fitR_gz h 1)
 ·exact fit_neg (fitR_gz h 2)
 ·exact fit_neg (fitR_gz h 3)
def gmX (va vb : Int) (p q : List Int) : Int := gz (tmQ va vb p (cjL q)) 0
noncomputable def gmr9 : Code := (regOf 9 ((Tryz.f130.body).getD .skip)).getD .skip
def gmt31 : Tr7 := .step 8 .nil
def gmt21 : Tr7 := .step 6 gmt31
def gmt11 : Tr7 := .step 4 (.read 5 gmt21)
def gmt01 : Tr7 := .step 3 gmt11
def gmt30 : Tr7 := .step 7 gmt31
def gmt20 : Tr7 := .two 6 7 gmt30 gmt21
def gmt10 : Tr7 := .two 4 7 (.read 5 gmt20) gmt11
def gmt00 : Tr7 := .two 3 7 gmt10 gmt01
set_option maxRecDepth 100000 in
set_option maxHeartbeats 4000000 in
theorem gmreg9 {w : World} {Q : Exit → Act → World → Prop} {S cp cq qM cM : Nat} {Ap Aq AM : Option Addr} {va vb : Int} {p q : List Int} {D1 D2 : Nat → Prop} {t0 t2 t3 t4 t5 t6 t8 t10 t11 t12 t13 t14 t15 t16 t17 t18 t19 t20 t21 t22 t23 t24 t25 t26 t27 t28 t29 t30 t31 t32 t33 t34 t35 t36 t37 t38 t39 t40 t41 t42 t43 t44 t45 t46 t47 t48 t49 t50 t51 t52 t53 t54 t55 t56 t57 t58 t59 t60 t61 t62 t63 : Value}
  (s0 : w.cell? ⟨S, 0, none⟩ = some (.int .i64 va)) (s1 : w.cell? ⟨S, 1, none⟩ = some (.int .i64 vb)) (s2 : w.cell? ⟨S, 2, none⟩ = some (.slice AM qM cM)) (hp : PvD w D1 (.slice Ap 4 cp) p) (hq : PvD w D2 (.slice Aq 4 cq) q) (hfp : fitR p = true) (hfq : fitR q = true) (ha : va.natAbs ≤ 1000000000) (hb : vb.natAbs ≤ 1000000000)
  (hQ : ∀ (w' : World) (P : Nat) (n : Bool) (B : Option Addr) (m k : Nat) (u32 u33 u34 u35 u36 u37 u38 : Value), Arr w' P 40 [.bool n, .slice B m k] → NIntV w' (fun b => w.heap.size ≤ b ∧ b ≠ P) (.agg #[.bool n, .slice B m k]) (gmX va vb p q) → w.heap.size ≤ P → Below w.heap.size w w' → Q .normal ⟨#[t0, .pointer (some ⟨S, 0, none⟩), t2, t3, t4, t5, t6, .slice Ap 4 cp, t8, .slice Aq 4 cq, .pointer (some ⟨P, 0, none⟩), t11, t12, t13, t14, t15, t16, t17, t18, t19, t20, t21, t22, t23, t24, t25, t26, t27, t28, t29, t30, t31, u32, u33, u34, u35, u36, u37, u38, t39, t40, t41, t42, t43, t44, t45, t46, t47, t48, t49, t50, t51, t52, t53, t54, t55, t56, t57, t58, t59, t60, t61, t62, t63], []⟩ w') :
  (gmr9).wp Tryz.prog Q ⟨#[t0, .pointer (some ⟨S, 0, none⟩), t2, t3, t4, t5, t6, .slice Ap 4 cp, t8, .slice Aq 4 cq, t10, t11, t12, t13, t14, t15, t16, t17, t18, t19, t20, t21, t22, t23, t24, t25, t26, t27, t28, t29, t30, t31, t32, t33, t34, t35, t36, t37, t38, t39, t40, t41, t42, t43, t44, t45, t46, t47, t48, t49, t50, t51, t52, t53, t54, t55, t56, t57, t58, t59, t60, t61, t62, t63], []⟩ w := by
 have HQ := Lib.hid hQ
 clear hQ
 have HP := Lib.hid hp
 have HQQ := Lib.hid hq
 have HFP := Lib.hid (fun _ : Unit => hfp)
 have HFQ := Lib.hid (fun _ : Unit => hfq)
 have HFC := Lib.hid (fun _ : Unit => fitR_cj hfq)
 have HA := Lib.hid ha
 have HB := Lib.hid hb
 clear hp hq hfp hfq ha hb
 show Code.wp _ (Code.region 9 (List.toArray _) true) _ _ _
 obtain ⟨v0, hv0⟩ : ∃ v0, v0 = w.drew := ⟨_, rfl⟩
 have hs : Below w.heap.size w v0 := by rw [hv0]; exact (Below.refl _ _).drew
 refine wp_region_tr7 (.read 0 (.read 1 (.read 2 gmt00))) [8] (by kernel_rfl) (by rfl) (by kernel_rfl) (by kernel_rfl) (fun V => Below w.heap.size w V) ?_
 change goX _ _ _ _ _ _ _ w.drew
 rw [← hv0]
 clear hv0
 refine goX_read 32 hs (by rfl) (by rfl) (.agg #[.int .i64 va, .int .i64 vb, .slice AM qM cM]) (by rfl) (fun wz hSw => ?_) ?_
 ·have e0 := keepB hSw s0; have e1 := keepB hSw s1; have e2 := keepB hSw s2; go_simp
  try with_reducible rfl
 simp only [sIB, List.set]
 refine goX_read 33 hs (by rfl) (by rfl) (.slice Ap 4 cp) (by rfl) (fun wz hSw => ?_) ?_
 ·go_simp
  try with_reducible rfl
 simp only [sIB, List.set]
 refine goX_read 34 hs (by rfl) (by rfl) (.slice Aq 4 cq) (by rfl) (fun wz hSw => ?_) ?_
 ·go_simp
  try with_reducible rfl
 simp only [sIB, List.set]
 refine (fun (key : ∀ O, O = _ → goX _ O _ _ _ _ _ _) => key _ rfl) ?_
 intro O hO
 have ho3 := opAt hO 3 rfl
 simp only [List.getElem_toArray, List.getElem_cons_succ, List.getElem_cons_zero] at ho3
 have HO3 := Lib.hid ho3
 clear ho3
 have ho4 := opAt hO 4 rfl
 simp only [List.getElem_toArray, List.getElem_cons_succ, List.getElem_cons_zero] at ho4
 have HO4 := Lib.hid ho4
 clear ho4
 have ho5 := opAt hO 5 rfl
 simp only [List.getElem_toArray, List.getElem_cons_succ, List.getElem_cons_zero] at ho5
 have HO5 := Lib.hid ho5
 clear ho5
 have ho6 := opAt hO 6 rfl
 simp only [List.getElem_toArray, List.getElem_cons_succ, List.getElem_cons_zero] at ho6
 have HO6 := Lib.hid ho6
 clear ho6
 have ho7 := opAt hO 7 rfl
 simp only [List.getElem_toArray, List.getElem_cons_succ, List.getElem_cons_zero] at ho7
 have HO7 := Lib.hid ho7
 clear ho7
 have ho8 := opAt hO 8 rfl
 simp only [List.getElem_toArray, List.getElem_cons_succ, List.getElem_cons_zero] at ho8
 have HO8 := Lib.hid ho8
 clear ho8
 clear hO s0 s1 s2
 obtain ⟨F, hF⟩ : ∃ F : Value → Value → Value → Value → Value → Act, F = fun s10 s35 s36 s37 s38 => ⟨#[t0, .pointer (some ⟨S, 0, none⟩), t2, t3, t4, t5, t6, .slice Ap 4 cp, t8, .slice Aq 4 cq, s10, t11, t12, t13, t14, t15, t16, t17, t18, t19, t20, t21, t22, t23, t24, t25, t26, t27, t28, t29, t30, t31, .agg #[.int .i64 va, .int .i64 vb, .slice AM qM cM], .slice Ap 4 cp, .slice Aq 4 cq, s35, s36, s37, s38, t39, t40, t41, t42, t43, t44, t45, t46, t47, t48, t49, t50, t51, t52, t53, t54, t55, t56, t57, t58, t59, t60, t61, t62, t63], []⟩ := ⟨_, rfl⟩
 have HF := Lib.hid hF
 clear hF
 have HC1 : Hid (∀ (go : Act → World → Prop) (V : World) (s10 s35 s36 s37 s38 : Value), Below w.heap.size w V → (∀ V2 Ac cc, Below V.heap.size V V2 → PvD V2 (fun _ => True) (.slice Ac 4 cc) (cjL q) → go (F s10 (.slice Ac 4 cc) s36 s37 s38) V2) → goB Tryz.prog O (onlyN Q) [8] (fun V => Below w.heap.size w V) 3 go (F s10 s35 s36 s37 s38) V) := Lib.hid (by
  intro go V s10 s35 s36 s37 s38 hs hgo
  have HG := Lib.hid hgo
  clear hgo
  simp only [HF.out] at HG ⊢
  refine goX_call 35 HO3.out (by rfl) (by rfl) (by go_simp) (conj_any (HQQ.out.below hs) (HFQ.out ())) ?_
  rintro e V2 ⟨z, rfl, hz, hb⟩
  obtain ⟨Ac, cc, rfl⟩ : ∃ A c, z = .slice A 4 c := PvD.slice_ hz
  refine ⟨_, rfl, fun _ => hs.trans (hb.mono hs.size), ?_⟩
  simp only [sIB, List.set]
  exact HG.out V2 Ac cc hb hz)
 have HC2 : Hid (∀ (go : Act → World → Prop) (V : World) (Ac : Option Addr) (cc : Nat) (s10 s36 s37 s38 : Value), Below w.heap.size w V → PvD V (fun _ => True) (.slice Ac 4 cc) (cjL q) → (∀ V2 b off n B m k cT, Below V.heap.size V V2 → V2.cell? ⟨b, off, none⟩ = some (.bool n) → V2.cell? ⟨b, off + 1, none⟩ = some (.slice B m k) → NIntV V2 (w.heap.size ≤ ·) (.agg #[.bool n, .slice B m k]) (gmX va vb p q) → go (F s10 (.slice Ac 4 cc) (.slice (some ⟨b, off, none⟩) 4 cT) s37 s38) V2) → goB Tryz.prog O (onlyN Q) [8] (fun V => Below w.heap.size w V) 4 go (F s10 (.slice Ac 4 cc) s36 s37 s38) V) := Lib.hid (by
  intro go V Ac cc s10 s36 s37 s38 hs hc hgo
  have HG := Lib.hid hgo
  clear hgo
  simp only [HF.out] at HG ⊢
  refine goX_call 36 HO4.out (by rfl) (by rfl) (by go_simp) (tmQ_any (AM := AM) (qM := qM) (cM := cM) (HP.out.below hs) hc (HFP.out ()) (HFC.out ()) HA.out HB.out) ?_
  rintro e V2 ⟨z, rfl, hz, hb⟩
  obtain ⟨AT, cT, rfl⟩ : ∃ A c, z = .slice A 4 c := PvD.slice_ hz
  obtain ⟨b, off, rfl, hcl⟩ := PvD.all hz (by omega)
  obtain ⟨n, B, m, k, p0, p1, hx⟩ := hcl 0 (by omega)
  simp only [Nat.zero_mul, Nat.add_zero] at p0 p1
  refine ⟨_, rfl, fun _ => hs.trans (hb.mono hs.size), ?_⟩
  simp only [sIB, List.set]
  exact HG.out V2 b off n B m k cT hb p0 p1 (hx.mono fun b (hy : _ ≤ b) _ => Nat.le_trans hs.size hy))
 have HC3 : Hid (∀ (V : World) (b off cT : Nat) (t : Tr7) (s10 s35 s37 s38 : Value), Below w.heap.size w V → goX Tryz.prog O (onlyN Q) [8] (fun V => Below w.heap.size w V) t (F s10 s35 (.slice (some ⟨b, off, none⟩) 4 cT) (.pointer (some ⟨b, off, none⟩)) s38) V → goX Tryz.prog O (onlyN Q) [8] (fun V => Below w.heap.size w V) (.read 5 t) (F s10 s35 (.slice (some ⟨b, off, none⟩) 4 cT) s37 s38) V) := Lib.hid (by
  intro V b off cT t s10 s35 s37 s38 hs hgo
  have HG := Lib.hid hgo
  clear hgo
  simp only [HF.out] at HG ⊢
  refine goX_read 37 hs HO5.out (by rfl) (.pointer (some ⟨b, off, none⟩)) (by rfl) (fun wz hSw => ?_) ?_
  ·go_simp
   try with_reducible rfl
  simp only [sIB, List.set]
  exact HG.out)
 have HC4 : Hid (∀ (go : Act → World → Prop) (V : World) (b off : Nat) (n : Bool) (B : Option Addr) (m k : Nat) (s10 s35 s36 s38 : Value), Below w.heap.size w V → V.cell? ⟨b, off, none⟩ = some (.bool n) → V.cell? ⟨b, off + 1, none⟩ = some (.slice B m k) → go (F s10 s35 s36 (.pointer (some ⟨b, off, none⟩)) (.agg #[.bool n, .slice B m k])) V → goB Tryz.prog O (onlyN Q) [8] (fun V => Below w.heap.size w V) 6 go (F s10 s35 s36 (.pointer (some ⟨b, off, none⟩)) s38) V) := Lib.hid (by
  intro go V b off n B m k s10 s35 s36 s38 hs e0 e1 hgo
  have HG := Lib.hid hgo
  clear hgo
  simp only [HF.out] at HG ⊢
  refine goX_step HO6.out ?_
  go_wp2_with fail
  first | exact ⟨fun _ => hs, HG.out⟩ | exact ⟨hs, HG.out⟩ | exact HG.out)
 have HC5 : Hid (∀ (go : Act → World → Prop) (V : World) (s35 s36 s37 s38 : Value), (∀ s10, Below w.heap.size w V → (∀ V2 P, Below V.heap.size V V2 → Arr V2 P 40 [.bool false, .slice none 0 0] → w.heap.size ≤ P → go (F (.pointer (some ⟨P, 0, none⟩)) s35 s36 s37 s38) V2) → goB Tryz.prog O (onlyN Q) [8] (fun V => Below w.heap.size w V) 7 go (F s10 s35 s36 s37 s38) V)) := Lib.hid (by
  intro go V s35 s36 s37 s38 s10 hs hgo
  have HG := Lib.hid hgo
  clear hgo
  simp only [HF.out] at HG ⊢
  refine goX_step HO7.out ?_
  go_wp2_with fail
  obtain ⟨V2, hV2⟩ : ∃ U, U = V.alloc (.cells #[.bool false, .slice none 0 0] 40) := ⟨_, rfl⟩
  obtain ⟨P, hP⟩ : ∃ B, B = V.heap.size := ⟨_, rfl⟩
  have hA : Arr V2 P 40 [.bool false, .slice none 0 0] := by rw [hV2, hP]; exact Arr.new V _ [.bool false, .slice none 0 0]
  have hb : Below V.heap.size V V2 := by rw [hV2]; exact (Below.refl _ _).alloc (Nat.le_refl _) _
  have hPw : w.heap.size ≤ P := by rw [hP]; exact hs.size
  rw [← hV2, ← hP]
  have hb2 := hs.trans (hb.mono hs.size)
  first | refine ⟨fun _ => hb2, ?_⟩ | refine ⟨hb2, ?_⟩
  exact HG.out V2 P hb hA hPw)
 have K31 : Hid (∀ (V : World) (Ac : Option Addr) (cc b off : Nat) (n : Bool) (B : Option Addr) (m k cT : Nat) (P : Nat), Below w.heap.size w V → NIntV V (w.heap.size ≤ ·) (.agg #[.bool n, .slice B m k]) (gmX va vb p q) → Arr V P 40 [.bool false, .slice none 0 0] → w.heap.size ≤ P → goX Tryz.prog O (onlyN Q) [8] (fun V => Below w.heap.size w V) gmt31 (F (.pointer (some ⟨P, 0, none⟩)) (.slice Ac 4 cc) (.slice (some ⟨b, off, none⟩) 4 cT) (.pointer (some ⟨b, off, none⟩)) (.agg #[.bool n, .slice B m k])) V) := Lib.hid (by
  intro V Ac cc b off n B m k cT P hs hx hP hPw
  unfold gmt31
  simp only [HF.out]
  refine goX_step HO8.out ?_
  obtain ⟨q0, q1, f0, f1⟩ := hP.c2
  go_wp2_with fail
  try (refine ⟨fun h => absurd h (by decide), ?_⟩)
  refine goX_nil ?_
  obtain ⟨V1, hV1⟩ : ∃ U, U = (V.setCell ⟨P, 0, none⟩ (.bool n)).setCell ⟨P, 1, none⟩ (.slice B m k) := ⟨_, rfl⟩
  rw [← hV1]
  have hf1 : Frm (· = P) V V1 := by rw [hV1]; exact Frm.put2 V P _ _
  have hA1 : Arr V1 P 40 [.bool n, .slice B m k] := by rw [hV1]; exact hP.put2 _ _
  have hx1 := hf1.nint (hx.clr hP) fun b hb => hb.2
  have hs1 : Below w.heap.size w V1 := hs.trans (hf1.below (B := w.heap.size) hs.size fun b (e : b = P) => by rw [e]; exact hPw)
  exact HQ.out V1 P n B m k _ _ _ _ _ _ _ hA1 hx1 hPw hs1)
 have K21 : Hid (∀ (V : World) (Ac : Option Addr) (cc b off : Nat) (n : Bool) (B : Option Addr) (m k cT : Nat) (P : Nat), Below w.heap.size w V → V.cell? ⟨b, off, none⟩ = some (.bool n) → V.cell? ⟨b, off + 1, none⟩ = some (.slice B m k) → NIntV V (w.heap.size ≤ ·) (.agg #[.bool n, .slice B m k]) (gmX va vb p q) → Arr V P 40 [.bool false, .slice none 0 0] → w.heap.size ≤ P → goX Tryz.prog O (onlyN Q) [8] (fun V => Below w.heap.size w V) gmt21 (F (.pointer (some ⟨P, 0, none⟩)) (.slice Ac 4 cc) (.slice (some ⟨b, off, none⟩) 4 cT) (.pointer (some ⟨b, off, none⟩)) t38) V) := Lib.hid (by
  intro V Ac cc b off n B m k cT P hs e0 e1 hx hP hPw
  unfold gmt21
  unfold goX
  exact HC4.out _ V b off n B m k _ _ _ _ hs e0 e1 (K31.out V Ac cc b off n B m k cT P hs hx hP hPw))
 have K11 : Hid (∀ (V : World) (Ac : Option Addr) (cc : Nat) (P : Nat), Below w.heap.size w V → PvD V (fun _ => True) (.slice Ac 4 cc) (cjL q) → Arr V P 40 [.bool false, .slice none 0 0] → w.heap.size ≤ P → goX Tryz.prog O (onlyN Q) [8] (fun V => Below w.heap.size w V) gmt11 (F (.pointer (some ⟨P, 0, none⟩)) (.slice Ac 4 cc) t36 t37 t38) V) := Lib.hid (by
  intro V Ac cc P hs hc hP hPw
  unfold gmt11
  unfold goX
  exact HC2.out _ V Ac cc _ _ _ _ hs hc fun V2 b off n B m k cT hb e0 e1 hx => by
    have hs2 := hs.trans (hb.mono hs.size)
    exact HC3.out V2 b off cT _ _ _ _ _ hs2 (K21.out V2 Ac cc b off n B m k cT P hs2 e0 e1 hx (keepA hP hb hP.lt) hPw))
 have K01 : Hid (∀ (V : World)  (P : Nat), Below w.heap.size w V → Arr V P 40 [.bool false, .slice none 0 0] → w.heap.size ≤ P → goX Tryz.prog O (onlyN Q) [8] (fun V => Below w.heap.size w V) gmt01 (F (.pointer (some ⟨P, 0, none⟩)) t35 t36 t37 t38) V) := Lib.hid (by
  intro V  P hs hP hPw
  unfold gmt01
  unfold goX
  exact HC1.out _ V _ _ _ _ _ hs fun V2 Ac cc hb hc => by
    have hs2 := hs.trans (hb.mono hs.size)
    exact K11.out V2 Ac cc P hs2 hc (keepA hP hb hP.lt) hPw)
 have K30 : Hid (∀ (V : World) (Ac : Option Addr) (cc b off : Nat) (n : Bool) (B : Option Addr) (m k cT : Nat) , Below w.heap.size w V → NIntV V (w.heap.size ≤ ·) (.agg #[.bool n, .slice B m k]) (gmX va vb p q) → goX Tryz.prog O (onlyN Q) [8] (fun V => Below w.heap.size w V) gmt30 (F t10 (.slice Ac 4 cc) (.slice (some ⟨b, off, none⟩) 4 cT) (.pointer (some ⟨b, off, none⟩)) (.agg #[.bool n, .slice B m k])) V) := Lib.hid (by
  intro V Ac cc b off n B m k cT  hs hx
  unfold gmt30
  unfold goX
  exact HC5.out _ V _ _ _ _ _ hs fun V2 P hb hP hPw => by
    have hs2 := hs.trans (hb.mono hs.size)
    exact K31.out V2 Ac cc b off n B m k cT P hs2 (hx.below hb) hP hPw)
 have K20 : Hid (∀ (V : World) (Ac : Option Addr) (cc b off : Nat) (n : Bool) (B : Option Addr) (m k cT : Nat) , Below w.heap.size w V → V.cell? ⟨b, off, none⟩ = some (.bool n) → V.cell? ⟨b, off + 1, none⟩ = some (.slice B m k) → NIntV V (w.heap.size ≤ ·) (.agg #[.bool n, .slice B m k]) (gmX va vb p q) → goX Tryz.prog O (onlyN Q) [8] (fun V => Below w.heap.size w V) gmt20 (F t10 (.slice Ac 4 cc) (.slice (some ⟨b, off, none⟩) 4 cT) (.pointer (some ⟨b, off, none⟩)) t38) V) := Lib.hid (by
  intro V Ac cc b off n B m k cT  hs e0 e1 hx
  unfold gmt20
  unfold goX
  refine ⟨?_, ?_⟩
  ·exact HC4.out _ V b off n B m k _ _ _ _ hs e0 e1 (K30.out V Ac cc b off n B m k cT hs hx)
  ·exact HC5.out _ V _ _ _ _ _ hs fun V2 P hb hP hPw => by
    have hs2 := hs.trans (hb.mono hs.size)
    exact K21.out V2 Ac cc b off n B m k cT P hs2 (keepB hb e0) (keepB hb e1) (hx.below hb) hP hPw)
 have K10 : Hid (∀ (V : World) (Ac : Option Addr) (cc : Nat) , Below w.heap.size w V → PvD V (fun _ => True) (.slice Ac 4 cc) (cjL q) → goX Tryz.prog O (onlyN Q) [8] (fun V => Below w.heap.size w V) gmt10 (F t10 (.slice Ac 4 cc) t36 t37 t38) V) := Lib.hid (by
  intro V Ac cc  hs hc
  unfold gmt10
  unfold goX
  refine ⟨?_, ?_⟩
  ·exact HC2.out _ V Ac cc _ _ _ _ hs hc fun V2 b off n B m k cT hb e0 e1 hx => by
    have hs2 := hs.trans (hb.mono hs.size)
    exact HC3.out V2 b off cT _ _ _ _ _ hs2 (K20.out V2 Ac cc b off n B m k cT hs2 e0 e1 hx)
  ·exact HC5.out _ V _ _ _ _ _ hs fun V2 P hb hP hPw => by
    have hs2 := hs.trans (hb.mono hs.size)
    exact K11.out V2 Ac cc P hs2 (hc.below hb) hP hPw)
 have K00 : Hid (∀ (V : World)  , Below w.heap.size w V → goX Tryz.prog O (onlyN Q) [8] (fun V => Below w.heap.size w V) gmt00 (F t10 t35 t36 t37 t38) V) := Lib.hid (by
  intro V   hs
  unfold gmt00
  unfold goX
  refine ⟨?_, ?_⟩
  ·exact HC1.out _ V _ _ _ _ _ hs fun V2 Ac cc hb hc => by
    have hs2 := hs.trans (hb.mono hs.size)
    exact K10.out V2 Ac cc hs2 hc
  ·exact HC5.out _ V _ _ _ _ _ hs fun V2 P hb hP hPw => by
    have hs2 := hs.trans (hb.mono hs.size)
    exact K01.out V2 P hs2 hP hPw)
 have HZ := K00.out v0 hs
 rw [HF.out] at HZ
 dsimp only at HZ
 exact HZ
end Go.Proofs.YtdjpeimecfhdjaaGreat
