/- Package ideal: elements: one element is made. -/
import Derived.Test.YtdjpeimecfhdjaaGreatXaf
import Derived.Test.YtdjpeimecfhdjaaGreatXz
import Derived.Test.YtdjpeimecfhdjaaGreatXae
import Derived.Test.YtdjpeimecfhdjaaGreatXr
namespace Go.Proofs.YtdjpeimecfhdjaaGreat
open Go.RowKit Go.Shelf Go.Sort
def elG (e : List Int) (d : Int) : Int := cntM d [e]
def elB (e : List Int) (d : Int) : Bool := decide (e.length = 4) && fitR e && fit d && decide (elG e d ≠ 0) && fit (elG e d) && smM 1000000 (ovr [e] (elG e d)) && in64 (d / elG e d) && decide (d / elG e d ≤ 1000000) && decide (1 ≤ d / elG e d)
theorem elB_ok {e : List Int} {d : Int} (h : elB e d = true) : ElOK e d (elG e d) ∧ 1 ≤ d / elG e d := by
 unfold elB at h
 simp only [Bool.and_eq_true, decide_eq_true_eq] at h
 obtain ⟨⟨⟨⟨⟨⟨⟨⟨h1, h2⟩, h3⟩, h4⟩, h5⟩, h6⟩, h7⟩, h8⟩, h9⟩ := h
 exact ⟨⟨h1, h2, h3, rfl, h4, h5, h6, h7, h8⟩, h9⟩
theorem el_small {e : List Int} {d : Int} (h : elB e d = true) (j : Nat) (hj : j < 4) : (gz e j / elG e d).natAbs ≤ 1000000 := by
 have h1 := (elB_ok h).1
 have h2 := h1.sm
 unfold smM at h2
 have h3 := List.all_eq_true.1 h2 (e.map (· / elG e d)) (by simp [ovr])
 have h4 := List.all_eq_true.1 h3 (gz e j / elG e d) (by
  rw [← gz_divM (l := e) (by rw [h1.len]; exact hj)]
  exact gz_mem (by rw [List.length_map, h1.len]; exact hj))
 simp only [decide_eq_true_eq] at h4
 omega
def elQ (e : List Int) (d : Int) (h : elB e d = true) : Qt := ⟨gz e 0 / elG e d, gz e 1 / elG e d, gz e 2 / elG e d, gz e 3 / elG e d, d / elG e d, el_small h 0 (by omega), el_small h 1 (by omega), el_small h 2 (by omega), el_small h 3 (by omega), (elB_ok h).2, (elB_ok h).1.le⟩
def elS (R : List (List Int)) (d val : Int) (x : List Int) (y : Int) (s : List Qt) : Option (List Qt) :=
 if fit y && fitR x && decide (x.length = 4) then
  if y = val then
   if h : elB (rw_ (tms [x] R) 0) d = true then (if s.length < 20000 then some (s ++ [elQ (rw_ (tms [x] R) 0) d h]) else none) else none
  else some s
 else none
theorem elS_some {R : List (List Int)} {d val : Int} {x : List Int} {y : Int} {s s' : List Qt} (h : elS R d val x y s = some s') : fit y = true ∧ fitR x = true ∧ x.length = 4 ∧ ((y ≠ val ∧ s' = s) ∨ (y = val ∧ s.length < 20000 ∧ ∃ hb, s' = s ++ [elQ (rw_ (tms [x] R) 0) d hb])) := by
 unfold elS at h
 split at h
 ·rename_i h1
  simp only [Bool.and_eq_true, decide_eq_true_eq] at h1
  refine ⟨h1.1.1, h1.1.2, h1.2, ?_⟩
  split at h
  ·rename_i h2
   split at h
   ·rename_i h3
    split at h
    ·rename_i h4
     injection h with h
     exact .inr ⟨h2, h4, h3, h.symm⟩
    ·cases h
   ·cases h
  ·rename_i h2
   injection h with h
   exact .inl ⟨h2, h.symm⟩
 ·cases h
theorem elS_len {R : List (List Int)} {d val : Int} {x : List Int} {y : Int} {s s' : List Qt} (h : elS R d val x y s = some s') (hs : s.length ≤ 20000) : s'.length ≤ 20000 := by
 rcases (elS_some h).2.2.2 with ⟨_, rfl⟩ | ⟨_, h1, _, rfl⟩
 ·exact hs
 ·rw [List.length_append, List.length_singleton]; omega
def rfBody : Code → Option Code
 | .rangeFunc _ _ _ b => some b
 | .block _ c => rfBody c
 | .seq a b => match rfBody a with
  | some c => some c
  | none => rfBody b
 | .cond _ a b => match rfBody a with
  | some c => some c
  | none => rfBody b
 | .loop c => rfBody c
 | .scope c => rfBody c
 | _ => none
noncomputable def elr13C : Code := (regOf 13 ((rfBody ((Tryz.f103.body).getD .skip)).getD .skip)).getD .skip
set_option maxRecDepth 100000 in
set_option maxHeartbeats 4000000 in
theorem elr13 {w : World} {Q : Exit → Act → World → Prop} {l n S3 cR md kd cx : Nat} {AR Ad Ax : Option Addr} {nd : Bool} {d : Int} {R : List (List Int)} {x : List Int} {t0 t1 t2 t4 t5 t6 t7 t8 t9 t10 t11 t12 t13 t15 t16 t17 t18 t19 t20 t21 t22 t23 t24 t25 t26 t27 t28 t29 t30 t31 t32 t33 t34 t35 t36 t37 t38 t39 t40 t41 t42 t43 t44 t45 t46 t47 t48 t49 t50 t51 t52 t53 t54 t55 t56 t57 t58 t59 t60 t61 t62 t63 t64 t65 t66 t67 t68 t69 t70 t71 t72 t73 t74 t75 t76 t77 t78 t79 t80 t81 t82 : Value}
  (c2 : w.cell? ⟨S3, 2, none⟩ = some (.slice AR 4 cR)) (c3 : w.cell? ⟨S3, 3, none⟩ = some (.bool nd)) (c4 : w.cell? ⟨S3, 4, none⟩ = some (.slice Ad md kd)) (hR : RM w (.slice AR 4 cR) R) (hd : NIntV w (fun _ => True) (.agg #[.bool nd, .slice Ad md kd]) d) (hx : PvD w (fun _ => True) (.slice Ax 4 cx) x) (hrw : ∀ l ∈ R, l.length = 4) (hfR : fitM R = true) (hfx : fitR x = true) (hxl : x.length = 4) (hb : elB (rw_ (tms [x] R) 0) d = true)
  (hQ : ∀ (w' : World) (P16 : Nat) (u57 u58 u59 u60 u61 u62 u63 u64 u65 u66 u67 u68 u69 : Value), Arr w' P16 148 (elQ (rw_ (tms [x] R) 0) d hb).enc → w.heap.size ≤ P16 → Below w.heap.size w w' → Q .normal ⟨#[t0, t1, t2, .pointer (some ⟨S3, 0, none⟩), t4, t5, t6, t7, t8, t9, t10, t11, t12, t13, .slice Ax 4 cx, t15, .pointer (some ⟨P16, 0, none⟩), .int .i64 0, t18, t19, t20, t21, t22, t23, t24, t25, t26, t27, t28, t29, t30, t31, t32, t33, t34, t35, t36, t37, t38, t39, t40, t41, t42, t43, t44, t45, t46, t47, t48, t49, t50, t51, t52, t53, t54, t55, t56, u57, u58, u59, u60, u61, u62, u63, u64, u65, u66, u67, u68, u69, t70, t71, t72, t73, t74, t75, t76, t77, t78, t79, t80, t81, t82], []⟩ w') :
  (elr13C).wpIn (Fence.wide.inRound l) n Tryz.prog Q ⟨#[t0, t1, t2, .pointer (some ⟨S3, 0, none⟩), t4, t5, t6, t7, t8, t9, t10, t11, t12, t13, .slice Ax 4 cx, t15, t16, t17, t18, t19, t20, t21, t22, t23, t24, t25, t26, t27, t28, t29, t30, t31, t32, t33, t34, t35, t36, t37, t38, t39, t40, t41, t42, t43, t44, t45, t46, t47, t48, t49, t50, t51, t52, t53, t54, t55, t56, t57, t58, t59, t60, t61, t62, t63, t64, t65, t66, t67, t68, t69, t70, t71, t72, t73, t74, t75, t76, t77, t78, t79, t80, t81, t82], []⟩ w := by
 have HQ := Lib.hid hQ
 have HR := Lib.hid hR
 have HD := Lib.hid hd
 have HX := Lib.hid hx
 have HRW := Lib.hid hrw
 have HFR := Lib.hid hfR
 have HFX := Lib.hid hfx
 have HXL := Lib.hid hxl
 have HEB := Lib.hid hb
 have HTL : Hid ((tms [x] R).length = 1) := Lib.hid rfl
 have HEL : Hid ((rw_ (tms [x] R) 0).length = 4) := Lib.hid (elB_ok hb).1.len
 have hq : (elQ (rw_ (tms [x] R) 0) d hb).enc = [.int .i64 (gz (rw_ (tms [x] R) 0) 0 / elG (rw_ (tms [x] R) 0) d), .int .i64 (gz (rw_ (tms [x] R) 0) 1 / elG (rw_ (tms [x] R) 0) d), .int .i64 (gz (rw_ (tms [x] R) 0) 2 / elG (rw_ (tms [x] R) 0) d), .int .i64 (gz (rw_ (tms [x] R) 0) 3 / elG (rw_ (tms [x] R) 0) d), .int .i64 (d / elG (rw_ (tms [x] R) 0) d)] := rfl
 rw [hq] at HQ
 obtain ⟨q0, hq0⟩ : ∃ q, q = gz (rw_ (tms [x] R) 0) 0 / elG (rw_ (tms [x] R) 0) d := ⟨_, rfl⟩
 obtain ⟨q1, hq1⟩ : ∃ q, q = gz (rw_ (tms [x] R) 0) 1 / elG (rw_ (tms [x] R) 0) d := ⟨_, rfl⟩
 obtain ⟨q2, hq2⟩ : ∃ q, q = gz (rw_ (tms [x] R) 0) 2 / elG (rw_ (tms [x] R) 0) d := ⟨_, rfl⟩
 obtain ⟨q3, hq3⟩ : ∃ q, q = gz (rw_ (tms [x] R) 0) 3 / elG (rw_ (tms [x] R) 0) d := ⟨_, rfl⟩
 obtain ⟨dq, hdq⟩ : ∃ q, q = d / elG (rw_ (tms [x] R) 0) d := ⟨_, rfl⟩
 rw [← hq0, ← hq1, ← hq2, ← hq3, ← hdq] at HQ
 have HQ0 := Lib.hid hq0
 have HQ1 := Lib.hid hq1
 have HQ2 := Lib.hid hq2
 have HQ3 := Lib.hid hq3
 have HDQ := Lib.hid hdq
 have HRL := Lib.hid (RowsD.room hR).1.symm
 clear hQ hR hd hx hrw hfR hfx hxl hq hq0 hq1 hq2 hq3 hdq
 show Code.wpIn _ _ _ (Code.region 13 (List.toArray _) true) _ _ _
 obtain ⟨v0, hv0⟩ : ∃ v0, v0 = w.drew := ⟨_, rfl⟩
 have hs : Below w.heap.size w v0 := by rw [hv0]; exact (Below.refl _ _).drew
 refine wpIn_region_tq5 (.read 0 (.read 2 (.read 3 (.read 7 (.read 8 (.two 1 13 (.two 4 13 (.two 5 13 (.two 6 13 (.two 9 13 (.read 10 (.pure 12 (.read 11 (.step 13 (.step 14 (.step 15 .nil)))))) (.step 9 (.read 10 (.pure 12 (.read 11 (.step 14 (.step 15 .nil))))))) (.step 6 (.step 9 (.read 10 (.pure 12 (.read 11 (.step 14 (.step 15 .nil)))))))) (.step 5 (.step 6 (.step 9 (.read 10 (.pure 12 (.read 11 (.step 14 (.step 15 .nil))))))))) (.step 4 (.step 5 (.step 6 (.step 9 (.read 10 (.pure 12 (.read 11 (.step 14 (.step 15 .nil)))))))))) (.step 1 (.step 4 (.step 5 (.step 6 (.step 9 (.read 10 (.pure 12 (.read 11 (.step 14 (.step 15 .nil)))))))))))))))) [14, 15, 12] (by kernel_rfl) (by rfl) (by kernel_rfl) (by kernel_rfl) (by kernel_rfl) (fun V => Below w.heap.size w V) ?_
 change goU _ _ _ _ _ _ _ w.drew
 rw [← hv0]
 clear hv0
 refine goU_read 58 hs (by rfl) (by rfl) ?_ (by rfl) (fun wz hSw => ?_) ?_
 rotate_left
 ·go_simp
  try with_reducible rfl
 simp only [sIB, List.set]
 refine goU_read 60 hs (by rfl) (by rfl) ?_ (by rfl) (fun wz hSw => ?_) ?_
 rotate_left
 ·go_simp
  try with_reducible rfl
 simp only [sIB, List.set]
 refine goU_read 61 hs (by rfl) (by rfl) ?_ (by rfl) (fun wz hSw => ?_) ?_
 rotate_left
 ·have e0 := keepB hSw c2; go_simp
  try with_reducible rfl
 simp only [sIB, List.set]
 refine goU_read 65 hs (by rfl) (by rfl) ?_ (by rfl) (fun wz hSw => ?_) ?_
 rotate_left
 ·go_simp
  try with_reducible rfl
 simp only [sIB, List.set]
 refine goU_read 66 hs (by rfl) (by rfl) ?_ (by rfl) (fun wz hSw => ?_) ?_
 rotate_left
 ·have e0 := keepB hSw c3; have e1 := keepB hSw c4; go_simp
  try with_reducible rfl
 simp only [sIB, List.set]
 refine goU_two (by rfl) (by rfl) ?_ ?_
 ·go_wp2_with fail
  obtain ⟨v1, hv1⟩ : ∃ V, V = v0.alloc (.cells #[.slice Ax 4 cx] 175) := ⟨_, rfl⟩
  obtain ⟨G, hGe⟩ : ∃ P, P = v0.heap.size := ⟨_, rfl⟩
  have hGA : Arr v1 G 175 [.slice Ax 4 cx] := by rw [hv1, hGe]; exact Arr.new v0 _ [.slice Ax 4 cx]
  have hb0 : Below v0.heap.size v0 v1 := by rw [hv1]; exact (Below.refl _ _).alloc (Nat.le_refl _) _
  rw [← hv1, ← hGe]
  clear hv1 hGe
  replace hs := hs.trans (hb0.mono hs.size)
  have hL : RM v1 (.slice (some ⟨G, 0, none⟩) 1 1) [x] := RowsD.one hGA trivial (HX.out.below hs)
  first | refine ⟨fun _ => hs, ?_⟩ | refine ⟨hs, ?_⟩
  refine goU_two (by rfl) (by rfl) ?_ ?_
  ·refine goU_call1 62 (by rfl) (by rfl) (by go_simp) (Times_any (L := [x]) (N := R) hL (RowsD.below HR.out hs) (by omega) (by omega) (by omega) (by omega) (by omega) (fun l hl => by rw [List.mem_singleton] at hl; rw [hl]; exact HXL.out) HRW.out (by show ([x].all fitR) = true; rw [List.all_cons, List.all_nil, Bool.and_true]; exact HFX.out) HFR.out) ?_
   rintro e v2 ⟨vt, rfl, hxt, hb1⟩
   obtain ⟨At, ct, rfl⟩ := RowsD.slice_ hxt HTL.out
   obtain ⟨b3, off3, u3, e3, hT0, hu3⟩ := RowsD.at hxt (rw_some (L := tms [x] R) (i := 0) (by rw [HTL.out]; omega))
   subst e3
   rw [Nat.add_zero] at hT0
   obtain ⟨A3, c3, rfl⟩ := PvD.slice_ hu3
   rw [HEL.out] at hT0 hu3
   have hT : PvD v2 (fun _ => True) (.slice A3 4 c3) (rw_ (tms [x] R) 0) := hu3.mono fun _ _ _ => trivial
   clear hu3 hxt hL
   replace hs := hs.trans (hb1.mono hs.size)
   refine ⟨_, rfl, fun _ => hs, ?_⟩
   simp only [sIB, List.set]
   refine goU_two (by rfl) (by rfl) ?_ ?_
   ·go_wp2_with fail
    first | refine ⟨fun _ => hs, ?_⟩ | refine ⟨hs, ?_⟩
    refine goU_two (by rfl) (by rfl) ?_ ?_
    ·go_wp2_with fail
     first | refine ⟨fun _ => hs, ?_⟩ | refine ⟨hs, ?_⟩
     refine goU_two (by rfl) (by rfl) ?_ ?_
     ·refine goU_call1 67 (by rfl) (by rfl) (by go_simp) (element_ok hT (HD.out.below hs) (elB_ok HEB.out).1) ?_
      rintro e v3 ⟨rfl, hb2⟩
      rw [← HQ0.out, ← HQ1.out, ← HQ2.out, ← HQ3.out, ← HDQ.out]
      clear hT hT0
      replace hs := hs.trans (hb2.mono hs.size)
      refine ⟨_, rfl, fun _ => hs, ?_⟩
      simp only [sIB, List.set]
      refine goU_read 57 hs (by rfl) (by rfl) ?_ (by rfl) (fun wz hSw => ?_) ?_
      rotate_left
      ·go_simp
       try with_reducible rfl
      simp only [sIB, List.set]
      refine goU_pure 69 (by rfl) (by rfl) ?_ (by rfl) (fun wz => ?_) ?_
      rotate_left
      ·go_simp
       try with_reducible rfl
      simp only [sIB, List.set]
      refine goU_read 68 hs (by rfl) (by rfl) ?_ (by rfl) (fun wz hSw => ?_) ?_
      rotate_left
      ·go_simp
       try with_reducible rfl
      simp only [sIB, List.set]
      refine goU_step (by rfl) ?_
      go_wp2_with fail
      obtain ⟨v4, hv4⟩ : ∃ V, V = v3.alloc (.cells #[.int .i64 0, .int .i64 0, .int .i64 0, .int .i64 0, .int .i64 0] 148) := ⟨_, rfl⟩
      obtain ⟨P, hPe⟩ : ∃ P, P = v3.heap.size := ⟨_, rfl⟩
      have hP : Arr v4 P 148 [.int .i64 0, .int .i64 0, .int .i64 0, .int .i64 0, .int .i64 0] := by rw [hv4, hPe]; exact Arr.new v3 _ [.int .i64 0, .int .i64 0, .int .i64 0, .int .i64 0, .int .i64 0]
      have hb3 : Below v3.heap.size v3 v4 := by rw [hv4]; exact (Below.refl _ _).alloc (Nat.le_refl _) _
      have hPw : w.heap.size ≤ P := by rw [hPe]; exact hs.size
      rw [← hv4, ← hPe]
      clear hv4 hPe
      replace hs := hs.trans (hb3.mono hs.size)
      first | refine ⟨fun _ => hs, ?_⟩ | refine ⟨hs, ?_⟩
      have r0 := hP.rd (i := 0) rfl
      have r1 := hP.rd (i := 1) rfl
      have r2 := hP.rd (i := 2) rfl
      have r3 := hP.rd (i := 3) rfl
      have r4 := hP.rd (i := 4) rfl
      have f0 := hP.frozen 0
      have f1 := hP.frozen 1
      have f2 := hP.frozen 2
      have f3 := hP.frozen 3
      have f4 := hP.frozen 4
      refine goU_step (by rfl) ?_
      go_wp2_with fail
      try (refine ⟨fun h => absurd h (by decide), ?_⟩)
      refine goU_step (by rfl) ?_
      go_wp2_with fail
      try (refine ⟨fun h => absurd h (by decide), ?_⟩)
      refine goU_nilO ?_
      have hset := ((((hP.set_ 0 (.int .i64 q0)).set_ 1 (.int .i64 q1)).set_ 2 (.int .i64 q2)).set_ 3 (.int .i64 q3)).set_ 4 (.int .i64 dq)
      exact HQ.out _ P _ _ _ _ _ _ _ _ _ _ _ _ _ hset hPw (((((hs.setCell (p := ⟨P, 0, none⟩) hPw _).setCell (p := ⟨P, 1, none⟩) hPw _).setCell (p := ⟨P, 2, none⟩) hPw _).setCell (p := ⟨P, 3, none⟩) hPw _).setCell (p := ⟨P, 4, none⟩) hPw _)
     ·go_wp2_with fail
      obtain ⟨v3, hv3⟩ : ∃ V, V = v2.alloc (.cells #[.int .i64 0, .int .i64 0, .int .i64 0, .int .i64 0, .int .i64 0] 148) := ⟨_, rfl⟩
      obtain ⟨P, hPe⟩ : ∃ P, P = v2.heap.size := ⟨_, rfl⟩
      have hP : Arr v3 P 148 [.int .i64 0, .int .i64 0, .int .i64 0, .int .i64 0, .int .i64 0] := by rw [hv3, hPe]; exact Arr.new v2 _ [.int .i64 0, .int .i64 0, .int .i64 0, .int .i64 0, .int .i64 0]
      have hb2 : Below v2.heap.size v2 v3 := by rw [hv3]; exact (Below.refl _ _).alloc (Nat.le_refl _) _
      have hPw : w.heap.size ≤ P := by rw [hPe]; exact hs.size
      rw [← hv3, ← hPe]
      clear hv3 hPe
      replace hT := PvD.below hT hb2
      replace hT0 := keepB hb2 hT0
      replace hs := hs.trans (hb2.mono hs.size)
      first | refine ⟨fun _ => hs, ?_⟩ | refine ⟨hs, ?_⟩
      refine goU_call 67 (by rfl) (by rfl) (by rfl) (by go_simp) (element_ok hT (HD.out.below hs) (elB_ok HEB.out).1) ?_
      rintro e v4 ⟨rfl, hb3⟩
      rw [← HQ0.out, ← HQ1.out, ← HQ2.out, ← HQ3.out, ← HDQ.out]
      clear hT hT0
      replace hP := keepA hP hb3 hP.lt
      replace hs := hs.trans (hb3.mono hs.size)
      refine ⟨_, rfl, fun _ => hs, ?_⟩
      simp only [sIB, List.set]
      refine goU_read 57 hs (by rfl) (by rfl) ?_ (by rfl) (fun wz hSw => ?_) ?_
      rotate_left
      ·go_simp
       try with_reducible rfl
      simp only [sIB, List.set]
      refine goU_pure 69 (by rfl) (by rfl) ?_ (by rfl) (fun wz => ?_) ?_
      rotate_left
      ·go_simp
       try with_reducible rfl
      simp only [sIB, List.set]
      refine goU_read 68 hs (by rfl) (by rfl) ?_ (by rfl) (fun wz hSw => ?_) ?_
      rotate_left
      ·go_simp
       try with_reducible rfl
      simp only [sIB, List.set]
      have r0 := hP.rd (i := 0) rfl
      have r1 := hP.rd (i := 1) rfl
      have r2 := hP.rd (i := 2) rfl
      have r3 := hP.rd (i := 3) rfl
      have r4 := hP.rd (i := 4) rfl
      have f0 := hP.frozen 0
      have f1 := hP.frozen 1
      have f2 := hP.frozen 2
      have f3 := hP.frozen 3
      have f4 := hP.frozen 4
      refine goU_step (by rfl) ?_
      go_wp2_with fail
      try (refine ⟨fun h => absurd h (by decide), ?_⟩)
      refine goU_step (by rfl) ?_
      go_wp2_with fail
      try (refine ⟨fun h => absurd h (by decide), ?_⟩)
      refine goU_nilO ?_
      have hset := ((((hP.set_ 0 (.int .i64 q0)).set_ 1 (.int .i64 q1)).set_ 2 (.int .i64 q2)).set_ 3 (.int .i64 q3)).set_ 4 (.int .i64 dq)
      exact HQ.out _ P _ _ _ _ _ _ _ _ _ _ _ _ _ hset hPw (((((hs.setCell (p := ⟨P, 0, none⟩) hPw _).setCell (p := ⟨P, 1, none⟩) hPw _).setCell (p := ⟨P, 2, none⟩) hPw _).setCell (p := ⟨P, 3, none⟩) hPw _).setCell (p := ⟨P, 4, none⟩) hPw _)
    ·go_wp2_with fail
     obtain ⟨v3, hv3⟩ : ∃ V, V = v2.alloc (.cells #[.int .i64 0, .int .i64 0, .int .i64 0, .int .i64 0, .int .i64 0] 148) := ⟨_, rfl⟩
     obtain ⟨P, hPe⟩ : ∃ P, P = v2.heap.size := ⟨_, rfl⟩
     have hP : Arr v3 P 148 [.int .i64 0, .int .i64 0, .int .i64 0, .int .i64 0, .int .i64 0] := by rw [hv3, hPe]; exact Arr.new v2 _ [.int .i64 0, .int .i64 0, .int .i64 0, .int .i64 0, .int .i64 0]
     have hb2 : Below v2.heap.size v2 v3 := by rw [hv3]; exact (Below.refl _ _).alloc (Nat.le_refl _) _
     have hPw : w.heap.size ≤ P := by rw [hPe]; exact hs.size
     rw [← hv3, ← hPe]
     clear hv3 hPe
     replace hT := PvD.below hT hb2
     replace hT0 := keepB hb2 hT0
     replace hs := hs.trans (hb2.mono hs.size)
     first | refine ⟨fun _ => hs, ?_⟩ | refine ⟨hs, ?_⟩
     refine goU_step (by rfl) ?_
     go_wp2_with fail
     first | refine ⟨fun _ => hs, ?_⟩ | refine ⟨hs, ?_⟩
     refine goU_call 67 (by rfl) (by rfl) (by rfl) (by go_simp) (element_ok hT (HD.out.below hs) (elB_ok HEB.out).1) ?_
     rintro e v4 ⟨rfl, hb3⟩
     rw [← HQ0.out, ← HQ1.out, ← HQ2.out, ← HQ3.out, ← HDQ.out]
     clear hT hT0
     replace hP := keepA hP hb3 hP.lt
     replace hs := hs.trans (hb3.mono hs.size)
     refine ⟨_, rfl, fun _ => hs, ?_⟩
     simp only [sIB, List.set]
     refine goU_read 57 hs (by rfl) (by rfl) ?_ (by rfl) (fun wz hSw => ?_) ?_
     rotate_left
     ·go_simp
      try with_reducible rfl
     simp only [sIB, List.set]
     refine goU_pure 69 (by rfl) (by rfl) ?_ (by rfl) (fun wz => ?_) ?_
     rotate_left
     ·go_simp
      try with_reducible rfl
     simp only [sIB, List.set]
     refine goU_read 68 hs (by rfl) (by rfl) ?_ (by rfl) (fun wz hSw => ?_) ?_
     rotate_left
     ·go_simp
      try with_reducible rfl
     simp only [sIB, List.set]
     have r0 := hP.rd (i := 0) rfl
     have r1 := hP.rd (i := 1) rfl
     have r2 := hP.rd (i := 2) rfl
     have r3 := hP.rd (i := 3) rfl
     have r4 := hP.rd (i := 4) rfl
     have f0 := hP.frozen 0
     have f1 := hP.frozen 1
     have f2 := hP.frozen 2
     have f3 := hP.frozen 3
     have f4 := hP.frozen 4
     refine goU_step (by rfl) ?_
     go_wp2_with fail
     try (refine ⟨fun h => absurd h (by decide), ?_⟩)
     refine goU_step (by rfl) ?_
     go_wp2_with fail
     try (refine ⟨fun h => absurd h (by decide), ?_⟩)
     refine goU_nilO ?_
     have hset := ((((hP.set_ 0 (.int .i64 q0)).set_ 1 (.int .i64 q1)).set_ 2 (.int .i64 q2)).set_ 3 (.int .i64 q3)).set_ 4 (.int .i64 dq)
     exact HQ.out _ P _ _ _ _ _ _ _ _ _ _ _ _ _ hset hPw (((((hs.setCell (p := ⟨P, 0, none⟩) hPw _).setCell (p := ⟨P, 1, none⟩) hPw _).setCell (p := ⟨P, 2, none⟩) hPw _).setCell (p := ⟨P, 3, none⟩) hPw _).setCell (p := ⟨P, 4, none⟩) hPw _)
   ·go_wp2_with fail
    obtain ⟨v3, hv3⟩ : ∃ V, V = v2.alloc (.cells #[.int .i64 0, .int .i64 0, .int .i64 0, .int .i64 0, .int .i64 0] 148) := ⟨_, rfl⟩
    obtain ⟨P, hPe⟩ : ∃ P, P = v2.heap.size := ⟨_, rfl⟩
    have hP : Arr v3 P 148 [.int .i64 0, .int .i64 0, .int .i64 0, .int .i64 0, .int .i64 0] := by rw [hv3, hPe]; exact Arr.new v2 _ [.int .i64 0, .int .i64 0, .int .i64 0, .int .i64 0, .int .i64 0]
    have hb2 : Below v2.heap.size v2 v3 := by rw [hv3]; exact (Below.refl _ _).alloc (Nat.le_refl _) _
    have hPw : w.heap.size ≤ P := by rw [hPe]; exact hs.size
    rw [← hv3, ← hPe]
    clear hv3 hPe
    replace hT := PvD.below hT hb2
    replace hT0 := keepB hb2 hT0
    replace hs := hs.trans (hb2.mono hs.size)
    first | refine ⟨fun _ => hs, ?_⟩ | refine ⟨hs, ?_⟩
    refine goU_step (by rfl) ?_
    go_wp2_with fail
    first | refine ⟨fun _ => hs, ?_⟩ | refine ⟨hs, ?_⟩
    refine goU_step (by rfl) ?_
    go_wp2_with fail
    first | refine ⟨fun _ => hs, ?_⟩ | refine ⟨hs, ?_⟩
    refine goU_call 67 (by rfl) (by rfl) (by rfl) (by go_simp) (element_ok hT (HD.out.below hs) (elB_ok HEB.out).1) ?_
    rintro e v4 ⟨rfl, hb3⟩
    rw [← HQ0.out, ← HQ1.out, ← HQ2.out, ← HQ3.out, ← HDQ.out]
    clear hT hT0
    replace hP := keepA hP hb3 hP.lt
    replace hs := hs.trans (hb3.mono hs.size)
    refine ⟨_, rfl, fun _ => hs, ?_⟩
    simp only [sIB, List.set]
    refine goU_read 57 hs (by rfl) (by rfl) ?_ (by rfl) (fun wz hSw => ?_) ?_
    rotate_left
    ·go_simp
     try with_reducible rfl
    simp only [sIB, List.set]
    refine goU_pure 69 (by rfl) (by rfl) ?_ (by rfl) (fun wz => ?_) ?_
    rotate_left
    ·go_simp
     try with_reducible rfl
    simp only [sIB, List.set]
    refine goU_read 68 hs (by rfl) (by rfl) ?_ (by rfl) (fun wz hSw => ?_) ?_
    rotate_left
    ·go_simp
     try with_reducible rfl
    simp only [sIB, List.set]
    have r0 := hP.rd (i := 0) rfl
    have r1 := hP.rd (i := 1) rfl
    have r2 := hP.rd (i := 2) rfl
    have r3 := hP.rd (i := 3) rfl
    have r4 := hP.rd (i := 4) rfl
    have f0 := hP.frozen 0
    have f1 := hP.frozen 1
    have f2 := hP.frozen 2
    have f3 := hP.frozen 3
    have f4 := hP.frozen 4
    refine goU_step (by rfl) ?_
    go_wp2_with fail
    try (refine ⟨fun h => absurd h (by decide), ?_⟩)
    refine goU_step (by rfl) ?_
    go_wp2_with fail
    try (refine ⟨fun h => absurd h (by decide), ?_⟩)
    refine goU_nilO ?_
    have hset := ((((hP.set_ 0 (.int .i64 q0)).set_ 1 (.int .i64 q1)).set_ 2 (.int .i64 q2)).set_ 3 (.int .i64 q3)).set_ 4 (.int .i64 dq)
    exact HQ.out _ P _ _ _ _ _ _ _ _ _ _ _ _ _ hset hPw (((((hs.setCell (p := ⟨P, 0, none⟩) hPw _).setCell (p := ⟨P, 1, none⟩) hPw _).setCell (p := ⟨P, 2, none⟩) hPw _).setCell (p := ⟨P, 3, none⟩) hPw _).setCell (p := ⟨P, 4, none⟩) hPw _)
  ·go_wp2_with fail
   obtain ⟨v2, hv2⟩ : ∃ V, V = v1.alloc (.cells #[.int .i64 0, .int .i64 0, .int .i64 0, .int .i64 0, .int .i64 0] 148) := ⟨_, rfl⟩
   obtain ⟨P, hPe⟩ : ∃ P, P = v1.heap.size := ⟨_, rfl⟩
   have hP : Arr v2 P 148 [.int .i64 0, .int .i64 0, .int .i64 0, .int .i64 0, .int .i64 0] := by rw [hv2, hPe]; exact Arr.new v1 _ [.int .i64 0, .int .i64 0, .int .i64 0, .int .i64 0, .int .i64 0]
   have hb1 : Below v1.heap.size v1 v2 := by rw [hv2]; exact (Below.refl _ _).alloc (Nat.le_refl _) _
   have hPw : w.heap.size ≤ P := by rw [hPe]; exact hs.size
   rw [← hv2, ← hPe]
   clear hv2 hPe
   replace hL := RowsD.below hL hb1
   replace hs := hs.trans (hb1.mono hs.size)
   first | refine ⟨fun _ => hs, ?_⟩ | refine ⟨hs, ?_⟩
   refine goU_call 62 (by rfl) (by rfl) (by rfl) (by go_simp) (Times_any (L := [x]) (N := R) hL (RowsD.below HR.out hs) (by omega) (by omega) (by omega) (by omega) (by omega) (fun l hl => by rw [List.mem_singleton] at hl; rw [hl]; exact HXL.out) HRW.out (by show ([x].all fitR) = true; rw [List.all_cons, List.all_nil, Bool.and_true]; exact HFX.out) HFR.out) ?_
   rintro e v3 ⟨vt, rfl, hxt, hb2⟩
   obtain ⟨At, ct, rfl⟩ := RowsD.slice_ hxt HTL.out
   obtain ⟨b3, off3, u3, e3, hT0, hu3⟩ := RowsD.at hxt (rw_some (L := tms [x] R) (i := 0) (by rw [HTL.out]; omega))
   subst e3
   rw [Nat.add_zero] at hT0
   obtain ⟨A3, c3, rfl⟩ := PvD.slice_ hu3
   rw [HEL.out] at hT0 hu3
   have hT : PvD v3 (fun _ => True) (.slice A3 4 c3) (rw_ (tms [x] R) 0) := hu3.mono fun _ _ _ => trivial
   clear hu3 hxt hL
   replace hP := keepA hP hb2 hP.lt
   replace hs := hs.trans (hb2.mono hs.size)
   refine ⟨_, rfl, fun _ => hs, ?_⟩
   simp only [sIB, List.set]
   refine goU_step (by rfl) ?_
   go_wp2_with fail
   first | refine ⟨fun _ => hs, ?_⟩ | refine ⟨hs, ?_⟩
   refine goU_step (by rfl) ?_
   go_wp2_with fail
   first | refine ⟨fun _ => hs, ?_⟩ | refine ⟨hs, ?_⟩
   refine goU_call 67 (by rfl) (by rfl) (by rfl) (by go_simp) (element_ok hT (HD.out.below hs) (elB_ok HEB.out).1) ?_
   rintro e v4 ⟨rfl, hb3⟩
   rw [← HQ0.out, ← HQ1.out, ← HQ2.out, ← HQ3.out, ← HDQ.out]
   clear hT hT0
   replace hP := keepA hP hb3 hP.lt
   replace hs := hs.trans (hb3.mono hs.size)
   refine ⟨_, rfl, fun _ => hs, ?_⟩
   simp only [sIB, List.set]
   refine goU_read 57 hs (by rfl) (by rfl) ?_ (by rfl) (fun wz hSw => ?_) ?_
   rotate_left
   ·go_simp
    try with_reducible rfl
   simp only [sIB, List.set]
   refine goU_pure 69 (by rfl) (by rfl) ?_ (by rfl) (fun wz => ?_) ?_
   rotate_left
   ·go_simp
    try with_reducible rfl
   simp only [sIB, List.set]
   refine goU_read 68 hs (by rfl) (by rfl) ?_ (by rfl) (fun wz hSw => ?_) ?_
   rotate_left
   ·go_simp
    try with_reducible rfl
   simp only [sIB, List.set]
   have r0 := hP.rd (i := 0) rfl
   have r1 := hP.rd (i := 1) rfl
   have r2 := hP.rd (i := 2) rfl
   have r3 := hP.rd (i := 3) rfl
   have r4 := hP.rd (i := 4) rfl
   have f0 := hP.frozen 0
   have f1 := hP.frozen 1
   have f2 := hP.frozen 2
   have f3 := hP.frozen 3
   have f4 := hP.frozen 4
   refine goU_step (by rfl) ?_
   go_wp2_with fail
   try (refine ⟨fun h => absurd h (by decide), ?_⟩)
   refine goU_step (by rfl) ?_
   go_wp2_with fail
   try (refine ⟨fun h => absurd h (by decide), ?_⟩)
   refine goU_nilO ?_
   have hset := ((((hP.set_ 0 (.int .i64 q0)).set_ 1 (.int .i64 q1)).set_ 2 (.int .i64 q2)).set_ 3 (.int .i64 q3)).set_ 4 (.int .i64 dq)
   exact HQ.out _ P _ _ _ _ _ _ _ _ _ _ _ _ _ hset hPw (((((hs.setCell (p := ⟨P, 0, none⟩) hPw _).setCell (p := ⟨P, 1, none⟩) hPw _).setCell (p := ⟨P, 2, none⟩) hPw _).setCell (p := ⟨P, 3, none⟩) hPw _).setCell (p := ⟨P, 4, none⟩) hPw _)
 ·go_wp2_with fail
  obtain ⟨v1, hv1⟩ : ∃ V, V = v0.alloc (.cells #[.int .i64 0, .int .i64 0, .int .i64 0, .int .i64 0, .int .i64 0] 148) := ⟨_, rfl⟩
  obtain ⟨P, hPe⟩ : ∃ P, P = v0.heap.size := ⟨_, rfl⟩
  have hP : Arr v1 P 148 [.int .i64 0, .int .i64 0, .int .i64 0, .int .i64 0, .int .i64 0] := by rw [hv1, hPe]; exact Arr.new v0 _ [.int .i64 0, .int .i64 0, .int .i64 0, .int .i64 0, .int .i64 0]
  have hb0 : Below v0.heap.size v0 v1 := by rw [hv1]; exact (Below.refl _ _).alloc (Nat.le_refl _) _
  have hPw : w.heap.size ≤ P := by rw [hPe]; exact hs.size
  rw [← hv1, ← hPe]
  clear hv1 hPe
  replace hs := hs.trans (hb0.mono hs.size)
  first | refine ⟨fun _ => hs, ?_⟩ | refine ⟨hs, ?_⟩
  refine goU_step (by rfl) ?_
  go_wp2_with fail
  obtain ⟨v2, hv2⟩ : ∃ V, V = v1.alloc (.cells #[.slice Ax 4 cx] 175) := ⟨_, rfl⟩
  obtain ⟨G, hGe⟩ : ∃ P, P = v1.heap.size := ⟨_, rfl⟩
  have hGA : Arr v2 G 175 [.slice Ax 4 cx] := by rw [hv2, hGe]; exact Arr.new v1 _ [.slice Ax 4 cx]
  have hb1 : Below v1.heap.size v1 v2 := by rw [hv2]; exact (Below.refl _ _).alloc (Nat.le_refl _) _
  rw [← hv2, ← hGe]
  clear hv2 hGe
  replace hP := keepA hP hb1 hP.lt
  replace hs := hs.trans (hb1.mono hs.size)
  have hL : RM v2 (.slice (some ⟨G, 0, none⟩) 1 1) [x] := RowsD.one hGA trivial (HX.out.below hs)
  first | refine ⟨fun _ => hs, ?_⟩ | refine ⟨hs, ?_⟩
  refine goU_call 62 (by rfl) (by rfl) (by rfl) (by go_simp) (Times_any (L := [x]) (N := R) hL (RowsD.below HR.out hs) (by omega) (by omega) (by omega) (by omega) (by omega) (fun l hl => by rw [List.mem_singleton] at hl; rw [hl]; exact HXL.out) HRW.out (by show ([x].all fitR) = true; rw [List.all_cons, List.all_nil, Bool.and_true]; exact HFX.out) HFR.out) ?_
  rintro e v3 ⟨vt, rfl, hxt, hb2⟩
  obtain ⟨At, ct, rfl⟩ := RowsD.slice_ hxt HTL.out
  obtain ⟨b3, off3, u3, e3, hT0, hu3⟩ := RowsD.at hxt (rw_some (L := tms [x] R) (i := 0) (by rw [HTL.out]; omega))
  subst e3
  rw [Nat.add_zero] at hT0
  obtain ⟨A3, c3, rfl⟩ := PvD.slice_ hu3
  rw [HEL.out] at hT0 hu3
  have hT : PvD v3 (fun _ => True) (.slice A3 4 c3) (rw_ (tms [x] R) 0) := hu3.mono fun _ _ _ => trivial
  clear hu3 hxt hL
  replace hP := keepA hP hb2 hP.lt
  replace hs := hs.trans (hb2.mono hs.size)
  refine ⟨_, rfl, fun _ => hs, ?_⟩
  simp only [sIB, List.set]
  refine goU_step (by rfl) ?_
  go_wp2_with fail
  first | refine ⟨fun _ => hs, ?_⟩ | refine ⟨hs, ?_⟩
  refine goU_step (by rfl) ?_
  go_wp2_with fail
  first | refine ⟨fun _ => hs, ?_⟩ | refine ⟨hs, ?_⟩
  refine goU_call 67 (by rfl) (by rfl) (by rfl) (by go_simp) (element_ok hT (HD.out.below hs) (elB_ok HEB.out).1) ?_
  rintro e v4 ⟨rfl, hb3⟩
  rw [← HQ0.out, ← HQ1.out, ← HQ2.out, ← HQ3.out, ← HDQ.out]
  clear hT hT0
  replace hP := keepA hP hb3 hP.lt
  replace hs := hs.trans (hb3.mono hs.size)
  refine ⟨_, rfl, fun _ => hs, ?_⟩
  simp only [sIB, List.set]
  refine goU_read 57 hs (by rfl) (by rfl) ?_ (by rfl) (fun wz hSw => ?_) ?_
  rotate_left
  ·go_simp
   try with_reducible rfl
  simp only [sIB, List.set]
  refine goU_pure 69 (by rfl) (by rfl) ?_ (by rfl) (fun wz => ?_) ?_
  rotate_left
  ·go_simp
   try with_reducible rfl
  simp only [sIB, List.set]
  refine goU_read 68 hs (by rfl) (by rfl) ?_ (by rfl) (fun wz hSw => ?_) ?_
  rotate_left
  ·go_simp
   try with_reducible rfl
  simp only [sIB, List.set]
  have r0 := hP.rd (i := 0) rfl
  have r1 := hP.rd (i := 1) rfl
  have r2 := hP.rd (i := 2) rfl
  have r3 := hP.rd (i := 3) rfl
  have r4 := hP.rd (i := 4) rfl
  have f0 := hP.frozen 0
  have f1 := hP.frozen 1
  have f2 := hP.frozen 2
  have f3 := hP.frozen 3
  have f4 := hP.frozen 4
  refine goU_step (by rfl) ?_
  go_wp2_with fail
  try (refine ⟨fun h => absurd h (by decide), ?_⟩)
  refine goU_step (by rfl) ?_
  go_wp2_with fail
  try (refine ⟨fun h => absurd h (by decide), ?_⟩)
  refine goU_nilO ?_
  have hset := ((((hP.set_ 0 (.int .i64 q0)).set_ 1 (.int .i64 q1)).set_ 2 (.int .i64 q2)).set_ 3 (.int .i64 q3)).set_ 4 (.int .i64 dq)
  exact HQ.out _ P _ _ _ _ _ _ _ _ _ _ _ _ _ hset hPw (((((hs.setCell (p := ⟨P, 0, none⟩) hPw _).setCell (p := ⟨P, 1, none⟩) hPw _).setCell (p := ⟨P, 2, none⟩) hPw _).setCell (p := ⟨P, 3, none⟩) hPw _).setCell (p := ⟨P, 4, none⟩) hPw _)
end Go.Proofs.YtdjpeimecfhdjaaGreat
