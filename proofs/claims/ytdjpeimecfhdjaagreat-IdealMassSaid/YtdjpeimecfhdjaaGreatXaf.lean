/- Package ideal: element: a vector over a denominator as an element in lowest terms. -/
import Derived.Test.YtdjpeimecfhdjaaGreatXad
import Derived.Test.YtdjpeimecfhdjaaGreatXu
import Derived.Test.YtdjpeimecfhdjaaGreatXj
namespace Go.Proofs.YtdjpeimecfhdjaaGreat
open Go.RowKit
structure ElOK (x : List Int) (d g : Int) : Prop where
 len : x.length = 4
 fx : fitR x = true
 fd : fit d = true
 cnt : cntM d [x] = g
 g0 : g ≠ 0
 fg : fit g = true
 sm : smM 1000000 (ovr [x] g) = true
 i64 : in64 (d / g) = true
 le : d / g ≤ 1000000
theorem gz_divM {l : List Int} {g : Int} {j : Nat} (hj : j < l.length) : gz (l.map (· / g)) j = gz l j / g := by
 unfold gz List.getD
 rw [List.getElem?_map, List.getElem?_eq_getElem hj]
 rfl
theorem IsD.all {w : World} {D : Nat → Prop} {v : Value} {l : List Int} {n : Nat} (h : IsD w D v l) (hl : l.length = n) (h0 : 0 < n) : ∃ b off c, v = .slice (some ⟨b, off, none⟩) n c ∧ ∀ j, j < n → w.cell? ⟨b, off + j, none⟩ = some (.int .i64 (gz l j)) := by
 subst hl
 obtain ⟨A, c, rfl, _, _, h3⟩ := h
 obtain ⟨b, off, rfl, _, hc⟩ := h3 h0
 exact ⟨b, off, c, rfl, hc⟩
set_option maxRecDepth 100000 in
set_option maxHeartbeats 4000000 in
theorem element_ok {w : World} {D D2 : Nat → Prop} {A : Option Addr} {c : Nat} {x : List Int} {kv : Value} {d g : Int} (h : PvD w D (.slice A 4 c) x) (hk : NIntV w D2 kv d) (hE : ElOK x d g) :
  Calls Tryz.prog 167 #[.slice A 4 c, kv] w fun e w' => e = .returned (.tuple #[.agg #[.int .i64 (gz x 0 / g), .int .i64 (gz x 1 / g), .int .i64 (gz x 2 / g), .int .i64 (gz x 3 / g), .int .i64 (d / g)], .int .i64 0]) ∧ Below w.heap.size w w' := by
 obtain ⟨q0, hq0⟩ : ∃ q, q = gz x 0 / g := ⟨_, rfl⟩
 obtain ⟨q1, hq1⟩ : ∃ q, q = gz x 1 / g := ⟨_, rfl⟩
 obtain ⟨q2, hq2⟩ : ∃ q, q = gz x 2 / g := ⟨_, rfl⟩
 obtain ⟨q3, hq3⟩ : ∃ q, q = gz x 3 / g := ⟨_, rfl⟩
 obtain ⟨dq, hdq⟩ : ∃ q, q = d / g := ⟨_, rfl⟩
 rw [← hq0, ← hq1, ← hq2, ← hq3, ← hdq]
 have HQ0 := Lib.hid hq0
 have HQ1 := Lib.hid hq1
 have HQ2 := Lib.hid hq2
 have HQ3 := Lib.hid hq3
 have HDQ := Lib.hid hdq
 clear hq0 hq1 hq2 hq3 hdq
 obtain ⟨nk, Ak, mk, ck, rfl, hk⟩ := hk.shp
 obtain ⟨W, hW⟩ : ∃ W, W = (w.alloc (.cells #[.bool nk, .slice Ak mk ck] 40)).alloc (.cells #[.int .i64 0, .int .i64 0, .int .i64 0, .int .i64 0, .int .i64 0] 148) := ⟨_, rfl⟩
 obtain ⟨R, hR⟩ : ∃ R, R = w.heap.size + 1 := ⟨_, rfl⟩
 obtain ⟨P, hP⟩ : ∃ P, P = w.heap.size := ⟨_, rfl⟩
 have hbW : Below w.heap.size w W := by rw [hW]; exact ((Below.refl _ _).alloc (Nat.le_refl _) _).alloc (by simp) _
 have hPA : Arr W P 40 [.bool nk, .slice Ak mk ck] := by rw [hW, hP]; exact (Arr.new w _ [.bool nk, .slice Ak mk ck]).alloc _
 have hRA : Arr W R 148 [.int .i64 0, .int .i64 0, .int .i64 0, .int .i64 0, .int .i64 0] := by
  rw [hW, hR]
  have := Arr.new (w.alloc (.cells #[.bool nk, .slice Ak mk ck] 40)) 148 [.int .i64 0, .int .i64 0, .int .i64 0, .int .i64 0, .int .i64 0]
  simpa using this
 have hx1 : RM (W.alloc (.cells #[.slice A 4 c] 175)) (.slice (some ⟨W.heap.size, 0, none⟩) 1 1) [x] := RowsD.one (Arr.new W _ [.slice A 4 c]) trivial ((h.below (hbW.trans (((Below.refl _ W).alloc (Nat.le_refl _) _).mono hbW.size))).mono fun _ _ _ => trivial)
 have hbA : Below W.heap.size W (W.alloc (.cells #[.slice A 4 c] 175)) := (Below.refl _ _).alloc (Nat.le_refl _) _
 have hP0 := hPA.lt
 have hR0 := hRA.lt
 have hwR : w.heap.size ≤ R := by omega
 have HFX : Hid (∀ l ∈ [x], ∀ y ∈ l, wl y.natAbs ≤ 900000000000) := Lib.hid (fun l hl y hy => by rw [List.mem_singleton] at hl; subst hl; have := fit_wl (fitR_mem hE.fx hy); omega)
 have HLX : Hid (∀ l ∈ [x], l.length ≤ 1000000) := Lib.hid (fun l hl => by rw [List.mem_singleton] at hl; subst hl; rw [hE.len]; omega)
 have HC := Lib.hid (Content_any hx1 ((hk.below hbW).below hbA) (by omega) HLX.out (by have := fit_wl hE.fd; omega) HFX.out)
 have HWW := Lib.hid hW
 have HRR := Lib.hid hR
 have HPP := Lib.hid hP
 have HRA := Lib.hid hRA
 have HPA := Lib.hid hPA
 have HK := Lib.hid (hk.below hbW)
 have HV := Lib.hid (h.below hbW)
 have HE := Lib.hid hE
 rw [hE.cnt] at HC
 have p0 := (keepA hPA hbA hP0).rd (i := 0) rfl
 have p1 := (keepA hPA hbA hP0).rd (i := 1) rfl
 clear hW hR hP hRA hPA hk h hE hx1 hbA
 go_enter Tryz.func167, Tryz.ntmps167
 go_upto_region 1 with (fail)
 rw [← HWW.out, ← HRR.out, ← HPP.out]
 go_upto_region 2 with (go_at_call 220; go_must (refine HC.out.mono ?_); rintro e w2 ⟨v2, rfl, hv2, hb2⟩; obtain ⟨n3, A3, m3, c3, rfl, hw2⟩ := hv2.shp)
 have hbW2 : Below W.heap.size W w2 := ((Below.refl _ W).alloc (Nat.le_refl _) _).trans (hb2.mono (by simp))
 obtain ⟨w3, hw3⟩ : ∃ w3, w3 = w2.alloc (.cells #[.bool n3, .slice A3 m3 c3] 40) := ⟨_, rfl⟩
 obtain ⟨G, hG⟩ : ∃ G, G = w2.heap.size := ⟨_, rfl⟩
 have HB3 : Below w2.heap.size w2 w3 := by rw [hw3]; exact (Below.refl _ _).alloc (Nat.le_refl _) _
 have hGA : Arr w3 G 40 [.bool n3, .slice A3 m3 c3] := by rw [hw3, hG]; exact Arr.new w2 _ [.bool n3, .slice A3 m3 c3]
 rw [← hw3, ← hG]
 have hb3 : Below W.heap.size W w3 := hbW2.trans (HB3.mono hbW2.size)
 have hP3 := keepA HPA.out hb3 hP0
 have HG3 := Lib.hid (hw2.below HB3)
 have HV3 := Lib.hid (HV.out.below hb3)
 have HB := Lib.hid hb3
 have HP3 := Lib.hid hP3
 have HGA := Lib.hid hGA
 have hP30 := hP3.lt
 have hG30 := hGA.lt
 clear hw3 hG hw2 hv2 hb2 HB3 hb3 hbW2 HC p0 p1 hP3 hGA
 have hbA : Below w3.heap.size w3 (w3.alloc (.cells #[.slice A 4 c] 175)) := (Below.refl _ _).alloc (Nat.le_refl _) _
 have hx3 : RM (w3.alloc (.cells #[.slice A 4 c] 175)) (.slice (some ⟨w3.heap.size, 0, none⟩) 1 1) [x] := RowsD.one (Arr.new w3 _ [.slice A 4 c]) trivial ((HV3.out.below hbA).mono fun _ _ _ => trivial)
 have HO := Lib.hid (Over_any hx3 (HG3.out.below hbA) (by omega) HLX.out (by have := fit_wl HE.out.fg; omega) HE.out.g0 HFX.out)
 have g0 := (keepA HGA.out hbA hG30).rd (i := 0) rfl
 have g1 := (keepA HGA.out hbA hG30).rd (i := 1) rfl
 clear hx3
 have HLX2 : Hid (∀ l ∈ ovr [x] g, l.length ≤ 1000000) := Lib.hid (fun l hl => by simp only [ovr, List.map_cons, List.map_nil, List.mem_singleton] at hl; subst hl; rw [List.length_map, HE.out.len]; omega)
 have HL1 : Hid ((ovr [x] g).length = 1) := Lib.hid rfl
 go_upto_region 3 with (first
  | (go_at_call 221; go_must (refine HO.out.mono ?_); rintro e w4 ⟨v4, rfl, hv4, hb4⟩; obtain ⟨A4, c4, rfl⟩ := RowsD.slice_ hv4 HL1.out; have hm4 := RowsD.t hv4)
  | (go_at_call 142; go_must (refine (wSmall_any hm4 (by omega) HLX2.out (by omega) (by omega)).mono ?_); rintro e w5 ⟨v5, rfl, hv5, _, hb5⟩; rw [HE.out.sm]))
 have hr5 := hv5 HE.out.sm
 obtain ⟨A5, c5, rfl⟩ := RowsD.slice_ hr5 HL1.out
 have hbA5 : Below w3.heap.size w3 w5 := hbA.trans ((hb4.trans (hb5.mono hb4.size)).mono hbA.size)
 obtain ⟨b6, off6, u6, e6, hc6, hu6⟩ := RowsD.at hr5 (rw_some (L := ovr [x] g) (i := 0) (by rw [HL1.out]; omega))
 subst e6
 rw [Nat.add_zero] at hc6
 have hrow : rw_ (ovr [x] g) 0 = x.map (· / g) := rfl
 rw [hrow] at hu6
 obtain ⟨b7, off7, c6, rfl, hi7⟩ := IsD.all hu6 (n := 4) (by rw [List.length_map, HE.out.len]) (by omega)
 have i0 := hi7 0 (by omega)
 have i1 := hi7 1 (by omega)
 have i2 := hi7 2 (by omega)
 have i3 := hi7 3 (by omega)
 rw [Nat.add_zero] at i0
 have hgz : ∀ j, j < 4 → gz (x.map (· / g)) j = gz x j / g := fun j hj => gz_divM (by rw [HE.out.len]; exact hj)
 rw [hgz 0 (by omega)] at i0
 rw [hgz 1 (by omega)] at i1
 rw [hgz 2 (by omega)] at i2
 rw [hgz 3 (by omega)] at i3
 have HB5 := Lib.hid (HB.out.trans (hbA5.mono HB.out.size))
 have p0 := (keepA HP3.out hbA5 hP30).rd (i := 0) rfl
 have p1 := (keepA HP3.out hbA5 hP30).rd (i := 1) rfl
 have g2 := (keepA HGA.out hbA5 hG30).rd (i := 0) rfl
 have g3 := (keepA HGA.out hbA5 hG30).rd (i := 1) rfl
 have HQ := Lib.hid (wQuo_any (((HK.out.below HB.out).below hbA5)).int ((HG3.out.below hbA5)).int (by have := fit_wl HE.out.fd; omega) (by have := fit_wl HE.out.fg; omega) HE.out.g0)
 have HS1 : Hid (sm64 (d / g) = d / g) := Lib.hid (by unfold sm64; rw [HE.out.i64]; rfl)
 have z1 : decide (1000000 < d / g) = false := decide_eq_false (by have := HE.out.le; omega)
 clear hv4 hm4 hv5 hr5 hu6 hb4 hb5 hbA hbA5 g0 g1 hrow hgz hi7
 rw [← HQ0.out] at i0
 rw [← HQ1.out] at i1
 rw [← HQ2.out] at i2
 rw [← HQ3.out] at i3
 rw [← HDQ.out] at HQ HS1 z1
 have HI64 : Hid (in64 dq = true) := Lib.hid (by rw [HDQ.out]; exact HE.out.i64)
 go_upto_region 6 with (first
  | (go_at_call 133; go_must (refine HQ.out.mono ?_); rintro e w6 ⟨v6, rfl, hv6, hb6⟩)
  | (go_at_call 132; go_must (refine (Small_any hv6).mono ?_); rintro e w7 ⟨rfl, hb7⟩; rw [HS1.out, HI64.out]))
 have hb67 := hb6.trans (hb7.mono hb6.size)
 replace hc6 := keepB hb67 hc6
 replace i0 := keepB hb67 i0
 replace i1 := keepB hb67 i1
 replace i2 := keepB hb67 i2
 replace i3 := keepB hb67 i3
 have hb7W := HB5.out.trans (hb67.mono HB5.out.size)
 have hRA7 := keepA HRA.out hb7W hR0
 have hl6 : b6 < w7.heap.size := cell_lt hc6
 have hl7 : b7 < w7.heap.size := cell_lt i0
 have HRA7 := Lib.hid hRA7
 have HB7 := Lib.hid hb7W
 clear p0 p1 g2 g3 HQ hv6 hb6 hb7 hb67 hRA7 hb7W
 obtain ⟨v0, hv0⟩ : ∃ v0, v0 = w7.drew := ⟨_, rfl⟩
 have hs0 : Below w7.heap.size w7 v0 := by rw [hv0]; exact (Below.refl _ _).drew
 refine wp_region_tq5 (.read 0 (.read 1 (.read 2 (.read 3 (.read 4 (.read 5 (.read 6 (.read 7 (.read 8 (.read 9 (.read 10 (.read 11 (.read 12 (.read 13 (.read 14 (.read 15 (.read 16 (.read 17 (.read 18 (.read 19 (.read 20 (.read 21 (.step 22 (.step 23 .nil)))))))))))))))))))))))) [22, 23] (by kernel_rfl) (by rfl) (by kernel_rfl) (by kernel_rfl) (fun V => Below w7.heap.size w7 V) ?_
 change goU _ _ _ _ _ _ _ w7.drew
 rw [← hv0]
 clear hv0
 refine goU_read 41 hs0 (by rfl) (by rfl) ?_ (by rfl) (fun wz hSw => ?_) ?_
 rotate_left
 ·go_simp
  try with_reducible rfl
 simp only [sIB, List.set]
 refine goU_read 42 hs0 (by rfl) (by rfl) ?_ (by rfl) (fun wz hSw => ?_) ?_
 rotate_left
 ·go_simp
  try with_reducible rfl
 simp only [sIB, List.set]
 refine goU_read 43 hs0 (by rfl) (by rfl) ?_ (by rfl) (fun wz hSw => ?_) ?_
 rotate_left
 ·have e0 := keepB hSw hc6; go_simp
  try with_reducible rfl
 simp only [sIB, List.set]
 refine goU_read 44 hs0 (by rfl) (by rfl) ?_ (by rfl) (fun wz hSw => ?_) ?_
 rotate_left
 ·go_simp
  try with_reducible rfl
 simp only [sIB, List.set]
 refine goU_read 45 hs0 (by rfl) (by rfl) ?_ (by rfl) (fun wz hSw => ?_) ?_
 rotate_left
 ·have e0 := keepB hSw i0; go_simp
  try with_reducible rfl
 simp only [sIB, List.set]
 refine goU_read 46 hs0 (by rfl) (by rfl) ?_ (by rfl) (fun wz hSw => ?_) ?_
 rotate_left
 ·go_simp
  try with_reducible rfl
 simp only [sIB, List.set]
 refine goU_read 47 hs0 (by rfl) (by rfl) ?_ (by rfl) (fun wz hSw => ?_) ?_
 rotate_left
 ·go_simp
  try with_reducible rfl
 simp only [sIB, List.set]
 refine goU_read 48 hs0 (by rfl) (by rfl) ?_ (by rfl) (fun wz hSw => ?_) ?_
 rotate_left
 ·have e0 := keepB hSw hc6; go_simp
  try with_reducible rfl
 simp only [sIB, List.set]
 refine goU_read 49 hs0 (by rfl) (by rfl) ?_ (by rfl) (fun wz hSw => ?_) ?_
 rotate_left
 ·go_simp
  try with_reducible rfl
 simp only [sIB, List.set]
 refine goU_read 50 hs0 (by rfl) (by rfl) ?_ (by rfl) (fun wz hSw => ?_) ?_
 rotate_left
 ·have e0 := keepB hSw i1; go_simp
  try with_reducible rfl
 simp only [sIB, List.set]
 refine goU_read 51 hs0 (by rfl) (by rfl) ?_ (by rfl) (fun wz hSw => ?_) ?_
 rotate_left
 ·go_simp
  try with_reducible rfl
 simp only [sIB, List.set]
 refine goU_read 52 hs0 (by rfl) (by rfl) ?_ (by rfl) (fun wz hSw => ?_) ?_
 rotate_left
 ·go_simp
  try with_reducible rfl
 simp only [sIB, List.set]
 refine goU_read 53 hs0 (by rfl) (by rfl) ?_ (by rfl) (fun wz hSw => ?_) ?_
 rotate_left
 ·have e0 := keepB hSw hc6; go_simp
  try with_reducible rfl
 simp only [sIB, List.set]
 refine goU_read 54 hs0 (by rfl) (by rfl) ?_ (by rfl) (fun wz hSw => ?_) ?_
 rotate_left
 ·go_simp
  try with_reducible rfl
 simp only [sIB, List.set]
 refine goU_read 55 hs0 (by rfl) (by rfl) ?_ (by rfl) (fun wz hSw => ?_) ?_
 rotate_left
 ·have e0 := keepB hSw i2; go_simp
  try with_reducible rfl
 simp only [sIB, List.set]
 refine goU_read 56 hs0 (by rfl) (by rfl) ?_ (by rfl) (fun wz hSw => ?_) ?_
 rotate_left
 ·go_simp
  try with_reducible rfl
 simp only [sIB, List.set]
 refine goU_read 57 hs0 (by rfl) (by rfl) ?_ (by rfl) (fun wz hSw => ?_) ?_
 rotate_left
 ·go_simp
  try with_reducible rfl
 simp only [sIB, List.set]
 refine goU_read 58 hs0 (by rfl) (by rfl) ?_ (by rfl) (fun wz hSw => ?_) ?_
 rotate_left
 ·have e0 := keepB hSw hc6; go_simp
  try with_reducible rfl
 simp only [sIB, List.set]
 refine goU_read 59 hs0 (by rfl) (by rfl) ?_ (by rfl) (fun wz hSw => ?_) ?_
 rotate_left
 ·go_simp
  try with_reducible rfl
 simp only [sIB, List.set]
 refine goU_read 60 hs0 (by rfl) (by rfl) ?_ (by rfl) (fun wz hSw => ?_) ?_
 rotate_left
 ·have e0 := keepB hSw i3; go_simp
  try with_reducible rfl
 simp only [sIB, List.set]
 refine goU_read 61 hs0 (by rfl) (by rfl) ?_ (by rfl) (fun wz hSw => ?_) ?_
 rotate_left
 ·go_simp
  try with_reducible rfl
 simp only [sIB, List.set]
 refine goU_read 62 hs0 (by rfl) (by rfl) ?_ (by rfl) (fun wz hSw => ?_) ?_
 rotate_left
 ·go_simp
  try with_reducible rfl
 simp only [sIB, List.set]
 have hA := keepA HRA7.out hs0 HRA7.out.lt
 have r0 := hA.rd (i := 0) rfl
 have r1 := hA.rd (i := 1) rfl
 have r2 := hA.rd (i := 2) rfl
 have r3 := hA.rd (i := 3) rfl
 have r4 := hA.rd (i := 4) rfl
 have f0 := hA.frozen 0
 have f1 := hA.frozen 1
 have f2 := hA.frozen 2
 have f3 := hA.frozen 3
 have f4 := hA.frozen 4
 refine goU_step (by rfl) ?_
 go_wp2_with fail
 try (refine ⟨fun h => absurd h (by decide), ?_⟩)
 refine goU_step (by rfl) ?_
 go_wp2_with fail
 try (refine ⟨fun h => absurd h (by decide), ?_⟩)
 refine goU_nilN ?_
 go_wp2_with fail
 refine bodyPost_ret (v := .tuple #[.agg #[.int .i64 q0, .int .i64 q1, .int .i64 q2, .int .i64 q3, .int .i64 dq], .int .i64 0]) (by simp [results, Tryz.results167, go_sem, r0, r1, r2, r3, r4]) rfl ⟨rfl, ?_⟩
 have hfr : ∀ (i : Nat) (u : Value) (V : World), Frm (· = R) V (V.setCell ⟨R, i, none⟩ u) := fun i u V => Frm.setCell (O := (· = R)) (p := ⟨R, i, none⟩) (fun _ => rfl) u
 exact (hbW.trans ((HB7.out.trans (hs0.mono HB7.out.size)).mono hbW.size)).trans (Frm.below (((((hfr _ _ _).trans (hfr _ _ _)).trans (hfr _ _ _)).trans (hfr _ _ _)).trans (hfr _ _ _)) (by have := hbW.size; have := HB7.out.size; have := hs0.size; omega) fun b e => by rw [e]; exact hwR)
end Go.Proofs.YtdjpeimecfhdjaaGreat
