/- Package ideal: Elements of norm 1 of the Hurwitz order. -/
import Derived.Test.YtdjpeimecfhdjaaGreatXaj
import Derived.Test.YtdjpeimecfhdjaaGreatXai
namespace Go.Proofs.YtdjpeimecfhdjaaGreat
open Go.RowKit Go.Shelf
theorem defHam (w : World) : Calls Tryz.prog 98 #[.agg #[.int .i64 (-1), .int .i64 (-1)]] w fun e w' => e = .returned (.int .i64 0) ∧ Below w.heap.size w w' := by
 obtain ⟨W, hW⟩ : ∃ W, W = w.alloc (.cells #[.int .i64 (-1), .int .i64 (-1)] 23) := ⟨_, rfl⟩
 have hbW : Below w.heap.size w W := by rw [hW]; exact (Below.refl _ _).alloc (Nat.le_refl _) _
 have a0 : W.cell? ⟨w.heap.size, 0, none⟩ = some (.int .i64 (-1)) := by rw [hW]; go_simp
 have a1 : W.cell? ⟨w.heap.size, 1, none⟩ = some (.int .i64 (-1)) := by rw [hW]; go_simp
 have HW := Lib.hid hW
 clear hW
 go_enter Tryz.func98, Tryz.ntmps98
 go_upto_region 1 with (fail)
 rw [← HW.out]
 go_wp2_with (go_at_call 70; go_must (refine (Def_ham _).mono ?_); rintro e w1 ⟨rfl, hb1⟩)
 go_ret
 exact ⟨rfl, hbW.trans (hb1.mono hbW.size)⟩
set_option maxRecDepth 100000 in
set_option maxHeartbeats 4000000 in
theorem ElementsHu {w : World} {v : Value} (h : LatV w v 4 2 huL) : Calls Tryz.prog 46 #[.agg #[.int .i64 (-1), .int .i64 (-1)], v, .agg #[.int .i64 1, .int .i64 1]] w fun e w' => ∃ g c, e = .returned (.tuple #[.slice (some ⟨g, 0, none⟩) 24 c, .int .i64 0]) ∧ Below w.heap.size w w' := by
 have hLV := h
 obtain ⟨A, q, c, rfl, _⟩ := h
 obtain ⟨W, hW⟩ : ∃ W, W = ((w.alloc (.cells #[.int .i64 (-1), .int .i64 (-1)] 23)).alloc (.cells #[.int .i64 4, .slice A q c, .int .i64 2] 26)).alloc (.cells #[.int .i64 1, .int .i64 1] 35) := ⟨_, rfl⟩
 obtain ⟨S3, h3⟩ : ∃ P, P = w.heap.size := ⟨_, rfl⟩
 obtain ⟨S4, h4⟩ : ∃ P, P = w.heap.size + 1 := ⟨_, rfl⟩
 obtain ⟨S5, h5⟩ : ∃ P, P = w.heap.size + 1 + 1 := ⟨_, rfl⟩
 have hbW : Below w.heap.size w W := by rw [hW]; exact (((Below.refl _ _).alloc (Nat.le_refl _) _).alloc (by simp) _).alloc (by simp; omega) _
 have a0 : W.cell? ⟨S3, 0, none⟩ = some (.int .i64 (-1)) := by rw [hW, h3]; go_simp
 have a1 : W.cell? ⟨S3, 1, none⟩ = some (.int .i64 (-1)) := by rw [hW, h3]; go_simp
 have b0 : W.cell? ⟨S4, 0, none⟩ = some (.int .i64 4) := by rw [hW, h4]; go_simp
 have b1 : W.cell? ⟨S4, 1, none⟩ = some (.slice A q c) := by rw [hW, h4]; go_simp
 have b2 : W.cell? ⟨S4, 2, none⟩ = some (.int .i64 2) := by rw [hW, h4]; go_simp
 have c0 : W.cell? ⟨S5, 0, none⟩ = some (.int .i64 1) := by rw [hW, h5]; go_simp
 have c1 : W.cell? ⟨S5, 1, none⟩ = some (.int .i64 1) := by rw [hW, h5]; go_simp
 have HLV := Lib.hid (hLV.below hbW)
 have HBW := Lib.hid hbW
 have HWW := Lib.hid hW
 have H3 := Lib.hid h3
 have H4 := Lib.hid h4
 have H5 := Lib.hid h5
 clear hW h3 h4 h5 hbW hLV
 go_enter Tryz.func46, Tryz.ntmps46
 go_upto_region 1 with (fail)
 rw [← HWW.out, ← H5.out, ← H4.out, ← H3.out]
 go_upto_region 4 with (go_at_call 98; go_must (refine (defHam _).mono ?_); rintro e w1 ⟨rfl, hb1⟩)
 replace a0 := keepB hb1 a0
 replace a1 := keepB hb1 a1
 replace b0 := keepB hb1 b0
 replace b1 := keepB hb1 b1
 replace b2 := keepB hb1 b2
 replace c0 := keepB hb1 c0
 replace c1 := keepB hb1 c1
 have HRD := Lib.hid (iread_ok (aA := -1) (aB := -1) (HLV.out.below hb1) huL_chk huL_herm (by decide) huL_ok2)
 rw [huL_netR, huL_netD] at HRD
 have HB1 := Lib.hid (HBW.out.trans (hb1.mono HBW.out.size))
 clear hb1 HLV
 go_upto_region 5 with (go_at_call 99; go_must (refine HRD.out.mono ?_); rintro e w2 ⟨nv, rfl, hnv, hb2⟩; have HNV := Lib.hid hnv; obtain ⟨AR, cR, nd, Ad, md, kd, rfl, hr2, hd2⟩ := hnv)
 obtain ⟨w3, hw3⟩ : ∃ V, V = w2.alloc (.cells #[.int .i64 (-1), .int .i64 (-1), .slice AR huL.length cR, .bool nd, .slice Ad md kd] 136) := ⟨_, rfl⟩
 obtain ⟨S9, h9⟩ : ∃ P, P = w2.heap.size := ⟨_, rfl⟩
 have hS9 : Arr w3 S9 136 [.int .i64 (-1), .int .i64 (-1), .slice AR huL.length cR, .bool nd, .slice Ad md kd] := by rw [hw3, h9]; exact Arr.new w2 _ [.int .i64 (-1), .int .i64 (-1), .slice AR huL.length cR, .bool nd, .slice Ad md kd]
 have hb23 : Below w2.heap.size w2 w3 := by rw [hw3]; exact (Below.refl _ _).alloc (Nat.le_refl _) _
 rw [← hw3, ← h9]
 have hb3 := hb2.trans (hb23.mono hb2.size)
 replace c0 := keepB hb3 c0
 replace c1 := keepB hb3 c1
 have HN3 := Lib.hid (HNV.out.below hb23)
 have HB3 := Lib.hid (HB1.out.trans (hb3.mono HB1.out.size))
 have HS9 := Lib.hid hS9
 have hS9l := hS9.lt
 have hS5l : S5 < w3.heap.size := cell_lt c0
 have HR3 := Lib.hid (RowsD.mono (D' := (· < w3.heap.size)) (RowsD.below hr2 hb23) fun _ _ hl => hl)
 have HD3 := Lib.hid ((hd2.below hb23).mono (D' := (· < w3.heap.size)) fun _ _ hl => hl)
 clear hr2 hd2 hw3 h9 hS9 hb23 hb3 hb2 a0 a1 b0 b1 b2 HNV HRD
 go_upto_region 9 with (fail)
 refine elsr9 (w := w3) (num := 1) (den := 1) (R := huL) (d := 2) c0 c1 HS9.out HN3.out (by omega) (by omega) (by omega) (by omega) (by omega) (by omega) rfl huQ_els.row huQ_els.fR huQ_els.fT (by decide +kernel) huQ_els.fd (by decide) ?_
 intro w4 P11 P12 u30 u31 u32 u33 u34 u35 u36 u37 u38 hF11 hF12 hne hP11 hP12 hb4
 have e1 : nrmM (gramL (-1) (-1) huL) 4 / (Int.gcd (nrmM (gramL (-1) (-1) huL) 4) (2 * 2) : Int) = 1 := by decide +kernel
 have e2 : (2 * 2 : Int) / (Int.gcd (nrmM (gramL (-1) (-1) huL) 4) (2 * 2) : Int) = 1 := by decide +kernel
 rw [e1, e2] at hF12
 clear e1 e2
 rename_i K9 hK9
 refine hK9 _ _ ?_
 dsimp only
 replace c0 := keepB hb4 c0
 have HS94 := Lib.hid (keepA HS9.out hb4 HS9.out.lt)
 have HR4 := Lib.hid (RowsD.below HR3.out hb4)
 have HD4 := Lib.hid (HD3.out.below hb4)
 have HB4 := Lib.hid (HB3.out.trans (hb4.mono HB3.out.size))
 have hw3s : w.heap.size ≤ w3.heap.size := HB3.out.size
 have HF11 := Lib.hid hF11
 obtain ⟨n1, A1, m1, k1, n2, A2, m2, k2, hA12, hx1, hx2⟩ := hF12
 have q0 := hA12.rd (i := 0) rfl
 have q1 := hA12.rd (i := 1) rfl
 have g0 := hA12.frozen 0
 have g1 := hA12.frozen 1
 have HA12 := Lib.hid hA12
 have HX1 := Lib.hid hx1
 have HX2 := Lib.hid hx2
 clear hA12 hx1 hx2 hF11 hb4 HS9 HN3 HR3 HD3
 go_upto_region 10 with (fail)
 obtain ⟨v0, hv0⟩ : ∃ v0, v0 = w4.drew := ⟨_, rfl⟩
 have hs : Below w4.heap.size w4 v0 := by rw [hv0]; exact (Below.refl _ _).drew
 refine wp_region_tq5 (.read 0 (.read 1 (.step 2 (.step 3 (.read 4 (.step 5 .nil)))))) [5] (by kernel_rfl) (by rfl) (by kernel_rfl) (by kernel_rfl) (fun V => Below w4.heap.size w4 V) ?_
 change goU _ _ _ _ _ _ _ w4.drew
 rw [← hv0]
 clear hv0
 refine goU_read 39 hs (by rfl) (by rfl) ?_ (by rfl) (fun wz hSw => ?_) ?_
 rotate_left
 ·go_simp
  try with_reducible rfl
 simp only [sIB, List.set]
 refine goU_read 40 hs (by rfl) (by rfl) ?_ (by rfl) (fun wz hSw => ?_) ?_
 rotate_left
 ·have y0 := keepB hSw q0; have y1 := keepB hSw q1; go_simp
  try with_reducible rfl
 simp only [sIB, List.set]
 refine goU_call 41 (by rfl) (by rfl) (by rfl) (by go_simp) (Of_any (1000 : Int) _ (by omega) (by omega)) ?_
 rintro e v1 ⟨y1, rfl, hy1, hb1⟩
 replace hs := hs.trans (hb1.mono hs.size)
 refine ⟨_, rfl, fun _ => hs, ?_⟩
 simp only [sIB, List.set]
 refine goU_call 42 (by rfl) (by rfl) (by rfl) (by go_simp) (Mul_any (HX1.out.below (hs)).int hy1.int (by decide +kernel) (by decide +kernel)) ?_
 rintro e v2 ⟨y2, rfl, hy2, hb2⟩
 replace hs := hs.trans (hb2.mono hs.size)
 refine ⟨_, rfl, fun _ => hs, ?_⟩
 simp only [sIB, List.set]
 refine goU_read 43 hs (by rfl) (by rfl) ?_ (by rfl) (fun wz hSw => ?_) ?_
 rotate_left
 ·go_simp
  try with_reducible rfl
 simp only [sIB, List.set]
 obtain ⟨n3, A3, m3, k3, rfl, hz3⟩ := hy2.shp
 have hA := keepA HA12.out hs HA12.out.lt
 have r0 := hA.rd (i := 0) rfl
 have r1 := hA.rd (i := 1) rfl
 have f0 := hA.frozen 0
 have f1 := hA.frozen 1
 refine goU_step (by rfl) ?_
 go_wp2_with fail
 try (refine ⟨fun h => absurd h (by decide), ?_⟩)
 refine goU_nilN ?_
 obtain ⟨w5, hw5⟩ : ∃ V, V = (v2.setCell ⟨P12, 0, none⟩ (.bool n3)).setCell ⟨P12, 1, none⟩ (.slice A3 m3 k3) := ⟨_, rfl⟩
 rw [← hw5]
 have hf5 : Frm (· = P12) v2 w5 := by rw [hw5]; exact (Frm.setCell (O := (· = P12)) (p := ⟨P12, 0, none⟩) (fun _ => rfl) _).trans (Frm.setCell (O := (· = P12)) (p := ⟨P12, 1, none⟩) (fun _ => rfl) _)
 have hA5 : Arr w5 P12 140 [.bool n3, .slice A3 m3 k3, .bool n2, .slice A2 m2 k2] := by rw [hw5]; exact (hA.set_ 0 _).set_ 1 _
 have hF125 : FrB w5 P12 (1 * 1000) 1 := ⟨n3, A3, m3, k3, n2, A2, m2, k2, hA5, hz3.putF hA hf5, (HX2.out.below hs).putF hA hf5⟩
 have hF115 : FrB w5 P11 1 1 := (HF11.out.below hs).other hA hf5 hne
 have hS95 : Arr w5 S9 136 [.int .i64 (-1), .int .i64 (-1), .slice AR huL.length cR, .bool nd, .slice Ad md kd] := hf5.arr (keepA HS94.out hs HS94.out.lt) (by omega)
 have c05 : w5.cell? ⟨S5, 0, none⟩ = some (.int .i64 1) := (hf5.cell (cell_lt (keepB hs c0)) (by omega)).trans (keepB hs c0)
 have hB5 : Below w.heap.size w w5 := (HB4.out.trans (hs.mono HB4.out.size)).trans (hf5.below (B := w.heap.size) (Nat.le_trans HB4.out.size hs.size) fun b (e : b = P12) => by omega)
 have HB5 := Lib.hid hB5
 have HS95 := Lib.hid hS95
 have HF125 := Lib.hid hF125
 have HF115 := Lib.hid hF115
 have HN5 : Hid (NetI w5 0 (.agg #[.int .i64 (-1), .int .i64 (-1), .slice AR huL.length cR, .bool nd, .slice Ad md kd]) (-1) (-1) huL 2) := Lib.hid ⟨AR, cR, nd, Ad, md, kd, rfl, RowsD.mono (Frm.foot hf5 (RowsD.below HR4.out hs) fun b (hb : b < w3.heap.size) e => by omega) fun _ _ _ => Nat.zero_le _, (hf5.nint (HD4.out.below hs) fun b (hb : b < w3.heap.size) e => by omega).mono fun _ _ _ => Nat.zero_le _⟩
 clear hw5 hf5 hA5 hF125 hF115 hS95 hB5 hz3 hA r0 r1 f0 f1 hs hb1 hb2 hy1 hy2 q0 q1 g0 g1 c0
 rename_i K10 hK10
 refine hK10 _ _ ?_
 obtain ⟨p1, B1, l1, j1, p2, B2, l2, j2, hA11, hu1, hu2⟩ := HF115.out
 obtain ⟨s1, C1, t1, i1, s2, C2, t2, i2, hA12', hw1, hw2⟩ := HF125.out
 have x0 := hA11.rd (i := 0) rfl
 have x1 := hA11.rd (i := 1) rfl
 have x2 := hA11.rd (i := 2) rfl
 have x3 := hA11.rd (i := 3) rfl
 have y0 := hA12'.rd (i := 0) rfl
 have y1 := hA12'.rd (i := 1) rfl
 have y2 := hA12'.rd (i := 2) rfl
 have y3 := hA12'.rd (i := 3) rfl
 have HU1 := Lib.hid hu1
 have HU2 := Lib.hid hu2
 have HW1 := Lib.hid hw1
 have HW2 := Lib.hid hw2
 clear hA11 hA12' hu1 hu2 hw1 hw2
 go_upto_region 11 with (fail)
 obtain ⟨v0, hv0⟩ : ∃ v0, v0 = w5.drew := ⟨_, rfl⟩
 have hs : Below w5.heap.size w5 v0 := by rw [hv0]; exact (Below.refl _ _).drew
 refine wp_region_tq5 (.read 0 (.read 1 (.read 2 (.read 3 (.read 4 (.read 5 (.read 6 (.read 7 (.read 9 (.read 10 (.read 11 (.read 12 (.step 8 (.step 13 (.step 14 (.read 15 (.read 16 .nil))))))))))))))))) [] (by kernel_rfl) (by rfl) (by kernel_rfl) (by kernel_rfl) (fun V => Below w5.heap.size w5 V) ?_
 change goU _ _ _ _ _ _ _ w5.drew
 rw [← hv0]
 clear hv0
 refine goU_read 44 hs (by rfl) (by rfl) ?_ (by rfl) (fun wz hSw => ?_) ?_
 rotate_left
 ·go_simp
  try with_reducible rfl
 simp only [sIB, List.set]
 refine goU_read 45 hs (by rfl) (by rfl) ?_ (by rfl) (fun wz hSw => ?_) ?_
 rotate_left
 ·have k := keepB hSw c05; go_simp
  try with_reducible rfl
 simp only [sIB, List.set]
 refine goU_read 46 hs (by rfl) (by rfl) ?_ (by rfl) (fun wz hSw => ?_) ?_
 rotate_left
 ·go_simp
  try with_reducible rfl
 simp only [sIB, List.set]
 refine goU_read 47 hs (by rfl) (by rfl) ?_ (by rfl) (fun wz hSw => ?_) ?_
 rotate_left
 ·go_simp
  try with_reducible rfl
 simp only [sIB, List.set]
 refine goU_read 48 hs (by rfl) (by rfl) ?_ (by rfl) (fun wz hSw => ?_) ?_
 rotate_left
 ·go_simp
  try with_reducible rfl
 simp only [sIB, List.set]
 refine goU_read 49 hs (by rfl) (by rfl) ?_ (by rfl) (fun wz hSw => ?_) ?_
 rotate_left
 ·have k0 := keepB hSw x0; have k1 := keepB hSw x1; go_simp
  try with_reducible rfl
 simp only [sIB, List.set]
 refine goU_read 50 hs (by rfl) (by rfl) ?_ (by rfl) (fun wz hSw => ?_) ?_
 rotate_left
 ·go_simp
  try with_reducible rfl
 simp only [sIB, List.set]
 refine goU_read 51 hs (by rfl) (by rfl) ?_ (by rfl) (fun wz hSw => ?_) ?_
 rotate_left
 ·have k2 := keepB hSw y2; have k3 := keepB hSw y3; go_simp
  try with_reducible rfl
 simp only [sIB, List.set]
 refine goU_read 53 hs (by rfl) (by rfl) ?_ (by rfl) (fun wz hSw => ?_) ?_
 rotate_left
 ·go_simp
  try with_reducible rfl
 simp only [sIB, List.set]
 refine goU_read 54 hs (by rfl) (by rfl) ?_ (by rfl) (fun wz hSw => ?_) ?_
 rotate_left
 ·have k0 := keepB hSw y0; have k1 := keepB hSw y1; go_simp
  try with_reducible rfl
 simp only [sIB, List.set]
 refine goU_read 55 hs (by rfl) (by rfl) ?_ (by rfl) (fun wz hSw => ?_) ?_
 rotate_left
 ·go_simp
  try with_reducible rfl
 simp only [sIB, List.set]
 refine goU_read 56 hs (by rfl) (by rfl) ?_ (by rfl) (fun wz hSw => ?_) ?_
 rotate_left
 ·have k2 := keepB hSw x2; have k3 := keepB hSw x3; go_simp
  try with_reducible rfl
 simp only [sIB, List.set]
 refine goU_call 52 (by rfl) (by rfl) (by rfl) (by go_simp) (Mul_any (HU1.out.below hs).int (HW2.out.below hs).int (by decide +kernel) (by decide +kernel)) ?_
 rintro e v1 ⟨z1, rfl, hz1, hb1⟩
 replace hs := hs.trans (hb1.mono hs.size)
 refine ⟨_, rfl, fun _ => hs, ?_⟩
 simp only [sIB, List.set]
 refine goU_call 57 (by rfl) (by rfl) (by rfl) (by go_simp) (Mul_any (HW1.out.below hs).int (HU2.out.below hs).int (by decide +kernel) (by decide +kernel)) ?_
 rintro e v2 ⟨z2, rfl, hz2, hb2⟩
 replace hs := hs.trans (hb2.mono hs.size)
 refine ⟨_, rfl, fun _ => hs, ?_⟩
 simp only [sIB, List.set]
 refine goU_call 58 (by rfl) (by rfl) (by rfl) (by go_simp) (Cmp_any (hz1.below hb2).int hz2.int (by decide +kernel) (by decide +kernel)) ?_
 rintro e v3 ⟨rfl, hb3⟩
 replace hs := hs.trans (hb3.mono hs.size)
 refine ⟨_, rfl, fun _ => hs, ?_⟩
 simp only [sIB, List.set]
 rw [show cmpI ((1 : Int) * 1) (1 * 1000 * 1) = -1 by decide +kernel]
 refine goU_read 59 hs (by rfl) (by rfl) ?_ (by rfl) (fun wz hSw => ?_) ?_
 rotate_left
 ·go_simp
  try with_reducible rfl
 simp only [sIB, List.set]
 refine goU_read 60 hs (by rfl) (by rfl) ?_ (by rfl) (fun wz hSw => ?_) ?_
 rotate_left
 ·go_simp
  try with_reducible rfl
 simp only [sIB, List.set]
 refine goU_nilN ?_
 have HS9F := Lib.hid (keepA HS95.out hs HS95.out.lt)
 have HB6 := Lib.hid (HB5.out.trans (hs.mono HB5.out.size))
 have HN6 := Lib.hid (HN5.out.below hs)
 have HF6 := Lib.hid (HF115.out.below hs)
 clear x0 x1 x2 x3 y0 y1 y2 y3 c05 hz1 hz2 hb1 hb2 hb3 hs HS95 HB5 HN5 HF115 HF125 HU1 HU2 HW1 HW2
 rename_i K11 hK11
 refine hK11 _ _ ?_
 obtain ⟨p1, B1, l1, j1, p2, B2, l2, j2, hA11, hu1, hu2⟩ := HF6.out
 have x0 := hA11.rd (i := 0) rfl
 have x1 := hA11.rd (i := 1) rfl
 have x2 := hA11.rd (i := 2) rfl
 have x3 := hA11.rd (i := 3) rfl
 have y0 := HS9F.out.rd (i := 0) rfl
 have y1 := HS9F.out.rd (i := 1) rfl
 have y2 := HS9F.out.rd (i := 2) rfl
 have y3 := HS9F.out.rd (i := 3) rfl
 have y4 := HS9F.out.rd (i := 4) rfl
 obtain ⟨s9, hs9, hl9⟩ := huQ_some
 have HEL := Lib.hid (elements_ok (D := fun _ => True) HN6.out ⟨p1, B1, l1, j1, p2, B2, l2, j2, rfl, hu1, hu2⟩ huQ_els hs9 (fun e => by rw [e] at hl9; cases hl9))
 rw [hl9] at HEL
 clear hs9 hA11 hu1 hu2
 go_wp2_with (go_at_call 103; go_must (refine HEL.out.mono ?_); rintro e w9 ⟨g, c9, rfl, _, hb9⟩)
 go_ret2
 exact ⟨g, c9, rfl, HB6.out.trans (hb9.mono HB6.out.size)⟩
end Go.Proofs.YtdjpeimecfhdjaaGreat
