/- Package ideal: a lattice that is accepted is read. Package ideal: one, Norm: the ways without errors. -/
import Derived.Test.YtdjpeimecfhdjaaGreatXm
import Derived.Test.YtdjpeimecfhdjaaGreatXp
namespace Go.Proofs.YtdjpeimecfhdjaaGreat
open Go.RowKit
set_option maxRecDepth 100000 in
set_option maxHeartbeats 4000000 in
theorem iread_ok {w : World} {v : Value} {aA aB den : Int} {f : Nat} {L H : List (List Int)} (h : LatV w v 4 den L) (hc : chkL 4 den L = 0) (hM : herm f L = some H) (h4 : 4 ≤ H.length) (hok : okN 1000000 (netR H den) (netD H den) = true) :
  Calls Tryz.prog 99 #[.agg #[.int .i64 aA, .int .i64 aB], v] w fun e w' => ∃ nv, e = .returned (.tuple #[nv, .int .i64 0]) ∧ NetI w' w.heap.size nv aA aB (netR H den) (netD H den) ∧ Below w.heap.size w w' := by
 obtain ⟨A, q, c, rfl, hR⟩ := h
 have hLV : LatV w (.agg #[.int .i64 4, .slice A q c, .int .i64 den]) 4 den L := ⟨A, q, c, rfl, hR⟩
 have hr := RowsD.room hR
 have HL := Lib.hid hr.1.symm
 clear hr
 obtain ⟨W, hW⟩ : ∃ W, W = ((w.alloc (.cells #[.int .i64 aA, .int .i64 aB] 23)).alloc (.cells #[.int .i64 4, .slice A q c, .int .i64 den] 26)).alloc (.cells #[.int .i64 0, .int .i64 0, .slice none 0 0, .bool false, .slice none 0 0] 136) := ⟨_, rfl⟩
 obtain ⟨P, hP⟩ : ∃ P, P = w.heap.size + 1 := ⟨_, rfl⟩
 obtain ⟨R', hR'⟩ : ∃ R', R' = w.heap.size + 1 + 1 := ⟨_, rfl⟩
 have hbW : Below w.heap.size w W := by rw [hW]; exact (((Below.refl _ _).alloc (Nat.le_refl _) _).alloc (by simp) _).alloc (by simp; omega) _
 have a0 : W.cell? ⟨w.heap.size, 0, none⟩ = some (.int .i64 aA) := by rw [hW]; go_simp
 have a1 : W.cell? ⟨w.heap.size, 1, none⟩ = some (.int .i64 aB) := by rw [hW]; go_simp
 have b0 : W.cell? ⟨P, 0, none⟩ = some (.int .i64 4) := by rw [hW, hP]; go_simp
 have b1 : W.cell? ⟨P, 1, none⟩ = some (.slice A q c) := by rw [hW, hP]; go_simp
 have b2 : W.cell? ⟨P, 2, none⟩ = some (.int .i64 den) := by rw [hW, hP]; go_simp
 have hRA : Arr W R' 136 [.int .i64 0, .int .i64 0, .slice none 0 0, .bool false, .slice none 0 0] := by
  rw [hW, hR']
  have := Arr.new ((w.alloc (.cells #[.int .i64 aA, .int .i64 aB] 23)).alloc (.cells #[.int .i64 4, .slice A q c, .int .i64 den] 26)) 136 [.int .i64 0, .int .i64 0, .slice none 0 0, .bool false, .slice none 0 0]
  simpa using this
 have hA0 : w.heap.size < W.heap.size := cell_lt a0
 have hP0 : P < W.heap.size := cell_lt b0
 have hR0 : R' < W.heap.size := hRA.lt
 have hwR : w.heap.size ≤ R' := by omega
 have hwP : w.heap.size ≤ P := by omega
 have HRA := Lib.hid hRA
 have HWW := Lib.hid hW
 have HPP := Lib.hid hP
 have HRR := Lib.hid hR'
 have hG := good_of hc
 have hq64 := hG.q
 rw [HL.out] at hq64
 have hCK := laCheck_any (hLV.below hbW)
 rw [hc] at hCK
 have HCK := Lib.hid hCK
 have HOF := Lib.hid (fun w' (hb : Below W.heap.size W w') => wOf_any (RowsD.below (RowsD.below hR hbW) hb) (by omega) (fun l hl => by rw [hG.rows l hl]; have := hG.d2; omega) hG.i64)
 have HOI := Lib.hid (fun w' => Of_any den w' (by have := hG.e1; omega) (by have := hG.e2; omega))
 have HM := Lib.hid hM
 have HG := Lib.hid hG
 have HLR := Lib.hid (RowsD.below hR hbW)
 have hsh := herm_shp hM hG.rows hG.fit
 have hHq : (netR H den).length ≤ 1000000 := by rw [netR_len]; have := hsh.2.2; have := hG.q; omega
 have HHN := Lib.hid (show ∀ l ∈ netR H den, l.length ≤ 1000000 from fun l hl => by rw [netR_rows hsh.1 l hl]; have := hG.d2; omega)
 have HOK := Lib.hid hok
 have h4b : ¬ (H.length : Int) < 4 := by omega
 clear hW hP hR' hRA hR hc hG hM hLV hCK hsh hok h4
 go_enter Tryz.func99, Tryz.ntmps99
 go_upto_region 1 with (fail)
 rw [← HWW.out, ← HRR.out, ← HPP.out]
 go_upto_region 6 with (go_at_call 158; go_must (refine HCK.out.mono ?_); rintro e w1 ⟨rfl, hb1⟩; have x0 := keepW hb1 hP0 b0; have x1 := keepW hb1 hP0 b1; have x2 := keepW hb1 hP0 b2; have z0 := keepW hb1 hA0 a0; have z1 := keepW hb1 hA0 a1)
 refine ireReg_any z0 z1 x0 x1 x2 (RowsD.below HLR.out hb1) HL HG.out HM ?_
 intro w2 G A6 c6 n6 B6 m6 k6 u20 u21 u22 u23 u24 u25 u26 u27 hGA hv6 hd6 hGw hb2
 rename_i KX hKX
 refine hKX _ _ ?_
 have hb12 := hb1.trans (hb2.mono hb1.size)
 have g0 := hGA.rd (i := 0) rfl
 have g1 := hGA.rd (i := 1) rfl
 have g2 := hGA.rd (i := 2) rfl
 have g3 := hGA.rd (i := 3) rfl
 have g4 := hGA.rd (i := 4) rfl
 have hGl := hGA.lt
 have hGv := Lib.hid (give_any (lo := 0) (v := .agg #[.int .i64 aA, .int .i64 aB, .slice A6 H.length c6, .bool n6, .slice B6 m6 k6]) (aA := aA) (aB := aB) ⟨A6, c6, n6, B6, m6, k6, by rw [netR_len], by rw [netR_len]; exact RowsD.mono hv6 fun _ _ _ => Nat.zero_le _, hd6.dd fun _ _ => Nat.zero_le _⟩ hHq HHN.out)
 have HV6 := Lib.hid hv6
 have HD6 := Lib.hid hd6
 have HB12 := Lib.hid hb12
 have hw1s := hb1.size
 clear hv6 hd6 hGA hb1 hb2 hb12
 go_upto_region 12 with (go_at_call 160; go_must (refine hGv.out.mono ?_); rintro e w3 ⟨lv, rfl, hl1, hl2, hb3⟩; have hl3 := hl1 HOK.out; clear hl1 hl2; rw [HOK.out, show errN true = 0 from rfl]; obtain ⟨A3, q3, c3, rfl, hl4⟩ := hl3; clear hl4; have y0 := keepW hb3 hGl g0; have y1 := keepW hb3 hGl g1; have y2 := keepW hb3 hGl g2; have y3 := keepW hb3 hGl g3; have y4 := keepW hb3 hGl g4)
 obtain ⟨w4, hw4⟩ : ∃ V, V = w3.alloc (.cells #[.int .i64 4, .slice A3 q3 c3, .int .i64 (netD H den)] 26) := ⟨_, rfl⟩
 have hb4 : Below w3.heap.size w3 w4 := by rw [hw4]; exact (Below.refl _ _).alloc (Nat.le_refl _) _
 have hb34 := hb3.trans (hb4.mono hb3.size)
 rw [← hw4]
 clear hw4
 replace y0 := keepB hb4 y0
 replace y1 := keepB hb4 y1
 replace y2 := keepB hb4 y2
 replace y3 := keepB hb4 y3
 replace y4 := keepB hb4 y4
 have hb5 := HB12.out.trans (hb34.mono HB12.out.size)
 have hA := keepA HRA.out hb5 hR0
 have r0 := hA.rd (i := 0) rfl
 have r1 := hA.rd (i := 1) rfl
 have r2 := hA.rd (i := 2) rfl
 have r3 := hA.rd (i := 3) rfl
 have r4 := hA.rd (i := 4) rfl
 have f0 := hA.frozen 0
 have f1 := hA.frozen 1
 have f2 := hA.frozen 2
 have f3 := hA.frozen 3
 have f4 := hA.frozen 4
 go_wp2_with fail
 refine bodyPost_ret (v := .tuple #[.agg #[.int .i64 aA, .int .i64 aB, .slice A6 H.length c6, .bool n6, .slice B6 m6 k6], .int .i64 0]) (by simp [results, Tryz.results99, go_sem, r0, r1, r2, r3, r4]) rfl ⟨_, rfl, ⟨A6, c6, n6, B6, m6, k6, by rw [netR_len], ?_, ?_⟩, ?_⟩
 all_goals have hfr : ∀ (i : Nat) (u : Value) (V : World), Frm (· = R') V (V.setCell ⟨R', i, none⟩ u) := fun i u V => Frm.setCell (O := (· = R')) (p := ⟨R', i, none⟩) (fun _ => rfl) u
 all_goals have h3 := hbW.size
 ·rw [netR_len]
  refine RowsD.mono (Frm.foot (((((hfr _ _ _).trans (hfr _ _ _)).trans (hfr _ _ _)).trans (hfr _ _ _)).trans (hfr _ _ _)) (RowsD.below HV6.out hb34) fun b hb e => ?_) fun b hb _ => ?_
  ·have := hb.1; omega
  ·show w.heap.size ≤ b
   have := hb.1; omega
 ·refine NIntV.mono (Frm.nint (((((hfr _ _ _).trans (hfr _ _ _)).trans (hfr _ _ _)).trans (hfr _ _ _)).trans (hfr _ _ _)) (HD6.out.below hb34) fun b hb e => ?_) fun b hb _ => ?_
  ·have := hb.1; omega
  ·show w.heap.size ≤ b
   have := hb.1; omega
 ·exact (hbW.trans (hb5.mono hbW.size)).trans (Frm.below (((((hfr _ _ _).trans (hfr _ _ _)).trans (hfr _ _ _)).trans (hfr _ _ _)).trans (hfr _ _ _)) (by have := hb5.size; omega) fun b e => by rw [e]; exact hwR)
end Go.Proofs.YtdjpeimecfhdjaaGreat

namespace Go.Proofs.YtdjpeimecfhdjaaGreat
open Go.RowKit
set_option maxRecDepth 100000 in
set_option maxHeartbeats 4000000 in
theorem one_ok {w : World} {v : Value} {aA aB den : Int} {f : Nat} {L H : List (List Int)} (h : LatV w v 4 den L) (z1 : aA ≠ 0) (z2 : aB ≠ 0) (z3 : -1000 ≤ aA ∧ aA ≤ 1000) (z4 : -1000 ≤ aB ∧ aB ≤ 1000) (hc : chkL 4 den L = 0) (hM : herm f L = some H) (h4 : 4 ≤ H.length) (hok : okN 1000000 (netR H den) (netD H den) = true) :
  Calls Tryz.prog 127 #[.agg #[.int .i64 aA, .int .i64 aB], v] w fun e w' => ∃ nv, e = .returned (.tuple #[nv, .int .i64 0]) ∧ NetI w' w.heap.size nv aA aB (netR H den) (netD H den) ∧ Below w.heap.size w w' := by
 obtain ⟨A, q, c, rfl, hR⟩ := h
 have hLV : LatV w (.agg #[.int .i64 4, .slice A q c, .int .i64 den]) 4 den L := ⟨A, q, c, rfl, hR⟩
 obtain ⟨W, hW⟩ : ∃ W, W = ((w.alloc (.cells #[.int .i64 aA, .int .i64 aB] 23)).alloc (.cells #[.int .i64 4, .slice A q c, .int .i64 den] 26)).alloc (.cells #[.int .i64 0, .int .i64 0, .slice none 0 0, .bool false, .slice none 0 0] 136) := ⟨_, rfl⟩
 obtain ⟨P, hP⟩ : ∃ P, P = w.heap.size + 1 := ⟨_, rfl⟩
 obtain ⟨R', hR'⟩ : ∃ R', R' = w.heap.size + 1 + 1 := ⟨_, rfl⟩
 have hbW : Below w.heap.size w W := by rw [hW]; exact (((Below.refl _ _).alloc (Nat.le_refl _) _).alloc (by simp) _).alloc (by simp; omega) _
 have a0 : W.cell? ⟨w.heap.size, 0, none⟩ = some (.int .i64 aA) := by rw [hW]; go_simp
 have a1 : W.cell? ⟨w.heap.size, 1, none⟩ = some (.int .i64 aB) := by rw [hW]; go_simp
 have b0 : W.cell? ⟨P, 0, none⟩ = some (.int .i64 4) := by rw [hW, hP]; go_simp
 have b1 : W.cell? ⟨P, 1, none⟩ = some (.slice A q c) := by rw [hW, hP]; go_simp
 have b2 : W.cell? ⟨P, 2, none⟩ = some (.int .i64 den) := by rw [hW, hP]; go_simp
 have hRA : Arr W R' 136 [.int .i64 0, .int .i64 0, .slice none 0 0, .bool false, .slice none 0 0] := by
  rw [hW, hR']
  have := Arr.new ((w.alloc (.cells #[.int .i64 aA, .int .i64 aB] 23)).alloc (.cells #[.int .i64 4, .slice A q c, .int .i64 den] 26)) 136 [.int .i64 0, .int .i64 0, .slice none 0 0, .bool false, .slice none 0 0]
  simpa using this
 have hA0 : w.heap.size < W.heap.size := cell_lt a0
 have hP0 : P < W.heap.size := cell_lt b0
 have hR0 : R' < W.heap.size := hRA.lt
 have hwR : w.heap.size ≤ R' := by omega
 have HRA := Lib.hid hRA
 have HWW := Lib.hid hW
 have HPP := Lib.hid hP
 have HRR := Lib.hid hR'
 have HCK := Lib.hid (fun w' => algCheck_ok (aA := aA) (aB := aB) w' z1 z2 z3 z4)
 have HRD := Lib.hid (fun w' (hb : Below W.heap.size W w') => iread_ok (aA := aA) (aB := aB) ((hLV.below hbW).below hb) hc hM h4 hok)
 clear hW hP hR' hRA hR hc hM h4 hok hLV z1 z2 z3 z4
 go_enter Tryz.func127, Tryz.ntmps127
 go_upto_region 1 with (fail)
 rw [← HWW.out, ← HRR.out, ← HPP.out]
 go_wp2_with (first
  | (go_at_call 178; go_must (refine (HCK.out _).mono ?_); rintro e w1 ⟨rfl, hb1⟩; have x0 := keepW hb1 hP0 b0; have x1 := keepW hb1 hP0 b1; have x2 := keepW hb1 hP0 b2; have z0 := keepW hb1 hA0 a0; have z1 := keepW hb1 hA0 a1)
  | (go_at_call 99; go_must (refine (HRD.out _ hb1).mono ?_); rintro e w2 ⟨nv, rfl, ⟨A6, c6, n6, B6, m6, k6, rfl, hv6, hd6⟩, hb2⟩; have hb3 := hb1.trans (hb2.mono hb1.size); have hA := keepA HRA.out hb3 hR0; have r0 := hA.rd (i := 0) rfl; have r1 := hA.rd (i := 1) rfl; have r2 := hA.rd (i := 2) rfl; have r3 := hA.rd (i := 3) rfl; have r4 := hA.rd (i := 4) rfl; have f0 := hA.frozen 0; have f1 := hA.frozen 1; have f2 := hA.frozen 2; have f3 := hA.frozen 3; have f4 := hA.frozen 4))
 refine bodyPost_ret (v := .tuple #[.agg #[.int .i64 aA, .int .i64 aB, .slice A6 (netR H den).length c6, .bool n6, .slice B6 m6 k6], .int .i64 0]) (by simp [results, Tryz.results127, go_sem, r0, r1, r2, r3, r4]) rfl ⟨_, rfl, ⟨A6, c6, n6, B6, m6, k6, rfl, ?_, ?_⟩, ?_⟩
 all_goals have hfr : ∀ (i : Nat) (u : Value) (V : World), Frm (· = R') V (V.setCell ⟨R', i, none⟩ u) := fun i u V => Frm.setCell (O := (· = R')) (p := ⟨R', i, none⟩) (fun _ => rfl) u
 all_goals have h3 := hbW.size
 all_goals have h5 := hb1.size
 ·refine RowsD.mono (Frm.foot ((((((hfr _ _ _).trans (hfr _ _ _)).trans (hfr _ _ _)).trans (hfr _ _ _)).trans (hfr _ _ _))) hv6 fun b (hb : _ ≤ b) e => ?_) fun b (hb : _ ≤ b) _ => ?_
  ·omega
  ·show w.heap.size ≤ b
   omega
 ·refine NIntV.mono (Frm.nint ((((((hfr _ _ _).trans (hfr _ _ _)).trans (hfr _ _ _)).trans (hfr _ _ _)).trans (hfr _ _ _))) hd6 fun b (hb : _ ≤ b) e => ?_) fun b (hb : _ ≤ b) _ => ?_
  ·omega
  ·show w.heap.size ≤ b
   omega
 ·exact (hbW.trans (hb3.mono hbW.size)).trans (Frm.below ((((((hfr _ _ _).trans (hfr _ _ _)).trans (hfr _ _ _)).trans (hfr _ _ _)).trans (hfr _ _ _))) (by have := hb3.size; omega) fun b e => by rw [e]; exact hwR)
def frcN (a b : Int) : Int := a / (Int.gcd a b : Int)
def frcD (a b : Int) : Int := b / (Int.gcd a b : Int)
set_option maxRecDepth 100000 in
set_option maxHeartbeats 4000000 in
theorem Norm_ok {w : World} {v : Value} {aA aB den : Int} {f : Nat} {L H : List (List Int)} (nm dd : Int) (h : LatV w v 4 den L) (z1 : aA ≠ 0) (z2 : aB ≠ 0) (z3 : -1000 ≤ aA ∧ aA ≤ 1000) (z4 : -1000 ≤ aB ∧ aB ≤ 1000) (hc : chkL 4 den L = 0) (hM : herm f L = some H) (h4 : H.length = 4) (hok : okN 1000000 (netR H den) (netD H den) = true)
  (hlr : ∀ l ∈ netR H den, l.length = 4) (hf1 : fitM (netR H den) = true) (hf2 : fitM (tms (netR H den) (formL aA aB)) = true) (hf3 : fitM (gramL aA aB (netR H den)) = true) (hf4 : fit (netD H den) = true) (hdn : netD H den ≠ 0) (hnm : nrmM (gramL aA aB (netR H den)) 4 = nm) (hdd : netD H den = dd)
  (hg : (Int.gcd (frcN nm (dd * dd)) (frcD nm (dd * dd)) : Int) ≠ 0) (hp : in64 (frcN (frcN nm (dd * dd)) (frcD nm (dd * dd))) = true) (hq : in64 (frcD (frcN nm (dd * dd)) (frcD nm (dd * dd))) = true) :
  Calls Tryz.prog 71 #[.agg #[.int .i64 aA, .int .i64 aB], v] w fun e w' => e = .returned (.tuple #[.agg #[.int .i64 (frcN (frcN nm (dd * dd)) (frcD nm (dd * dd))), .int .i64 (frcD (frcN nm (dd * dd)) (frcD nm (dd * dd)))], .int .i64 0]) ∧ Below w.heap.size w w' := by
 obtain ⟨A, q, c, rfl, hR⟩ := h
 have hLV : LatV w (.agg #[.int .i64 4, .slice A q c, .int .i64 den]) 4 den L := ⟨A, q, c, rfl, hR⟩
 obtain ⟨W, hW⟩ : ∃ W, W = ((w.alloc (.cells #[.int .i64 aA, .int .i64 aB] 23)).alloc (.cells #[.int .i64 4, .slice A q c, .int .i64 den] 26)).alloc (.cells #[.int .i64 0, .int .i64 0] 35) := ⟨_, rfl⟩
 obtain ⟨P, hP⟩ : ∃ P, P = w.heap.size + 1 := ⟨_, rfl⟩
 obtain ⟨R', hR'⟩ : ∃ R', R' = w.heap.size + 1 + 1 := ⟨_, rfl⟩
 have hbW : Below w.heap.size w W := by rw [hW]; exact (((Below.refl _ _).alloc (Nat.le_refl _) _).alloc (by simp) _).alloc (by simp; omega) _
 have a0 : W.cell? ⟨w.heap.size, 0, none⟩ = some (.int .i64 aA) := by rw [hW]; go_simp
 have a1 : W.cell? ⟨w.heap.size, 1, none⟩ = some (.int .i64 aB) := by rw [hW]; go_simp
 have b0 : W.cell? ⟨P, 0, none⟩ = some (.int .i64 4) := by rw [hW, hP]; go_simp
 have b1 : W.cell? ⟨P, 1, none⟩ = some (.slice A q c) := by rw [hW, hP]; go_simp
 have b2 : W.cell? ⟨P, 2, none⟩ = some (.int .i64 den) := by rw [hW, hP]; go_simp
 have hRA : Arr W R' 35 [.int .i64 0, .int .i64 0] := by
  rw [hW, hR']
  have := Arr.new ((w.alloc (.cells #[.int .i64 aA, .int .i64 aB] 23)).alloc (.cells #[.int .i64 4, .slice A q c, .int .i64 den] 26)) 35 [.int .i64 0, .int .i64 0]
  simpa using this
 have hA0 : w.heap.size < W.heap.size := cell_lt a0
 have hP0 : P < W.heap.size := cell_lt b0
 have hR0 : R' < W.heap.size := hRA.lt
 have hwR : w.heap.size ≤ R' := by omega
 have HRA := Lib.hid hRA
 have HWW := Lib.hid hW
 have HPP := Lib.hid hP
 have HRR := Lib.hid hR'
 have HON := Lib.hid (one_ok (aA := aA) (aB := aB) (hLV.below hbW) z1 z2 z3 z4 hc hM (by omega) hok)
 have HNO := Lib.hid (fun w' lo v (hv : NetI w' lo v aA aB (netR H den) (netD H den)) => norm_any hv z3 z4 (by rw [netR_len]; exact h4) hlr hf1 hf2 hf3 hf4 hdn)
 have HDN := Lib.hid hdn
 have HW1 := Lib.hid (wl_nrmM (B := 4000) (G := gramL aA aB (netR H den)) (fun i j => fit_wl (fitR_gz (fitM_rw hf3 i) j)) 4)
 have HW2 := Lib.hid (fit_wl hf4)
 have HP := Lib.hid hp
 have HQ := Lib.hid hq
 have HG := Lib.hid hg
 clear hW hP hR' hRA hR hc hM h4 hok hLV z1 z2 z3 z4 hlr hf1 hf2 hf3 hf4 hdn hp hq hg
 rw [hnm, hdd] at HNO
 rw [hnm] at HW1
 rw [hdd] at HW2
 have hwm := wl_mulI dd dd
 have hw2 := HW2.out
 have HNU := Lib.hid (show wl (frcN nm (dd * dd)).natAbs ≤ 400000000000 from Nat.le_trans (wl_div _ _) (Nat.le_trans HW1.out (by omega)))
 have HDE := Lib.hid (show wl (frcD nm (dd * dd)).natAbs ≤ 400000000000 from Nat.le_trans (wl_div _ _) (by omega))
 have HNO2 : Hid (∀ w' lo v, NetI w' lo v aA aB (netR H den) dd → Calls Tryz.prog 100 #[v] w' (Gives w' fun w'' v => FrV w'' (w'.heap.size ≤ ·) v (frcN nm (dd * dd)) (frcD nm (dd * dd)))) := HNO
 rw [hdd] at HON
 clear hwm hw2 hnm HNO HDN
 generalize hx : frcN nm (dd * dd) = x at *
 generalize hy : frcD nm (dd * dd) = y at *
 clear hx hy
 go_enter Tryz.func71, Tryz.ntmps71
 go_upto_region 1 with (fail)
 rw [← HWW.out, ← HRR.out, ← HPP.out]
 go_upto_region 2 with (go_at_call 127; go_must (refine HON.out.mono ?_); rintro e w1 ⟨nv, rfl, hnv, hb1⟩; have HNV := Lib.hid hnv; obtain ⟨A6, c6, n6, B6, m6, k6, rfl, _, _⟩ := hnv)
 obtain ⟨w2, hw2⟩ : ∃ V, V = w1.alloc (.cells #[.int .i64 aA, .int .i64 aB, .slice A6 (netR H den).length c6, .bool n6, .slice B6 m6 k6] 136) := ⟨_, rfl⟩
 obtain ⟨G, hG⟩ : ∃ G, G = w1.heap.size := ⟨_, rfl⟩
 have hGA : Arr w2 G 136 [.int .i64 aA, .int .i64 aB, .slice A6 (netR H den).length c6, .bool n6, .slice B6 m6 k6] := by rw [hw2, hG]; exact Arr.new w1 _ [.int .i64 aA, .int .i64 aB, .slice A6 (netR H den).length c6, .bool n6, .slice B6 m6 k6]
 have hb2 : Below w1.heap.size w1 w2 := by rw [hw2]; exact (Below.refl _ _).alloc (Nat.le_refl _) _
 rw [← hw2, ← hG]
 clear hw2 hG
 have g0 := hGA.rd (i := 0) rfl
 have g1 := hGA.rd (i := 1) rfl
 have g2 := hGA.rd (i := 2) rfl
 have g3 := hGA.rd (i := 3) rfl
 have g4 := hGA.rd (i := 4) rfl
 have HN2 := Lib.hid (HNO2.out w2 _ _ (HNV.out.below hb2))
 have hb12 := hb1.trans (hb2.mono hb1.size)
 go_wp2_with (first
  | (go_at_call 100; go_must (refine HN2.out.mono ?_); rintro e w3 ⟨fv, rfl, hfv, hb3⟩; have HFV := Lib.hid hfv; clear hfv)
  | (go_at_call 110; go_must (refine (fgive_ok HFV.out HNU.out HDE.out HG.out HP.out HQ.out).mono ?_); rintro e w4 ⟨rfl, hb4⟩; have hb5 := (hb12.trans (hb3.mono hb12.size)).trans (hb4.mono (Nat.le_trans hb12.size hb3.size)); have hA := keepA HRA.out hb5 hR0; have r0 := hA.rd (i := 0) rfl; have r1 := hA.rd (i := 1) rfl; have f0 := hA.frozen 0; have f1 := hA.frozen 1))
 refine bodyPost_ret (v := .tuple #[.agg #[.int .i64 (frcN x y), .int .i64 (frcD x y)], .int .i64 0]) (by simp [results, Tryz.results71, go_sem, r0, r1, frcN, frcD]) rfl ⟨rfl, ?_⟩
 have hfr : ∀ (i : Nat) (u : Value) (V : World), Frm (· = R') V (V.setCell ⟨R', i, none⟩ u) := fun i u V => Frm.setCell (O := (· = R')) (p := ⟨R', i, none⟩) (fun _ => rfl) u
 exact (hbW.trans (hb5.mono hbW.size)).trans (Frm.below ((hfr _ _ _).trans (hfr _ _ _)) (by have := hb5.size; have := hbW.size; omega) fun b e => by rw [e]; exact hwR)
end Go.Proofs.YtdjpeimecfhdjaaGreat
