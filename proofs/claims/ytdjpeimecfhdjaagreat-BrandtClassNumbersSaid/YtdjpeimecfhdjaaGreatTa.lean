/- Package brandt: the space of a lattice (spaceOf). Package brandt: theta at the Hurwitz order, plainly. -/
import Derived.Test.YtdjpeimecfhdjaaGreatSm
import Derived.Test.YtdjpeimecfhdjaaGreatSz
namespace Go.Proofs.YtdjpeimecfhdjaaGreat
open Go.RowKit
set_option maxRecDepth 100000 in
set_option maxHeartbeats 4000000 in
theorem spaceOf_any {w : World} {v : Value} {aA aB dim den : Int} {f q : Nat} {L H : List (List Int)} (h : LatV w v dim den L) (hc : chkL dim den L = 0) (hM : herm f L = some H) (hok : okN 1000000000000000 (netR H den) (netD H den) = true) (hq : (netR H den).length = q) (hq6 : q ≤ 1000000) (hn : ∀ l ∈ netR H den, l.length ≤ 1000000) (hi : ∀ l ∈ netR H den, i64R l) :
  Calls Tryz.prog 72 #[.agg #[.int .i64 aA, .int .i64 aB], v] w fun e w' => ∃ A c, e = .returned (.agg #[.int .i64 aA, .int .i64 aB, .slice A q c]) ∧ RM w' (.slice A q c) (netR H den) ∧ Below w.heap.size w w' := by
 have hLV := h
 obtain ⟨A, qa, c, rfl, _⟩ := h
 obtain ⟨W, hW⟩ : ∃ W, W = ((w.alloc (.cells #[.int .i64 aA, .int .i64 aB] 23)).alloc (.cells #[.int .i64 dim, .slice A qa c, .int .i64 den] 26)).alloc (.cells #[.int .i64 0, .int .i64 0, .slice none 0 0] 115) := ⟨_, rfl⟩
 obtain ⟨S, hS⟩ : ∃ S, S = w.heap.size := ⟨_, rfl⟩
 obtain ⟨P, hP⟩ : ∃ P, P = w.heap.size + 1 := ⟨_, rfl⟩
 obtain ⟨Rr, hR⟩ : ∃ R, R = w.heap.size + 1 + 1 := ⟨_, rfl⟩
 have hbW : Below w.heap.size w W := by rw [hW]; exact (((Below.refl _ _).alloc (Nat.le_refl _) _).alloc (by simp) _).alloc (by simp; omega) _
 have a0 : W.cell? ⟨S, 0, none⟩ = some (.int .i64 aA) := by rw [hW, hS]; go_simp
 have a1 : W.cell? ⟨S, 1, none⟩ = some (.int .i64 aB) := by rw [hW, hS]; go_simp
 have b0 : W.cell? ⟨P, 0, none⟩ = some (.int .i64 dim) := by rw [hW, hP]; go_simp
 have b1 : W.cell? ⟨P, 1, none⟩ = some (.slice A qa c) := by rw [hW, hP]; go_simp
 have b2 : W.cell? ⟨P, 2, none⟩ = some (.int .i64 den) := by rw [hW, hP]; go_simp
 have hRA : Arr W Rr 115 [.int .i64 0, .int .i64 0, .slice none 0 0] := by
  rw [hW, hR]
  have h1 := Arr.new ((w.alloc (.cells #[.int .i64 aA, .int .i64 aB] 23)).alloc (.cells #[.int .i64 dim, .slice A qa c, .int .i64 den] 26)) 115 [.int .i64 0, .int .i64 0, .slice none 0 0]
  simpa using h1
 have hSW : S < W.heap.size := cell_lt a0
 have hRW := hRA.lt
 have hwR : w.heap.size ≤ Rr := by omega
 have HN := Lib.hid (laNormal_any (hLV.below hbW) hc hM hok)
 have HRA := Lib.hid hRA
 have HBW := Lib.hid hbW
 have HWW := Lib.hid hW
 have HSS := Lib.hid hS
 have HPP := Lib.hid hP
 have HRR := Lib.hid hR
 have HLQ := Lib.hid hq
 have HLN := Lib.hid hn
 have HLI := Lib.hid hi
 clear hW hS hP hR hbW hRA hLV hc hM hok hq hn hi
 generalize netR H den = M at *
 go_enter Tryz.func72, Tryz.ntmps72
 go_upto_region 1 with (fail)
 rw [← HWW.out]
 rw [← HRR.out, ← HPP.out, ← HSS.out]
 go_upto_region 2 with (go_at_call 128; go_must (refine HN.out.mono ?_); rintro e w1 ⟨lv, rfl, ⟨A5, q5, c5, rfl, hl5⟩, hb1⟩)
 obtain rfl : q5 = q := (RowsD.room hl5).1.trans HLQ.out
 obtain ⟨w2, hw2⟩ : ∃ V, V = w1.alloc (.cells #[.int .i64 dim, .slice A5 q5 c5, .int .i64 (netD H den)] 26) := ⟨_, rfl⟩
 obtain ⟨P5, hP5⟩ : ∃ V, V = w1.heap.size := ⟨_, rfl⟩
 have hb2 : Below w1.heap.size w1 w2 := by rw [hw2]; exact (Below.refl _ _).alloc (Nat.le_refl _) _
 have d1 : w2.cell? ⟨P5, 1, none⟩ = some (.slice A5 q5 c5) := by rw [hw2, hP5]; go_simp
 have hb12 : Below W.heap.size W w2 := hb1.trans (hb2.mono hb1.size)
 rw [← hw2, ← hP5]
 have e0 := keepW hb12 hSW a0
 have e1 := keepW hb12 hSW a1
 have HV5 := Lib.hid (RowsD.below (RowsD.t hl5) hb2)
 have HR2 := Lib.hid (keepA HRA.out hb12 hRW)
 have HB2 := Lib.hid (HBW.out.trans (hb12.mono HBW.out.size))
 clear hw2 hP5 hb2 hb1 hl5 hb12
 have hs0 : Below w2.heap.size w2 w2.drew := (Below.refl _ _).drew
 refine wp_region_tq5 (.read 0 (.read 1 (.read 2 (.step 3 (.step 4 (.step 5 .nil)))))) [5] (by kernel_rfl) (by rfl) (by kernel_rfl) (by kernel_rfl) (fun V => Below w2.heap.size w2 V) ?_
 change goU _ _ _ _ _ _ _ w2.drew
 refine goU_read 12 hs0 (by rfl) (by rfl) ?_ (by rfl) (fun wz hSw => ?_) ?_
 rotate_left
 ·have y0 := keepB hSw e0; have y1 := keepB hSw e1; have y2 := keepB hSw d1; go_simp
  try with_reducible rfl
 simp only [sIB, List.set]
 refine goU_read 13 hs0 (by rfl) (by rfl) ?_ (by rfl) (fun wz hSw => ?_) ?_
 rotate_left
 ·have y0 := keepB hSw e0; have y1 := keepB hSw e1; have y2 := keepB hSw d1; go_simp
  try with_reducible rfl
 simp only [sIB, List.set]
 refine goU_read 14 hs0 (by rfl) (by rfl) ?_ (by rfl) (fun wz hSw => ?_) ?_
 rotate_left
 ·have y0 := keepB hSw e0; have y1 := keepB hSw e1; have y2 := keepB hSw d1; go_simp
  try with_reducible rfl
 simp only [sIB, List.set]
 refine goU_call 15 (by rfl) (by rfl) (by rfl) (by go_simp) (wOf_any (RowsD.below HV5.out hs0) hq6 HLN.out HLI.out) ?_
 rintro e w4 ⟨z4, rfl, hz4, hb4⟩
 obtain ⟨A6, c6, rfl⟩ := RowsD.slice_ hz4 (n := q5) HLQ.out
 have hs1 := hs0.trans (hb4.mono hs0.size)
 refine ⟨_, rfl, fun _ => hs1, ?_⟩
 simp only [sIB, List.set]
 refine goU_step (by rfl) ?_
 go_wp2_with fail
 first | refine ⟨fun _ => hs1, ?_⟩ | refine ⟨hs1, ?_⟩
 have hR4 := keepA HR2.out hs1 HR2.out.lt
 have r0 := hR4.rd (i := 0) rfl
 have r1 := hR4.rd (i := 1) rfl
 have r2 := hR4.rd (i := 2) rfl
 have f0 := hR4.frozen 0
 have f1 := hR4.frozen 1
 have f2 := hR4.frozen 2
 refine goU_step (by rfl) ?_
 go_wp2_with fail
 try (refine ⟨fun h => absurd h (by decide), ?_⟩)
 refine goU_nilN ?_
 go_wp2_with fail
 obtain ⟨w9, hw9⟩ : ∃ V, V = ((w4.setCell ⟨Rr, 0, none⟩ (.int .i64 aA)).setCell ⟨Rr, 1, none⟩ (.int .i64 aB)).setCell ⟨Rr, 2, none⟩ (.slice A6 q5 c6) := ⟨_, rfl⟩
 have hf9 : Frm (· = Rr) w4 w9 := by rw [hw9]; exact (Frm.put2 _ Rr _ _).trans (Frm.setCell (O := (· = Rr)) (p := ⟨Rr, 2, none⟩) (fun _ => rfl) _)
 have hA9 : Arr w9 Rr 115 [.int .i64 aA, .int .i64 aB, .slice A6 q5 c6] := by rw [hw9]; exact ((hR4.set_ 0 _).set_ 1 _).set_ 2 _
 have d0 := hA9.rd (i := 0) rfl
 have d1 := hA9.rd (i := 1) rfl
 have d2 := hA9.rd (i := 2) rfl
 rw [← hw9]
 refine bodyPost_ret (v := .agg #[.int .i64 aA, .int .i64 aB, .slice A6 q5 c6]) (by simp [results, Tryz.results72, go_sem, d0, d1, d2]) rfl ⟨A6, c6, rfl, ?_, ?_⟩
 ·exact RowsD.t (hf9.foot hz4 fun b (hb : _ ≤ b) e => by
   have e : b = Rr := e
   have := HR2.out.lt
   have := hs0.size
   omega)
 ·exact (HB2.out.trans (hs1.mono HB2.out.size)).trans (hf9.below (B := w.heap.size) (HB2.out.trans (hs1.mono HB2.out.size)).size fun b (e : b = Rr) => by omega)
end Go.Proofs.YtdjpeimecfhdjaaGreat

namespace Go.Proofs.YtdjpeimecfhdjaaGreat
open Go.RowKit
def huG : List (List Int) := [[4, 2, 2, 2], [2, 4, 0, 0], [2, 0, 4, 0], [2, 0, 0, 4]]
theorem hu_ok : ∀ i, i < 4 → ∀ k, k < 4 → i ≠ k → brOK huG (rw_ (unitL 4) i) (rw_ (unitL 4) k) = true := by decide +kernel
theorem hu_fit : ∀ j, j < 4 → fitM (gS (shH 4 huG) j) = true ∧ fit (bS (shH 4 huG) 16 j) = true := by decide +kernel
theorem hu_sh : ShOK 4 huG ((4 : Int) * 4) where
 n0 := by omega
 n1 := by omega
 row := by decide
 fG := by decide +kernel
 ok := fun i k hi hk hne => hu_ok i hi k hk hne
 fT := by decide +kernel
 fTG := by decide +kernel
 fTt := by decide +kernel
 fH := by decide +kernel
 fit := hu_fit
theorem hu_theta : wkW (unitL 4) (shH 4 huG) ((4 : Int) * 4) (thS 4 5) 4 (List.replicate 4 0) (List.replicate 5 0) = some [1, 24, 24, 96, 24] := by decide +kernel
end Go.Proofs.YtdjpeimecfhdjaaGreat
