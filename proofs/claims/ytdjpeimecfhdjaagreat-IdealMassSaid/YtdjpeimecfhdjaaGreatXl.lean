/- Packages lattice and ideal: lattices handed back as machine integers (handed, give). Packages lattice and ideal: a lattice that is accepted is read, and handed back in normal form. -/
import Derived.Test.YtdjpeimecfhdjaaGreatXk
namespace Go.Proofs.YtdjpeimecfhdjaaGreat
open Go.RowKit
def NetI (w : World) (lo : Nat) (v : Value) (aA aB : Int) (R : List (List Int)) (d : Int) : Prop :=
 ∃ A c n1 A2 m2 c2, v = .agg #[.int .i64 aA, .int .i64 aB, .slice A R.length c, .bool n1, .slice A2 m2 c2] ∧ RowsD PvD w (lo ≤ ·) (.slice A R.length c) R ∧ NIntV w (lo ≤ ·) (.agg #[.bool n1, .slice A2 m2 c2]) d
theorem NetI.below {w w' : World} {lo : Nat} {v : Value} {aA aB : Int} {R : List (List Int)} {d : Int} (h : NetI w lo v aA aB R d) (hb : Below w.heap.size w w') : NetI w' lo v aA aB R d := by
 obtain ⟨A, c, n1, A2, m2, c2, e, h1, h2⟩ := h
 exact ⟨A, c, n1, A2, m2, c2, e, RowsD.below h1 hb, h2.below hb⟩
def LatN (w : World) (lo : Nat) (v : Value) (dim den : Int) (L : List (List Int)) : Prop := ∃ A q c, v = .agg #[.int .i64 dim, .slice A q c, .int .i64 den] ∧ RowsD IsD w (lo ≤ ·) (.slice A q c) L
def errN (ok : Bool) : Int := if ok then 0 else 8
def okN (lim : Int) (R : List (List Int)) (d : Int) : Bool := smM lim R && (in64 d && decide (d ≤ lim))
set_option maxRecDepth 100000 in
set_option maxHeartbeats 4000000 in
theorem give_any {w : World} {lo : Nat} {v : Value} {aA aB : Int} {R : List (List Int)} {d : Int} (h : NetI w lo v aA aB R d) (hq : R.length ≤ 1000000) (hn : ∀ l ∈ R, l.length ≤ 1000000) :
  Calls Tryz.prog 160 #[v] w fun e w' => ∃ lv, e = .returned (.tuple #[lv, .int .i64 (errN (okN 1000000 R d))]) ∧ (okN 1000000 R d = true → LatN w' w.heap.size lv 4 d R) ∧ (okN 1000000 R d = false → lv = .agg #[.int .i64 0, .slice none 0 0, .int .i64 0]) ∧ Below w.heap.size w w' := by
 obtain ⟨A, c, n1, A2, m2, c2, rfl, hR, hd⟩ := h
 generalize hq2 : R.length = q at *
 obtain ⟨W, hW⟩ : ∃ W, W = (w.alloc (.cells #[.int .i64 aA, .int .i64 aB, .slice A q c, .bool n1, .slice A2 m2 c2] 136)).alloc (.cells #[.int .i64 0, .slice none 0 0, .int .i64 0] 26) := ⟨_, rfl⟩
 obtain ⟨R', hR'⟩ : ∃ R', R' = w.heap.size + 1 := ⟨_, rfl⟩
 have hbW : Below w.heap.size w W := by rw [hW]; exact ((Below.refl _ _).alloc (Nat.le_refl _) _).alloc (by simp) _
 have b0 : W.cell? ⟨w.heap.size, 0, none⟩ = some (.int .i64 aA) := by rw [hW]; go_simp
 have b1 : W.cell? ⟨w.heap.size, 1, none⟩ = some (.int .i64 aB) := by rw [hW]; go_simp
 have b2 : W.cell? ⟨w.heap.size, 2, none⟩ = some (.slice A q c) := by rw [hW]; go_simp
 have b3 : W.cell? ⟨w.heap.size, 3, none⟩ = some (.bool n1) := by rw [hW]; go_simp
 have b4 : W.cell? ⟨w.heap.size, 4, none⟩ = some (.slice A2 m2 c2) := by rw [hW]; go_simp
 have hRA : Arr W R' 26 [.int .i64 0, .slice none 0 0, .int .i64 0] := by
  rw [hW, hR']
  have := Arr.new (w.alloc (.cells #[.int .i64 aA, .int .i64 aB, .slice A q c, .bool n1, .slice A2 m2 c2] 136)) 26 [.int .i64 0, .slice none 0 0, .int .i64 0]
  simpa using this
 have hsW : w.heap.size < W.heap.size := cell_lt b0
 have hR0 : R' < W.heap.size := hRA.lt
 have hwR : w.heap.size ≤ R' := by omega
 have HRA := Lib.hid hRA
 have HWW := Lib.hid hW
 have HRR := Lib.hid hR'
 have HS := Lib.hid (wSmall_any (lim := 1000000) (RowsD.t (RowsD.below hR hbW)) hq hn (by omega) (by omega))
 have HD := Lib.hid (fun w' (hb : Below W.heap.size W w') => Small_any ((hd.below hbW).below hb))
 clear hW hR' hRA hR hd hn hq hq2
 by_cases c1 : smM 1000000 R = true
 ·rw [c1] at HS
  by_cases c2' : in64 d = true
  ·have hsd : sm64 d = d := by unfold sm64; rw [c2']; rfl
   rw [c2', hsd] at HD
   clear hsd
   by_cases c3 : d ≤ 1000000
   ·have HOK : Hid (okN 1000000 R d = true) := Lib.hid (by unfold okN; rw [c1, c2', decide_eq_true c3]; rfl)
    have c4 : ¬ 1000000 < d := by omega
    clear c1 c2'
    go_enter Tryz.func160, Tryz.ntmps160
    go_upto_region 1 with (fail)
    rw [← HWW.out, ← HRR.out]
    go_wp2_with (first
     | (go_at_call 142; go_must (refine HS.out.mono ?_); rintro e w1 ⟨v1, rfl, hv1, hv1n, hb1⟩; have x0 := keepW hb1 hsW b0; have x1 := keepW hb1 hsW b1; have x2 := keepW hb1 hsW b2; have x3 := keepW hb1 hsW b3; have x4 := keepW hb1 hsW b4; obtain ⟨Av, cv, rfl⟩ := RowsD.slice (hv1 rfl); have HV1 := Lib.hid (hv1 rfl); clear hv1 hv1n)
     | (go_at_call 132; go_must (refine (HD.out _ hb1).mono ?_); rintro e w2 ⟨rfl, hb2'⟩; have hb2 := hb1.trans (hb2'.mono hb1.size); have y0 := keepW hb2 hsW b0; have y1 := keepW hb2 hsW b1; have y2 := keepW hb2 hsW b2; have y3 := keepW hb2 hsW b3; have y4 := keepW hb2 hsW b4; have hA := keepA HRA.out hb2 hR0; have r0 := hA.rd (i := 0) rfl; have r1 := hA.rd (i := 1) rfl; have r2 := hA.rd (i := 2) rfl; have f0 := hA.frozen 0; have f1 := hA.frozen 1; have f2 := hA.frozen 2))
    refine bodyPost_ret (v := .tuple #[.agg #[.int .i64 4, .slice Av R.length cv, .int .i64 d], .int .i64 0]) (by simp [results, Tryz.results160, go_sem, r0, r1, r2]) rfl ⟨_, by rw [HOK.out]; rfl, fun _ => ⟨Av, R.length, cv, rfl, ?_⟩, fun h => (by have h2 := HOK.out.symm.trans h; cases h2), ?_⟩
    all_goals have hfr : ∀ (i : Nat) (u : Value) (V : World), Frm (· = R') V (V.setCell ⟨R', i, none⟩ u) := fun i u V => Frm.setCell (O := (· = R')) (p := ⟨R', i, none⟩) (fun _ => rfl) u
    ·refine RowsD.mono (Frm.foot (((hfr _ _ _).trans (hfr _ _ _)).trans (hfr _ _ _)) (RowsD.below HV1.out hb2') fun b (hb : _ ≤ b) e => ?_) fun b (hb : _ ≤ b) _ => ?_
     ·omega
     ·show w.heap.size ≤ b
      have := hbW.size
      omega
    ·exact hbW.trans ((hb2.mono hbW.size).trans (Frm.below (B := w.heap.size) (((hfr _ _ _).trans (hfr _ _ _)).trans (hfr _ _ _)) (by have := hb2.size; have := hbW.size; omega) fun b e => by rw [e]; exact hwR))
   ·have HOK : Hid (okN 1000000 R d = false) := Lib.hid (by unfold okN; rw [c1, c2', decide_eq_false c3]; rfl)
    have c4 : 1000000 < d := by omega
    clear c1 c2'
    go_enter Tryz.func160, Tryz.ntmps160
    go_upto_region 1 with (fail)
    rw [← HWW.out, ← HRR.out]
    go_wp2_with (first
     | (go_at_call 142; go_must (refine HS.out.mono ?_); rintro e w1 ⟨v1, rfl, hv1, hv1n, hb1⟩; have x0 := keepW hb1 hsW b0; have x1 := keepW hb1 hsW b1; have x2 := keepW hb1 hsW b2; have x3 := keepW hb1 hsW b3; have x4 := keepW hb1 hsW b4; obtain ⟨Av, cv, rfl⟩ := RowsD.slice (hv1 rfl); clear hv1 hv1n)
     | (go_at_call 132; go_must (refine (HD.out _ hb1).mono ?_); rintro e w2 ⟨rfl, hb2'⟩; have hb2 := hb1.trans (hb2'.mono hb1.size); have y0 := keepW hb2 hsW b0; have y1 := keepW hb2 hsW b1; have y2 := keepW hb2 hsW b2; have y3 := keepW hb2 hsW b3; have y4 := keepW hb2 hsW b4; have hA := keepA HRA.out hb2 hR0; have r0 := hA.rd (i := 0) rfl; have r1 := hA.rd (i := 1) rfl; have r2 := hA.rd (i := 2) rfl; have f0 := hA.frozen 0; have f1 := hA.frozen 1; have f2 := hA.frozen 2))
    refine bodyPost_ret (v := .tuple #[.agg #[.int .i64 0, .slice none 0 0, .int .i64 0], .int .i64 8]) (by simp [results, Tryz.results160, go_sem, r0, r1, r2]) rfl ⟨_, by rw [HOK.out]; rfl, fun h => (by have h2 := HOK.out.symm.trans h; cases h2), fun _ => rfl, ?_⟩
    have hfr : ∀ (i : Nat) (u : Value) (V : World), Frm (· = R') V (V.setCell ⟨R', i, none⟩ u) := fun i u V => Frm.setCell (O := (· = R')) (p := ⟨R', i, none⟩) (fun _ => rfl) u
    exact hbW.trans ((hb2.mono hbW.size).trans (Frm.below (B := w.heap.size) (((hfr _ _ _).trans (hfr _ _ _)).trans (hfr _ _ _)) (by have := hb2.size; have := hbW.size; omega) fun b e => by rw [e]; exact hwR))
  ·have c3 : in64 d = false := by simpa using c2'
   have HOK : Hid (okN 1000000 R d = false) := Lib.hid (by unfold okN; rw [c1, c3]; rfl)
   rw [c3] at HD
   clear c1 c2' c3
   generalize sm64 d = y at *
   go_enter Tryz.func160, Tryz.ntmps160
   go_upto_region 1 with (fail)
   rw [← HWW.out, ← HRR.out]
   go_wp2_with (first
    | (go_at_call 142; go_must (refine HS.out.mono ?_); rintro e w1 ⟨v1, rfl, hv1, hv1n, hb1⟩; have x0 := keepW hb1 hsW b0; have x1 := keepW hb1 hsW b1; have x2 := keepW hb1 hsW b2; have x3 := keepW hb1 hsW b3; have x4 := keepW hb1 hsW b4; obtain ⟨Av, cv, rfl⟩ := RowsD.slice (hv1 rfl); clear hv1 hv1n)
    | (go_at_call 132; go_must (refine (HD.out _ hb1).mono ?_); rintro e w2 ⟨rfl, hb2'⟩; have hb2 := hb1.trans (hb2'.mono hb1.size); have y0 := keepW hb2 hsW b0; have y1 := keepW hb2 hsW b1; have y2 := keepW hb2 hsW b2; have y3 := keepW hb2 hsW b3; have y4 := keepW hb2 hsW b4; have hA := keepA HRA.out hb2 hR0; have r0 := hA.rd (i := 0) rfl; have r1 := hA.rd (i := 1) rfl; have r2 := hA.rd (i := 2) rfl; have f0 := hA.frozen 0; have f1 := hA.frozen 1; have f2 := hA.frozen 2))
   refine bodyPost_ret (v := .tuple #[.agg #[.int .i64 0, .slice none 0 0, .int .i64 0], .int .i64 8]) (by simp [results, Tryz.results160, go_sem, r0, r1, r2]) rfl ⟨_, by rw [HOK.out]; rfl, fun h => (by have h2 := HOK.out.symm.trans h; cases h2), fun _ => rfl, ?_⟩
   have hfr : ∀ (i : Nat) (u : Value) (V : World), Frm (· = R') V (V.setCell ⟨R', i, none⟩ u) := fun i u V => Frm.setCell (O := (· = R')) (p := ⟨R', i, none⟩) (fun _ => rfl) u
   exact hbW.trans ((hb2.mono hbW.size).trans (Frm.below (B := w.heap.size) (((hfr _ _ _).trans (hfr _ _ _)).trans (hfr _ _ _)) (by have := hb2.size; have := hbW.size; omega) fun b e => by rw [e]; exact hwR))
 ·have c3 : smM 1000000 R = false := by simpa using c1
  have HOK : Hid (okN 1000000 R d = false) := Lib.hid (by unfold okN; rw [c3]; rfl)
  rw [c3] at HS
  clear c1 c3
  generalize sm64 d = y at *
  generalize in64 d = z at *
  go_enter Tryz.func160, Tryz.ntmps160
  go_upto_region 1 with (fail)
  rw [← HWW.out, ← HRR.out]
  go_wp2_with (first
   | (go_at_call 142; go_must (refine HS.out.mono ?_); rintro e w1 ⟨v1, rfl, hv1, hv1n, hb1⟩; have x0 := keepW hb1 hsW b0; have x1 := keepW hb1 hsW b1; have x2 := keepW hb1 hsW b2; have x3 := keepW hb1 hsW b3; have x4 := keepW hb1 hsW b4; obtain rfl := hv1n rfl; clear hv1 hv1n)
   | (go_at_call 132; go_must (refine (HD.out _ hb1).mono ?_); rintro e w2 ⟨rfl, hb2'⟩; have hb2 := hb1.trans (hb2'.mono hb1.size); have y0 := keepW hb2 hsW b0; have y1 := keepW hb2 hsW b1; have y2 := keepW hb2 hsW b2; have y3 := keepW hb2 hsW b3; have y4 := keepW hb2 hsW b4; have hA := keepA HRA.out hb2 hR0; have r0 := hA.rd (i := 0) rfl; have r1 := hA.rd (i := 1) rfl; have r2 := hA.rd (i := 2) rfl; have f0 := hA.frozen 0; have f1 := hA.frozen 1; have f2 := hA.frozen 2))
  refine bodyPost_ret (v := .tuple #[.agg #[.int .i64 0, .slice none 0 0, .int .i64 0], .int .i64 8]) (by simp [results, Tryz.results160, go_sem, r0, r1, r2]) rfl ⟨_, by rw [HOK.out]; rfl, fun h => (by have h2 := HOK.out.symm.trans h; cases h2), fun _ => rfl, ?_⟩
  have hfr : ∀ (i : Nat) (u : Value) (V : World), Frm (· = R') V (V.setCell ⟨R', i, none⟩ u) := fun i u V => Frm.setCell (O := (· = R')) (p := ⟨R', i, none⟩) (fun _ => rfl) u
  exact hbW.trans ((hb2.mono hbW.size).trans (Frm.below (B := w.heap.size) (((hfr _ _ _).trans (hfr _ _ _)).trans (hfr _ _ _)) (by have := hb2.size; have := hbW.size; omega) fun b e => by rw [e]; exact hwR))
end Go.Proofs.YtdjpeimecfhdjaaGreat

namespace Go.Proofs.YtdjpeimecfhdjaaGreat
open Go.RowKit
theorem rowsE_zero {dim : Int} {L : List (List Int)} (h : rowsE dim L = 0) : ∀ l ∈ L, (l.length : Int) = dim ∧ ∀ x ∈ l, -1000000000000000 ≤ x ∧ x ≤ 1000000000000000 := by
 induction L with
 | nil => intro l hl; cases hl
 | cons r R ih =>
  unfold rowsE at h
  split at h
  ·cases h
  ·rename_i h1
   split at h
   ·cases h
   ·rename_i h2
    intro l hl
    rcases List.mem_cons.1 hl with rfl | hl
    ·refine ⟨Classical.byContradiction h1, fun x hx => ?_⟩
     have h3 : l.any badX = false := by simpa using h2
     have h4 := List.any_eq_false.1 h3 x hx
     unfold badX at h4
     simpa using h4
    ·exact ih h l hl
structure Good (dim den : Int) (L : List (List Int)) : Prop where
 d1 : 1 ≤ dim
 d2 : dim ≤ 6
 e1 : 1 ≤ den
 e2 : den ≤ 1000000000000000
 q : L.length ≤ 64
 rows : ∀ l ∈ L, l.length = dim.toNat
 small : ∀ l ∈ L, ∀ x ∈ l, -1000000000000000 ≤ x ∧ x ≤ 1000000000000000
theorem good_of {dim den : Int} {L : List (List Int)} (h : chkL dim den L = 0) : Good dim den L := by
 unfold chkL at h
 split at h
 ·cases h
 ·rename_i h1
  split at h
  ·cases h
  ·rename_i h2
   have h3 := rowsE_zero h
   exact ⟨by omega, by omega, by omega, by omega, by omega, fun l hl => by have := (h3 l hl).1; omega, fun l hl => (h3 l hl).2⟩
theorem lim_big : 2 ^ 62 ≤ limN := Nat.pow_le_pow_right (by omega) (by unfold limE; omega)
theorem fit_small {x : Int} (h : x.natAbs < 4611686018427387904) : fit x = true := fit_iff.mpr (Nat.lt_of_lt_of_le h lim_big)
theorem Good.fit {dim den : Int} {L : List (List Int)} (h : Good dim den L) : fitM L = true := List.all_eq_true.mpr fun l hl => List.all_eq_true.mpr fun x hx => fit_small (by have := h.small l hl x hx; omega)
theorem Good.i64 {dim den : Int} {L : List (List Int)} (h : Good dim den L) : ∀ l ∈ L, i64R l := fun l hl x hx => by have := h.small l hl x hx; omega
theorem wl_den {d : Int} (h : 1 ≤ d) (h2 : d ≤ 1000000000000000) : wl d.natAbs ≤ 900000000000 := Nat.le_trans (fit_wl (fit_small (by omega))) (by omega)
end Go.Proofs.YtdjpeimecfhdjaaGreat
