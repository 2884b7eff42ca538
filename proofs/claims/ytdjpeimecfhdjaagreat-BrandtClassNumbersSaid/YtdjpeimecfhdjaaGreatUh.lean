/- (pruned) -/
import Derived.Test.YtdjpeimecfhdjaaGreatUg
namespace Go.Proofs.YtdjpeimecfhdjaaGreat
open Go.RowKit
theorem lcF_nn {p : Nat} (hp : 2 ≤ p) : ∀ (f d : Nat), 0 ≤ lcF f p d
 | 0, _ => Int.le_refl _
 | f + 1, d => by
  unfold lcF
  split
  ·omega
  ·split
   ·exact Int.le_refl _
   ·split
    ·exact lcF_nn hp f _
    ·exact Int.mul_nonneg (by omega) (by have := symP_le d p; omega)
def lcN (p d : Nat) : Nat := (lcP p d).toNat
theorem lcN_eq {p : Nat} (hp : 2 ≤ p) (d : Nat) : ((lcN p d : Nat) : Int) = lcP p d := Int.toNat_of_nonneg (lcF_nn hp _ _)
theorem lcN_le {p d : Nat} (hp : 2 ≤ p) (hp2 : p ≤ 1000) (hd : d ≤ 4000) : lcN p d ≤ 768384048 := by
 have h1 := lcP_le hp hp2 hd
 have h2 := lcN_eq hp d
 omega
theorem trZ_N {p n : Nat} (hp : 2 ≤ p) : ∀ k, trZ p n k = ((lcN p (4 * n) + 2 * sumTo (fun s => lcN p (4 * n - (s + 1) * (s + 1))) k : Nat) : Int)
 | 0 => by show lcP p (4 * n) = _; rw [← lcN_eq hp]; rfl
 | k + 1 => by
  show trZ p n k + 2 * lcP p (4 * n - (k + 1) * (k + 1)) = _
  rw [trZ_N hp k, ← lcN_eq hp]
  show _ = ((lcN p (4 * n) + 2 * (sumTo (fun s => lcN p (4 * n - (s + 1) * (s + 1))) k + lcN p (4 * n - (k + 1) * (k + 1))) : Nat) : Int)
  omega
def trG (p n j : Nat) : Nat := atS (lcN p) n (dfC (2 * n) j)
def trT (p n : Nat) : Nat := sumTo (trG p n) (2 * (2 * n) + 1)
theorem trZ_ref {p n k : Nat} (hp : 2 ≤ p) (h1 : k * k ≤ 4 * n) (h2 : 4 * n < (k + 1) * (k + 1)) : trZ p n k = ((trT p n : Nat) : Int) := by
 rw [trZ_N hp]
 have e : trT p n = trP (lcN p) n := trP_ref (lcN p) n
 rw [e]
 have hk : k ≤ 2 * n := by
  rcases Nat.lt_or_ge (2 * n) k with h | h
  ·have h3 := Nat.mul_le_mul h h
   have h4 : (2 * n + 1) * (2 * n + 1) = 4 * (n * n) + 4 * n + 1 := by rw [Nat.succ_mul, Nat.mul_succ, show 2 * n * (2 * n) = 4 * (n * n) by rw [Nat.mul_mul_mul_comm]]; omega
   have h5 : Nat.succ (2 * n) * Nat.succ (2 * n) = (2 * n + 1) * (2 * n + 1) := rfl
   omega
  ·exact h
 rcases trP_upto (f := lcN p) (n := n) (m := k) (fun s hs => Nat.lt_of_lt_of_le h2 (Nat.mul_le_mul (by omega) (by omega))) hk with h | ⟨s, hs, h⟩
 ·rw [h]
 ·have := Nat.mul_le_mul (show s + 1 ≤ k by omega) (show s + 1 ≤ k by omega)
  omega
theorem trG_le {p n j : Nat} (hp : 2 ≤ p) (hp2 : p ≤ 1000) (hn : n ≤ 60) : trG p n j ≤ 768384048 := by
 unfold trG atS
 split
 ·exact lcN_le hp hp2 (by omega)
 ·omega
set_option maxRecDepth 100000 in
set_option maxHeartbeats 4000000 in
theorem TraceR_any {p n : Nat} {w : World} (hp : 2 ≤ p) (hp2 : p ≤ 1000) (hpr : Pr p) (hn : 1 ≤ n) (hn2 : n ≤ 60) :
  Calls Tryz.prog 27 #[.int .i64 p, .int .i64 n] w fun e w' => e = .returned (.agg #[.int .i64 (lwBN (trT p n : Nat) 24), .int .i64 (lwBD (trT p n : Nat) 24)]) ∧ Below w.heap.size w w' := by
 have HAT := Lib.hid (fun (d : Nat) (hd : d ≤ 240) (w : World) => (show Calls Tryz.prog 80 #[.int .i64 p, .int .i64 d] w fun e w' => e = .returned (.int .i64 (lcN p d : Nat)) ∧ Below w.heap.size w w' by
  have := at24R_any hp hp2 hpr (d + 1) d w (by omega) hd
  rw [show lcF (d + 1) p d = ((lcN p d : Nat) : Int) from (lcN_eq hp d).symm] at this
  exact this))
 have HLN := Lib.hid (fun (d : Nat) (hd : d ≤ 4000) => @lcN_le p d hp hp2 hd)
 have HGL := Lib.hid (fun j => @trG_le p n j hp hp2 hn2)
 have hT : trT p n ≤ 241 * 768384048 := Nat.le_trans (sumTo_le fun j _ => HGL.out j) (Nat.mul_le_mul_right _ (by omega))
 have HLW := Lib.hid (fun w => @lowestR_any ((trT p n : Nat) : Int) 24 w (by omega) (by omega) (by omega))
 have HTT := Lib.hid (show trT p n = sumTo (trG p n) (2 * (2 * n) + 1) from rfl)
 obtain ⟨W, hW⟩ : ∃ W, W = w.alloc (.cells #[.int .i64 0, .int .i64 0] 35) := ⟨_, rfl⟩
 obtain ⟨Rr, hR⟩ : ∃ R, R = w.heap.size := ⟨_, rfl⟩
 have hbW : Below w.heap.size w W := by rw [hW]; exact (Below.refl _ _).alloc (Nat.le_refl _) _
 have hRA : Arr W Rr 35 [.int .i64 0, .int .i64 0] := by rw [hW, hR]; exact Arr.new w _ [.int .i64 0, .int .i64 0]
 have HW := Lib.hid hW
 have HR := Lib.hid hR
 have HRA := Lib.hid hRA
 have HBW := Lib.hid hbW
 clear hW hR hbW hRA hT hpr
 go_enter Tryz.func27, Tryz.ntmps27
 go_upto_region 1 with (fail)
 rw [← HR.out, ← HW.out]
 go_wp2_with fail
 go_loopw [5, 6] (fun sv bv wr => ∃ (j : Nat) (s : Int), Hid (s = (j : Int) - 2 * (n : Int)) ∧ sv = .int .i64 (sumTo (trG p n) j : Nat) ∧ bv = .int .i64 s ∧ j ≤ 4 * n + 1 ∧ Below W.heap.size W wr) (fun _ bv _ => 400 - (intOf bv + 200).toNat)
 case atStart => exact ⟨0, -2 * (n : Int), Lib.hid (by omega), rfl, by first | rfl | go_num, by omega, Below.refl _ _⟩
 case round =>
  obtain ⟨j, s, HS, rfl, rfl, hj, hbr⟩ := hrel
  have hs := HS.out
  have hSj : sumTo (trG p n) j ≤ j * 768384048 := sumTo_le fun i _ => HGL.out i
  rcases Nat.lt_or_ge (4 * n) j with hlt | hge
  ·have hje : j = 2 * (2 * n) + 1 := by omega
   have HTE := Lib.hid (show sumTo (trG p n) j = trT p n by rw [hje]; rfl)
   rw [HTE.out]
   have z1 : ¬ s ≤ 2 * (n : Int) := by omega
   obtain ⟨T, hT⟩ : ∃ T, T = trT p n := ⟨_, rfl⟩
   have HTQ := Lib.hid hT
   rw [← hT] at HLW ⊢
   clear hT
   have hAr : Arr wr Rr 35 [.int .i64 0, .int .i64 0] := HRA.out.below' hbr
   clear hs hje hSj
   go_wp2_with (go_at_call 76; go_must (refine (HLW.out _).mono ?_); go_must (rintro e w3 ⟨rfl, hb3⟩); go_must (have hA3 : Arr w3 Rr 35 [.int .i64 0, .int .i64 0] := hAr.below' hb3); have r0 : w3.cell? ⟨Rr, 0, none⟩ = some (.int .i64 0) := hA3.cell 0; have r1 : w3.cell? ⟨Rr, 1, none⟩ = some (.int .i64 0) := hA3.cell 1; have f0 := hA3.frozen 0; have f1 := hA3.frozen 1)
   obtain ⟨x, hx⟩ : ∃ x, x = lwBN (T : Int) 24 := ⟨_, rfl⟩
   obtain ⟨y, hy⟩ : ∃ y, y = lwBD (T : Int) 24 := ⟨_, rfl⟩
   rw [← hx, ← hy]
   obtain ⟨w9, hw9⟩ : ∃ V, V = (w3.setCell ⟨Rr, 0, none⟩ (.int .i64 x)).setCell ⟨Rr, 1, none⟩ (.int .i64 y) := ⟨_, rfl⟩
   have hA9 : Arr w9 Rr 35 [.int .i64 x, .int .i64 y] := by rw [hw9]; exact (hA3.set_ 0 _).set_ 1 _
   have d0 : w9.cell? ⟨Rr, 0, none⟩ = some (.int .i64 x) := hA9.cell 0
   have d1 : w9.cell? ⟨Rr, 1, none⟩ = some (.int .i64 y) := hA9.cell 1
   have hB3 : Below w.heap.size w w3 := HBW.out.trans ((hbr.trans (hb3.mono hbr.size)).mono HBW.out.size)
   have hwR : w.heap.size ≤ Rr := by have := HR.out; omega
   have hB9 : Below w.heap.size w w9 := by rw [hw9]; exact (hB3.setCell hwR _).setCell hwR _
   rw [← hw9]
   refine bodyPost_ret (v := .agg #[.int .i64 x, .int .i64 y]) (by simp [results, Tryz.results27, go_sem, d0, d1]) rfl ⟨by rw [hx, hy, HTQ.out], hB9⟩
  ·have hsq : s * s = ((dfC (2 * n) j * dfC (2 * n) j : Nat) : Int) := by
    rw [hs]
    have := dfC_sq (2 * n) j
    rw [show (((2 * n : Nat)) : Int) = 2 * (n : Int) by omega] at this
    exact this
   have HSS := Lib.hid (show sumTo (trG p n) (j + 1) = sumTo (trG p n) j + trG p n j from rfl)
   have HG := Lib.hid (show trG p n j = if dfC (2 * n) j * dfC (2 * n) j ≤ 4 * n then lcN p (4 * n - dfC (2 * n) j * dfC (2 * n) j) else 0 from rfl)
   have hD : dfC (2 * n) j ≤ 2 * n := by unfold dfC; split <;> omega
   have hq0 : dfC (2 * n) j * dfC (2 * n) j ≤ 120 * 120 := Nat.mul_le_mul (by omega) (by omega)
   have z2 : s ≤ 2 * (n : Int) := by omega
   have z3 : -120 ≤ s := by omega
   have z4 : s ≤ 120 := by omega
   have hSB : sumTo (trG p n) j ≤ 241 * 768384048 := Nat.le_trans hSj (Nat.mul_le_mul_right _ (by omega))
   generalize sumTo (trG p n) j = S at *
   generalize dfC (2 * n) j * dfC (2 * n) j = q at *
   clear hs hSj hD
   by_cases hle : q ≤ 4 * n
   ·obtain ⟨d, hd⟩ : ∃ d, d = 4 * n - q := ⟨_, rfl⟩
    have HV := Lib.hid (show trG p n j = lcN p d by rw [HG.out, if_pos hle, hd])
    have e1 : 4 * (n : Int) - (q : Int) = (d : Int) := by omega
    have z5 : (q : Int) ≤ 4 * (n : Int) := by omega
    have HC := Lib.hid (HAT.out d (by omega))
    have hcl := HLN.out d (by omega)
    generalize lcN p d = L at *
    clear hd hle
    go_wp2_with (go_at_call 80; (try rw [e1]); go_must (refine (HC.out _).mono ?_); rintro e w2 ⟨rfl, hb2⟩)
    go_roundw
    case rel => exact ⟨j + 1, s + 1, Lib.hid (by have := HS.out; omega), by rw [HSS.out, HV.out]; go_num, by go_num, by omega, btrN hbr hb2⟩
    case measure => (have := HS.out; simp [intOf]; omega)
   ·have HV := Lib.hid (show trG p n j = 0 by rw [HG.out, if_neg hle])
    have z5 : ¬ (q : Int) ≤ 4 * (n : Int) := by omega
    clear hle
    go_wp2_with fail
    go_roundw
    case rel => exact ⟨j + 1, s + 1, Lib.hid (by have := HS.out; omega), by rw [HSS.out, HV.out]; try go_num, by go_num, by omega, hbr⟩
    case measure => (have := HS.out; simp [intOf]; omega)
theorem ClassNumB_no {d : Int} {w : World} (h : d < 0 ∨ 1000000 < d) : Calls Tryz.prog 23 #[.int .i64 d] w fun e w' => e = .returned (.tuple #[.agg #[.int .i64 0, .int .i64 0], .int .i64 2]) ∧ Below w.heap.size w w' := by
 have hb : Below w.heap.size w (w.alloc (.cells #[.int .i64 0, .int .i64 0] 35)) := (Below.refl _ _).alloc (Nat.le_refl _) _
 rcases Int.lt_or_le d 0 with h1 | h1
 ·go_enter Tryz.func23, Tryz.ntmps23
  go_wp2_with fail
  refine bodyPost_ret (v := .tuple #[.agg #[.int .i64 0, .int .i64 0], .int .i64 2]) (by simp [results, Tryz.results23, go_sem]) rfl ⟨rfl, hb⟩
 ·have h2 : 1000000 < d := by omega
  have h3 : ¬ d < 0 := by omega
  clear h
  go_enter Tryz.func23, Tryz.ntmps23
  go_wp2_with fail
  refine bodyPost_ret (v := .tuple #[.agg #[.int .i64 0, .int .i64 0], .int .i64 2]) (by simp [results, Tryz.results23, go_sem]) rfl ⟨rfl, hb⟩
theorem ClassNumB_any {d : Nat} {w : World} (hd : d ≤ 3000) : Calls Tryz.prog 23 #[.int .i64 d] w fun e w' => e = .returned (.tuple #[.agg #[.int .i64 (lwBN (clZ d) 12), .int .i64 (lwBD (clZ d) 12)], .int .i64 0]) ∧ Below w.heap.size w w' := by
 have HC := Lib.hid (fun w => @classes_any d w (by omega))
 have hz : (clZ d).natAbs ≤ 9000000000000000000 := by
  have h1 := clsP_le d
  have h2 : (d + 1) * ((d + 1) * 24) ≤ 3001 * (3001 * 24) := Nat.mul_le_mul (by omega) (by omega)
  unfold clZ
  split <;> omega
 have HLW := Lib.hid (fun w => @lowestB_any (clZ d) 12 w hz (by omega) (by omega))
 obtain ⟨z, hzz⟩ : ∃ z, z = clZ d := ⟨_, rfl⟩
 rw [← hzz] at HC HLW ⊢
 obtain ⟨x, hx⟩ : ∃ x, x = lwBN z 12 := ⟨_, rfl⟩
 obtain ⟨y, hy⟩ : ∃ y, y = lwBD z 12 := ⟨_, rfl⟩
 rw [← hx, ← hy] at HLW ⊢
 obtain ⟨W, hW⟩ : ∃ W, W = w.alloc (.cells #[.int .i64 0, .int .i64 0] 35) := ⟨_, rfl⟩
 obtain ⟨Rr, hR⟩ : ∃ R, R = w.heap.size := ⟨_, rfl⟩
 have hbW : Below w.heap.size w W := by rw [hW]; exact (Below.refl _ _).alloc (Nat.le_refl _) _
 have hRA : Arr W Rr 35 [.int .i64 0, .int .i64 0] := by rw [hW, hR]; exact Arr.new w _ [.int .i64 0, .int .i64 0]
 have HW := Lib.hid hW
 have HR := Lib.hid hR
 have HRA := Lib.hid hRA
 have HBW := Lib.hid hbW
 have z1 : ¬ (d : Int) < 0 := by omega
 have z2 : ¬ 1000000 < (d : Int) := by omega
 have z3 : ¬ 1000000 < d := by omega
 clear hW hR hbW hRA hz hzz hx hy
 go_enter Tryz.func23, Tryz.ntmps23
 go_upto_region 1 with (fail)
 rw [← HR.out, ← HW.out]
 go_wp2_with (first | (go_at_call 75; go_must (refine (HC.out _).mono ?_); rintro e w1 ⟨rfl, hb1⟩) | (go_at_call 74; go_must (refine (HLW.out _).mono ?_); rintro e w3 ⟨rfl, hb3⟩; have hA3 : Arr w3 Rr 35 [.int .i64 0, .int .i64 0] := (HRA.out.below' hb1).below' hb3; have r0 : w3.cell? ⟨Rr, 0, none⟩ = some (.int .i64 0) := hA3.cell 0; have r1 : w3.cell? ⟨Rr, 1, none⟩ = some (.int .i64 0) := hA3.cell 1; have f0 := hA3.frozen 0; have f1 := hA3.frozen 1))
 obtain ⟨w9, hw9⟩ : ∃ V, V = (w3.setCell ⟨Rr, 0, none⟩ (.int .i64 x)).setCell ⟨Rr, 1, none⟩ (.int .i64 y) := ⟨_, rfl⟩
 have hA9 : Arr w9 Rr 35 [.int .i64 x, .int .i64 y] := by rw [hw9]; exact (hA3.set_ 0 _).set_ 1 _
 have d0 : w9.cell? ⟨Rr, 0, none⟩ = some (.int .i64 x) := hA9.cell 0
 have d1 : w9.cell? ⟨Rr, 1, none⟩ = some (.int .i64 y) := hA9.cell 1
 have hB3 : Below w.heap.size w w3 := HBW.out.trans ((hb1.trans (hb3.mono hb1.size)).mono HBW.out.size)
 have hwR : w.heap.size ≤ Rr := by have := HR.out; omega
 have hB9 : Below w.heap.size w w9 := by rw [hw9]; exact (hB3.setCell hwR _).setCell hwR _
 rw [← hw9]
 refine bodyPost_ret (v := .tuple #[.agg #[.int .i64 x, .int .i64 y], .int .i64 0]) (by simp [results, Tryz.results23, go_sem, d0, d1]) rfl ⟨rfl, hB9⟩
theorem ClassNumR_any {d : Nat} {w : World} (hd : d ≤ 3000) : Calls Tryz.prog 24 #[.int .i64 d] w fun e w' => e = .returned (.agg #[.int .i64 (lwBN (clZ d) 12), .int .i64 (lwBD (clZ d) 12)]) ∧ Below w.heap.size w w' := by
 by_cases h0 : d = 0
 ·subst h0
  have hb : Below w.heap.size w (w.alloc (.cells #[.int .i64 (-1), .int .i64 12] 35)) := (Below.refl _ _).alloc (Nat.le_refl _) _
  have HX := Lib.hid (show lwBN (clZ 0) 12 = -1 by decide +kernel)
  have HY := Lib.hid (show lwBD (clZ 0) 12 = 12 by decide +kernel)
  rw [HX.out, HY.out]
  go_enter Tryz.func24, Tryz.ntmps24
  go_wp2_with fail
  refine bodyPost_ret (v := .agg #[.int .i64 (-1), .int .i64 12]) (by simp [results, Tryz.results24, go_sem]) rfl ⟨rfl, hb⟩
 ·have HC := Lib.hid (fun w => @twelfths_any d w hd)
  have hzz : clZ d = ((clsP d : Nat) : Int) := by unfold clZ; rw [if_neg h0]
  have hz : (((clsP d : Nat)) : Int).natAbs ≤ 9000000000000000000 := by
   have h1 := clsP_le d
   have h2 : (d + 1) * ((d + 1) * 24) ≤ 3001 * (3001 * 24) := Nat.mul_le_mul (by omega) (by omega)
   omega
  have HLW := Lib.hid (fun w => @lowestR_any ((clsP d : Nat) : Int) 12 w hz (by omega) (by omega))
  have z0 : ((d : Int) == 0) = false := by rw [beq_eq_false_iff_ne]; omega
  have z0' : ¬ (d : Int) = 0 := by omega
  rw [hzz]
  clear hzz hz
  obtain ⟨z, hzq⟩ : ∃ z, z = clsP d := ⟨_, rfl⟩
  rw [← hzq] at HC HLW ⊢
  obtain ⟨x, hx⟩ : ∃ x, x = lwBN (z : Int) 12 := ⟨_, rfl⟩
  obtain ⟨y, hy⟩ : ∃ y, y = lwBD (z : Int) 12 := ⟨_, rfl⟩
  rw [← hx, ← hy] at HLW ⊢
  obtain ⟨W, hW⟩ : ∃ W, W = w.alloc (.cells #[.int .i64 0, .int .i64 0] 35) := ⟨_, rfl⟩
  obtain ⟨Rr, hR⟩ : ∃ R, R = w.heap.size := ⟨_, rfl⟩
  have hbW : Below w.heap.size w W := by rw [hW]; exact (Below.refl _ _).alloc (Nat.le_refl _) _
  have hRA : Arr W Rr 35 [.int .i64 0, .int .i64 0] := by rw [hW, hR]; exact Arr.new w _ [.int .i64 0, .int .i64 0]
  have HW := Lib.hid hW
  have HR := Lib.hid hR
  have HRA := Lib.hid hRA
  have HBW := Lib.hid hbW
  clear hW hR hbW hRA hzq hx hy h0
  go_enter Tryz.func24, Tryz.ntmps24
  go_upto_region 1 with (fail)
  rw [← HR.out, ← HW.out]
  go_wp2_with (first | (go_at_call 77; go_must (refine (HC.out _).mono ?_); rintro e w1 ⟨rfl, rfl⟩) | (go_at_call 76; go_must (refine (HLW.out _).mono ?_); rintro e w3 ⟨rfl, hb3⟩; have hA3 : Arr w3 Rr 35 [.int .i64 0, .int .i64 0] := HRA.out.below' hb3; have r0 : w3.cell? ⟨Rr, 0, none⟩ = some (.int .i64 0) := hA3.cell 0; have r1 : w3.cell? ⟨Rr, 1, none⟩ = some (.int .i64 0) := hA3.cell 1; have f0 := hA3.frozen 0; have f1 := hA3.frozen 1))
  obtain ⟨w9, hw9⟩ : ∃ V, V = (w3.setCell ⟨Rr, 0, none⟩ (.int .i64 x)).setCell ⟨Rr, 1, none⟩ (.int .i64 y) := ⟨_, rfl⟩
  have hA9 : Arr w9 Rr 35 [.int .i64 x, .int .i64 y] := by rw [hw9]; exact (hA3.set_ 0 _).set_ 1 _
  have d0 : w9.cell? ⟨Rr, 0, none⟩ = some (.int .i64 x) := hA9.cell 0
  have d1 : w9.cell? ⟨Rr, 1, none⟩ = some (.int .i64 y) := hA9.cell 1
  have hB3 : Below w.heap.size w w3 := HBW.out.trans (hb3.mono HBW.out.size)
  have hwR : w.heap.size ≤ Rr := by have := HR.out; omega
  have hB9 : Below w.heap.size w w9 := by rw [hw9]; exact (hB3.setCell hwR _).setCell hwR _
  rw [← hw9]
  refine bodyPost_ret (v := .agg #[.int .i64 x, .int .i64 y]) (by simp [results, Tryz.results24, go_sem, d0, d1]) rfl ⟨rfl, hB9⟩
end Go.Proofs.YtdjpeimecfhdjaaGreat
