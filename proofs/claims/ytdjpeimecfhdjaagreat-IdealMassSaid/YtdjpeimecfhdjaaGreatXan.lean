/- Package ideal: Mass. Package ideal: Mass of what is refused. -/
import Derived.Test.YtdjpeimecfhdjaaGreatXam
import Derived.Test.YtdjpeimecfhdjaaGreatXo
import Derived.Test.YtdjpeimecfhdjaaGreatXl
namespace Go.Proofs.YtdjpeimecfhdjaaGreat
open Go.RowKit
def prL (n : Nat) : List Nat := (fcL n).map (·.1)
def msP (d l : Nat) : Nat := msL (prL l) (msD (prL d) (prL d).length) (prL l).length
theorem prL_isd {w : World} {v : Value} {n : Nat} (h : IsD w (fun _ => True) v ((fcL n).map fun x => ((x.1 : Nat) : Int))) : IsD w (fun _ => True) v ((prL n).map fun x : Nat => (x : Int)) := by
 unfold prL
 rw [List.map_map]
 exact h
set_option maxRecDepth 100000 in
set_option maxHeartbeats 4000000 in
theorem Mass_ok {d l : Nat} {w : World} (hd : 1 ≤ d) (hl : 1 ≤ l) (hd2 : d ≤ 2000) (hl2 : l ≤ 2000) (hdl : d * l ≤ 2000) (hs : (fcL (d * l)).all okP = true) (hs1 : (fcL d).all okP = true) (hs2 : (fcL l).all okP = true) (hodd : (prL d).length % 2 = 1)
  (p1 : ∀ x ∈ prL d, 1 ≤ x ∧ x ≤ 2000) (p2 : ∀ x ∈ prL l, 1 ≤ x ∧ x ≤ 2000) (b1 : ∀ k, k ≤ (prL d).length → msD (prL d) k ≤ 1000000000) (b2 : ∀ k, k ≤ (prL l).length → msL (prL l) (msD (prL d) (prL d).length) k ≤ 1000000000) :
  Calls Tryz.prog 49 #[.int .i64 d, .int .i64 l] w fun e w' => e = .returned (.tuple #[.agg #[.int .i64 ((msP d l : Nat) / (Int.gcd (msP d l : Nat) 24 : Int)), .int .i64 (24 / (Int.gcd (msP d l : Nat) 24 : Int))], .int .i64 0]) ∧ Below w.heap.size w w' := by
 have hm0 : msP d l ≤ 1000000000 := b2 _ (Nat.le_refl _)
 have HG0 := Lib.hid (show (Int.gcd ((msP d l : Nat) : Int) 24 : Int) ≠ 0 from fun h => by
  have := (Int.gcd_eq_zero_iff.1 (Int.ofNat_eq_zero.mp h)).2
  omega)
 obtain ⟨m, hm⟩ : ∃ m, m = d * l := ⟨_, rfl⟩
 have hm1 : 1 ≤ m := by rw [hm]; exact Nat.mul_pos hd hl
 have hm2 : m ≤ 2000 := by rw [hm]; exact hdl
 have e1 : (d : Int) * (l : Int) = (m : Int) := by rw [hm, Int.natCast_mul]
 have HP := Lib.hid (fun w => @primes_any m w hm1 (by omega))
 have HPD := Lib.hid (fun w => @primes_any d w hd (by omega))
 have HPL := Lib.hid (fun w => @primes_any l w hl (by omega))
 rw [← hm] at hs
 rw [hs] at HP
 rw [hs1] at HPD
 rw [hs2] at HPL
 obtain ⟨W, hW⟩ : ∃ W, W = w.alloc (.cells #[.int .i64 0, .int .i64 0] 35) := ⟨_, rfl⟩
 obtain ⟨Rr, hR⟩ : ∃ R, R = w.heap.size := ⟨_, rfl⟩
 have hbW : Below w.heap.size w W := by rw [hW]; exact (Below.refl _ _).alloc (Nat.le_refl _) _
 have hRA : Arr W Rr 35 [.int .i64 0, .int .i64 0] := by rw [hW, hR]; exact Arr.new w _ [.int .i64 0, .int .i64 0]
 have HW := Lib.hid hW
 have HR := Lib.hid hR
 have HRA := Lib.hid hRA
 have HBW := Lib.hid hbW
 have HODD := Lib.hid hodd
 have HMS := Lib.hid (fun (w : World) (A1 A2 : Option Addr) (c1 c2 : Nat) (h1 : IsD w (fun _ => True) (.slice A1 (prL d).length c1) ((prL d).map fun x : Nat => (x : Int))) (h2 : IsD w (fun _ => True) (.slice A2 (prL l).length c2) ((prL l).map fun x : Nat => (x : Int))) (g1 : (prL d).length ≤ 1000000) (g2 : (prL l).length ≤ 1000000) => mass_any h1 h2 g1 g2 p1 p2 b1 b2)
 clear hm hs hs1 hs2 hodd p1 p2 b1 b2 hdl hW hR hbW hRA
 obtain ⟨num, hnum⟩ : ∃ num : Int, num = ((msP d l : Nat) : Int) := ⟨_, rfl⟩
 have hn0 : 0 ≤ num := by omega
 have hn1 : num ≤ 1000000000 := by omega
 rw [← hnum] at HG0
 obtain ⟨x, hx⟩ : ∃ x, x = num / (Int.gcd num 24 : Int) := ⟨_, rfl⟩
 obtain ⟨y, hy⟩ : ∃ y, y = 24 / (Int.gcd num 24 : Int) := ⟨_, rfl⟩
 have hx0 : 0 ≤ x ∧ x ≤ num := by rw [hx]; exact ⟨Int.ediv_nonneg hn0 (by omega), Int.ediv_le_self _ hn0⟩
 have hy0 : 0 ≤ y ∧ y ≤ 24 := by rw [hy]; exact ⟨Int.ediv_nonneg (by decide) (by omega), Int.ediv_le_self _ (by decide)⟩
 have HGV := Lib.hid (fun (w : World) (v : Value) (h : FrV w (fun _ => True) v num 24) => fgive_ok h (Nat.le_trans (fit_wl (fit_small (by omega))) (by decide)) (Nat.le_trans (fit_wl (fit_small (x := 24) (by decide))) (by decide)) HG0.out (decide_eq_true (by rw [← hx]; omega)) (decide_eq_true (by rw [← hy]; omega)))
 rw [← hx, ← hy] at HGV
 have HON := Lib.hid (fun w => Of_any num w (by omega) (by omega))
 have HOM := Lib.hid (fun w => Of_any 24 w (by omega) (by omega))
 have HXY := Lib.hid (show Value.agg #[.int .i64 (((msP d l : Nat) : Int) / (Int.gcd ((msP d l : Nat) : Int) 24 : Int)), .int .i64 (24 / (Int.gcd ((msP d l : Nat) : Int) 24 : Int))] = .agg #[.int .i64 x, .int .i64 y] by rw [hx, hy, hnum])
 have HNUM := Lib.hid (show ((msL (prL l) (msD (prL d) (prL d).length) (prL l).length : Nat) : Int) = num from hnum.symm)
 rw [HXY.out]
 clear hx hy hnum hm0 HG0
 go_enter Tryz.func49, Tryz.ntmps49
 go_upto_region 1 with (fail)
 rw [← HR.out, ← HW.out]
 go_upto_region 4 with (go_at_call 108; go_must (refine (HP.out _).mono ?_); rintro e w1 ⟨A0, q0, c0, rfl, _, hb1⟩)
 go_upto_region 8 with (first | (go_at_call 108; (with_reducible refine (HPD.out _).mono ?_); rintro e wD ⟨AD, qD, cD, rfl, hD, hbD⟩) | (go_at_call 108; (with_reducible refine (HPL.out _).mono ?_); rintro e wL ⟨AL, qL, cL, rfl, hL, hbL⟩))
 have iD := prL_isd (hD trivial)
 have iL := prL_isd (hL trivial)
 have lD := iD.len
 have lL := iL.len
 rw [List.length_map] at lD lL
 have hqD : qD ≤ 1000000 := by rw [← lD]; unfold prL; rw [List.length_map]; exact Nat.le_trans (fcG_len _ _ _) (by omega)
 have hqL : qL ≤ 1000000 := by rw [← lL]; unfold prL; rw [List.length_map]; exact Nat.le_trans (fcG_len _ _ _) (by omega)
 have HMW := Lib.hid (by
  have := HMS.out wL AD AL cD cL (by rw [lD]; exact Foot.below iD hbL) (by rw [lL]; exact iL) (by rw [lD]; exact hqD) (by rw [lL]; exact hqL)
  rw [HNUM.out, lD, lL] at this
  exact this)
 have ho := HODD.out
 rw [lD] at ho
 have t1 : ((qD : Int) % 2 == 0) = false := by rw [beq_eq_false_iff_ne]; omega
 have hb1L : Below W.heap.size W wL := (hb1.trans (hbD.mono hb1.size)).trans (hbL.mono (hb1.trans (hbD.mono hb1.size)).size)
 clear hD hL iD iL lD lL ho
 go_upto_region 10 with (fail)
 go_wp2_with (first | (go_at_call 109; go_must (refine HMW.out.mono ?_); rintro e w6 ⟨rfl, rfl⟩) | (go_at_call 88; (with_reducible refine (HON.out _).mono ?_); rintro e w7 ⟨v7, rfl, hv7, hb7⟩) | (go_at_call 88; (with_reducible refine (HOM.out _).mono ?_); rintro e w8 ⟨v8, rfl, hv8, hb8⟩; obtain ⟨n7, A7, m7, c7, rfl, g7⟩ := (hv7.below hb8).tt.shp; obtain ⟨n8, A8, m8, c8, rfl, g8⟩ := hv8.tt.shp) | (go_at_call 110; go_must (refine (HGV.out _ _ ⟨n7, A7, m7, c7, n8, A8, m8, c8, rfl, g7, g8⟩).mono ?_); rintro e w9 ⟨rfl, hb9⟩; have hA9 : Arr w9 Rr 35 [.int .i64 0, .int .i64 0] := (((HRA.out.below' hb1L).below' hb7).below' hb8).below' hb9; have r0 : w9.cell? ⟨Rr, 0, none⟩ = some (.int .i64 0) := hA9.cell 0; have r1 : w9.cell? ⟨Rr, 1, none⟩ = some (.int .i64 0) := hA9.cell 1; have f0 := hA9.frozen 0; have f1 := hA9.frozen 1))
 obtain ⟨wz, hwz⟩ : ∃ V, V = (w9.setCell ⟨Rr, 0, none⟩ (.int .i64 x)).setCell ⟨Rr, 1, none⟩ (.int .i64 y) := ⟨_, rfl⟩
 have hAz : Arr wz Rr 35 [.int .i64 x, .int .i64 y] := by rw [hwz]; exact (hA9.set_ 0 _).set_ 1 _
 have d0 : wz.cell? ⟨Rr, 0, none⟩ = some (.int .i64 x) := hAz.cell 0
 have d1 : wz.cell? ⟨Rr, 1, none⟩ = some (.int .i64 y) := hAz.cell 1
 have hb79 := (hb7.trans (hb8.mono hb7.size)).trans (hb9.mono (hb7.trans (hb8.mono hb7.size)).size)
 have hB9 : Below w.heap.size w w9 := HBW.out.trans ((hb1L.trans (hb79.mono hb1L.size)).mono HBW.out.size)
 have hwR : w.heap.size ≤ Rr := by have := HR.out; omega
 have hBz : Below w.heap.size w wz := by rw [hwz]; exact (hB9.setCell hwR _).setCell hwR _
 rw [← hwz]
 refine bodyPost_ret (v := .tuple #[.agg #[.int .i64 x, .int .i64 y], .int .i64 0]) (by simp [results, Tryz.results49, go_sem, d0, d1]) rfl ⟨rfl, hBz⟩
theorem Mass_ex {w : World} : Calls Tryz.prog 49 #[.int .i64 11, .int .i64 1] w fun e w' => e = .returned (.tuple #[.agg #[.int .i64 5, .int .i64 12], .int .i64 0]) ∧ Below w.heap.size w w' := by
 have h := @Mass_ok 11 1 w (by omega) (by omega) (by omega) (by omega) (by omega) (by decide +kernel) (by decide +kernel) (by decide +kernel) (by decide +kernel) (by decide +kernel) (by decide +kernel) (by decide +kernel) (by decide +kernel)
 have e1 : ((msP 11 1 : Nat) : Int) / (Int.gcd ((msP 11 1 : Nat) : Int) 24 : Int) = 5 := by decide +kernel
 have e2 : (24 : Int) / (Int.gcd ((msP 11 1 : Nat) : Int) 24 : Int) = 12 := by decide +kernel
 rw [e1, e2] at h
 exact h
end Go.Proofs.YtdjpeimecfhdjaaGreat

namespace Go.Proofs.YtdjpeimecfhdjaaGreat
open Go.RowKit
theorem Mass_range {d l : Int} {w : World} (h : d < 1 ∨ l < 1 ∨ 2000 < d ∨ 2000 < l ∨ 2000 < d * l) : Calls Tryz.prog 49 #[.int .i64 d, .int .i64 l] w fun e w' => e = .returned (.tuple #[.agg #[.int .i64 0, .int .i64 0], .int .i64 2]) ∧ Below w.heap.size w w' := by
 have hb : Below w.heap.size w (w.alloc (.cells #[.int .i64 0, .int .i64 0] 35)) := (Below.refl _ _).alloc (Nat.le_refl _) _
 by_cases h1 : d < 1
 ·clear h
  go_enter Tryz.func49, Tryz.ntmps49
  go_wp2_with fail
  refine bodyPost_ret (v := .tuple #[.agg #[.int .i64 0, .int .i64 0], .int .i64 2]) (by simp [results, Tryz.results49, go_sem]) rfl ⟨rfl, hb⟩
 by_cases h2 : l < 1
 ·clear h
  go_enter Tryz.func49, Tryz.ntmps49
  go_wp2_with fail
  refine bodyPost_ret (v := .tuple #[.agg #[.int .i64 0, .int .i64 0], .int .i64 2]) (by simp [results, Tryz.results49, go_sem]) rfl ⟨rfl, hb⟩
 by_cases h3 : 2000 < d
 ·clear h
  go_enter Tryz.func49, Tryz.ntmps49
  go_wp2_with fail
  refine bodyPost_ret (v := .tuple #[.agg #[.int .i64 0, .int .i64 0], .int .i64 2]) (by simp [results, Tryz.results49, go_sem]) rfl ⟨rfl, hb⟩
 by_cases h4 : 2000 < l
 ·clear h
  go_enter Tryz.func49, Tryz.ntmps49
  go_wp2_with fail
  refine bodyPost_ret (v := .tuple #[.agg #[.int .i64 0, .int .i64 0], .int .i64 2]) (by simp [results, Tryz.results49, go_sem]) rfl ⟨rfl, hb⟩
 have h5 : 2000 < d * l := by omega
 have h6 : d * l ≤ 2000 * 2000 := Int.mul_le_mul (by omega) (by omega) (by omega) (by omega)
 obtain ⟨m, hm⟩ : ∃ m, m = d * l := ⟨_, rfl⟩
 have e1 : d * l = m := hm.symm
 rw [e1] at h5 h6
 clear h hm
 go_enter Tryz.func49, Tryz.ntmps49
 go_wp2_with fail
 refine bodyPost_ret (v := .tuple #[.agg #[.int .i64 0, .int .i64 0], .int .i64 2]) (by simp [results, Tryz.results49, go_sem]) rfl ⟨rfl, hb⟩
theorem Mass_form {d l : Nat} {w : World} (hd : 1 ≤ d) (hl : 1 ≤ l) (hd2 : d ≤ 2000) (hl2 : l ≤ 2000) (hdl : d * l ≤ 2000) (hs : (fcL (d * l)).all okP = false) : Calls Tryz.prog 49 #[.int .i64 d, .int .i64 l] w fun e w' => e = .returned (.tuple #[.agg #[.int .i64 0, .int .i64 0], .int .i64 3]) ∧ Below w.heap.size w w' := by
 have hb : Below w.heap.size w (w.alloc (.cells #[.int .i64 0, .int .i64 0] 35)) := (Below.refl _ _).alloc (Nat.le_refl _) _
 obtain ⟨m, hm⟩ : ∃ m, m = d * l := ⟨_, rfl⟩
 have hm1 : 1 ≤ m := by rw [hm]; exact Nat.mul_pos hd hl
 have hm2 : m ≤ 2000 := by rw [hm]; exact hdl
 have e1 : (d : Int) * (l : Int) = (m : Int) := by rw [hm, Int.natCast_mul]
 have HP := Lib.hid (fun w => @primes_any m w hm1 (by omega))
 rw [← hm] at hs
 rw [hs] at HP
 obtain ⟨W, hW⟩ : ∃ W, W = w.alloc (.cells #[.int .i64 0, .int .i64 0] 35) := ⟨_, rfl⟩
 obtain ⟨Rr, hR⟩ : ∃ R, R = w.heap.size := ⟨_, rfl⟩
 have hbW : Below w.heap.size w W := by rw [hW]; exact hb
 have hRA : Arr W Rr 35 [.int .i64 0, .int .i64 0] := by rw [hW, hR]; exact Arr.new w _ [.int .i64 0, .int .i64 0]
 have HW := Lib.hid hW
 have HR := Lib.hid hR
 have HRA := Lib.hid hRA
 have HBW := Lib.hid hbW
 clear hm hs hdl hW hR hbW hRA hb
 go_enter Tryz.func49, Tryz.ntmps49
 go_upto_region 1 with (fail)
 rw [← HR.out, ← HW.out]
 go_wp2_with (go_at_call 108; go_must (refine (HP.out _).mono ?_); rintro e w1 ⟨A0, q0, c0, rfl, _, hb1⟩; have hA9 : Arr w1 Rr 35 [.int .i64 0, .int .i64 0] := HRA.out.below' hb1; have r0 : w1.cell? ⟨Rr, 0, none⟩ = some (.int .i64 0) := hA9.cell 0; have r1 : w1.cell? ⟨Rr, 1, none⟩ = some (.int .i64 0) := hA9.cell 1; have f0 := hA9.frozen 0; have f1 := hA9.frozen 1)
 obtain ⟨wz, hwz⟩ : ∃ V, V = (w1.setCell ⟨Rr, 0, none⟩ (.int .i64 0)).setCell ⟨Rr, 1, none⟩ (.int .i64 0) := ⟨_, rfl⟩
 have hAz : Arr wz Rr 35 [.int .i64 0, .int .i64 0] := by rw [hwz]; exact (hA9.set_ 0 _).set_ 1 _
 have d0 : wz.cell? ⟨Rr, 0, none⟩ = some (.int .i64 0) := hAz.cell 0
 have d1 : wz.cell? ⟨Rr, 1, none⟩ = some (.int .i64 0) := hAz.cell 1
 have hB9 : Below w.heap.size w w1 := HBW.out.trans (hb1.mono HBW.out.size)
 have hwR : w.heap.size ≤ Rr := by have := HR.out; omega
 have hBz : Below w.heap.size w wz := by rw [hwz]; exact (hB9.setCell hwR _).setCell hwR _
 rw [← hwz]
 refine bodyPost_ret (v := .tuple #[.agg #[.int .i64 0, .int .i64 0], .int .i64 3]) (by simp [results, Tryz.results49, go_sem, d0, d1]) rfl ⟨rfl, hBz⟩
set_option maxRecDepth 100000 in
set_option maxHeartbeats 4000000 in
theorem Mass_even {d l : Nat} {w : World} (hd : 1 ≤ d) (hl : 1 ≤ l) (hd2 : d ≤ 2000) (hl2 : l ≤ 2000) (hdl : d * l ≤ 2000) (hs : (fcL (d * l)).all okP = true) (hs1 : (fcL d).all okP = true) (hs2 : (fcL l).all okP = true) (hodd : (prL d).length % 2 = 0) :
  Calls Tryz.prog 49 #[.int .i64 d, .int .i64 l] w fun e w' => e = .returned (.tuple #[.agg #[.int .i64 0, .int .i64 0], .int .i64 16]) ∧ Below w.heap.size w w' := by
 obtain ⟨m, hm⟩ : ∃ m, m = d * l := ⟨_, rfl⟩
 have hm1 : 1 ≤ m := by rw [hm]; exact Nat.mul_pos hd hl
 have hm2 : m ≤ 2000 := by rw [hm]; exact hdl
 have e1 : (d : Int) * (l : Int) = (m : Int) := by rw [hm, Int.natCast_mul]
 have HP := Lib.hid (fun w => @primes_any m w hm1 (by omega))
 have HPD := Lib.hid (fun w => @primes_any d w hd (by omega))
 have HPL := Lib.hid (fun w => @primes_any l w hl (by omega))
 rw [← hm] at hs
 rw [hs] at HP
 rw [hs1] at HPD
 rw [hs2] at HPL
 obtain ⟨W, hW⟩ : ∃ W, W = w.alloc (.cells #[.int .i64 0, .int .i64 0] 35) := ⟨_, rfl⟩
 obtain ⟨Rr, hR⟩ : ∃ R, R = w.heap.size := ⟨_, rfl⟩
 have hbW : Below w.heap.size w W := by rw [hW]; exact (Below.refl _ _).alloc (Nat.le_refl _) _
 have hRA : Arr W Rr 35 [.int .i64 0, .int .i64 0] := by rw [hW, hR]; exact Arr.new w _ [.int .i64 0, .int .i64 0]
 have HW := Lib.hid hW
 have HR := Lib.hid hR
 have HRA := Lib.hid hRA
 have HBW := Lib.hid hbW
 have HODD := Lib.hid hodd
 clear hm hs hs1 hs2 hodd hdl hW hR hbW hRA
 go_enter Tryz.func49, Tryz.ntmps49
 go_upto_region 1 with (fail)
 rw [← HR.out, ← HW.out]
 go_upto_region 4 with (go_at_call 108; go_must (refine (HP.out _).mono ?_); rintro e w1 ⟨A0, q0, c0, rfl, _, hb1⟩)
 go_upto_region 8 with (first | (go_at_call 108; (with_reducible refine (HPD.out _).mono ?_); rintro e wD ⟨AD, qD, cD, rfl, hD, hbD⟩) | (go_at_call 108; (with_reducible refine (HPL.out _).mono ?_); rintro e wL ⟨AL, qL, cL, rfl, hL, hbL⟩))
 have iD := prL_isd (hD trivial)
 have iL := prL_isd (hL trivial)
 have lD := iD.len
 have lL := iL.len
 rw [List.length_map] at lD lL
 have hqD : qD ≤ 1000000 := by rw [← lD]; unfold prL; rw [List.length_map]; exact Nat.le_trans (fcG_len _ _ _) (by omega)
 have hqL : qL ≤ 1000000 := by rw [← lL]; unfold prL; rw [List.length_map]; exact Nat.le_trans (fcG_len _ _ _) (by omega)
 have ho := HODD.out
 rw [lD] at ho
 have t1 : ((qD : Int) % 2 == 0) = true := by rw [beq_iff_eq]; omega
 have hb1L : Below W.heap.size W wL := (hb1.trans (hbD.mono hb1.size)).trans (hbL.mono (hb1.trans (hbD.mono hb1.size)).size)
 clear hD hL iD iL lD lL ho
 have hA9 : Arr wL Rr 35 [.int .i64 0, .int .i64 0] := HRA.out.below' hb1L
 have r0 : wL.cell? ⟨Rr, 0, none⟩ = some (.int .i64 0) := hA9.cell 0
 have r1 : wL.cell? ⟨Rr, 1, none⟩ = some (.int .i64 0) := hA9.cell 1
 have f0 := hA9.frozen 0
 have f1 := hA9.frozen 1
 go_wp2_with fail
 obtain ⟨wz, hwz⟩ : ∃ V, V = (wL.setCell ⟨Rr, 0, none⟩ (.int .i64 0)).setCell ⟨Rr, 1, none⟩ (.int .i64 0) := ⟨_, rfl⟩
 have hAz : Arr wz Rr 35 [.int .i64 0, .int .i64 0] := by rw [hwz]; exact (hA9.set_ 0 _).set_ 1 _
 have d0 : wz.cell? ⟨Rr, 0, none⟩ = some (.int .i64 0) := hAz.cell 0
 have d1 : wz.cell? ⟨Rr, 1, none⟩ = some (.int .i64 0) := hAz.cell 1
 have hB9 : Below w.heap.size w wL := HBW.out.trans (hb1L.mono HBW.out.size)
 have hwR : w.heap.size ≤ Rr := by have := HR.out; omega
 have hBz : Below w.heap.size w wz := by rw [hwz]; exact (hB9.setCell hwR _).setCell hwR _
 rw [← hwz]
 refine bodyPost_ret (v := .tuple #[.agg #[.int .i64 0, .int .i64 0], .int .i64 16]) (by simp [results, Tryz.results49, go_sem, d0, d1]) rfl ⟨rfl, hBz⟩
end Go.Proofs.YtdjpeimecfhdjaaGreat
