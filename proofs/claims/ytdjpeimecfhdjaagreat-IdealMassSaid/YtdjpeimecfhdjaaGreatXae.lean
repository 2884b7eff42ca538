/- Package ideal: compare: elements by their coordinates; the order of elements. Package ideal: the order of elements is a strict weak order; slices.SortFunc over elements. A list of elements that grows: all cells of its block, the spare ones too, are numbers of the machine. -/
import Derived.Test.YtdjpeimecfhdjaaGreatShelf
import Derived.Test.YtdjpeimecfhdjaaGreatXe
import Derived.Test.YtdjpeimecfhdjaaGreatXu
namespace Go.Proofs.YtdjpeimecfhdjaaGreat
open Go.RowKit Go.Sort
structure Qt where
 w : Int
 x : Int
 y : Int
 z : Int
 d : Int
 hw : w.natAbs ≤ 1000000
 hx : x.natAbs ≤ 1000000
 hy : y.natAbs ≤ 1000000
 hz : z.natAbs ≤ 1000000
 h0 : 1 ≤ d
 h1 : d ≤ 1000000
instance : Inhabited Qt := ⟨⟨0, 0, 0, 0, 1, by omega, by omega, by omega, by omega, by omega, by omega⟩⟩
def Qt.enc (p : Qt) : List Value := [.int .i64 p.w, .int .i64 p.x, .int .i64 p.y, .int .i64 p.z, .int .i64 p.d]
def cfL : List (Int × Int) → Int
 | [] => 0
 | x :: l => if Lib.compareInt x.1 x.2 = 0 then cfL l else Lib.compareInt x.1 x.2
def cfP (p q : Qt) : List (Int × Int) := [(p.w * q.d, q.w * p.d), (p.x * q.d, q.x * p.d), (p.y * q.d, q.y * p.d), (p.z * q.d, q.z * p.d)]
def cfQ (p q : Qt) : Int := cfL (cfP p q)
theorem mul_small {a b : Int} (h : a.natAbs ≤ 1000000) (h0 : 1 ≤ b) (h1 : b ≤ 1000000) : -1000000000000 ≤ a * b ∧ a * b ≤ 1000000000000 := by
 have h2 : (a * b).natAbs ≤ 1000000 * 1000000 := by rw [Int.natAbs_mul]; exact Nat.mul_le_mul h (by omega)
 omega
theorem below_growT (w : World) (os : Array Obj) : Below w.heap.size w (grow w os) :=
 ⟨rfl, rfl, rfl, by show _ ≤ (w.heap ++ os).size; rw [Array.size_append]; omega, fun k hk => by
  show (w.heap ++ os)[k]? = _
  rw [Array.getElem?_append_left hk]⟩
theorem cmpI_any (x y : Int) (w : World) : Calls Tryz.prog 225 #[.int .i64 x, .int .i64 y] w fun e w' => e = .returned (.int .i64 (Lib.compareInt x y)) ∧ w' = w := AnyG.cmp_Compare_int Tryz.cmpInt x y w
theorem ixQ_0 (a b c d e f g h : Int) (w : World) : (Instr.index 244 (.agg #[.int .i64 a, .int .i64 b, .int .i64 c, .int .i64 d, .int .i64 e, .int .i64 f, .int .i64 g, .int .i64 h]) (.int .i64 0)).run Tryz.prog w = .ok (.agg #[.int .i64 a, .int .i64 b]) w := by kernel_rfl
theorem ixQ_1 (a b c d e f g h : Int) (w : World) : (Instr.index 244 (.agg #[.int .i64 a, .int .i64 b, .int .i64 c, .int .i64 d, .int .i64 e, .int .i64 f, .int .i64 g, .int .i64 h]) (.int .i64 1)).run Tryz.prog w = .ok (.agg #[.int .i64 c, .int .i64 d]) w := by kernel_rfl
theorem ixQ_2 (a b c d e f g h : Int) (w : World) : (Instr.index 244 (.agg #[.int .i64 a, .int .i64 b, .int .i64 c, .int .i64 d, .int .i64 e, .int .i64 f, .int .i64 g, .int .i64 h]) (.int .i64 2)).run Tryz.prog w = .ok (.agg #[.int .i64 e, .int .i64 f]) w := by kernel_rfl
theorem ixQ_3 (a b c d e f g h : Int) (w : World) : (Instr.index 244 (.agg #[.int .i64 a, .int .i64 b, .int .i64 c, .int .i64 d, .int .i64 e, .int .i64 f, .int .i64 g, .int .i64 h]) (.int .i64 3)).run Tryz.prog w = .ok (.agg #[.int .i64 g, .int .i64 h]) w := by kernel_rfl
set_option maxRecDepth 100000 in
set_option maxHeartbeats 4000000 in
theorem cmpQ_any (p q : Qt) (w : World) : Calls Tryz.prog 170 #[.agg p.enc.toArray, .agg q.enc.toArray] w fun e w' => e = .returned (.int .i64 (cfQ p q)) ∧ ∃ n os, w' = grow (w.drewN n) os := by
 obtain ⟨a0, ha0⟩ : ∃ a, p.w * q.d = a := ⟨_, rfl⟩
 obtain ⟨b0, hb0⟩ : ∃ a, q.w * p.d = a := ⟨_, rfl⟩
 obtain ⟨a1, ha1⟩ : ∃ a, p.x * q.d = a := ⟨_, rfl⟩
 obtain ⟨b1, hb1⟩ : ∃ a, q.x * p.d = a := ⟨_, rfl⟩
 obtain ⟨a2, ha2⟩ : ∃ a, p.y * q.d = a := ⟨_, rfl⟩
 obtain ⟨b2, hb2⟩ : ∃ a, q.y * p.d = a := ⟨_, rfl⟩
 obtain ⟨a3, ha3⟩ : ∃ a, p.z * q.d = a := ⟨_, rfl⟩
 obtain ⟨b3, hb3⟩ : ∃ a, q.z * p.d = a := ⟨_, rfl⟩
 have HC : Hid (cfQ p q = cfL [(a0, b0), (a1, b1), (a2, b2), (a3, b3)]) := Lib.hid (by unfold cfQ cfP; rw [ha0, ha1, ha2, ha3, hb0, hb1, hb2, hb3])
 have i0 := mul_small p.hw q.h0 q.h1
 have j0 := mul_small q.hw p.h0 p.h1
 have i1 := mul_small p.hx q.h0 q.h1
 have j1 := mul_small q.hx p.h0 p.h1
 have i2 := mul_small p.hy q.h0 q.h1
 have j2 := mul_small q.hy p.h0 p.h1
 have i3 := mul_small p.hz q.h0 q.h1
 have j3 := mul_small q.hz p.h0 p.h1
 rw [ha0] at i0
 rw [hb0] at j0
 rw [ha1] at i1
 rw [hb1] at j1
 rw [ha2] at i2
 rw [hb2] at j2
 rw [ha3] at i3
 rw [hb3] at j3
 obtain ⟨C, hCe⟩ : ∃ C, C = cfQ p q := ⟨_, rfl⟩
 rw [← hCe] at HC ⊢
 clear hCe
 unfold Qt.enc
 obtain ⟨pw, px, py, pz, pd, _, _, _, _, _, _⟩ := p
 obtain ⟨qw, qx, qy, qz, qd, _, _, _, _, _, _⟩ := q
 dsimp only at *
 obtain ⟨W, hW⟩ : ∃ W, W = (w.alloc (.cells #[.int .i64 pw, .int .i64 px, .int .i64 py, .int .i64 pz, .int .i64 pd] 148)).alloc (.cells #[.int .i64 qw, .int .i64 qx, .int .i64 qy, .int .i64 qz, .int .i64 qd] 148) := ⟨_, rfl⟩
 obtain ⟨P, hP⟩ : ∃ P, P = w.heap.size := ⟨_, rfl⟩
 obtain ⟨R, hR⟩ : ∃ R, R = w.heap.size + 1 := ⟨_, rfl⟩
 have hPA : Arr W P 148 [.int .i64 pw, .int .i64 px, .int .i64 py, .int .i64 pz, .int .i64 pd] := by rw [hW, hP]; exact (Arr.new w _ [.int .i64 pw, .int .i64 px, .int .i64 py, .int .i64 pz, .int .i64 pd]).alloc _
 have hRA : Arr W R 148 [.int .i64 qw, .int .i64 qx, .int .i64 qy, .int .i64 qz, .int .i64 qd] := by
  rw [hW, hR]
  have := Arr.new (w.alloc (.cells #[.int .i64 pw, .int .i64 px, .int .i64 py, .int .i64 pz, .int .i64 pd] 148)) 148 [.int .i64 qw, .int .i64 qx, .int .i64 qy, .int .i64 qz, .int .i64 qd]
  simpa using this
 have HGW : Hid (∃ os, W = grow w os) := Lib.hid ⟨_, by rw [hW, alloc_eq_grow, alloc_eq_grow, grow_grow]⟩
 have HW := Lib.hid hW
 have HP := Lib.hid hP
 have HR := Lib.hid hR
 have HPA := Lib.hid hPA
 have HRA := Lib.hid hRA
 clear hW hP hR hPA hRA
 have p0 : W.cell? ⟨P, 0, none⟩ = some (.int .i64 pw) := Arr.cell HPA.out 0
 have p1 : W.cell? ⟨P, 1, none⟩ = some (.int .i64 px) := Arr.cell HPA.out 1
 have p2 : W.cell? ⟨P, 2, none⟩ = some (.int .i64 py) := Arr.cell HPA.out 2
 have p3 : W.cell? ⟨P, 3, none⟩ = some (.int .i64 pz) := Arr.cell HPA.out 3
 have r0 : W.cell? ⟨R, 0, none⟩ = some (.int .i64 qw) := Arr.cell HRA.out 0
 have r1 : W.cell? ⟨R, 1, none⟩ = some (.int .i64 qx) := Arr.cell HRA.out 1
 have r2 : W.cell? ⟨R, 2, none⟩ = some (.int .i64 qy) := Arr.cell HRA.out 2
 have r3 : W.cell? ⟨R, 3, none⟩ = some (.int .i64 qz) := Arr.cell HRA.out 3
 go_enter Tryz.func170, Tryz.ntmps170
 go_upto_region 1 with (fail)
 rw [← HW.out, ← HR.out, ← HP.out]
 go_wp2_with fail
 clear p0 p1 p2 p3 r0 r1 r2 r3
 go_loopw [29] (fun iv wr => ∃ i : Nat, iv = .int .i64 i ∧ i ≤ 4 ∧ Hid (C = cfL (([(a0, b0), (a1, b1), (a2, b2), (a3, b3)] : List (Int × Int)).drop i)) ∧ ∃ os, wr = grow W os) (fun iv _ => 4 - (intOf iv).toNat)
 case atStart => exact ⟨0, rfl, by omega, HC, #[], (grow_empty W).symm⟩
 case round =>
  obtain ⟨i, rfl, hi, HI, os, hwr⟩ := hrel
  have hbr : Below W.heap.size W wr := by rw [hwr]; exact below_growT _ _
  have HWR := Lib.hid hwr
  have HBR := Lib.hid hbr
  have x4 : wr.cell? ⟨P, 4, none⟩ = some (.int .i64 pd) := (keepB hbr (Arr.cell HPA.out 4))
  have y4 : wr.cell? ⟨R, 4, none⟩ = some (.int .i64 qd) := (keepB hbr (Arr.cell HRA.out 4))
  have hPl : P < wr.heap.size := cell_lt x4
  have hRl : R < wr.heap.size := cell_lt y4
  clear hwr hbr
  rcases (show i = 0 ∨ i = 1 ∨ i = 2 ∨ i = 3 ∨ i = 4 by omega) with rfl | rfl | rfl | rfl | rfl
  ·obtain ⟨cv, hcv⟩ : ∃ c, Lib.compareInt a0 b0 = c := ⟨_, rfl⟩
   have HK := Lib.hid (fun W => cmpI_any a0 b0 W)
   rw [hcv] at HK
   have HCV := Lib.hid hcv
   clear hcv hi
   obtain ⟨V, hV⟩ : ∃ V, V = wr.alloc (.cells #[.int .i64 pw, .int .i64 qw] 243) := ⟨_, rfl⟩
   have hb1 : Below wr.heap.size wr V := by rw [hV]; exact (Below.refl _ _).alloc (Nat.le_refl _) _
   obtain ⟨S, hS⟩ : ∃ S, S = wr.heap.size := ⟨_, rfl⟩
   have hSA : Arr V S 243 [.int .i64 pw, .int .i64 qw] := by rw [hV, hS]; exact Arr.new wr _ [.int .i64 pw, .int .i64 qw]
   have s0 : V.cell? ⟨S, 0, none⟩ = some (.int .i64 pw) := Arr.cell hSA 0
   have s1 : V.cell? ⟨S, 1, none⟩ = some (.int .i64 qw) := Arr.cell hSA 1
   replace x4 := keepB hb1 x4
   replace y4 := keepB hb1 y4
   have ix := ixQ_0 pw qw px qx py qy pz qz
   go_upto_region 4 with (fail)
   clear ix
   rw [← hV, ← hS]
   have HGV : Hid (∃ os, V = grow W os) := Lib.hid ⟨_, by rw [hV, HWR.out, alloc_eq_grow, grow_grow]⟩
   clear hV hS hSA hb1
   rcases Decidable.em (cv = 0) with hz | hz
   ·subst hz
    go_wp2_with (go_at_call 225; go_must (refine (HK.out _).mono ?_); rintro e w1 ⟨rfl, rfl⟩)
    go_round
    case rel => exact ⟨1, by go_num, by omega, Lib.hid (by rw [HI.out]; show cfL ((a0, b0) :: _) = _; unfold cfL; rw [if_pos HCV.out]; rfl), HGV.out⟩
    case measure => simp [intOf]
   ·have n1 : (cv == 0) = false := beq_eq_false_iff_ne.2 hz
    have HC9 : Hid (C = cv) := Lib.hid (by rw [HI.out]; show cfL ((a0, b0) :: _) = _; unfold cfL; rw [if_neg (by rw [HCV.out]; exact hz)]; exact HCV.out)
    go_wp2_with (go_at_call 225; go_must (refine (HK.out _).mono ?_); rintro e w1 ⟨rfl, rfl⟩)
    go_ret
    obtain ⟨os1, h1⟩ := HGV.out
    obtain ⟨os2, h2⟩ := HGW.out
    exact ⟨by rw [HC9.out]; rfl, 0, _, by rw [h1, h2, grow_grow]; rfl⟩
  ·obtain ⟨cv, hcv⟩ : ∃ c, Lib.compareInt a1 b1 = c := ⟨_, rfl⟩
   have HK := Lib.hid (fun W => cmpI_any a1 b1 W)
   rw [hcv] at HK
   have HCV := Lib.hid hcv
   clear hcv hi
   obtain ⟨V, hV⟩ : ∃ V, V = wr.alloc (.cells #[.int .i64 px, .int .i64 qx] 243) := ⟨_, rfl⟩
   have hb1 : Below wr.heap.size wr V := by rw [hV]; exact (Below.refl _ _).alloc (Nat.le_refl _) _
   obtain ⟨S, hS⟩ : ∃ S, S = wr.heap.size := ⟨_, rfl⟩
   have hSA : Arr V S 243 [.int .i64 px, .int .i64 qx] := by rw [hV, hS]; exact Arr.new wr _ [.int .i64 px, .int .i64 qx]
   have s0 : V.cell? ⟨S, 0, none⟩ = some (.int .i64 px) := Arr.cell hSA 0
   have s1 : V.cell? ⟨S, 1, none⟩ = some (.int .i64 qx) := Arr.cell hSA 1
   replace x4 := keepB hb1 x4
   replace y4 := keepB hb1 y4
   have ix := ixQ_1 pw qw px qx py qy pz qz
   go_upto_region 4 with (fail)
   clear ix
   rw [← hV, ← hS]
   have HGV : Hid (∃ os, V = grow W os) := Lib.hid ⟨_, by rw [hV, HWR.out, alloc_eq_grow, grow_grow]⟩
   clear hV hS hSA hb1
   rcases Decidable.em (cv = 0) with hz | hz
   ·subst hz
    go_wp2_with (go_at_call 225; go_must (refine (HK.out _).mono ?_); rintro e w1 ⟨rfl, rfl⟩)
    go_round
    case rel => exact ⟨2, by go_num, by omega, Lib.hid (by rw [HI.out]; show cfL ((a1, b1) :: _) = _; unfold cfL; rw [if_pos HCV.out]; rfl), HGV.out⟩
    case measure => simp [intOf]
   ·have n1 : (cv == 0) = false := beq_eq_false_iff_ne.2 hz
    have HC9 : Hid (C = cv) := Lib.hid (by rw [HI.out]; show cfL ((a1, b1) :: _) = _; unfold cfL; rw [if_neg (by rw [HCV.out]; exact hz)]; exact HCV.out)
    go_wp2_with (go_at_call 225; go_must (refine (HK.out _).mono ?_); rintro e w1 ⟨rfl, rfl⟩)
    go_ret
    obtain ⟨os1, h1⟩ := HGV.out
    obtain ⟨os2, h2⟩ := HGW.out
    exact ⟨by rw [HC9.out]; rfl, 0, _, by rw [h1, h2, grow_grow]; rfl⟩
  ·obtain ⟨cv, hcv⟩ : ∃ c, Lib.compareInt a2 b2 = c := ⟨_, rfl⟩
   have HK := Lib.hid (fun W => cmpI_any a2 b2 W)
   rw [hcv] at HK
   have HCV := Lib.hid hcv
   clear hcv hi
   obtain ⟨V, hV⟩ : ∃ V, V = wr.alloc (.cells #[.int .i64 py, .int .i64 qy] 243) := ⟨_, rfl⟩
   have hb1 : Below wr.heap.size wr V := by rw [hV]; exact (Below.refl _ _).alloc (Nat.le_refl _) _
   obtain ⟨S, hS⟩ : ∃ S, S = wr.heap.size := ⟨_, rfl⟩
   have hSA : Arr V S 243 [.int .i64 py, .int .i64 qy] := by rw [hV, hS]; exact Arr.new wr _ [.int .i64 py, .int .i64 qy]
   have s0 : V.cell? ⟨S, 0, none⟩ = some (.int .i64 py) := Arr.cell hSA 0
   have s1 : V.cell? ⟨S, 1, none⟩ = some (.int .i64 qy) := Arr.cell hSA 1
   replace x4 := keepB hb1 x4
   replace y4 := keepB hb1 y4
   have ix := ixQ_2 pw qw px qx py qy pz qz
   go_upto_region 4 with (fail)
   clear ix
   rw [← hV, ← hS]
   have HGV : Hid (∃ os, V = grow W os) := Lib.hid ⟨_, by rw [hV, HWR.out, alloc_eq_grow, grow_grow]⟩
   clear hV hS hSA hb1
   rcases Decidable.em (cv = 0) with hz | hz
   ·subst hz
    go_wp2_with (go_at_call 225; go_must (refine (HK.out _).mono ?_); rintro e w1 ⟨rfl, rfl⟩)
    go_round
    case rel => exact ⟨3, by go_num, by omega, Lib.hid (by rw [HI.out]; show cfL ((a2, b2) :: _) = _; unfold cfL; rw [if_pos HCV.out]; rfl), HGV.out⟩
    case measure => simp [intOf]
   ·have n1 : (cv == 0) = false := beq_eq_false_iff_ne.2 hz
    have HC9 : Hid (C = cv) := Lib.hid (by rw [HI.out]; show cfL ((a2, b2) :: _) = _; unfold cfL; rw [if_neg (by rw [HCV.out]; exact hz)]; exact HCV.out)
    go_wp2_with (go_at_call 225; go_must (refine (HK.out _).mono ?_); rintro e w1 ⟨rfl, rfl⟩)
    go_ret
    obtain ⟨os1, h1⟩ := HGV.out
    obtain ⟨os2, h2⟩ := HGW.out
    exact ⟨by rw [HC9.out]; rfl, 0, _, by rw [h1, h2, grow_grow]; rfl⟩
  ·obtain ⟨cv, hcv⟩ : ∃ c, Lib.compareInt a3 b3 = c := ⟨_, rfl⟩
   have HK := Lib.hid (fun W => cmpI_any a3 b3 W)
   rw [hcv] at HK
   have HCV := Lib.hid hcv
   clear hcv hi
   obtain ⟨V, hV⟩ : ∃ V, V = wr.alloc (.cells #[.int .i64 pz, .int .i64 qz] 243) := ⟨_, rfl⟩
   have hb1 : Below wr.heap.size wr V := by rw [hV]; exact (Below.refl _ _).alloc (Nat.le_refl _) _
   obtain ⟨S, hS⟩ : ∃ S, S = wr.heap.size := ⟨_, rfl⟩
   have hSA : Arr V S 243 [.int .i64 pz, .int .i64 qz] := by rw [hV, hS]; exact Arr.new wr _ [.int .i64 pz, .int .i64 qz]
   have s0 : V.cell? ⟨S, 0, none⟩ = some (.int .i64 pz) := Arr.cell hSA 0
   have s1 : V.cell? ⟨S, 1, none⟩ = some (.int .i64 qz) := Arr.cell hSA 1
   replace x4 := keepB hb1 x4
   replace y4 := keepB hb1 y4
   have ix := ixQ_3 pw qw px qx py qy pz qz
   go_upto_region 4 with (fail)
   clear ix
   rw [← hV, ← hS]
   have HGV : Hid (∃ os, V = grow W os) := Lib.hid ⟨_, by rw [hV, HWR.out, alloc_eq_grow, grow_grow]⟩
   clear hV hS hSA hb1
   rcases Decidable.em (cv = 0) with hz | hz
   ·subst hz
    go_wp2_with (go_at_call 225; go_must (refine (HK.out _).mono ?_); rintro e w1 ⟨rfl, rfl⟩)
    go_round
    case rel => exact ⟨4, by go_num, by omega, Lib.hid (by rw [HI.out]; show cfL ((a3, b3) :: _) = _; unfold cfL; rw [if_pos HCV.out]; rfl), HGV.out⟩
    case measure => simp [intOf]
   ·have n1 : (cv == 0) = false := beq_eq_false_iff_ne.2 hz
    have HC9 : Hid (C = cv) := Lib.hid (by rw [HI.out]; show cfL ((a3, b3) :: _) = _; unfold cfL; rw [if_neg (by rw [HCV.out]; exact hz)]; exact HCV.out)
    go_wp2_with (go_at_call 225; go_must (refine (HK.out _).mono ?_); rintro e w1 ⟨rfl, rfl⟩)
    go_ret
    obtain ⟨os1, h1⟩ := HGV.out
    obtain ⟨os2, h2⟩ := HGW.out
    exact ⟨by rw [HC9.out]; rfl, 0, _, by rw [h1, h2, grow_grow]; rfl⟩
  ·go_wp2_with fail
   go_ret
   obtain ⟨os2, h2⟩ := HGW.out
   exact ⟨by rw [HI.out]; rfl, 0, _, by rw [HWR.out, h2, grow_grow]; rfl⟩
end Go.Proofs.YtdjpeimecfhdjaaGreat

namespace Go.Proofs.YtdjpeimecfhdjaaGreat
open Go.RowKit Go.Sort Go.Lib
theorem rat_lt {a b d e : Int} (hd : 1 ≤ d) (he : 1 ≤ e) : a * e < b * d ↔ (a : Rat) / (d : Rat) < (b : Rat) / (e : Rat) := by
 have h1 : (0 : Rat) < (d : Rat) := by exact_mod_cast (show (0 : Int) < d by omega)
 have h2 : (0 : Rat) < (e : Rat) := by exact_mod_cast (show (0 : Int) < e by omega)
 rw [Rat.div_lt_iff h1]
 have e1 : (b : Rat) / (e : Rat) * (d : Rat) = (b * d : Int) / (e : Rat) := by
  rw [Rat.intCast_mul]
  grind
 rw [e1, Rat.lt_div_iff h2]
 constructor
 ·intro h
  exact_mod_cast h
 ·intro h
  exact_mod_cast h
def Qt.k0 (p : Qt) : Rat := (p.w : Rat) / (p.d : Rat)
def Qt.k1 (p : Qt) : Rat := (p.x : Rat) / (p.d : Rat)
def Qt.k2 (p : Qt) : Rat := (p.y : Rat) / (p.d : Rat)
def Qt.k3 (p : Qt) : Rat := (p.z : Rat) / (p.d : Rat)
theorem cmp_neg {a b : Int} : Lib.compareInt a b < 0 ↔ a < b := by
 unfold Lib.compareInt
 split
 ·simp; omega
 ·split <;> simp <;> omega
theorem cmp_zero {a b : Int} : Lib.compareInt a b = 0 ↔ a = b := by
 unfold Lib.compareInt
 split
 ·simp; omega
 ·split <;> simp <;> omega
theorem cfL_neg (a b : Int) (l : List (Int × Int)) : cfL ((a, b) :: l) < 0 ↔ a < b ∨ (a = b ∧ cfL l < 0) := by
 show (if Lib.compareInt a b = 0 then cfL l else Lib.compareInt a b) < 0 ↔ _
 by_cases h : Lib.compareInt a b = 0
 ·rw [if_pos h]
  have := cmp_zero.1 h
  constructor
  ·exact fun h2 => .inr ⟨this, h2⟩
  ·rintro (h2 | h2)
   ·omega
   ·exact h2.2
 ·rw [if_neg h]
  have h3 : ¬ a = b := fun e => h (cmp_zero.2 e)
  rw [cmp_neg]
  constructor
  ·exact .inl
  ·rintro (h2 | h2)
   ·exact h2
   ·exact absurd h2.1 h3
theorem eq_of_nlt {a b : Rat} (h1 : ¬ a < b) (h2 : ¬ b < a) : a = b := by grind
theorem rat_eq {a b d e : Int} (hd : 1 ≤ d) (he : 1 ≤ e) : a * e = b * d ↔ (a : Rat) / (d : Rat) = (b : Rat) / (e : Rat) := by
 constructor
 ·intro h
  refine eq_of_nlt (fun h1 => ?_) (fun h1 => ?_)
  ·have := (rat_lt hd he).2 h1; omega
  ·have := (rat_lt he hd).2 h1; omega
 ·intro h
  rcases Int.lt_trichotomy (a * e) (b * d) with h1 | h1 | h1
  ·have := (rat_lt hd he).1 h1; grind
  ·exact h1
  ·have := (rat_lt he hd).1 h1; grind
theorem cfQ_neg (p q : Qt) : cfQ p q < 0 ↔ p.k0 < q.k0 ∨ (p.k0 = q.k0 ∧ (p.k1 < q.k1 ∨ (p.k1 = q.k1 ∧ (p.k2 < q.k2 ∨ (p.k2 = q.k2 ∧ p.k3 < q.k3))))) := by
 unfold cfQ cfP
 rw [cfL_neg, cfL_neg, cfL_neg, cfL_neg]
 rw [rat_lt p.h0 q.h0, rat_lt p.h0 q.h0, rat_lt p.h0 q.h0, rat_lt p.h0 q.h0, rat_eq p.h0 q.h0, rat_eq p.h0 q.h0, rat_eq p.h0 q.h0]
 show _ ∨ (_ ∧ (_ ∨ (_ ∧ (_ ∨ (_ ∧ (_ ∨ (_ ∧ (0 : Int) < 0))))))) ↔ _
 simp only [Int.lt_irrefl, and_false, or_false]
 rfl
def ltQ : Qt → Qt → Bool := ltOf cfQ
theorem ltQ_iff (p q : Qt) : ltQ p q = true ↔ p.k0 < q.k0 ∨ (p.k0 = q.k0 ∧ (p.k1 < q.k1 ∨ (p.k1 = q.k1 ∧ (p.k2 < q.k2 ∨ (p.k2 = q.k2 ∧ p.k3 < q.k3))))) := by
 unfold ltQ ltOf
 rw [decide_eq_true_iff]
 exact cfQ_neg p q
theorem swoQ : SWO ltQ where
 irrefl p := by
  refine Bool.eq_false_iff.2 fun h => ?_
  rw [ltQ_iff] at h
  grind
 trans p q r h1 h2 := by
  rw [ltQ_iff] at *
  grind
 ntrans p q r h1 h2 := by
  rw [← Bool.not_eq_true, ltQ_iff] at *
  grind
def ecs (L : List Qt) : List Value := L.flatMap Qt.enc
theorem enc_len (p : Qt) : p.enc.length = 5 := rfl
theorem ecs_snoc (L : List Qt) (p : Qt) : ecs (L ++ [p]) = ecs L ++ p.enc := by simp [ecs]
theorem ecs_at : ∀ (L : List Qt) (i : Nat) (p : Qt), L[i]? = some p → ∀ j, j < 5 → (ecs L)[i * 5 + j]? = p.enc[j]?
 | [], i, p, h => by simp at h
 | q :: L, 0, p, h => by
  intro j hj
  simp at h
  subst h
  rw [Nat.zero_mul, Nat.zero_add]
  show (q.enc ++ ecs L)[j]? = _
  rw [List.getElem?_append_left (by rw [enc_len]; exact hj)]
 | q :: L, i + 1, p, h => by
  intro j hj
  show (q.enc ++ ecs L)[(i + 1) * 5 + j]? = _
  rw [List.getElem?_append_right (by rw [enc_len]; omega), enc_len]
  rw [show (i + 1) * 5 + j - 5 = i * 5 + j by omega]
  exact ecs_at L i p (by simpa using h) j hj
def OwnE (w : World) (base : Nat) (v : Value) (L : List Qt) : Prop := w.ownsRow base 148 5 v L.length (ecs L)
theorem info_QuatE : (Tryz.prog.info? 148).map (fun i => (i.zero, i.size, i.bytes)) = some (some (.agg #[.int .i64 0, .int .i64 0, .int .i64 0, .int .i64 0, .int .i64 0]), 5, 40) := by kernel_rfl
theorem holdsQ {w : World} {g : Nat} {L : List Qt} (h : ∀ (i : Nat) (v : Value), (ecs L)[i]? = some v → w.cell? ⟨g, i, none⟩ = some v) (hf : ∀ i, w.frozen? ⟨g, i, none⟩ = false) : HoldsK Qt.enc 5 w g 0 L.toArray := by
 intro t ht
 rw [size_flatK, List.size_toArray] at ht
 have hd : t / 5 < L.length := by omega
 have hm : t % 5 < 5 := Nat.mod_lt _ (by omega)
 have e1 : L.toArray[t / 5]! = L[t / 5] := by rw [getElem!_pos L.toArray (t / 5) (by simpa using hd)]; rfl
 have e2 := ecs_at L (t / 5) L[t / 5] (List.getElem?_eq_getElem hd) (t % 5) hm
 rw [show t / 5 * 5 + t % 5 = t by omega] at e2
 replace e2 := e2.trans (List.getElem?_eq_getElem (show t % 5 < L[t / 5].enc.length by rw [enc_len]; exact hm))
 refine ⟨?_, hf _⟩
 rw [get_flatK _ _ _ _ (by rw [List.size_toArray]; exact ht), e1, Nat.zero_add, h t _ e2]
 simp only [id]
 rw [getElem!_pos _ _ (by rw [enc_len]; exact hm)]
theorem frm_sortWorld {w : World} {g n : Nat} {d : Array Qt} {os : Array Obj} : Frm (· = g) w (sortWorldK Qt.enc 5 w g 0 n d os) := by
 refine ⟨rfl, rfl, rfl, ?_, fun b hb hne => ?_⟩
 ·show w.heap.size ≤ ((putRowK Qt.enc 5 (Sort.ahead w n) g 0 d).heap ++ os).size
  rw [Array.size_append, size_putRowK]
  show w.heap.size ≤ w.heap.size + _
  omega
 ·show ((w.heap.modify g (onCells (putCells id 0 (flatK Qt.enc 5 d)))) ++ os)[b]? = _
  rw [Array.getElem?_append_left (by rw [Array.size_modify]; exact hb), Array.getElem?_modify, if_neg (fun e => hne e.symm)]
theorem SortQ_any {w : World} {g c : Nat} {L : List Qt} (h : HoldsK Qt.enc 5 w g 0 L.toArray) (hg : g < w.heap.size) (hn : L.length < 4611686018427387904) :
  Calls Tryz.prog 169 #[.slice (some ⟨g, 0, none⟩) L.length c, .func (.func 170) #[] #[]] w fun e w' => e = .returned (.tuple #[]) ∧ ∃ d : Array Qt, PermIn 0 L.length L.toArray d ∧ SortedIn ltQ 0 L.length d ∧ HoldsK Qt.enc 5 w' g 0 d ∧ Frm (· = g) w w' := by
 have eg : ∀ args w, (callFunc 170 args).run Tryz.prog w = .ok (.enter 170 args) w := enters_of Tryz.func170 (by kernel_rfl) rfl
 have hcon := AnyQ.slices_SortFunc Tryz.sortQ 5 Tryz.isAgg148 Tryz.sizeOf148 Qt.enc enc_len (fun x v hv => by simp [Qt.enc] at hv; rcases hv with rfl | rfl | rfl | rfl | rfl <;> rfl) cfQ swoQ 170 #[] g 0 c L.toArray w eg (fun m os dk _ x y => cmpQ_any x y _) h hg (by simpa using hn)
 rw [List.size_toArray] at hcon
 change Calls Tryz.prog 169 _ _ _ at hcon
 refine hcon.mono ?_
 rintro e w' ⟨rfl, d', n, os, hp, hs, rfl⟩
 exact ⟨rfl, d', hp, hs, holdsK_sortWorldK Qt.enc 5 w g 0 n L.toArray d' os hg h hp.1, frm_sortWorld⟩
end Go.Proofs.YtdjpeimecfhdjaaGreat

namespace Go.Proofs.YtdjpeimecfhdjaaGreat
open Go.RowKit Go.Sort
def allI (l : List Value) : Prop := ∀ u ∈ l, ∃ x, u = .int .i64 x
theorem allI.app {l m : List Value} (h : allI l) (k : allI m) : allI (l ++ m) := fun u hu => (List.mem_append.1 hu).elim (h u) (k u)
theorem allI.enc (p : Qt) : allI p.enc := fun u hu => by
 simp [Qt.enc] at hu
 rcases hu with rfl | rfl | rfl | rfl | rfl <;> exact ⟨_, rfl⟩
theorem allI.ecs (L : List Qt) : allI (ecs L) := fun u hu => by
 obtain ⟨p, _, hp⟩ := List.mem_flatMap.1 hu
 exact allI.enc p u hp
theorem allI.take {l : List Value} (h : allI l) (n : Nat) : allI (l.take n) := fun u hu => h u (List.mem_of_mem_take hu)
theorem allI.drop {l : List Value} (h : allI l) (n : Nat) : allI (l.drop n) := fun u hu => h u (List.mem_of_mem_drop hu)
theorem allI.zeros (n : Nat) : allI (Builtin.zeroCells #[.int .i64 0, .int .i64 0, .int .i64 0, .int .i64 0, .int .i64 0] n).toList := fun u hu => by
 unfold Builtin.zeroCells at hu
 rw [Array.toList_map] at hu
 obtain ⟨i, _, rfl⟩ := List.mem_map.1 hu
 have h5 : i % 5 < 5 := Nat.mod_lt _ (by omega)
 show ∃ x, (#[Value.int .i64 0, .int .i64 0, .int .i64 0, .int .i64 0, .int .i64 0])[i % 5]! = .int .i64 x
 rcases (show i % 5 = 0 ∨ i % 5 = 1 ∨ i % 5 = 2 ∨ i % 5 = 3 ∨ i % 5 = 4 by omega) with e | e | e | e | e <;> rw [e] <;> exact ⟨0, rfl⟩
def OwnF (w : World) (base : Nat) (v : Value) (L : List Qt) : Prop :=
 (v = .slice none 0 0 ∧ L = []) ∨ (L ≠ [] ∧ ∃ g cap cur, v = .slice (some ⟨g, 0, none⟩) L.length cap ∧ base ≤ g ∧ w.heap[g]? = some (.cells cur 148 (0, 0)) ∧ L.length ≤ cap ∧ cap ≤ maxLen ∧ cur.size = cap * 5 ∧ cur.toList.take (L.length * 5) = ecs L ∧ allI cur.toList)
theorem ecs_length (L : List Qt) : (ecs L).length = L.length * 5 := by
 induction L with
 | nil => rfl
 | cons p L ih =>
  show (p.enc ++ ecs L).length = _
  rw [List.length_append, ih, enc_len, List.length_cons]
  omega
theorem OwnF.own {w : World} {base : Nat} {v : Value} {L : List Qt} (h : OwnF w base v L) : OwnE w base v L := by
 refine ⟨ecs_length L, ?_⟩
 rcases h with ⟨e, rfl⟩ | ⟨_, g, cap, cur, e, h1, h2, h3, h4, h5, h6, _⟩
 ·exact .inl ⟨e, rfl⟩
 ·exact .inr ⟨g, cap, cur, e, h1, h2, h3, h4, h5, h6⟩
theorem OwnF.keep {w w' : World} {base : Nat} {v : Value} {L : List Qt} (h : OwnF w base v L) (hb : ∀ g, v.ownBlock = some g → w'.heap[g]? = w.heap[g]?) : OwnF w' base v L := by
 rcases h with h | ⟨h0, g, cap, cur, e, h1, h2, h3⟩
 ·exact .inl h
 ·exact .inr ⟨h0, g, cap, cur, e, h1, (hb g (by rw [e]; rfl)).trans h2, h3⟩
theorem OwnF.lt {w : World} {base : Nat} {v : Value} {L : List Qt} (h : OwnF w base v L) {g : Nat} (hg : v.ownBlock = some g) : base ≤ g ∧ g < w.heap.size := World.ownsRow.lt h.own g hg
theorem OwnF.below {w w' : World} {base : Nat} {v : Value} {L : List Qt} (h : OwnF w base v L) (hb : Below w.heap.size w w') : OwnF w' base v L := h.keep fun g hg => hb.block g (h.lt hg).2
theorem OwnF.is64 {w : World} {base : Nat} {v : Value} {L : List Qt} (h : OwnF w base v L) {g : Nat} (hg : v.ownBlock = some g) : i64B w g := by
 rcases h with ⟨rfl, _⟩ | ⟨h0, g2, cap, cur, rfl, h1, h2, h3, h4, h5, h6, h7⟩
 ·cases hg
 ·have hg : some g2 = some g := hg
  injection hg with hg
  subst hg
  have hc : ∀ o u, w.cell? ⟨g2, o, none⟩ = some u → u ∈ cur.toList := fun o u hu => by
   have := Arr.cell (xs := cur.toList) (w := w) (g := g2) (t := 148) (by unfold Arr; rw [h2]) o
   rw [hu] at this
   exact List.mem_of_getElem? this.symm
  have hl : 0 < L.length := List.length_pos_iff.2 h0
  have h8 : 0 < cur.size := by omega
  have := Arr.cell (xs := cur.toList) (w := w) (g := g2) (t := 148) (by unfold Arr; rw [h2]) 0
  rw [List.getElem?_eq_getElem (by simpa using h8)] at this
  exact ⟨⟨0, _, this⟩, fun o u hu => h7 u (hc o u hu)⟩
set_option maxHeartbeats 1000000 in
theorem run_appF {w : World} {base : Nat} {v : Value} {L : List Qt} (hown : OwnF w base v L) (p : Qt) (ad : Addr) (c : Nat) (hnews : ∀ j u, p.enc[j]? = some u → w.cell? (ad.add j) = some u) (hlen : L.length + 1 ≤ 1000000) (hbase : base ≤ w.heap.size) (ty : TypeId) :
  ∃ A' c' w', (Builtin.append_ #[88, 88] ty #[v, .slice (some ad) 1 c]).run Tryz.prog w = .ok (.slice A' (L.length + 1) c') w' ∧ OwnF w' base (.slice A' (L.length + 1) c') (L ++ [p]) ∧ w.grownBy w' v.ownBlock := by
 obtain ⟨i, hi, hz, hs, hby⟩ : ∃ i, Tryz.prog.info? 148 = some i ∧ i.zero = some (.agg #[.int .i64 0, .int .i64 0, .int .i64 0, .int .i64 0, .int .i64 0]) ∧ i.size = 5 ∧ i.bytes = 40 := by
  have h := info_QuatE
  cases hq : Tryz.prog.info? 148 with
  | none => rw [hq] at h; cases h
  | some i =>
   rw [hq] at h
   injection h with h
   injection h with h1 h2
   injection h2 with h2 h3
   exact ⟨i, rfl, h1, h2, h3⟩
 have ht : Tryz.prog.underlying 88 = some (.slice 148) := Tryz.underlying88
 have hne : L ++ [p] ≠ [] := by simp
 have hmx : (1000000 : Nat) ≤ maxLen := by unfold maxLen; decide
 rcases hown with ⟨rfl, rfl⟩ | ⟨h0, g, cap, cur, rfl, h1, h2, h3, h4, h5, h6, h7⟩
 ·have hr := run_append_nil (P := Tryz.prog) w 88 ty 148 i _ ht hi hz ad 1 c p.enc (by rw [enc_len, hs]) hnews (by omega) (by omega) (by omega)
  refine ⟨_, _, _, hr, .inr ⟨hne, w.heap.size, _, _, rfl, hbase, heap_alloc_new w.drew _, grownCap_ge w 1 0 _, grownCap_le_maxLen w 1 0 _ (by omega), ?_, ?_, ?_⟩, ⟨rfl, rfl, rfl, by simp, fun k hk _ => heap_alloc_old w.drew _ hk⟩⟩
  ·have := grownCap_ge w 1 0 148
   rw [Array.size_append, size_zeroCells, List.size_toArray, enc_len]
   show 5 + _ * 5 = _
   omega
  ·rw [Array.toList_append, List.nil_append]
   show List.take 5 (p.enc ++ _) = ecs [p]
   rw [List.take_left' (enc_len p)]
   simp [ecs]
  ·rw [Array.toList_append]
   exact (allI.enc p).app (allI.zeros _)
 ·have hcell : ∀ j u, (ecs L)[j]? = some u → w.cell? ((⟨g, 0, none⟩ : Addr).add j) = some u := (OwnF.own (.inr ⟨h0, g, cap, cur, rfl, h1, h2, h3, h4, h5, h6, h7⟩) : OwnE w base _ L).cells (g := g) rfl
  by_cases hroom : L.length + 1 ≤ cap
  ·have hfit : L.length * i.size + p.enc.length ≤ cur.size := by rw [hs, enc_len, h5]; omega
   have hr := run_append_room (P := Tryz.prog) w 88 ty 148 i ht hi g L.length cap cur h2 ad 1 c p.enc (by rw [enc_len, hs]) hnews (fun u hu => by obtain ⟨x, rfl⟩ := allI.enc p u hu; rfl) hroom hfit
   rw [hs] at hr
   refine ⟨_, _, _, hr, .inr ⟨hne, g, cap, _, by rw [List.length_append]; rfl, h1, setRow_heap w g cur _ _ _ h2, by rw [List.length_append]; exact hroom, h4, ?_, ?_, ?_⟩, ⟨rfl, rfl, rfl, by simp [World.setRow], fun k _ hk => setRow_other w g k _ (fun e => hk (by simp [Value.ownBlock, e]))⟩⟩
   ·rw [hs] at hfit
    simp only [List.size_toArray, List.length_append, List.length_take, List.length_drop, Array.length_toList]
    omega
   ·rw [h6, ecs_snoc, List.length_append]
    show List.take ((L.length + 1) * 5) _ = _
    rw [show (L.length + 1) * 5 = (ecs L ++ p.enc).length by rw [List.length_append, ecs_length, enc_len]; omega]
    exact List.take_left
   ·exact ((h7.take _).app (allI.enc p)).app (h7.drop _)
  ·have hr := run_append_grow (P := Tryz.prog) w 88 ty 148 i _ ht hi hz ⟨g, 0, none⟩ L.length cap (ecs L) (by rw [ecs_length, hs]) hcell ad 1 c p.enc (by rw [enc_len, hs]) hnews (by omega) (by omega) (growslice_fits (by omega) (by rw [hby]; omega))
   refine ⟨_, _, _, hr, .inr ⟨hne, w.heap.size, _, _, by rw [List.length_append]; rfl, hbase, heap_alloc_new w.drew _, by rw [List.length_append]; exact grownCap_ge w (L.length + 1) cap _, grownCap_le_maxLen w (L.length + 1) cap _ (by omega), ?_, ?_, ?_⟩, ⟨rfl, rfl, rfl, by simp, fun k hk _ => heap_alloc_old w.drew _ hk⟩⟩
   ·have := grownCap_ge w (L.length + 1) cap 148
    rw [Array.size_append, Array.size_append, size_zeroCells, List.size_toArray, List.size_toArray, enc_len, ecs_length]
    show _ + 5 + _ * 5 = _
    omega
   ·rw [Array.toList_append, Array.toList_append, ecs_snoc, List.length_append]
    show List.take ((L.length + 1) * 5) ((ecs L ++ p.enc) ++ _) = _
    rw [show (L.length + 1) * 5 = (ecs L ++ p.enc).length by rw [List.length_append, ecs_length, enc_len]; omega]
    exact List.take_left
   ·rw [Array.toList_append, Array.toList_append]
    exact ((allI.ecs L).app (allI.enc p)).app (allI.zeros _)
theorem wp_appF {o : Oper} {a : Act} {w : World} {K : Act → World → Prop} {Q : Exit → Act → World → Prop} (s x : Operand)
  (ho : o.op = .call { callee := .builtin .append, args := #[s, x], argTypes := #[88, 88] })
  {base : Nat} {v : Value} {L : List Qt} (hs : a.eval s = v) (hown : OwnF w base v L) (p : Qt) (ad : Addr) (c : Nat) (hx : a.eval x = .slice (some ad) 1 c) (hnews : ∀ j u, p.enc[j]? = some u → w.cell? (ad.add j) = some u) (hlen : L.length + 1 ≤ 1000000) (hbase : base ≤ w.heap.size)
  (h : ∀ A' c' w', OwnF w' base (.slice A' (L.length + 1) c') (L ++ [p]) → w.grownBy w' v.ownBlock → K (a.put o.dst (.slice A' (L.length + 1) c')) w') : o.wp Tryz.prog a w K Q := by
 obtain ⟨A', c', w', hr, h2, h3⟩ := run_appF hown p ad c hnews hlen hbase o.type
 unfold Oper.wp execOp
 simp only [ho, resolve, invoke, builtin, Sem.run_bind, Sem.run_pure, Result.andThen_ok, List.map_toArray, List.map_cons, List.map_nil, hs, hx, hr]
 exact h _ _ _ h2 h3
end Go.Proofs.YtdjpeimecfhdjaaGreat
