/- Package ideal: the matrix of the traces (gram). Package ideal: fractions in lowest terms, and handed back as machine integers. -/
import Derived.Test.YtdjpeimecfhdjaaGreatXn
import Derived.Test.YtdjpeimecfhdjaaGreatXl
import Derived.Test.YtdjpeimecfhdjaaGreatXk
namespace Go.Proofs.YtdjpeimecfhdjaaGreat
open Go.RowKit
theorem mat4 (V : World) (x00 x01 x02 x03 x10 x11 x12 x13 x20 x21 x22 x23 x30 x31 x32 x33 : Int) : RowsD IsD (((((V.alloc (.cells #[.int .i64 x00, .int .i64 x01, .int .i64 x02, .int .i64 x03] 3)).alloc (.cells #[.int .i64 x10, .int .i64 x11, .int .i64 x12, .int .i64 x13] 3)).alloc (.cells #[.int .i64 x20, .int .i64 x21, .int .i64 x22, .int .i64 x23] 3)).alloc (.cells #[.int .i64 x30, .int .i64 x31, .int .i64 x32, .int .i64 x33] 3)).alloc (.cells #[.slice (some ⟨V.heap.size, 0, none⟩) 4 4, .slice (some ⟨V.heap.size + 1, 0, none⟩) 4 4, .slice (some ⟨V.heap.size + 1 + 1, 0, none⟩) 4 4, .slice (some ⟨V.heap.size + 1 + 1 + 1, 0, none⟩) 4 4] 48)) (fun _ => True) (.slice (some ⟨V.heap.size + 1 + 1 + 1 + 1, 0, none⟩) 4 4) [[x00, x01, x02, x03], [x10, x11, x12, x13], [x20, x21, x22, x23], [x30, x31, x32, x33]] := by
 have hrow : ∀ (w : World) (g : Nat) (a b c d : Int), Arr w g 3 [.int .i64 a, .int .i64 b, .int .i64 c, .int .i64 d] → IsD w (fun _ => True) (.slice (some ⟨g, 0, none⟩) 4 4) [a, b, c, d] := fun w g a b c d h =>
  ⟨_, 4, rfl, Nat.le_refl _, by unfold maxLen; omega, fun _ => ⟨g, 0, rfl, trivial, fun j hj => by
   rw [Nat.zero_add, h.cell]
   match j, hj with
   | 0, _ => rfl
   | 1, _ => rfl
   | 2, _ => rfl
   | 3, _ => rfl⟩⟩
 have a0 : Arr (((((V.alloc (.cells #[.int .i64 x00, .int .i64 x01, .int .i64 x02, .int .i64 x03] 3)).alloc (.cells #[.int .i64 x10, .int .i64 x11, .int .i64 x12, .int .i64 x13] 3)).alloc (.cells #[.int .i64 x20, .int .i64 x21, .int .i64 x22, .int .i64 x23] 3)).alloc (.cells #[.int .i64 x30, .int .i64 x31, .int .i64 x32, .int .i64 x33] 3)).alloc (.cells #[.slice (some ⟨V.heap.size, 0, none⟩) 4 4, .slice (some ⟨V.heap.size + 1, 0, none⟩) 4 4, .slice (some ⟨V.heap.size + 1 + 1, 0, none⟩) 4 4, .slice (some ⟨V.heap.size + 1 + 1 + 1, 0, none⟩) 4 4] 48)) (V.heap.size) 3 [.int .i64 x00, .int .i64 x01, .int .i64 x02, .int .i64 x03] := by
  have h := Arr.new V 3 [.int .i64 x00, .int .i64 x01, .int .i64 x02, .int .i64 x03]
  have h2 := (((h.alloc (.cells #[.int .i64 x10, .int .i64 x11, .int .i64 x12, .int .i64 x13] 3)).alloc (.cells #[.int .i64 x20, .int .i64 x21, .int .i64 x22, .int .i64 x23] 3)).alloc (.cells #[.int .i64 x30, .int .i64 x31, .int .i64 x32, .int .i64 x33] 3)).alloc (.cells #[.slice (some ⟨V.heap.size, 0, none⟩) 4 4, .slice (some ⟨V.heap.size + 1, 0, none⟩) 4 4, .slice (some ⟨V.heap.size + 1 + 1, 0, none⟩) 4 4, .slice (some ⟨V.heap.size + 1 + 1 + 1, 0, none⟩) 4 4] 48)
  simpa using h2
 have a1 : Arr (((((V.alloc (.cells #[.int .i64 x00, .int .i64 x01, .int .i64 x02, .int .i64 x03] 3)).alloc (.cells #[.int .i64 x10, .int .i64 x11, .int .i64 x12, .int .i64 x13] 3)).alloc (.cells #[.int .i64 x20, .int .i64 x21, .int .i64 x22, .int .i64 x23] 3)).alloc (.cells #[.int .i64 x30, .int .i64 x31, .int .i64 x32, .int .i64 x33] 3)).alloc (.cells #[.slice (some ⟨V.heap.size, 0, none⟩) 4 4, .slice (some ⟨V.heap.size + 1, 0, none⟩) 4 4, .slice (some ⟨V.heap.size + 1 + 1, 0, none⟩) 4 4, .slice (some ⟨V.heap.size + 1 + 1 + 1, 0, none⟩) 4 4] 48)) (V.heap.size + 1) 3 [.int .i64 x10, .int .i64 x11, .int .i64 x12, .int .i64 x13] := by
  have h := Arr.new (V.alloc (.cells #[.int .i64 x00, .int .i64 x01, .int .i64 x02, .int .i64 x03] 3)) 3 [.int .i64 x10, .int .i64 x11, .int .i64 x12, .int .i64 x13]
  have h2 := ((h.alloc (.cells #[.int .i64 x20, .int .i64 x21, .int .i64 x22, .int .i64 x23] 3)).alloc (.cells #[.int .i64 x30, .int .i64 x31, .int .i64 x32, .int .i64 x33] 3)).alloc (.cells #[.slice (some ⟨V.heap.size, 0, none⟩) 4 4, .slice (some ⟨V.heap.size + 1, 0, none⟩) 4 4, .slice (some ⟨V.heap.size + 1 + 1, 0, none⟩) 4 4, .slice (some ⟨V.heap.size + 1 + 1 + 1, 0, none⟩) 4 4] 48)
  simpa using h2
 have a2 : Arr (((((V.alloc (.cells #[.int .i64 x00, .int .i64 x01, .int .i64 x02, .int .i64 x03] 3)).alloc (.cells #[.int .i64 x10, .int .i64 x11, .int .i64 x12, .int .i64 x13] 3)).alloc (.cells #[.int .i64 x20, .int .i64 x21, .int .i64 x22, .int .i64 x23] 3)).alloc (.cells #[.int .i64 x30, .int .i64 x31, .int .i64 x32, .int .i64 x33] 3)).alloc (.cells #[.slice (some ⟨V.heap.size, 0, none⟩) 4 4, .slice (some ⟨V.heap.size + 1, 0, none⟩) 4 4, .slice (some ⟨V.heap.size + 1 + 1, 0, none⟩) 4 4, .slice (some ⟨V.heap.size + 1 + 1 + 1, 0, none⟩) 4 4] 48)) (V.heap.size + 1 + 1) 3 [.int .i64 x20, .int .i64 x21, .int .i64 x22, .int .i64 x23] := by
  have h := Arr.new ((V.alloc (.cells #[.int .i64 x00, .int .i64 x01, .int .i64 x02, .int .i64 x03] 3)).alloc (.cells #[.int .i64 x10, .int .i64 x11, .int .i64 x12, .int .i64 x13] 3)) 3 [.int .i64 x20, .int .i64 x21, .int .i64 x22, .int .i64 x23]
  have h2 := (h.alloc (.cells #[.int .i64 x30, .int .i64 x31, .int .i64 x32, .int .i64 x33] 3)).alloc (.cells #[.slice (some ⟨V.heap.size, 0, none⟩) 4 4, .slice (some ⟨V.heap.size + 1, 0, none⟩) 4 4, .slice (some ⟨V.heap.size + 1 + 1, 0, none⟩) 4 4, .slice (some ⟨V.heap.size + 1 + 1 + 1, 0, none⟩) 4 4] 48)
  simpa using h2
 have a3 : Arr (((((V.alloc (.cells #[.int .i64 x00, .int .i64 x01, .int .i64 x02, .int .i64 x03] 3)).alloc (.cells #[.int .i64 x10, .int .i64 x11, .int .i64 x12, .int .i64 x13] 3)).alloc (.cells #[.int .i64 x20, .int .i64 x21, .int .i64 x22, .int .i64 x23] 3)).alloc (.cells #[.int .i64 x30, .int .i64 x31, .int .i64 x32, .int .i64 x33] 3)).alloc (.cells #[.slice (some ⟨V.heap.size, 0, none⟩) 4 4, .slice (some ⟨V.heap.size + 1, 0, none⟩) 4 4, .slice (some ⟨V.heap.size + 1 + 1, 0, none⟩) 4 4, .slice (some ⟨V.heap.size + 1 + 1 + 1, 0, none⟩) 4 4] 48)) (V.heap.size + 1 + 1 + 1) 3 [.int .i64 x30, .int .i64 x31, .int .i64 x32, .int .i64 x33] := by
  have h := Arr.new (((V.alloc (.cells #[.int .i64 x00, .int .i64 x01, .int .i64 x02, .int .i64 x03] 3)).alloc (.cells #[.int .i64 x10, .int .i64 x11, .int .i64 x12, .int .i64 x13] 3)).alloc (.cells #[.int .i64 x20, .int .i64 x21, .int .i64 x22, .int .i64 x23] 3)) 3 [.int .i64 x30, .int .i64 x31, .int .i64 x32, .int .i64 x33]
  have h2 := h.alloc (.cells #[.slice (some ⟨V.heap.size, 0, none⟩) 4 4, .slice (some ⟨V.heap.size + 1, 0, none⟩) 4 4, .slice (some ⟨V.heap.size + 1 + 1, 0, none⟩) 4 4, .slice (some ⟨V.heap.size + 1 + 1 + 1, 0, none⟩) 4 4] 48)
  simpa using h2
 have ao : Arr (((((V.alloc (.cells #[.int .i64 x00, .int .i64 x01, .int .i64 x02, .int .i64 x03] 3)).alloc (.cells #[.int .i64 x10, .int .i64 x11, .int .i64 x12, .int .i64 x13] 3)).alloc (.cells #[.int .i64 x20, .int .i64 x21, .int .i64 x22, .int .i64 x23] 3)).alloc (.cells #[.int .i64 x30, .int .i64 x31, .int .i64 x32, .int .i64 x33] 3)).alloc (.cells #[.slice (some ⟨V.heap.size, 0, none⟩) 4 4, .slice (some ⟨V.heap.size + 1, 0, none⟩) 4 4, .slice (some ⟨V.heap.size + 1 + 1, 0, none⟩) 4 4, .slice (some ⟨V.heap.size + 1 + 1 + 1, 0, none⟩) 4 4] 48)) (V.heap.size + 1 + 1 + 1 + 1) 48 [.slice (some ⟨V.heap.size, 0, none⟩) 4 4, .slice (some ⟨V.heap.size + 1, 0, none⟩) 4 4, .slice (some ⟨V.heap.size + 1 + 1, 0, none⟩) 4 4, .slice (some ⟨V.heap.size + 1 + 1 + 1, 0, none⟩) 4 4] := by
  have h := Arr.new ((((V.alloc (.cells #[.int .i64 x00, .int .i64 x01, .int .i64 x02, .int .i64 x03] 3)).alloc (.cells #[.int .i64 x10, .int .i64 x11, .int .i64 x12, .int .i64 x13] 3)).alloc (.cells #[.int .i64 x20, .int .i64 x21, .int .i64 x22, .int .i64 x23] 3)).alloc (.cells #[.int .i64 x30, .int .i64 x31, .int .i64 x32, .int .i64 x33] 3)) 48 [.slice (some ⟨V.heap.size, 0, none⟩) 4 4, .slice (some ⟨V.heap.size + 1, 0, none⟩) 4 4, .slice (some ⟨V.heap.size + 1 + 1, 0, none⟩) 4 4, .slice (some ⟨V.heap.size + 1 + 1 + 1, 0, none⟩) 4 4]
  simpa using h
 refine ⟨_, 4, [.slice (some ⟨V.heap.size, 0, none⟩) 4 4, .slice (some ⟨V.heap.size + 1, 0, none⟩) 4 4, .slice (some ⟨V.heap.size + 1 + 1, 0, none⟩) 4 4, .slice (some ⟨V.heap.size + 1 + 1 + 1, 0, none⟩) 4 4], rfl, Nat.le_refl _, by unfold maxLen; omega, rfl, fun _ => ⟨_, 0, rfl, trivial, fun j u hu => by rw [Nat.zero_add, ao.cell]; exact hu⟩, fun i u x hu hx => ?_⟩
 match i with
 | 0 => simp only [List.getElem?_cons_zero, Option.some.injEq] at hu hx; subst hu hx; exact hrow _ _ _ _ _ _ a0
 | 1 => simp only [List.getElem?_cons_succ, List.getElem?_cons_zero, Option.some.injEq] at hu hx; subst hu hx; exact hrow _ _ _ _ _ _ a1
 | 2 => simp only [List.getElem?_cons_succ, List.getElem?_cons_zero, Option.some.injEq] at hu hx; subst hu hx; exact hrow _ _ _ _ _ _ a2
 | 3 => simp only [List.getElem?_cons_succ, List.getElem?_cons_zero, Option.some.injEq] at hu hx; subst hu hx; exact hrow _ _ _ _ _ _ a3
 | n + 4 => simp at hu
def formL (aA aB : Int) : List (List Int) := [[2, 0, 0, 0], [0, -2 * aA, 0, 0], [0, 0, -2 * aB, 0], [0, 0, 0, 2 * aA * aB]]
def gramL (aA aB : Int) (R : List (List Int)) : List (List Int) := tms (tms R (formL aA aB)) (trs R)
set_option maxRecDepth 100000 in
set_option maxHeartbeats 4000000 in
theorem gram_any {w : World} {lo : Nat} {v : Value} {aA aB d : Int} {R : List (List Int)} (h : NetI w lo v aA aB R d) (h1 : -1000 ≤ aA ∧ aA ≤ 1000) (h2 : -1000 ≤ aB ∧ aB ≤ 1000) (hl : R.length = 4) (h4 : ∀ l ∈ R, l.length = 4) (hf : fitM R = true) (hft : fitM (tms R (formL aA aB)) = true) :
  Calls Tryz.prog 161 #[v] w (Gives w fun w' v => RowsD PvD w' (w.heap.size ≤ ·) v (gramL aA aB R)) := by
 obtain ⟨A, c, n1, A2, m2, c2, rfl, hR, hd⟩ := h
 obtain ⟨W, hW⟩ : ∃ W, W = w.alloc (.cells #[.int .i64 aA, .int .i64 aB, .slice A R.length c, .bool n1, .slice A2 m2 c2] 136) := ⟨_, rfl⟩
 have hbW : Below w.heap.size w W := by rw [hW]; exact (Below.refl _ _).alloc (Nat.le_refl _) _
 have b0 : W.cell? ⟨w.heap.size, 0, none⟩ = some (.int .i64 aA) := by rw [hW]; go_simp
 have b1 : W.cell? ⟨w.heap.size, 1, none⟩ = some (.int .i64 aB) := by rw [hW]; go_simp
 have b2 : W.cell? ⟨w.heap.size, 2, none⟩ = some (.slice A R.length c) := by rw [hW]; go_simp
 have hP0 : w.heap.size < W.heap.size := cell_lt b0
 have HWW := Lib.hid hW
 clear hW
 have w1 : IntKind.i64.wrap (-2 * aA) = -2 * aA := IntWalk.i64_in _ (by omega)
 have w2 : IntKind.i64.wrap (-2 * aB) = -2 * aB := IntWalk.i64_in _ (by omega)
 have w3 : IntKind.i64.wrap (2 * aA) = 2 * aA := IntWalk.i64_in _ (by omega)
 have hab : -1000000 ≤ aA * aB ∧ aA * aB ≤ 1000000 := by
  have h1 : (aA * aB).natAbs ≤ 1000 * 1000 := by rw [Int.natAbs_mul]; exact Nat.mul_le_mul (by omega) (by omega)
  omega
 have w4 : IntKind.i64.wrap (2 * aA * aB) = 2 * aA * aB := IntWalk.i64_in _ (by rw [Int.mul_assoc]; omega)
 have m0 : Below W.heap.size W (W.alloc (.cells #[.int .i64 2, .int .i64 0, .int .i64 0, .int .i64 0] 3)) := ((Below.refl _ _).alloc (Nat.le_refl _) _)
 have k00 := keepB m0 b0
 have k01 := keepB m0 b1
 have m1 : Below W.heap.size W ((W.alloc (.cells #[.int .i64 2, .int .i64 0, .int .i64 0, .int .i64 0] 3)).alloc (.cells #[.int .i64 0, .int .i64 (-2 * aA), .int .i64 0, .int .i64 0] 3)) := (((Below.refl _ _).alloc (Nat.le_refl _) _).alloc (by simp <;> omega) _)
 have k10 := keepB m1 b0
 have k11 := keepB m1 b1
 have m2 : Below W.heap.size W (((W.alloc (.cells #[.int .i64 2, .int .i64 0, .int .i64 0, .int .i64 0] 3)).alloc (.cells #[.int .i64 0, .int .i64 (-2 * aA), .int .i64 0, .int .i64 0] 3)).alloc (.cells #[.int .i64 0, .int .i64 0, .int .i64 (-2 * aB), .int .i64 0] 3)) := ((((Below.refl _ _).alloc (Nat.le_refl _) _).alloc (by simp <;> omega) _).alloc (by simp <;> omega) _)
 have k20 := keepB m2 b0
 have k21 := keepB m2 b1
 have m5 : Below W.heap.size W ((W.alloc (.cells #[.int .i64 2, .int .i64 0, .int .i64 0, .int .i64 0] 3)).alloc (.cells #[.int .i64 0, .int .i64 (-2 * aA), .int .i64 0, .int .i64 0] 3) |>.alloc (.cells #[.int .i64 0, .int .i64 0, .int .i64 (-2 * aB), .int .i64 0] 3) |>.alloc (.cells #[.int .i64 0, .int .i64 0, .int .i64 0, .int .i64 (2 * aA * aB)] 3) |>.alloc (.cells #[.slice (some ⟨W.heap.size, 0, none⟩) 4 4, .slice (some ⟨W.heap.size + 1, 0, none⟩) 4 4, .slice (some ⟨W.heap.size + 1 + 1, 0, none⟩) 4 4, .slice (some ⟨W.heap.size + 1 + 1 + 1, 0, none⟩) 4 4] 48)) := (m2.alloc (by simp <;> omega) _).alloc (by simp <;> omega) _
 have HM5 := Lib.hid m5
 clear m0 m1 m2 m5
 have HR := Lib.hid (RowsD.t (RowsD.below hR hbW))
 have HF := Lib.hid (show fitM (formL aA aB) = true from List.all_eq_true.mpr fun l hl => List.all_eq_true.mpr fun x hx => fit_small (by
  unfold formL at hl
  simp only [List.mem_cons, List.not_mem_nil, or_false] at hl
  rcases hl with rfl | rfl | rfl | rfl <;> simp only [List.mem_cons, List.not_mem_nil, or_false] at hx <;> rcases hx with rfl | rfl | rfl | rfl <;> (try rw [Int.mul_assoc]) <;> omega))
 have HI := Lib.hid (show ∀ l ∈ formL aA aB, i64R l from fun l hl x hx => by
  unfold formL at hl
  simp only [List.mem_cons, List.not_mem_nil, or_false] at hl
  rcases hl with rfl | rfl | rfl | rfl <;> simp only [List.mem_cons, List.not_mem_nil, or_false] at hx <;> rcases hx with rfl | rfl | rfl | rfl <;> (try rw [Int.mul_assoc]) <;> omega)
 have HL4 := Lib.hid (show ∀ l ∈ formL aA aB, l.length = 4 from fun l hl => by
  unfold formL at hl
  simp only [List.mem_cons, List.not_mem_nil, or_false] at hl
  rcases hl with rfl | rfl | rfl | rfl <;> rfl)
 have HRF := Lib.hid hf
 have HR4 := Lib.hid h4
 have HFT := Lib.hid hft
 have HQL := Lib.hid hl
 clear hR hd hab hf h4 hft h1 h2 hl
 generalize hql : R.length = q at *
 have HQ2 := Lib.hid hql
 clear hql
 go_enter Tryz.func161, Tryz.ntmps161
 go_upto_region 1 with (fail)
 rw [← HWW.out]
 go_upto_region 2 with (go_at_call 129; go_must (refine (wOf_any (mat4 W 2 0 0 0 0 (-2 * aA) 0 0 0 0 (-2 * aB) 0 0 0 0 (2 * aA * aB)) (by omega) (fun l hl => by rw [HL4.out l hl]; omega) HI.out).mono ?_); rintro e w5 ⟨v5, rfl, hv5, hb5⟩)
 obtain ⟨A5, c5, rfl⟩ := RowsD.slice_ hv5 (n := 4) rfl
 have hb6 : Below W.heap.size W w5 := HM5.out.trans (hb5.mono HM5.out.size)
 have HV5 := Lib.hid (RowsD.t hv5)
 replace b2 := keepW hb6 hP0 b2
 have hP5 : w.heap.size < w5.heap.size := Nat.lt_of_lt_of_le hP0 hb6.size
 have HR5 := Lib.hid (RowsD.below HR.out hb6)
 have HB6 := Lib.hid (hbW.trans (hb6.mono hbW.size))
 have hq4 : q = 4 := HQL.out
 clear hb5 hv5 hb6 HR k00 k01 k10 k11 k20 k21 w1 w2 w3 w4
 have hs0 : Below w5.heap.size w5 w5.drew := (Below.refl _ _).drew
 refine wp_region_tq5 (.read 0 (.read 1 (.read 2 (.read 4 (.read 5 (.step 3 (.step 6 (.step 7 (.step 8 .nil))))))))) [] (by kernel_rfl) (by rfl) (by kernel_rfl) (by kernel_rfl) (fun V => Below w5.heap.size w5 V) ?_
 change goU _ _ _ _ _ _ _ w5.drew
 refine goU_read 26 hs0 (by rfl) (by rfl) ?_ (by rfl) (fun wz hSw => ?_) ?_
 rotate_left
 ·have y0 := keepW hSw hP5 b2; go_simp
  try with_reducible rfl
 simp only [sIB, List.set]
 refine goU_read 27 hs0 (by rfl) (by rfl) ?_ (by rfl) (fun wz hSw => ?_) ?_
 rotate_left
 ·have y0 := keepW hSw hP5 b2; go_simp
  try with_reducible rfl
 simp only [sIB, List.set]
 refine goU_read 28 hs0 (by rfl) (by rfl) ?_ (by rfl) (fun wz hSw => ?_) ?_
 rotate_left
 ·have y0 := keepW hSw hP5 b2; go_simp
  try with_reducible rfl
 simp only [sIB, List.set]
 refine goU_read 30 hs0 (by rfl) (by rfl) ?_ (by rfl) (fun wz hSw => ?_) ?_
 rotate_left
 ·have y0 := keepW hSw hP5 b2; go_simp
  try with_reducible rfl
 simp only [sIB, List.set]
 refine goU_read 31 hs0 (by rfl) (by rfl) ?_ (by rfl) (fun wz hSw => ?_) ?_
 rotate_left
 ·have y0 := keepW hSw hP5 b2; go_simp
  try with_reducible rfl
 simp only [sIB, List.set]
 refine goU_call 29 (by rfl) (by rfl) (by rfl) (by go_simp) (Times_any (n := 4) (RowsD.below HR5.out hs0) (RowsD.below HV5.out hs0) (by omega) (by omega) (by omega) (by omega) (by omega) HR4.out HL4.out HRF.out HF.out) ?_
 rintro e w6 ⟨v6, rfl, hv6, hb7⟩
 obtain ⟨A6, c6, rfl⟩ := RowsD.slice_ hv6 (n := q) (by unfold tms; rw [List.length_map]; exact HQ2.out)
 have hs1 := hs0.trans (hb7.mono hs0.size)
 have HV6 := Lib.hid (RowsD.t hv6)
 refine ⟨_, rfl, fun _ => hs1, ?_⟩
 simp only [sIB, List.set]
 refine goU_call 32 (by rfl) (by rfl) (by rfl) (by go_simp) (Transposed_any (n := 4) (RowsD.below HR5.out hs1) (by omega) (by omega) (by omega) HR4.out) ?_
 rintro e w7 ⟨v7, rfl, hv7, hb8⟩
 have hl0 : (rw_ R 0).length = 4 := HR4.out _ (rw_mem (by rw [HQ2.out]; omega))
 obtain ⟨A7, c7, rfl⟩ := RowsD.slice_ hv7 (n := 4) (by rw [trs_length, hl0])
 have hs2 := hs1.trans (hb8.mono hs1.size)
 have HV7 := Lib.hid hv7
 refine ⟨_, rfl, fun _ => hs2, ?_⟩
 simp only [sIB, List.set]
 have hlT : ∀ l ∈ trs R, l.length = q := fun l hl => by
  obtain ⟨k, hk, rfl⟩ := List.mem_map.1 hl
  rw [List.length_map, HQ2.out]
 have hlM : ∀ l ∈ tms R (formL aA aB), l.length = 4 := fun l hl => by
  obtain ⟨r, hr, rfl⟩ := List.mem_map.1 hl
  rw [rowT_length]
  rfl
 have hfT : fitM (trs R) = true := List.all_eq_true.mpr fun l hl => by
  obtain ⟨k, hk, rfl⟩ := List.mem_map.1 hl
  refine List.all_eq_true.mpr fun x hx => ?_
  obtain ⟨r, hr, rfl⟩ := List.mem_map.1 hx
  exact fitR_gz (fitM_mem HRF.out hr) k
 refine goU_call 33 (by rfl) (by rfl) (by rfl) (by go_simp) (Times_any (n := q) (RowsD.below HV6.out hb8) HV7.out (by omega) (by omega) (by omega) (by omega) (by omega) hlM hlT HFT.out hfT) ?_
 rintro e w8 ⟨v8, rfl, hv8, hb9⟩
 have hs3 := hs2.trans (hb9.mono hs2.size)
 refine ⟨_, rfl, fun _ => hs3, ?_⟩
 simp only [sIB, List.set]
 have HV8 := Lib.hid hv8
 clear hv6 hv7 hv8 hlT hlM hfT
 refine goU_step (by rfl) ?_
 go_wp2_with fail
 try (refine ⟨fun _ => hs3, ?_⟩)
 refine goU_nilN ?_
 go_wp2_with fail
 go_ret
 exact ⟨_, rfl, RowsD.mono HV8.out fun b (hb : _ ≤ b) _ => by have h1 := hs2.size; have h2 := HB6.out.size; show w.heap.size ≤ b; omega, HB6.out.trans (hs3.mono HB6.out.size)⟩
end Go.Proofs.YtdjpeimecfhdjaaGreat

namespace Go.Proofs.YtdjpeimecfhdjaaGreat
open Go.RowKit
def FrV (w : World) (D : Nat → Prop) (v : Value) (num den : Int) : Prop :=
 ∃ n1 A1 m1 c1 n2 A2 m2 c2, v = .agg #[.bool n1, .slice A1 m1 c1, .bool n2, .slice A2 m2 c2] ∧ NIntV w D (.agg #[.bool n1, .slice A1 m1 c1]) num ∧ NIntV w D (.agg #[.bool n2, .slice A2 m2 c2]) den
set_option maxRecDepth 100000 in
set_option maxHeartbeats 4000000 in
theorem lowest_any {w : World} {D : Nat → Prop} {v : Value} {num den : Int} (h : FrV w D v num den) (hn : wl num.natAbs ≤ 400000000000) (hd : wl den.natAbs ≤ 400000000000) (hg : (Int.gcd num den : Int) ≠ 0) :
  Calls Tryz.prog 163 #[v] w (Gives w fun w' v => FrV w' (w.heap.size ≤ ·) v (num / (Int.gcd num den : Int)) (den / (Int.gcd num den : Int))) := by
 obtain ⟨n1, A1, m1, c1, n2, A2, m2, c2, rfl, h1, h2⟩ := h
 obtain ⟨W, hW⟩ : ∃ W, W = (w.alloc (.cells #[.bool n1, .slice A1 m1 c1, .bool n2, .slice A2 m2 c2] 140)).alloc (.cells #[.bool false, .slice none 0 0, .bool false, .slice none 0 0] 140) := ⟨_, rfl⟩
 obtain ⟨R, hR⟩ : ∃ R, R = w.heap.size + 1 := ⟨_, rfl⟩
 have hbW : Below w.heap.size w W := by rw [hW]; exact ((Below.refl _ _).alloc (Nat.le_refl _) _).alloc (by simp) _
 have b0 : W.cell? ⟨w.heap.size, 0, none⟩ = some (.bool n1) := by rw [hW]; go_simp
 have b1 : W.cell? ⟨w.heap.size, 1, none⟩ = some (.slice A1 m1 c1) := by rw [hW]; go_simp
 have b2 : W.cell? ⟨w.heap.size, 2, none⟩ = some (.bool n2) := by rw [hW]; go_simp
 have b3 : W.cell? ⟨w.heap.size, 3, none⟩ = some (.slice A2 m2 c2) := by rw [hW]; go_simp
 have hRA : Arr W R 140 [.bool false, .slice none 0 0, .bool false, .slice none 0 0] := by
  rw [hW, hR]
  have := Arr.new (w.alloc (.cells #[.bool n1, .slice A1 m1 c1, .bool n2, .slice A2 m2 c2] 140)) 140 [.bool false, .slice none 0 0, .bool false, .slice none 0 0]
  simpa using this
 have hP0 : w.heap.size < W.heap.size := cell_lt b0
 have hR0 : R < W.heap.size := hRA.lt
 have hwR : w.heap.size ≤ R := by omega
 have HRA := Lib.hid hRA
 have HWW := Lib.hid hW
 have HRR := Lib.hid hR
 have H1 := Lib.hid (h1.below hbW)
 have H2 := Lib.hid (h2.below hbW)
 have HGW := Lib.hid (show wl (Int.gcd num den : Int).natAbs ≤ 900000000000 by rw [Int.natAbs_natCast]; exact Nat.le_trans (wl_gcd num den (B := 400000000000) hn hd) (by omega))
 have HG0 := Lib.hid hg
 have HN := Lib.hid hn
 have HD := Lib.hid hd
 clear hW hR hRA h1 h2 hg hn hd
 generalize hgd : (Int.gcd num den : Int) = g at *
 have HGD := Lib.hid hgd
 go_enter Tryz.func163, Tryz.ntmps163
 go_upto_region 1 with (fail)
 rw [← HWW.out, ← HRR.out]
 go_upto_region 2 with (go_at_call 162; go_must (refine (Gcd_any H1.out.int H2.out.int (Nat.le_trans HN.out (by omega)) (Nat.le_trans HD.out (by omega))).mono ?_); rintro e w2 ⟨v2, rfl, hv2, hb2⟩; obtain ⟨n3, A3, m3, c3, rfl, hw2⟩ := hv2.shp)
 obtain ⟨w3, hw3⟩ : ∃ w3, w3 = w2.alloc (.cells #[.bool n3, .slice A3 m3 c3] 40) := ⟨_, rfl⟩
 obtain ⟨G, hG⟩ : ∃ G, G = w2.heap.size := ⟨_, rfl⟩
 have HB3 : Below w2.heap.size w2 w3 := by rw [hw3]; exact (Below.refl _ _).alloc (Nat.le_refl _) _
 have g0 : w3.cell? ⟨G, 0, none⟩ = some (.bool n3) := by rw [hw3, hG]; go_simp
 have g1 : w3.cell? ⟨G, 1, none⟩ = some (.slice A3 m3 c3) := by rw [hw3, hG]; go_simp
 rw [← hw3, ← hG]
 have hg2 : G < w3.heap.size := cell_lt g0
 rw [HGD.out] at hw2
 have hb3 := hb2.trans (HB3.mono hb2.size)
 replace b0 := keepW hb3 hP0 b0
 replace b1 := keepW hb3 hP0 b1
 replace b2 := keepW hb3 hP0 b2
 replace b3 := keepW hb3 hP0 b3
 have hP2 : w.heap.size < w3.heap.size := Nat.lt_of_lt_of_le hP0 hb3.size
 have HG3 := Lib.hid (hw2.below HB3)
 have HB := Lib.hid hb3
 clear hw3 hG hw2 hv2 hb2 HB3 hb3 hgd
 have hs0 : Below w3.heap.size w3 w3.drew := (Below.refl _ _).drew
 refine wp_region_tq5 (.read 0 (.read 1 (.read 2 (.read 4 (.read 5 (.read 6 (.step 3 (.step 7 (.read 8 (.step 9 .nil)))))))))) [9] (by kernel_rfl) (by rfl) (by kernel_rfl) (by kernel_rfl) (fun V => Below w3.heap.size w3 V) ?_
 change goU _ _ _ _ _ _ _ w3.drew
 refine goU_read 9 hs0 (by rfl) (by rfl) ?_ (by rfl) (fun wz hSw => ?_) ?_
 rotate_left
 ·have y0 := keepW hSw hP2 b0; have y1 := keepW hSw hP2 b1; have y2 := keepW hSw hP2 b2; have y3 := keepW hSw hP2 b3; have z0 := keepW hSw hg2 g0; have z1 := keepW hSw hg2 g1; go_simp
  try with_reducible rfl
 simp only [sIB, List.set]
 refine goU_read 10 hs0 (by rfl) (by rfl) ?_ (by rfl) (fun wz hSw => ?_) ?_
 rotate_left
 ·have y0 := keepW hSw hP2 b0; have y1 := keepW hSw hP2 b1; have y2 := keepW hSw hP2 b2; have y3 := keepW hSw hP2 b3; have z0 := keepW hSw hg2 g0; have z1 := keepW hSw hg2 g1; go_simp
  try with_reducible rfl
 simp only [sIB, List.set]
 refine goU_read 11 hs0 (by rfl) (by rfl) ?_ (by rfl) (fun wz hSw => ?_) ?_
 rotate_left
 ·have y0 := keepW hSw hP2 b0; have y1 := keepW hSw hP2 b1; have y2 := keepW hSw hP2 b2; have y3 := keepW hSw hP2 b3; have z0 := keepW hSw hg2 g0; have z1 := keepW hSw hg2 g1; go_simp
  try with_reducible rfl
 simp only [sIB, List.set]
 refine goU_read 13 hs0 (by rfl) (by rfl) ?_ (by rfl) (fun wz hSw => ?_) ?_
 rotate_left
 ·have y0 := keepW hSw hP2 b0; have y1 := keepW hSw hP2 b1; have y2 := keepW hSw hP2 b2; have y3 := keepW hSw hP2 b3; have z0 := keepW hSw hg2 g0; have z1 := keepW hSw hg2 g1; go_simp
  try with_reducible rfl
 simp only [sIB, List.set]
 refine goU_read 14 hs0 (by rfl) (by rfl) ?_ (by rfl) (fun wz hSw => ?_) ?_
 rotate_left
 ·have y0 := keepW hSw hP2 b0; have y1 := keepW hSw hP2 b1; have y2 := keepW hSw hP2 b2; have y3 := keepW hSw hP2 b3; have z0 := keepW hSw hg2 g0; have z1 := keepW hSw hg2 g1; go_simp
  try with_reducible rfl
 simp only [sIB, List.set]
 refine goU_read 15 hs0 (by rfl) (by rfl) ?_ (by rfl) (fun wz hSw => ?_) ?_
 rotate_left
 ·have y0 := keepW hSw hP2 b0; have y1 := keepW hSw hP2 b1; have y2 := keepW hSw hP2 b2; have y3 := keepW hSw hP2 b3; have z0 := keepW hSw hg2 g0; have z1 := keepW hSw hg2 g1; go_simp
  try with_reducible rfl
 simp only [sIB, List.set]
 refine goU_call 12 (by rfl) (by rfl) (by rfl) (by go_simp) (wQuo_any ((H1.out.below HB.out).below hs0).int (HG3.out.below hs0).int (Nat.le_trans HN.out (by omega)) HGW.out HG0.out) ?_
 rintro e w4 ⟨v4, rfl, hv4, hb4⟩
 obtain ⟨n4, A4, m4, c4, rfl, hw4⟩ := hv4.shp
 have hs1 := hs0.trans (hb4.mono hs0.size)
 refine ⟨_, rfl, fun _ => hs1, ?_⟩
 simp only [sIB, List.set]
 refine goU_call 16 (by rfl) (by rfl) (by rfl) (by go_simp) (wQuo_any ((H2.out.below HB.out).below hs1).int (HG3.out.below hs1).int (Nat.le_trans HD.out (by omega)) HGW.out HG0.out) ?_
 rintro e w5 ⟨v5, rfl, hv5, hb5⟩
 obtain ⟨n5, A5, m5, c5, rfl, hw5⟩ := hv5.shp
 have hs2 := hs1.trans (hb5.mono hs1.size)
 refine ⟨_, rfl, fun _ => hs2, ?_⟩
 simp only [sIB, List.set]
 clear hv4 hv5
 refine goU_read 17 hs2 (by rfl) (by rfl) ?_ (by rfl) (fun wz hSw => ?_) ?_
 rotate_left
 ·go_simp
  try with_reducible rfl
 simp only [sIB, List.set]
 have hA := keepA HRA.out (HB.out.trans (hs2.mono HB.out.size)) hR0
 have r0 := hA.rd (i := 0) rfl
 have r1 := hA.rd (i := 1) rfl
 have r2 := hA.rd (i := 2) rfl
 have r3 := hA.rd (i := 3) rfl
 have f0 := hA.frozen 0
 have f1 := hA.frozen 1
 have f2 := hA.frozen 2
 have f3 := hA.frozen 3
 have HV4 := Lib.hid (hw4.below hb5)
 have HV5 := Lib.hid hw5
 clear hw4 hw5
 refine goU_step (by rfl) ?_
 go_wp2_with fail
 try (refine ⟨fun h => absurd h (by decide), ?_⟩)
 refine goU_nilN ?_
 go_wp2_with fail
 refine bodyPost_ret (v := .agg #[.bool n4, .slice A4 m4 c4, .bool n5, .slice A5 m5 c5]) (by simp [results, Tryz.results163, go_sem, r0, r1, r2, r3]) rfl ⟨_, rfl, ⟨n4, A4, m4, c4, n5, A5, m5, c5, rfl, ?_, ?_⟩, ?_⟩
 all_goals have hfr : ∀ (i : Nat) (u : Value) (V : World), Frm (· = R) V (V.setCell ⟨R, i, none⟩ u) := fun i u V => Frm.setCell (O := (· = R)) (p := ⟨R, i, none⟩) (fun _ => rfl) u
 all_goals have q1 := hbW.size
 all_goals have q2 := HB.out.size
 all_goals have q3 := hs0.size
 all_goals have q4 := hs1.size
 ·refine NIntV.mono (Frm.nint ((((hfr _ _ _).trans (hfr _ _ _)).trans (hfr _ _ _)).trans (hfr _ _ _)) HV4.out fun b (hb : w3.drew.heap.size ≤ b) e => ?_) fun b (hb : w3.drew.heap.size ≤ b) _ => ?_
  ·omega
  ·show w.heap.size ≤ b
   omega
 ·refine NIntV.mono (Frm.nint ((((hfr _ _ _).trans (hfr _ _ _)).trans (hfr _ _ _)).trans (hfr _ _ _)) HV5.out fun b (hb : _ ≤ b) e => ?_) fun b (hb : _ ≤ b) _ => ?_
  ·omega
  ·show w.heap.size ≤ b
   omega
 ·exact (hbW.trans ((HB.out.trans (hs2.mono HB.out.size)).mono hbW.size)).trans (Frm.below ((((hfr _ _ _).trans (hfr _ _ _)).trans (hfr _ _ _)).trans (hfr _ _ _)) (by have := hs2.size; omega) fun b e => by rw [e]; exact hwR)
set_option maxRecDepth 100000 in
set_option maxHeartbeats 4000000 in
theorem fgive_ok {w : World} {D : Nat → Prop} {v : Value} {num den : Int} (h : FrV w D v num den) (hn : wl num.natAbs ≤ 400000000000) (hd : wl den.natAbs ≤ 400000000000) (hg : (Int.gcd num den : Int) ≠ 0) (hi : in64 (num / (Int.gcd num den : Int)) = true) (hj : in64 (den / (Int.gcd num den : Int)) = true) :
  Calls Tryz.prog 110 #[v] w fun e w' => e = .returned (.tuple #[.agg #[.int .i64 (num / (Int.gcd num den : Int)), .int .i64 (den / (Int.gcd num den : Int))], .int .i64 0]) ∧ Below w.heap.size w w' := by
 have hF := h
 obtain ⟨n1, A1, m1, c1, n2, A2, m2, c2, rfl, h1, h2⟩ := h
 obtain ⟨W, hW⟩ : ∃ W, W = (w.alloc (.cells #[.bool n1, .slice A1 m1 c1, .bool n2, .slice A2 m2 c2] 140)).alloc (.cells #[.int .i64 0, .int .i64 0] 35) := ⟨_, rfl⟩
 obtain ⟨R, hR⟩ : ∃ R, R = w.heap.size + 1 := ⟨_, rfl⟩
 have hbW : Below w.heap.size w W := by rw [hW]; exact ((Below.refl _ _).alloc (Nat.le_refl _) _).alloc (by simp) _
 have hPA : Arr W w.heap.size 140 [.bool n1, .slice A1 m1 c1, .bool n2, .slice A2 m2 c2] := by rw [hW]; exact (Arr.new w _ [.bool n1, .slice A1 m1 c1, .bool n2, .slice A2 m2 c2]).alloc _
 have hRA : Arr W R 35 [.int .i64 0, .int .i64 0] := by
  rw [hW, hR]
  have := Arr.new (w.alloc (.cells #[.bool n1, .slice A1 m1 c1, .bool n2, .slice A2 m2 c2] 140)) 35 [.int .i64 0, .int .i64 0]
  simpa using this
 have hP0 : w.heap.size < W.heap.size := hPA.lt
 have hR0 : R < W.heap.size := hRA.lt
 have hwR : w.heap.size ≤ R := by omega
 have hPR : w.heap.size ≠ R := by omega
 have HRA := Lib.hid hRA
 have HPA := Lib.hid hPA
 have HWW := Lib.hid hW
 have HRR := Lib.hid hR
 have HLO := Lib.hid (lowest_any (D := D) (v := .agg #[.bool n1, .slice A1 m1 c1, .bool n2, .slice A2 m2 c2]) ⟨n1, A1, m1, c1, n2, A2, m2, c2, rfl, h1.below hbW, h2.below hbW⟩ hn hd hg)
 have b0 := hPA.rd (i := 0) rfl
 have b1 := hPA.rd (i := 1) rfl
 have b2 := hPA.rd (i := 2) rfl
 have b3 := hPA.rd (i := 3) rfl
 have hs1 : sm64 (num / (Int.gcd num den : Int)) = num / (Int.gcd num den : Int) := by unfold sm64; rw [hi]; rfl
 have hs2 : sm64 (den / (Int.gcd num den : Int)) = den / (Int.gcd num den : Int) := by unfold sm64; rw [hj]; rfl
 have HS1 := Lib.hid (fun (w' : World) (D : Nat → Prop) (v : Value) (hv : NIntV w' D v (num / (Int.gcd num den : Int))) => by have := Small_any hv; rw [hs1, hi] at this; exact this)
 have HS2 := Lib.hid (fun (w' : World) (D : Nat → Prop) (v : Value) (hv : NIntV w' D v (den / (Int.gcd num den : Int))) => by have := Small_any hv; rw [hs2, hj] at this; exact this)
 clear hW hR hRA hPA h1 h2 hg hn hd hF hs1 hs2 hi hj
 generalize num / (Int.gcd num den : Int) = p at *
 generalize den / (Int.gcd num den : Int) = q at *
 go_enter Tryz.func110, Tryz.ntmps110
 go_upto_region 1 with (fail)
 rw [← HWW.out, ← HRR.out]
 go_upto_region 2 with (go_at_call 163; go_must (refine HLO.out.mono ?_); rintro e w2 ⟨v2, rfl, ⟨n3, A3, m3, c3, n4, A4, m4, c4, rfl, hv3, hv4⟩, hb2⟩; have hA := keepA HPA.out hb2 hP0; have r0 := hA.rd (i := 0) rfl; have r1 := hA.rd (i := 1) rfl; have r2 := hA.rd (i := 2) rfl; have r3 := hA.rd (i := 3) rfl; have f0 := hA.frozen 0; have f1 := hA.frozen 1; have f2 := hA.frozen 2; have f3 := hA.frozen 3)
 obtain ⟨w3, hw3⟩ : ∃ w3, w3 = (((w2.setCell ⟨w.heap.size, 0, none⟩ (.bool n3)).setCell ⟨w.heap.size, 1, none⟩ (.slice A3 m3 c3)).setCell ⟨w.heap.size, 2, none⟩ (.bool n4)).setCell ⟨w.heap.size, 3, none⟩ (.slice A4 m4 c4) := ⟨_, rfl⟩
 have hfr : ∀ (i : Nat) (u : Value) (V : World), Frm (· = w.heap.size) V (V.setCell ⟨w.heap.size, i, none⟩ u) := fun i u V => Frm.setCell (O := (· = w.heap.size)) (p := ⟨w.heap.size, i, none⟩) (fun _ => rfl) u
 have hf3 : Frm (· = w.heap.size) w2 w3 := by rw [hw3]; exact (((hfr _ _ _).trans (hfr _ _ _)).trans (hfr _ _ _)).trans (hfr _ _ _)
 have hA3 : Arr w3 w.heap.size 140 [.bool n3, .slice A3 m3 c3, .bool n4, .slice A4 m4 c4] := by
  rw [hw3]
  exact (((hA.set_ 0 (.bool n3)).set_ 1 (.slice A3 m3 c3)).set_ 2 (.bool n4)).set_ 3 (.slice A4 m4 c4)
 have HR3 := Lib.hid (hf3.arr (keepA HRA.out hb2 hR0) (fun e => hPR e.symm))
 have HV3 := Lib.hid (hf3.nint hv3 fun b (hb : _ ≤ b) e => by omega)
 have HV4 := Lib.hid (hf3.nint hv4 fun b (hb : _ ≤ b) e => by omega)
 have HB3 := Lib.hid ((hbW.trans (hb2.mono hbW.size)).trans (hf3.below (B := w.heap.size) (Nat.le_trans hbW.size hb2.size) fun b e => by rw [e]; exact Nat.le_refl _))
 have hP3 : w.heap.size < w3.heap.size := hA3.lt
 have hR3 : R < w3.heap.size := HR3.out.lt
 have s0 := hA3.rd (i := 0) rfl
 have s1 := hA3.rd (i := 1) rfl
 have s2 := hA3.rd (i := 2) rfl
 have s3 := hA3.rd (i := 3) rfl
 rw [← hw3]
 clear hw3 hf3 hfr hv3 hv4 hA hA3 r0 r1 r2 r3 f0 f1 f2 f3 hb2 b0 b1 b2 b3
 go_wp2_with (first
  | (go_at_call 132; (with_reducible refine (HS1.out _ _ _ HV3.out).mono ?_); rintro e w4 ⟨rfl, hb4⟩; have t2 := keepW hb4 hP3 s2; have t3 := keepW hb4 hP3 s3)
  | (go_at_call 132; (with_reducible refine (HS2.out _ _ _ (HV4.out.below hb4)).mono ?_); rintro e w5 ⟨rfl, hb5⟩; have hb6 := hb4.trans (hb5.mono hb4.size); have hA := keepA HR3.out hb6 hR3; have r0 := hA.rd (i := 0) rfl; have r1 := hA.rd (i := 1) rfl; have f0 := hA.frozen 0; have f1 := hA.frozen 1))
 refine bodyPost_ret (v := .tuple #[.agg #[.int .i64 p, .int .i64 q], .int .i64 0]) (by simp [results, Tryz.results110, go_sem, r0, r1]) rfl ⟨rfl, ?_⟩
 have hfr : ∀ (i : Nat) (u : Value) (V : World), Frm (· = R) V (V.setCell ⟨R, i, none⟩ u) := fun i u V => Frm.setCell (O := (· = R)) (p := ⟨R, i, none⟩) (fun _ => rfl) u
 exact (HB3.out.trans (hb6.mono HB3.out.size)).trans (Frm.below ((hfr _ _ _).trans (hfr _ _ _)) (by have := hb6.size; omega) fun b e => by rw [e]; exact hwR)
end Go.Proofs.YtdjpeimecfhdjaaGreat
