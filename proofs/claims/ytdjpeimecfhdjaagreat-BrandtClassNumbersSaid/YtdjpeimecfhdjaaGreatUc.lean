/- (pruned) -/
import Derived.Test.YtdjpeimecfhdjaaGreatUn
import Derived.Test.YtdjpeimecfhdjaaGreatUp
import Derived.Test.YtdjpeimecfhdjaaGreatUb
namespace Go.Proofs.YtdjpeimecfhdjaaGreat
open Go.RowKit
theorem IsD.of {w : World} {g n : Nat} {t : TypeId} {l : List Int} (h : Arr w g t (l.map fun x => .int .i64 x)) (hn : l.length = n) (hm : n ≤ maxLen) : IsD w (fun _ => True) (.slice (some ⟨g, 0, none⟩) n n) l := by
 subst hn
 refine ⟨some ⟨g, 0, none⟩, l.length, rfl, Nat.le_refl _, hm, fun _ => ⟨g, 0, rfl, trivial, fun j hj => ?_⟩⟩
 rw [Nat.zero_add, h.cell j, List.getElem?_map, List.getElem?_eq_getElem hj]
 unfold gz List.getD
 rw [List.getElem?_eq_getElem hj]
 rfl
theorem Hamilton_any {w : World} : Calls Tryz.prog 52 #[] w fun e w' => e = .returned (.agg #[.int .i64 (-1), .int .i64 (-1)]) ∧ Below w.heap.size w w' := by
 go_enter Tryz.func52, Tryz.ntmps52
 go_wp2_with fail
 have hb : Below w.heap.size w ((w.alloc (.cells #[.int .i64 (-1), .int .i64 (-1)] 23))) := (Below.refl _ _).alloc (Nat.le_refl _) _
 refine bodyPost_ret (v := .agg #[.int .i64 (-1), .int .i64 (-1)]) (by simp [results, Tryz.results52, go_sem]) rfl ⟨rfl, hb⟩
theorem Hurwitz_any {w : World} : Calls Tryz.prog 53 #[] w fun e w' => ∃ v, e = .returned v ∧ LatV w' v 4 2 huL ∧ Below w.heap.size w w' := by
 go_enter Tryz.func53, Tryz.ntmps53
 go_wp2_with fail
 obtain ⟨u0, h0⟩ : ∃ u, u = w.alloc (.cells #[.int .i64 4, .slice (some ⟨w.heap.size + 1 + 1 + 1 + 1 + 1, 0, none⟩) 4 4, .int .i64 2] 26) := ⟨_, rfl⟩
 rw [← h0]
 have e0 : u0.heap.size = w.heap.size + 1 := by rw [h0]; simp
 have b0 : Below w.heap.size w u0 := by rw [h0]; exact (Below.refl _ _).alloc (Nat.le_refl _) _
 have A0 : Arr u0 w.heap.size 26 [.int .i64 4, .slice (some ⟨w.heap.size + 1 + 1 + 1 + 1 + 1, 0, none⟩) 4 4, .int .i64 2] := by rw [h0]; exact Arr.new w _ [.int .i64 4, .slice (some ⟨w.heap.size + 1 + 1 + 1 + 1 + 1, 0, none⟩) 4 4, .int .i64 2]
 obtain ⟨u1, h1⟩ : ∃ u, u = u0.alloc (.cells #[.int .i64 1, .int .i64 1, .int .i64 1, .int .i64 1] 3) := ⟨_, rfl⟩
 rw [← h1]
 have e1 : u1.heap.size = w.heap.size + 1 + 1 := by rw [h1]; simp [e0]
 have b1 : Below u0.heap.size u0 u1 := by rw [h1]; exact (Below.refl _ _).alloc (Nat.le_refl _) _
 have A1 : Arr u1 (w.heap.size + 1) 3 [.int .i64 1, .int .i64 1, .int .i64 1, .int .i64 1] := by rw [h1, ← e0]; exact Arr.new u0 _ [.int .i64 1, .int .i64 1, .int .i64 1, .int .i64 1]
 obtain ⟨u2, h2⟩ : ∃ u, u = u1.alloc (.cells #[.int .i64 0, .int .i64 2, .int .i64 0, .int .i64 0] 3) := ⟨_, rfl⟩
 rw [← h2]
 have e2 : u2.heap.size = w.heap.size + 1 + 1 + 1 := by rw [h2]; simp [e1]
 have b2 : Below u1.heap.size u1 u2 := by rw [h2]; exact (Below.refl _ _).alloc (Nat.le_refl _) _
 have A2 : Arr u2 (w.heap.size + 1 + 1) 3 [.int .i64 0, .int .i64 2, .int .i64 0, .int .i64 0] := by rw [h2, ← e1]; exact Arr.new u1 _ [.int .i64 0, .int .i64 2, .int .i64 0, .int .i64 0]
 obtain ⟨u3, h3⟩ : ∃ u, u = u2.alloc (.cells #[.int .i64 0, .int .i64 0, .int .i64 2, .int .i64 0] 3) := ⟨_, rfl⟩
 rw [← h3]
 have e3 : u3.heap.size = w.heap.size + 1 + 1 + 1 + 1 := by rw [h3]; simp [e2]
 have b3 : Below u2.heap.size u2 u3 := by rw [h3]; exact (Below.refl _ _).alloc (Nat.le_refl _) _
 have A3 : Arr u3 (w.heap.size + 1 + 1 + 1) 3 [.int .i64 0, .int .i64 0, .int .i64 2, .int .i64 0] := by rw [h3, ← e2]; exact Arr.new u2 _ [.int .i64 0, .int .i64 0, .int .i64 2, .int .i64 0]
 obtain ⟨u4, h4⟩ : ∃ u, u = u3.alloc (.cells #[.int .i64 0, .int .i64 0, .int .i64 0, .int .i64 2] 3) := ⟨_, rfl⟩
 rw [← h4]
 have e4 : u4.heap.size = w.heap.size + 1 + 1 + 1 + 1 + 1 := by rw [h4]; simp [e3]
 have b4 : Below u3.heap.size u3 u4 := by rw [h4]; exact (Below.refl _ _).alloc (Nat.le_refl _) _
 have A4 : Arr u4 (w.heap.size + 1 + 1 + 1 + 1) 3 [.int .i64 0, .int .i64 0, .int .i64 0, .int .i64 2] := by rw [h4, ← e3]; exact Arr.new u3 _ [.int .i64 0, .int .i64 0, .int .i64 0, .int .i64 2]
 obtain ⟨u5, h5⟩ : ∃ u, u = u4.alloc (.cells #[.slice (some ⟨w.heap.size + 1, 0, none⟩) 4 4, .slice (some ⟨w.heap.size + 1 + 1, 0, none⟩) 4 4, .slice (some ⟨w.heap.size + 1 + 1 + 1, 0, none⟩) 4 4, .slice (some ⟨w.heap.size + 1 + 1 + 1 + 1, 0, none⟩) 4 4] 48) := ⟨_, rfl⟩
 rw [← h5]
 have b5 : Below u4.heap.size u4 u5 := by rw [h5]; exact (Below.refl _ _).alloc (Nat.le_refl _) _
 have A5 : Arr u5 (w.heap.size + 1 + 1 + 1 + 1 + 1) 48 [.slice (some ⟨w.heap.size + 1, 0, none⟩) 4 4, .slice (some ⟨w.heap.size + 1 + 1, 0, none⟩) 4 4, .slice (some ⟨w.heap.size + 1 + 1 + 1, 0, none⟩) 4 4, .slice (some ⟨w.heap.size + 1 + 1 + 1 + 1, 0, none⟩) 4 4] := by rw [h5, ← e4]; exact Arr.new u4 _ [.slice (some ⟨w.heap.size + 1, 0, none⟩) 4 4, .slice (some ⟨w.heap.size + 1 + 1, 0, none⟩) 4 4, .slice (some ⟨w.heap.size + 1 + 1 + 1, 0, none⟩) 4 4, .slice (some ⟨w.heap.size + 1 + 1 + 1 + 1, 0, none⟩) 4 4]
 have Z0 := (((((A0.below' b1).below' b2).below' b3).below' b4).below' b5)
 have Z1 := ((((A1.below' b2).below' b3).below' b4).below' b5)
 have Z2 := (((A2.below' b3).below' b4).below' b5)
 have Z3 := ((A3.below' b4).below' b5)
 have Z4 := (A4.below' b5)
 have d0 := Z0.rd (i := 0) rfl
 have d1 := Z0.rd (i := 1) rfl
 have d2 := Z0.rd (i := 2) rfl
 have hB : Below w.heap.size w u5 := b0 |>.trans (b1.mono (by omega)) |>.trans (b2.mono (by omega)) |>.trans (b3.mono (by omega)) |>.trans (b4.mono (by omega)) |>.trans (b5.mono (by omega))
 clear h0 h1 h2 h3 h4 h5 b0 b1 b2 b3 b4 b5 A0 A1 A2 A3 A4
 refine bodyPost_ret (v := .agg #[.int .i64 4, .slice (some ⟨w.heap.size + 1 + 1 + 1 + 1 + 1, 0, none⟩) 4 4, .int .i64 2]) (by simp [results, Tryz.results53, go_sem, d0, d1, d2]) rfl ⟨_, rfl, ⟨_, 4, 4, rfl, ?_⟩, hB⟩
 refine ⟨some ⟨w.heap.size + 1 + 1 + 1 + 1 + 1, 0, none⟩, 4, [.slice (some ⟨w.heap.size + 1, 0, none⟩) 4 4, .slice (some ⟨w.heap.size + 1 + 1, 0, none⟩) 4 4, .slice (some ⟨w.heap.size + 1 + 1 + 1, 0, none⟩) 4 4, .slice (some ⟨w.heap.size + 1 + 1 + 1 + 1, 0, none⟩) 4 4], rfl, by decide, by unfold maxLen; decide, rfl, fun _ => ⟨_, 0, rfl, trivial, fun j u hu => ?_⟩, fun i u x hu hx => ?_⟩
 ·rw [Nat.zero_add, A5.cell j]; exact hu
 ·have hi : i < 4 := by rcases Nat.lt_or_ge i 4 with h | h; exact h; rw [List.getElem?_eq_none (by exact h)] at hu; cases hu
  rcases (show i = 0 ∨ i = 1 ∨ i = 2 ∨ i = 3 by omega) with rfl | rfl | rfl | rfl
  ·injection hu with hu; injection hx with hx; subst hu hx; exact IsD.of Z1 rfl (by unfold maxLen; decide)
  ·injection hu with hu; injection hx with hx; subst hu hx; exact IsD.of Z2 rfl (by unfold maxLen; decide)
  ·injection hu with hu; injection hx with hx; subst hu hx; exact IsD.of Z3 rfl (by unfold maxLen; decide)
  ·injection hu with hu; injection hx with hx; subst hu hx; exact IsD.of Z4 rfl (by unfold maxLen; decide)
set_option maxHeartbeats 4000000 in
theorem awake8 {w : World} : Calls Tryz.prog 10 #[] w fun e w' => e = .returned (.bool true) ∧ Below w.heap.size w w' := by
 go_enter Tryz.func10, Tryz.ntmps10
 go_upto_region 2 with (first | (go_at_call 52; go_must (refine Hamilton_any.mono ?_); rintro e w1 ⟨rfl, hb1⟩) | (go_at_call 53; go_must (refine Hurwitz_any.mono ?_); rintro e w2 ⟨v2, rfl, hv2, hb2⟩) | (go_at_call 20; go_must (refine (ThetaHu hv2).mono ?_); rintro e w3 ⟨O, rfl, ho, hb3⟩))
 have hb03 : Below w.heap.size w w3 := (hb1.trans (hb2.mono hb1.size)).trans (hb3.mono (hb1.trans (hb2.mono hb1.size)).size)
 have hI : IsD w3 (fun _ => True) (.slice (some ⟨O, 0, none⟩) 5 5) [1, 24, 24, 96, 24] := IsD.of ho rfl (by unfold maxLen; decide)
 clear hb1 hb2 hb3 hv2 ho
 go_upto_region 3 with (go_at_call 25; go_must (refine Trace_ex.mono ?_); rintro e w4 ⟨rfl, hb4⟩)
 obtain ⟨w5, hw5⟩ : ∃ u, u = w4.alloc (.cells #[.int .i64 1, .int .i64 1] 35) := ⟨_, rfl⟩
 obtain ⟨P, hP⟩ : ∃ u, u = w4.heap.size := ⟨_, rfl⟩
 rw [← hw5, ← hP]
 have hb5 : Below w4.heap.size w4 w5 := by rw [hw5]; exact (Below.refl _ _).alloc (Nat.le_refl _) _
 have hA5 : Arr w5 P 35 [.int .i64 1, .int .i64 1] := by rw [hw5, hP]; exact Arr.new w4 _ [.int .i64 1, .int .i64 1]
 have hb45 := hb4.trans (hb5.mono hb4.size)
 have HI5 := Lib.hid (Foot.below hI hb45)
 have HB5 := Lib.hid (hb03.trans (hb45.mono hb03.size))
 clear hI hw5 hP hb5 hb4 hb45 hb03
 obtain ⟨w6, hw6⟩ : ∃ u, u = w5.alloc (.cells #[.int .i64 1, .int .i64 24, .int .i64 24, .int .i64 96, .int .i64 24] 3) := ⟨_, rfl⟩
 have hb6 : Below w5.heap.size w5 w6 := by rw [hw6]; exact (Below.refl _ _).alloc (Nat.le_refl _) _
 have hJ : IsD w6 (fun _ => True) (.slice (some ⟨w5.heap.size, 0, none⟩) 5 5) [1, 24, 24, 96, 24] := IsD.of (t := 3) (by rw [hw6]; exact Arr.new w5 _ [.int .i64 1, .int .i64 24, .int .i64 24, .int .i64 96, .int .i64 24]) rfl (by unfold maxLen; decide)
 have HINT := Lib.hid (Ints_isd (Foot.below HI5.out hb6) hJ (by decide))
 have HW6 := Lib.hid hw6
 have HB6 := Lib.hid (HB5.out.trans (hb6.mono HB5.out.size))
 have hA6 := hA5.below' hb6
 have HA6 := Lib.hid hA6
 clear hw6 hb6 hJ hA5 hA6
 go_wp2_with (go_at_call 21; rw [← HW6.out]; go_must (refine HINT.out.mono ?_); rintro e w7 ⟨rfl, hb7⟩; have c0 := (HA6.out.below' hb7).rd (i := 0) rfl; have c1 := (HA6.out.below' hb7).rd (i := 1) rfl)
 go_ret
 exact ⟨rfl, HB6.out.trans (hb7.mono HB6.out.size)⟩
end Go.Proofs.YtdjpeimecfhdjaaGreat
