/- Package law05: awake. -/
import Derived.Test.YtdjpeimecfhdjaaGreatXak
import Derived.Test.YtdjpeimecfhdjaaGreatXan
namespace Go.Proofs.YtdjpeimecfhdjaaGreat
open Go.RowKit
theorem IsD.of5 {w : World} {g n : Nat} {t : TypeId} {l : List Int} (h : Arr w g t (l.map fun x => .int .i64 x)) (hn : l.length = n) (hm : n ≤ maxLen) : IsD w (fun _ => True) (.slice (some ⟨g, 0, none⟩) n n) l := by
 subst hn
 refine ⟨some ⟨g, 0, none⟩, l.length, rfl, Nat.le_refl _, hm, fun _ => ⟨g, 0, rfl, trivial, fun j hj => ?_⟩⟩
 rw [Nat.zero_add, h.cell j, List.getElem?_map, List.getElem?_eq_getElem hj]
 unfold gz List.getD
 rw [List.getElem?_eq_getElem hj]
 rfl
theorem Hamilton5 {w : World} : Calls Tryz.prog 52 #[] w fun e w' => e = .returned (.agg #[.int .i64 (-1), .int .i64 (-1)]) ∧ Below w.heap.size w w' := by
 go_enter Tryz.func52, Tryz.ntmps52
 go_wp2_with fail
 have hb : Below w.heap.size w ((w.alloc (.cells #[.int .i64 (-1), .int .i64 (-1)] 23))) := (Below.refl _ _).alloc (Nat.le_refl _) _
 refine bodyPost_ret (v := .agg #[.int .i64 (-1), .int .i64 (-1)]) (by simp [results, Tryz.results52, go_sem]) rfl ⟨rfl, hb⟩
theorem Hurwitz5 {w : World} : Calls Tryz.prog 53 #[] w fun e w' => ∃ v, e = .returned v ∧ LatV w' v 4 2 huL ∧ Below w.heap.size w w' := by
 go_enter Tryz.func53, Tryz.ntmps53
 go_wp2_with fail
 obtain ⟨u0, h0⟩ : ∃ u, u = w.alloc (.cells #[.int .i64 4, .slice (some ⟨w.heap.size + 1 + 1 + 1 + 1 + 1, 0, none⟩) 4 4, .int .i64 2] 26) := ⟨_, rfl⟩
 rw [← h0]
 have e0 : u0.heap.size = w.heap.size + 1 := by rw [h0]; simp
 have b0 : Below w.heap.size w u0 := by rw [h0]; exact (Below.refl _ _).alloc (Nat.le_refl _) _
 have A0 : Arr u0 w.heap.size 26 [.int .i64 4, .slice (some ⟨w.heap.size + 1 + 1 + 1 + 1 + 1, 0, none⟩) 4 4, .int .i64 2] := by rw [h0]; exact Arr.new w _ [.int .i64 4, .slice (some ⟨w.heap.size + 1 + 1 + 1 + 1 + 1, 0, none⟩) 4 4, .int .i64 2]
 obtain ⟨u1, h1⟩ : ∃ u, u = u0.alloc (.cells #[.int .i64 1, .int .i64 1, .int .i64 1, .int .i64 1] 3) := ⟨_, rfl⟩
 rw [← h1]
 have e1 : u1.heap.size = w.heap.size + 1 + 1 := by rw [h1]; simp [e0]
 have b1 : Below u0.heap.size u0 u1 := by rw [h1]; exact (Below.refl _ _).alloc (Nat.le_refl _) _
 have A1 : Arr u1 (w.heap.size + 1) 3 [.int .i64 1, .int .i64 1, .int .i64 1, .int .i64 1] := by rw [h1, ← e0]; exact Arr.new u0 _ [.int .i64 1, .int .i64 1, .int .i64 1, .int .i64 1]
 obtain ⟨u2, h2⟩ : ∃ u, u = u1.alloc (.cells #[.int .i64 0, .int .i64 2, .int .i64 0, .int .i64 0] 3) := ⟨_, rfl⟩
 rw [← h2]
 have e2 : u2.heap.size = w.heap.size + 1 + 1 + 1 := by rw [h2]; simp [e1]
 have b2 : Below u1.heap.size u1 u2 := by rw [h2]; exact (Below.refl _ _).alloc (Nat.le_refl _) _
 have A2 : Arr u2 (w.heap.size + 1 + 1) 3 [.int .i64 0, .int .i64 2, .int .i64 0, .int .i64 0] := by rw [h2, ← e1]; exact Arr.new u1 _ [.int .i64 0, .int .i64 2, .int .i64 0, .int .i64 0]
 obtain ⟨u3, h3⟩ : ∃ u, u = u2.alloc (.cells #[.int .i64 0, .int .i64 0, .int .i64 2, .int .i64 0] 3) := ⟨_, rfl⟩
 rw [← h3]
 have e3 : u3.heap.size = w.heap.size + 1 + 1 + 1 + 1 := by rw [h3]; simp [e2]
 have b3 : Below u2.heap.size u2 u3 := by rw [h3]; exact (Below.refl _ _).alloc (Nat.le_refl _) _
 have A3 : Arr u3 (w.heap.size + 1 + 1 + 1) 3 [.int .i64 0, .int .i64 0, .int .i64 2, .int .i64 0] := by rw [h3, ← e2]; exact Arr.new u2 _ [.int .i64 0, .int .i64 0, .int .i64 2, .int .i64 0]
 obtain ⟨u4, h4⟩ : ∃ u, u = u3.alloc (.cells #[.int .i64 0, .int .i64 0, .int .i64 0, .int .i64 2] 3) := ⟨_, rfl⟩
 rw [← h4]
 have e4 : u4.heap.size = w.heap.size + 1 + 1 + 1 + 1 + 1 := by rw [h4]; simp [e3]
 have b4 : Below u3.heap.size u3 u4 := by rw [h4]; exact (Below.refl _ _).alloc (Nat.le_refl _) _
 have A4 : Arr u4 (w.heap.size + 1 + 1 + 1 + 1) 3 [.int .i64 0, .int .i64 0, .int .i64 0, .int .i64 2] := by rw [h4, ← e3]; exact Arr.new u3 _ [.int .i64 0, .int .i64 0, .int .i64 0, .int .i64 2]
 obtain ⟨u5, h5⟩ : ∃ u, u = u4.alloc (.cells #[.slice (some ⟨w.heap.size + 1, 0, none⟩) 4 4, .slice (some ⟨w.heap.size + 1 + 1, 0, none⟩) 4 4, .slice (some ⟨w.heap.size + 1 + 1 + 1, 0, none⟩) 4 4, .slice (some ⟨w.heap.size + 1 + 1 + 1 + 1, 0, none⟩) 4 4] 48) := ⟨_, rfl⟩
 rw [← h5]
 have b5 : Below u4.heap.size u4 u5 := by rw [h5]; exact (Below.refl _ _).alloc (Nat.le_refl _) _
 have A5 : Arr u5 (w.heap.size + 1 + 1 + 1 + 1 + 1) 48 [.slice (some ⟨w.heap.size + 1, 0, none⟩) 4 4, .slice (some ⟨w.heap.size + 1 + 1, 0, none⟩) 4 4, .slice (some ⟨w.heap.size + 1 + 1 + 1, 0, none⟩) 4 4, .slice (some ⟨w.heap.size + 1 + 1 + 1 + 1, 0, none⟩) 4 4] := by rw [h5, ← e4]; exact Arr.new u4 _ [.slice (some ⟨w.heap.size + 1, 0, none⟩) 4 4, .slice (some ⟨w.heap.size + 1 + 1, 0, none⟩) 4 4, .slice (some ⟨w.heap.size + 1 + 1 + 1, 0, none⟩) 4 4, .slice (some ⟨w.heap.size + 1 + 1 + 1 + 1, 0, none⟩) 4 4]
 have Z0 := (((((A0.below' b1).below' b2).below' b3).below' b4).below' b5)
 have Z1 := ((((A1.below' b2).below' b3).below' b4).below' b5)
 have Z2 := (((A2.below' b3).below' b4).below' b5)
 have Z3 := ((A3.below' b4).below' b5)
 have Z4 := (A4.below' b5)
 have d0 := Z0.rd (i := 0) rfl
 have d1 := Z0.rd (i := 1) rfl
 have d2 := Z0.rd (i := 2) rfl
 have hB : Below w.heap.size w u5 := b0 |>.trans (b1.mono (by omega)) |>.trans (b2.mono (by omega)) |>.trans (b3.mono (by omega)) |>.trans (b4.mono (by omega)) |>.trans (b5.mono (by omega))
 clear h0 h1 h2 h3 h4 h5 b0 b1 b2 b3 b4 b5 A0 A1 A2 A3 A4
 refine bodyPost_ret (v := .agg #[.int .i64 4, .slice (some ⟨w.heap.size + 1 + 1 + 1 + 1 + 1, 0, none⟩) 4 4, .int .i64 2]) (by simp [results, Tryz.results53, go_sem, d0, d1, d2]) rfl ⟨_, rfl, ⟨_, 4, 4, rfl, ?_⟩, hB⟩
 refine ⟨some ⟨w.heap.size + 1 + 1 + 1 + 1 + 1, 0, none⟩, 4, [.slice (some ⟨w.heap.size + 1, 0, none⟩) 4 4, .slice (some ⟨w.heap.size + 1 + 1, 0, none⟩) 4 4, .slice (some ⟨w.heap.size + 1 + 1 + 1, 0, none⟩) 4 4, .slice (some ⟨w.heap.size + 1 + 1 + 1 + 1, 0, none⟩) 4 4], rfl, by decide, by unfold maxLen; decide, rfl, fun _ => ⟨_, 0, rfl, trivial, fun j u hu => ?_⟩, fun i u x hu hx => ?_⟩
 ·rw [Nat.zero_add, A5.cell j]; exact hu
 ·have hi : i < 4 := by rcases Nat.lt_or_ge i 4 with h | h; exact h; rw [List.getElem?_eq_none (by exact h)] at hu; cases hu
  rcases (show i = 0 ∨ i = 1 ∨ i = 2 ∨ i = 3 by omega) with rfl | rfl | rfl | rfl
  ·injection hu with hu; injection hx with hx; subst hu hx; exact IsD.of5 Z1 rfl (by unfold maxLen; decide)
  ·injection hu with hu; injection hx with hx; subst hu hx; exact IsD.of5 Z2 rfl (by unfold maxLen; decide)
  ·injection hu with hu; injection hx with hx; subst hu hx; exact IsD.of5 Z3 rfl (by unfold maxLen; decide)
  ·injection hu with hu; injection hx with hx; subst hu hx; exact IsD.of5 Z4 rfl (by unfold maxLen; decide)
set_option maxRecDepth 100000 in
set_option maxHeartbeats 4000000 in
theorem awake5 {w : World} : Calls Tryz.prog 44 #[] w fun e w' => e = .returned (.bool true) ∧ Below w.heap.size w w' := by
 go_enter Tryz.func44, Tryz.ntmps44
 go_upto_region 2 with (first | (go_at_call 52; go_must (refine Hamilton5.mono ?_); rintro e w1 ⟨rfl, hb1⟩) | (go_at_call 53; go_must (refine Hurwitz5.mono ?_); rintro e w2 ⟨v2, rfl, hv2, hb2⟩) | (go_at_call 71; go_must (refine (NormHu hv2).mono ?_); rintro e w3 ⟨rfl, hb3⟩))
 obtain ⟨w4, hw4⟩ : ∃ u, u = w3.alloc (.cells #[.int .i64 1, .int .i64 1] 35) := ⟨_, rfl⟩
 obtain ⟨P1, hP1⟩ : ∃ u, u = w3.heap.size := ⟨_, rfl⟩
 rw [← hw4, ← hP1]
 have hb4 : Below w3.heap.size w3 w4 := by rw [hw4]; exact (Below.refl _ _).alloc (Nat.le_refl _) _
 have hA4 : Arr w4 P1 35 [.int .i64 1, .int .i64 1] := by rw [hw4, hP1]; exact Arr.new w3 _ [.int .i64 1, .int .i64 1]
 have hb14 := hb1.trans ((hb2.trans ((hb3.trans (hb4.mono hb3.size)).mono hb2.size)).mono hb1.size)
 have HB4 := Lib.hid hb14
 have HA4 := Lib.hid hA4
 clear hw4 hP1 hb1 hb2 hb3 hb4 hb14 hv2 hA4
 go_upto_region 3 with (first | (go_at_call 52; go_must (refine Hamilton5.mono ?_); rintro e w5 ⟨rfl, hb5⟩) | (go_at_call 53; go_must (refine Hurwitz5.mono ?_); rintro e w6 ⟨v6, rfl, hv6, hb6⟩) | (go_at_call 46; go_must (refine (ElementsHu hv6).mono ?_); rintro e w7 ⟨g7, c7, rfl, hb7⟩))
 have hb47 := hb5.trans ((hb6.trans (hb7.mono hb6.size)).mono hb5.size)
 have HB7 := Lib.hid (HB4.out.trans (hb47.mono HB4.out.size))
 have HA7 := Lib.hid (keepA HA4.out hb47 HA4.out.lt)
 clear hb5 hb6 hb7 hb47 hv6
 go_upto_region 4 with (go_at_call 49; go_must (refine Mass_ex.mono ?_); rintro e w8 ⟨rfl, hb8⟩)
 obtain ⟨w9, hw9⟩ : ∃ u, u = w8.alloc (.cells #[.int .i64 5, .int .i64 12] 35) := ⟨_, rfl⟩
 obtain ⟨P5, hP5⟩ : ∃ u, u = w8.heap.size := ⟨_, rfl⟩
 rw [← hw9, ← hP5]
 have hb9 : Below w8.heap.size w8 w9 := by rw [hw9]; exact (Below.refl _ _).alloc (Nat.le_refl _) _
 have hA9 : Arr w9 P5 35 [.int .i64 5, .int .i64 12] := by rw [hw9, hP5]; exact Arr.new w8 _ [.int .i64 5, .int .i64 12]
 have hb79 := hb8.trans (hb9.mono hb8.size)
 have hA79 := keepA HA7.out hb79 HA7.out.lt
 have c0 := hA79.rd (i := 0) rfl
 have c1 := hA79.rd (i := 1) rfl
 have d0 := hA9.rd (i := 0) rfl
 have d1 := hA9.rd (i := 1) rfl
 have HB9 := Lib.hid (HB7.out.trans (hb79.mono HB7.out.size))
 clear hw9 hP5 hb8 hb9 hb79 hA9 hA79
 go_wp2_with fail
 go_ret
 exact ⟨rfl, HB9.out⟩
end Go.Proofs.YtdjpeimecfhdjaaGreat
