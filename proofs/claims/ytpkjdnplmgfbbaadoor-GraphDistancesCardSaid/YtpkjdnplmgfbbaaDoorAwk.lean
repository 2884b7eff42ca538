/- awake: the examples of the chapter. -/
import Derived.Test.YtpkjdnplmgfbbaaDoorSqp
import Derived.Test.YtpkjdnplmgfbbaaDoorDmd
namespace Go.Proofs.YtpkjdnplmgfbbaaDoor
open Go.RowKit

theorem sq_Diameter {w : World} {v : Value} (h : GrV w v sqN (toI sqE)) : Calls Tryd.prog 15 #[v] w fun e w' => e = .returned (.tuple #[.int .i64 2, .int .i64 0]) ∧ Below w.heap.size w w' := by
  refine (Diameter_ok h sq_chk sq_ok).mono ?_
  rintro e w' ⟨rfl, hb⟩
  rw [sq_dia]
  exact ⟨rfl, hb⟩
theorem sq_Path {w : World} {v : Value} (h : GrV w v sqN (toI sqE)) : Calls Tryd.prog 28 #[v, .int .i64 0, .int .i64 2] w fun e w' => ∃ A c, e = .returned (.tuple #[.slice A 3 c, .int .i64 0]) ∧ Il w' A 3 c [0, 1, 2] ∧ Below w.heap.size w w' := by
  refine (Path_ok h sq_chk sq_ok (a := 0) (t := 2) (by decide) (by decide)).mono ?_
  rintro e w' ⟨⟨h1, _⟩ | ⟨_, A, c, rfl, h3⟩, hb⟩
  · rw [sq_far0] at h1; omega
  · rw [sq_far0] at h3 ⊢
    have e2 : (2 : Int).toNat = 2 := rfl
    rw [e2, sq_pth] at h3
    exact ⟨A, c, rfl, h3, hb⟩
theorem sq_Closed {w : World} {v : Value} (h : GrV w v sqN (toI sqE)) : Calls Tryd.prog 23 #[v, .int .i64 4] w fun e w' => ∃ neg A m c, e = .returned (.tuple #[.agg #[.bool neg, .slice A m c], .int .i64 0]) ∧ NIntV w' (fun _ => True) (.agg #[.bool neg, .slice A m c]) 32 ∧ Below w.heap.size w w' := by
  refine (Closed_ok h sq_sml sq_ok (n := 4) (by omega)).mono ?_
  rintro e w' ⟨v', rfl, h2, hb⟩
  have e4 : sqE.length = 4 := rfl
  rw [e4, sq_tr] at h2
  obtain ⟨A, c, rfl, h3⟩ := h2
  exact ⟨_, A, _, c, rfl, ⟨A, c, rfl, h3.mono fun _ _ _ => trivial⟩, hb⟩
theorem sq_Print {w : World} {v : Value} (h : GrV w v sqN (toI sqE)) : Calls Tryd.prog 56 #[v] w fun e w' => e = .returned (.tuple #[.string ⟨#[97, 32, 49, 32, 51, 10, 98, 32, 48, 32, 50, 10, 99, 32, 49, 32, 51, 10, 100, 32, 48, 32, 50, 10]⟩, .int .i64 0]) ∧ Below w.heap.size w w' := by
  refine (Print_ok h sq_chk sq_ok (by decide)).mono ?_
  rintro e w' ⟨rfl, hb⟩
  have e4 : sqE.length = 4 := rfl
  rw [e4, sq_prn]
  exact ⟨rfl, hb⟩
theorem ints012 {w : World} {A B : Option Addr} {c c' : Nat} (h : Il w A 3 c [0, 1, 2]) (h' : Il w B 3 c' [0, 1, 2]) : Calls Tryd.prog 19 #[.slice A 3 c, .slice B 3 c'] w fun e w' => e = .returned (.bool true) ∧ Below w.heap.size w w' := by
  refine (Ints_any h h').mono ?_
  rintro e w' ⟨rfl, hb⟩
  exact ⟨rfl, hb⟩
theorem same32 {w : World} {D D' : Nat → Prop} {v v' : Value} (h : NIntV w D v 32) (h' : NIntV w D' v' 32) : Calls Tryd.prog 24 #[v, v'] w fun e w' => e = .returned (.bool true) ∧ Below w.heap.size w w' := by
  refine (SameInt_any h h').mono ?_
  rintro e w' ⟨rfl, hb⟩
  exact ⟨rfl, hb⟩

theorem of32 {w : World} : Calls Tryd.prog 45 #[.int .i64 32] w fun e w' => ∃ neg A m c, e = .returned (.agg #[.bool neg, .slice A m c]) ∧ NIntV w' (fun _ => True) (.agg #[.bool neg, .slice A m c]) 32 ∧ Below w.heap.size w w' := by
  refine (rOf_any 32 w (by omega) (by omega)).mono ?_
  rintro e w' ⟨v', rfl, ⟨A, c, rfl, h3⟩, hb⟩
  exact ⟨_, A, _, c, rfl, ⟨A, c, rfl, h3.mono fun _ _ _ => trivial⟩, hb⟩

set_option maxHeartbeats 4000000 in
set_option maxRecDepth 100000 in
theorem awake_any {w : World} : Calls Tryd.prog 13 #[] w fun e w' => e = .returned (.bool true) ∧ Below w.heap.size w w' := by
  go_enter Tryd.func13, Tryd.ntmps13
  go_wp2_with fail
  refine Square_any.mono ?_
  rintro e w1 ⟨v1, rfl, hg1, hb1⟩
  obtain ⟨A1, c1, B1, d1, rfl, _, _⟩ := id hg1
  go_wp2_with fail
  refine (sq_Diameter hg1).mono ?_
  rintro e w2 ⟨rfl, hb2⟩
  replace hb2 := hb1.trans (hb2.mono hb1.size)
  clear hg1 hb1
  go_wp2_with fail
  refine Square_any.mono ?_
  rintro e w3 ⟨v3, rfl, hg3, hb3⟩
  obtain ⟨A3, c3, B3, d3, rfl, _, _⟩ := id hg3
  replace hb3 := hb2.trans (hb3.mono hb2.size)
  go_wp2_with fail
  refine (sq_Path hg3).mono ?_
  rintro e w4 ⟨P4, p4, rfl, hil4, hb4⟩
  replace hb4 := hb3.trans (hb4.mono hb3.size)
  clear hg3 hb3 hb2
  go_wp2_with fail
  refine Square_any.mono ?_
  rintro e w5 ⟨v5, rfl, hg5, hb5⟩
  obtain ⟨A5, c5, B5, d5, rfl, _, _⟩ := id hg5
  replace hil4 := hil4.below hb5
  replace hb5 := hb4.trans (hb5.mono hb4.size)
  go_wp2_with fail
  refine (sq_Closed hg5).mono ?_
  rintro e w6 ⟨neg, A6, m6, c6, rfl, hn6, hb6⟩
  replace hil4 := hil4.below hb6
  replace hb6 := hb5.trans (hb6.mono hb5.size)
  clear hg5 hb5 hb4
  obtain ⟨w7, N, hw7, hN⟩ : ∃ w7 N, w7 = w6.alloc (.cells #[.bool neg, .slice A6 m6 c6] 46) ∧ N = w6.heap.size := ⟨_, _, rfl, rfl⟩
  have x0 : w7.cell? ⟨N, 0, none⟩ = some (.bool neg) := by rw [hw7, hN]; go_simp
  have x1 : w7.cell? ⟨N, 1, none⟩ = some (.slice A6 m6 c6) := by rw [hw7, hN]; go_simp
  have hb67 : Below w6.heap.size w6 w7 := by rw [hw7]; exact (Below.refl _ _).alloc (Nat.le_refl _) _
  replace hil4 := hil4.below hb67
  replace hn6 := hn6.below hb67
  replace hb6 := hb6.trans (hb67.mono hb6.size)
  go_wp2_with fail
  rw [← hw7, ← hN]
  clear hw7 hN hb67
  refine Square_any.mono ?_
  rintro e w8 ⟨v8, rfl, hg8, hb8⟩
  obtain ⟨A8, c8, B8, d8, rfl, _, _⟩ := id hg8
  replace hil4 := hil4.below hb8
  replace hn6 := hn6.below hb8
  replace x0 := (hb8.cell (p := ⟨N, 0, none⟩) (cell_some_lt x0)).trans x0
  replace x1 := (hb8.cell (p := ⟨N, 1, none⟩) (cell_some_lt x1)).trans x1
  replace hb8 := hb6.trans (hb8.mono hb6.size)
  go_wp2_with fail
  refine (sq_Print hg8).mono ?_
  rintro e w9 ⟨rfl, hb9⟩
  replace hil4 := hil4.below hb9
  replace hn6 := hn6.below hb9
  replace x0 := (hb9.cell (p := ⟨N, 0, none⟩) (cell_some_lt x0)).trans x0
  replace x1 := (hb9.cell (p := ⟨N, 1, none⟩) (cell_some_lt x1)).trans x1
  replace hb9 := hb8.trans (hb9.mono hb8.size)
  clear hg8 hb8 hb6
  have hN9 := cell_some_lt x0
  go_wp2_with fail
  have HIL := Lib.hid hil4
  have HN6 := Lib.hid hn6
  clear hil4 hn6
  refine wp_region_plan [(11, false), (2, true), (7, false), (2, true), (11, false)] (by kernel_rfl) (by decide) (by kernel_rfl) ?_
  simp only [segs, List.take_succ_cons, List.take_zero, List.drop_succ_cons, List.drop_zero, List.take_nil]
  have hil9 : Il w9.drew P4 3 p4 [0, 1, 2] := HIL.out.below ((Below.refl _ _).drew)
  have hn9 : NIntV w9.drew (fun _ => True) (.agg #[.bool neg, .slice A6 m6 c6]) 32 := HN6.out.below ((Below.refl _ _).drew)
  have y0 : w9.drew.cell? ⟨N, 0, none⟩ = some (.bool neg) := x0
  have y1 : w9.drew.cell? ⟨N, 1, none⟩ = some (.slice A6 m6 c6) := x1
  have hb10 : Below w.heap.size w w9.drew := hb9.drew
  have hN10 : N < w9.drew.heap.size := hN9
  change planW _ _ _ _ _ w9.drew
  clear HIL HN6 x0 x1 hb9 hN9
  generalize w9.drew = w10 at *
  obtain ⟨W9, hW9⟩ : ∃ W9, W9 = w10.alloc (.cells #[.int .i64 0, .int .i64 1, .int .i64 2] 3) := ⟨_, rfl⟩
  have hb11 : Below w10.heap.size w10 W9 := by rw [hW9]; exact (Below.refl _ _).alloc (Nat.le_refl _) _
  have har10 : Arr W9 w10.heap.size 3 (([0, 1, 2] : List Int).map (Value.int .i64)) := by rw [hW9]; exact Arr.at rfl
  have HI := Lib.hid (ints012 (hil9.below hb11) (Il.of_arr har10 (by simp) (by unfold maxLen; decide)))
  have HW9 := Lib.hid hW9
  have HN9 := Lib.hid hn9
  clear hW9 hil9 hn9 har10
  refine planW_seg ?_
  go_wp2_with fail
  refine planW_two ?_ ?_
  all_goals
    go_wp2_with fail
    refine planW_seg ?_
    go_wp2_with (go_at_call 19; rw [← HW9.out]; refine HI.out.mono ?_; rintro e w11 ⟨rfl, hb12⟩)
    have hB11 := hb11.trans (hb12.mono hb11.size)
    have u0 := (hB11.cell (p := ⟨N, 0, none⟩) hN10).trans y0
    have u1 := (hB11.cell (p := ⟨N, 1, none⟩) hN10).trans y1
    have hN11 := Nat.lt_of_lt_of_le hN10 hB11.size
    refine planW_two ?_ ?_
    all_goals
      go_wp2_with (go_at_call 45; refine of32.mono ?_; rintro e w12 ⟨n12, A12, m12, c12, rfl, hn12, hb13⟩; have hB12 := hB11.trans (hb13.mono hB11.size); have t0 := (hb13.cell (p := ⟨N, 0, none⟩) hN11).trans u0; have t1 := (hb13.cell (p := ⟨N, 1, none⟩) hN11).trans u1)
      refine planW_seg ?_
      go_wp2_with (go_at_call 24; refine (same32 (HN9.out.below hB12) hn12).mono ?_; rintro e w13 ⟨rfl, hb14⟩)
      refine planW_nil ?_
      go_wp2_with fail
      go_ret
      exact ⟨rfl, (hb10.trans (hB12.mono hb10.size)).trans (hb14.mono (Nat.le_trans hb10.size hB12.size))⟩
end Go.Proofs.YtpkjdnplmgfbbaaDoor
