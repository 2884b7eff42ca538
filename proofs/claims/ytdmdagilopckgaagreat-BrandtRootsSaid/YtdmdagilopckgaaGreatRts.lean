/- The law's roots: what Between and Enclose answer at x^2 - 2. -/
import Derived.Test.YtdmdagilopckgaaGreatB5
import Derived.Test.YtdmdagilopckgaaGreatPze
import Derived.Test.YtdmdagilopckgaaGreatB6
import Derived.IntWalk
namespace Go.Proofs.YtdmdagilopckgaaGreat
open Go.RowKit

theorem rt_ch : ch [-2, 0, 1] = [[-2, 0, 1], [0, 1], [1]] := by decide +kernel
theorem rt_rd : rdE [-2, 0, 1] = 0 := by decide +kernel
theorem rt_bt : btE [-2, 0, 1] 0 1 2 1 = 0 := by decide +kernel
theorem rt_bv : chA 0 1 (ch [-2, 0, 1]) - chA 2 1 (ch [-2, 0, 1]) = 1 := by decide +kernel
theorem rt_en : enE [-2, 0, 1] 10 = 0 := by decide +kernel
theorem rt_el : enL [-2, 0, 1] 10 = [(-3, 2, -7, 5, 1), (7, 5, 3, 2, 1)] := by decide +kernel
theorem tz_2 : tz [-2, 0, 1] = [-2, 0, 1] := by decide +kernel
theorem rt_good : GoodP (tz [-2, 0, 1]) := goodP (by decide +kernel) (by decide +kernel) (by decide +kernel) (fun x hx => by
  rw [tz_2] at hx
  simp at hx
  rcases hx with rfl | rfl | rfl <;> decide +kernel)

/-- Three integers side by side. -/
theorem three_pl {w : World} {b0 b1 b2 : Bool} {A0 A1 A2 : Option Addr} {m0 c0 m1 c1 m2 c2 : Nat} {x y z : Int} (h0 : NI w (.agg #[.bool b0, .slice A0 m0 c0]) x) (h1 : NI w (.agg #[.bool b1, .slice A1 m1 c1]) y) (h2 : NI w (.agg #[.bool b2, .slice A2 m2 c2]) z) :
    Pl NI (w.alloc (.cells #[.bool b0, .slice A0 m0 c0, .bool b1, .slice A1 m1 c1, .bool b2, .slice A2 m2 c2] 63)) (fun _ => True) (some ⟨w.heap.size, 0, none⟩) 3 3 [x, y, z] := by
  have hb := below_al (Below.refl w.heap.size w) (.cells #[.bool b0, .slice A0 m0 c0, .bool b1, .slice A1 m1 c1, .bool b2, .slice A2 m2 c2] 63)
  have k0 := h0.below hb
  have k1 := h1.below hb
  have k2 := h2.below hb
  refine ⟨rfl, Nat.le_refl _, by unfold maxLen; omega, fun _ => ⟨_, _, rfl, trivial, fun j hj => ?_⟩⟩
  rcases j with _ | _ | _ | j
  · exact ⟨b0, A0, m0, c0, by go_simp, by go_simp, k0⟩
  · exact ⟨b1, A1, m1, c1, by go_simp, by go_simp, k1⟩
  · exact ⟨b2, A2, m2, c2, by go_simp, by go_simp, k2⟩
  · omega

theorem betw2 {A : Option Addr} {w : World} (h : Pl IntB w (fun _ => True) A 3 3 [-2, 0, 1]) :
    Calls Tryz.prog 8 #[.slice A 3 3, .agg #[.int .i64 0, .int .i64 1], .agg #[.int .i64 2, .int .i64 1]] w fun e w' => e = .returned (.tuple #[.int .i64 1, .int .i64 0]) ∧ Below w.heap.size w w' := by
  refine (Between_any (a := 0) (b := 1) (x := 2) (y := 1) h (fun _ => rt_good)).mono ?_
  rw [tz_2, rt_bt, rt_bv]
  rintro e w' ⟨v, rfl, h1, _, hb⟩
  rw [h1 rfl]
  exact ⟨rfl, hb⟩
theorem encl2 {A : Option Addr} {w : World} (h : Pl IntB w (fun _ => True) A 3 3 [-2, 0, 1]) :
    Calls Tryz.prog 9 #[.slice A 3 3, .int .i64 10] w fun e w' => ∃ B b off c, e = .returned (.tuple #[.slice B 2 c, .int .i64 0]) ∧ 2 ≤ c ∧ c ≤ 9223372036854775807 ∧ B = some ⟨b, off, none⟩ ∧ w'.cell? ⟨b, off + 5, none⟩ = some (.int .i64 7) ∧ w'.cell? ⟨b, off + 5 + 1, none⟩ = some (.int .i64 5) ∧ w'.cell? ⟨b, off + 5 + 2, none⟩ = some (.int .i64 3) ∧ w'.cell? ⟨b, off + 5 + 3, none⟩ = some (.int .i64 2) ∧ w'.cell? ⟨b, off + 5 + 4, none⟩ = some (.int .i64 1) ∧ Below w.heap.size w w' := by
  refine (Enclose_any (den := 10) h (fun _ => rt_good) (Or.inl (by decide))).mono ?_
  rw [tz_2, rt_en, rt_el]
  rintro e w' ⟨v, rfl, h1, _, hb⟩
  obtain ⟨B, c, rfl, h2⟩ := h1 rfl
  obtain ⟨b, off, hB, k0, k1, k2, k3, k4⟩ := h2.at (i := 1) rfl
  have hr := h2.room
  unfold maxLen at hr
  exact ⟨B, b, off, c, rfl, h2.cap, hr, hB, k0, k1, k2, k3, k4, hb⟩

set_option maxRecDepth 100000 in
set_option maxHeartbeats 4000000 in
theorem lawRoots_any {w : World} : Calls Tryz.prog 6 #[] w fun e w' => e = .returned (.bool true) ∧ Below w.heap.size w w' := by
  go_enter Tryz.func6, Tryz.ntmps6
  go_upto_region 2 with (first
    | (go_at_call 28; ((with_reducible refine (rOf_any (-2) _ (by decide) (by decide)).mono ?_)); rintro e w1 ⟨v1, rfl, hv1, hb1⟩; obtain ⟨n1, A1, m1, c1, rfl, hi1⟩ := (nint_ni hv1).shape)
    | (go_at_call 28; ((with_reducible refine (rOf_any 0 _ (by decide) (by decide)).mono ?_)); rintro e w2 ⟨v2, rfl, hv2, hb2⟩; obtain ⟨n2, A2, m2, c2, rfl, hi2⟩ := (nint_ni hv2).shape)
    | (go_at_call 28; ((with_reducible refine (rOf_any 1 _ (by decide) (by decide)).mono ?_)); rintro e w3 ⟨v3, rfl, hv3, hb3⟩; obtain ⟨n3, A3, m3, c3, rfl, hi3⟩ := (nint_ni hv3).shape))
  have hpl := (three_pl ((hi1.below hb2).below hb3) (hi2.below hb3) hi3).imp (E' := IntB) fun v x hx h => h.b (by simp at hx; rcases hx with rfl | rfl | rfl <;> decide +kernel)
  obtain ⟨w4, hw4⟩ : ∃ w4, w4 = w3.alloc (.cells #[.bool n1, .slice A1 m1 c1, .bool n2, .slice A2 m2 c2, .bool n3, .slice A3 m3 c3] 63) := ⟨_, rfl⟩
  have hb4 : Below w.heap.size w w4 := by rw [hw4]; exact below_al (btr (btr hb1 hb2) hb3) _
  rw [← hw4] at hpl ⊢
  clear hw4 hi1 hi2 hi3 hb1 hb2 hb3 hv1 hv2 hv3
  have HPL := Lib.hid hpl
  clear hpl
  go_wp2_with (first
    | (go_at_call 8; go_must (refine (betw2 HPL.out).mono ?_); rintro e w5 ⟨rfl, hb5⟩; have HP5 := Lib.hid (HPL.out.below hb5))
    | (go_at_call 9; go_must (refine (encl2 HP5.out).mono ?_); rintro e w6 ⟨B, b, off, c, rfl, hc1, hc2, rfl, k0, k1, k2, k3, k4, hb6⟩))
  go_ret
  exact ⟨rfl, btr (btr hb4 hb5) hb6⟩
end Go.Proofs.YtdmdagilopckgaaGreat
