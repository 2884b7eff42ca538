/- Package law05: IdealMass. IdealMass returns true for every input, and leaves its arguments as they were. No condition. -/
import Derived.Test.YtdjpeimecfhdjaaGreatXaq
import Derived.Test.YtdjpeimecfhdjaaGreatXap
import Derived.Test.YtdjpeimecfhdjaaGreatRows
import Derived.ProofKit
import Derived.LaidMore
import Derived.OpenShut
namespace Go.Proofs.YtdjpeimecfhdjaaGreat
open Go.RowKit
set_option maxRecDepth 100000 in
set_option maxHeartbeats 4000000 in
theorem IM_no {d l e : Int} {w : World} (he : e = 2 ∨ e = 3 ∨ e = 16) (hM : ∀ w, Calls Tryz.prog 49 #[.int .i64 d, .int .i64 l] w fun r w' => r = .returned (.tuple #[.agg #[.int .i64 0, .int .i64 0], .int .i64 e]) ∧ Below w.heap.size w w')
  (hC : ∀ w, Calls Tryz.prog 50 #[.int .i64 d, .int .i64 l] w fun r w' => r = .returned (.int .i64 e) ∧ w = w') :
  Calls Tryz.prog 9 #[.int .i64 d, .int .i64 l] w fun r w' => r = .returned (.bool true) ∧ Below w.heap.size w w' := by
 have HM := Lib.hid hM
 have HC := Lib.hid hC
 clear hM hC
 rcases he with rfl | rfl | rfl
 all_goals
  go_enter Tryz.func9, Tryz.ntmps9
  go_upto_region 3 with (go_at_call 44; go_must (refine awake5.mono ?_); rintro r w1 ⟨rfl, hb1⟩)
  go_upto_region 4 with (go_at_call 49; go_must (refine (HM.out _).mono ?_); rintro r w2 ⟨rfl, hb2⟩)
  obtain ⟨w3, hw3⟩ : ∃ u, u = w2.alloc (.cells #[.int .i64 0, .int .i64 0] 35) := ⟨_, rfl⟩
  obtain ⟨P, hP⟩ : ∃ u, u = w2.heap.size := ⟨_, rfl⟩
  rw [← hw3, ← hP]
  have hb3 : Below w2.heap.size w2 w3 := by rw [hw3]; exact (Below.refl _ _).alloc (Nat.le_refl _) _
  have hA : Arr w3 P 35 [.int .i64 0, .int .i64 0] := by rw [hw3, hP]; exact Arr.new w2 _ [.int .i64 0, .int .i64 0]
  have c0 := hA.rd (i := 0) rfl
  have c1 := hA.rd (i := 1) rfl
  have HB3 := Lib.hid (hb1.trans ((hb2.trans (hb3.mono hb2.size)).mono hb1.size))
  clear hw3 hP hb1 hb2 hb3 hA
  go_wp2_with (go_at_call 50; go_must (refine (HC.out _).mono ?_); rintro r w4 ⟨rfl, rfl⟩)
  go_ret
  exact ⟨rfl, HB3.out⟩
set_option maxRecDepth 100000 in
set_option maxHeartbeats 4000000 in
theorem IM_yes {d l x y : Int} {w : World} (hM : ∀ w, Calls Tryz.prog 49 #[.int .i64 d, .int .i64 l] w fun r w' => r = .returned (.tuple #[.agg #[.int .i64 x, .int .i64 y], .int .i64 0]) ∧ Below w.heap.size w w')
  (hC : ∀ w, Calls Tryz.prog 50 #[.int .i64 d, .int .i64 l] w fun r w' => r = .returned (.int .i64 0) ∧ w = w')
  (hR : ∀ w, Calls Tryz.prog 51 #[.int .i64 d, .int .i64 l] w fun r w' => r = .returned (.agg #[.int .i64 x, .int .i64 y]) ∧ Below w.heap.size w w') :
  Calls Tryz.prog 9 #[.int .i64 d, .int .i64 l] w fun r w' => r = .returned (.bool true) ∧ Below w.heap.size w w' := by
 have HM := Lib.hid hM
 have HC := Lib.hid hC
 have HR := Lib.hid hR
 clear hM hC hR
 go_enter Tryz.func9, Tryz.ntmps9
 go_upto_region 3 with (go_at_call 44; go_must (refine awake5.mono ?_); rintro r w1 ⟨rfl, hb1⟩)
 go_upto_region 4 with (go_at_call 49; go_must (refine (HM.out _).mono ?_); rintro r w2 ⟨rfl, hb2⟩)
 obtain ⟨w3, hw3⟩ : ∃ u, u = w2.alloc (.cells #[.int .i64 x, .int .i64 y] 35) := ⟨_, rfl⟩
 obtain ⟨P, hP⟩ : ∃ u, u = w2.heap.size := ⟨_, rfl⟩
 rw [← hw3, ← hP]
 have hb3 : Below w2.heap.size w2 w3 := by rw [hw3]; exact (Below.refl _ _).alloc (Nat.le_refl _) _
 have hA : Arr w3 P 35 [.int .i64 x, .int .i64 y] := by rw [hw3, hP]; exact Arr.new w2 _ [.int .i64 x, .int .i64 y]
 have c0 := hA.rd (i := 0) rfl
 have c1 := hA.rd (i := 1) rfl
 have HB3 := Lib.hid (hb1.trans ((hb2.trans (hb3.mono hb2.size)).mono hb1.size))
 clear hw3 hP hb1 hb2 hb3 hA
 go_upto_region 7 with (go_at_call 50; go_must (refine (HC.out _).mono ?_); rintro r w4 ⟨rfl, rfl⟩)
 obtain ⟨v0, hv0⟩ : ∃ v0, v0 = w3.drew := ⟨_, rfl⟩
 have hs : Below w3.heap.size w3 v0 := by rw [hv0]; exact (Below.refl _ _).drew
 refine wp_region_tq5 (.read 0 (.read 1 (.read 2 (.read 3 (.read 4 (.read 5 (.step 6 (.read 7 (.read 8 (.read 9 .nil)))))))))) [] (by kernel_rfl) (by rfl) (by kernel_rfl) (by kernel_rfl) (fun V => Below w3.heap.size w3 V) ?_
 change goU _ _ _ _ _ _ _ w3.drew
 rw [← hv0]
 clear hv0
 refine goU_read 29 hs (by rfl) (by rfl) ?_ (by rfl) (fun wz hSw => ?_) ?_
 rotate_left
 ·go_simp
  try with_reducible rfl
 simp only [sIB, List.set]
 refine goU_read 30 hs (by rfl) (by rfl) ?_ (by rfl) (fun wz hSw => ?_) ?_
 rotate_left
 ·go_simp
  try with_reducible rfl
 simp only [sIB, List.set]
 refine goU_read 31 hs (by rfl) (by rfl) ?_ (by rfl) (fun wz hSw => ?_) ?_
 rotate_left
 ·go_simp
  try with_reducible rfl
 simp only [sIB, List.set]
 refine goU_read 32 hs (by rfl) (by rfl) ?_ (by rfl) (fun wz hSw => ?_) ?_
 rotate_left
 ·have k0 := keepB hSw c0; have k1 := keepB hSw c1; go_simp
  try with_reducible rfl
 simp only [sIB, List.set]
 refine goU_read 33 hs (by rfl) (by rfl) ?_ (by rfl) (fun wz hSw => ?_) ?_
 rotate_left
 ·go_simp
  try with_reducible rfl
 simp only [sIB, List.set]
 refine goU_read 34 hs (by rfl) (by rfl) ?_ (by rfl) (fun wz hSw => ?_) ?_
 rotate_left
 ·go_simp
  try with_reducible rfl
 simp only [sIB, List.set]
 refine goU_call 35 (by rfl) (by rfl) (by rfl) (by go_simp) (HR.out _) ?_
 rintro r v1 ⟨rfl, hb5⟩
 replace hs := hs.trans (hb5.mono hs.size)
 refine ⟨_, rfl, fun _ => hs, ?_⟩
 simp only [sIB, List.set]
 refine goU_read 36 hs (by rfl) (by rfl) ?_ (by rfl) (fun wz hSw => ?_) ?_
 rotate_left
 ·go_simp
  try with_reducible rfl
 simp only [sIB, List.set]
 refine goU_read 37 hs (by rfl) (by rfl) ?_ (by rfl) (fun wz hSw => ?_) ?_
 rotate_left
 ·go_simp
  try with_reducible rfl
 simp only [sIB, List.set]
 refine goU_read 4 hs (by rfl) (by rfl) ?_ (by rfl) (fun wz hSw => ?_) ?_
 rotate_left
 ·go_simp
  try with_reducible rfl
 simp only [sIB, List.set]
 refine goU_nilN ?_
 go_wp2_with fail
 go_ret
 exact ⟨rfl, HB3.out.trans (hs.mono HB3.out.size)⟩
theorem sq_left {d l : Nat} (hl : 1 ≤ l) (hdl : d * l ≤ 2000) (h : sqN (d * l) = true) : sqN d = true := by
 have hle : d ≤ d * l := Nat.le_mul_of_pos_right d hl
 rw [sqN_iff (by omega)]
 intro j h1 h2 h3
 refine (sqN_iff hdl).1 h j h1 (by omega) (Nat.mod_eq_zero_of_dvd ?_)
 exact Nat.dvd_trans (Nat.dvd_of_mod_eq_zero h3) ⟨l, rfl⟩
theorem sq_right {d l : Nat} (hd : 1 ≤ d) (hdl : d * l ≤ 2000) (h : sqN (d * l) = true) : sqN l = true := by
 rw [Nat.mul_comm] at h hdl
 exact sq_left hd hdl h
theorem mfT_D {n : Nat} (h1 : 1 ≤ n) (h2 : n ≤ 2000) : msD (prL n) (prL n).length ≤ 2000 ∧ msL (prL n) 1 (prL n).length ≤ 20000 := by
 have := mfT_ok h1 h2
 unfold mfT at this
 rw [Bool.and_eq_true, Bool.and_eq_true] at this
 exact ⟨Nat.le_of_ble_eq_true this.1.2, Nat.le_of_ble_eq_true this.2⟩
theorem IdealMass_true {w : World} (d l : Int) : Calls Tryz.prog 9 #[.int .i64 d, .int .i64 l] w fun r w' => r = .returned (.bool true) ∧ Below w.heap.size w w' := by
 by_cases h : d < 1 ∨ l < 1 ∨ 2000 < d ∨ 2000 < l ∨ 2000 < d * l
 ·exact IM_no (.inl rfl) (fun w => Mass_range h) (fun w => rLevels_range h)
 obtain ⟨d, rfl⟩ : ∃ n : Nat, d = n := ⟨d.toNat, by omega⟩
 obtain ⟨l, rfl⟩ : ∃ n : Nat, l = n := ⟨l.toNat, by omega⟩
 have hd : 1 ≤ d := by omega
 have hl : 1 ≤ l := by omega
 have hd2 : d ≤ 2000 := by omega
 have hl2 : l ≤ 2000 := by omega
 have hdl : d * l ≤ 2000 := by
  have : ((d * l : Nat) : Int) ≤ 2000 := by rw [Int.natCast_mul]; omega
  omega
 have h1 : 1 ≤ d * l := Nat.mul_pos hd hl
 clear h
 have hf := fcL_sq h1 hdl
 cases hs : sqN (d * l) with
 | false =>
  rw [hs] at hf
  exact IM_no (.inr (.inl rfl)) (fun w => Mass_form hd hl hd2 hl2 hdl hf) (fun w => rLevels_form hd hl hd2 hl2 hdl hs)
 | true =>
  rw [hs] at hf
  have hsd := (fcL_sq hd hd2).trans (sq_left hl hdl hs)
  have hsl := (fcL_sq hl hl2).trans (sq_right hd hdl hs)
  have hdle : d ≤ d * l := Nat.le_mul_of_pos_right d hl
  have hlle : l ≤ d * l := Nat.le_mul_of_pos_left l hd
  have ep : prL d = prsF d 2 (d - 1) := prL_prs hd (by omega) hsd
  have epd : prL d = prsF d 2 (d * l - 1) := prL_prs hd (by omega) hsd
  have epl : prL l = prsF l 2 (d * l - 1) := prL_prs hl (by omega) hsl
  have hC := fun w => @rLevels_ok d l w hd hl hd2 hl2 hdl hs
  rw [← ep] at hC
  by_cases ho : (prL d).length % 2 = 0
  ·have e16 : lvE (prL d).length = 16 := by unfold lvE; rw [if_pos ho]
   rw [e16] at hC
   exact IM_no (.inr (.inr rfl)) (fun w => Mass_even hd hl hd2 hl2 hdl hf hsd hsl ho) hC
  ·have e0 : lvE (prL d).length = 0 := by unfold lvE; rw [if_neg ho]
   rw [e0] at hC
   have kd := mfT_D hd hd2
   have kl := mfT_D hl hl2
   have p1 : ∀ x ∈ prL d, 2 ≤ x ∧ x ≤ 2000 := fun x hx => by
    rw [ep] at hx
    have := prsF_in _ _ _ x hx
    exact ⟨this.1.1, by have := Nat.le_of_dvd hd this.2.1; omega⟩
   have p2 : ∀ x ∈ prL l, 2 ≤ x ∧ x ≤ 2000 := fun x hx => by
    rw [epl] at hx
    have := prsF_in _ _ _ x hx
    exact ⟨this.1.1, by have := Nat.le_of_dvd hl this.2.1; omega⟩
   have eD : msD (prL d) (prL d).length = lpD (prL d) := by rw [msD_take _ _ (Nat.le_refl _), List.take_length]
   have eL : ∀ a, msL (prL l) a (prL l).length = a * lpL (prL l) := fun a => by rw [msL_take _ _ _ (Nat.le_refl _), List.take_length]
   have bD : lpD (prL d) ≤ 2000 := by rw [← eD]; exact kd.1
   have bL : lpL (prL l) ≤ 20000 := by have := kl.2; rw [eL 1, Nat.one_mul] at this; exact this
   have bb : lpD (prL d) * lpL (prL l) ≤ 40000000 := Nat.mul_le_mul bD bL
   have eM : msP d l = lpD (prL d) * lpL (prL l) := by unfold msP; rw [eL, eD]
   have hM := fun w => @Mass_ok d l w hd hl hd2 hl2 hdl hf hsd hsl (by omega) (fun x hx => ⟨by have := p1 x hx; omega, (p1 x hx).2⟩) (fun x hx => ⟨by have := p2 x hx; omega, (p2 x hx).2⟩)
    (fun k hk => by
     rw [msD_take _ _ hk]
     have := lpD_take_le (prL d) (fun x hx => (p1 x hx).1) k
     omega)
    (fun k hk => by
     rw [msL_take _ _ _ hk, eD]
     have := Nat.mul_le_mul_left (lpD (prL d)) (lpL_take_le (prL l) k)
     omega)
   rw [eM] at hM
   have hR := fun w => @rMass_any d l w hd hl hd2 hl2 hdl (lpD (prL d) * lpL (prL l)) (by rw [← epd, ← epl]) (by omega)
   exact IM_yes hM hC hR
end Go.Proofs.YtdjpeimecfhdjaaGreat

namespace Go.Proofs.YtdjpeimecfhdjaaGreat
open Go.ChangeShapes Go.WideShapes Go.ChangeAt Go.WideMaps Go.WideElems Go.RowKit
theorem own_knob : ownKnob Tryz.prog.godebug = none := by kernel_rfl
theorem laid_out : laidOutB Tryz.prog = true := by kernel_rfl
set_option maxRecDepth 100000 in
theorem lawM_lifted (os : Os) (started : os.Started) (H : Type) (enc : TypeId × Value → H) :
  ReturnsInHanded {} Tryz.checked os 9 .any (Rows.idealMassSpec.pre6 enc Tryz.prog Tryz.f9 Rows.idealMassRow.domain false) (Rows.idealMassSpec.post enc Tryz.prog Tryz.f9 false true false false) := by
 refine returnsInHanded_of_change (C := Tryz.checked) own_knob started (by kernel_rfl) Tryz.func9
  (ChangeSpec.witness6 (enc := enc) (C := Tryz.checked) false ⟨#[], #[.int .i64 0, .int .i64 0], []⟩ 8 (by kernel_rfl) (by kernel_rfl) (by kernel_rfl) (by kernel_rfl)) ?_
 intro W base args ds gs before hval0 hW _ _
 have hval : ∀ (j : Nat) t v, Tryz.f9.params[j]? = some t → args[j]? = some v → Value.okWide Tryz.prog W .any base t v := hval0
 have hW' := hW
 obtain ⟨p, q, hA0, hV, rfl, hfz, hnd⟩ := hW
 have hA : DataW.TrodAll enc Tryz.prog W 0 (fun _ => true) true Tryz.f9.params.toList args.toList ds p := hA0
 rw [Tryz.params9] at hA hval
 obtain ⟨v0, v1, d0, d1, p0, p1, rfl, rfl, rfl, h0, h1⟩ := trodAll_two hA
 obtain ⟨rfl, rfl⟩ := trodVars_none hV
 obtain ⟨x0, hx0, _, _, wx0⟩ := open_int Tryz.underlying3 (hval 0 3 v0 rfl rfl) h0
 subst hx0
 obtain ⟨x1, hx1, _, _, wx1⟩ := open_int Tryz.underlying3 (hval 1 3 v1 rfl rfl) h1
 subst hx1
 clear hA0 hval0
 refine (IdealMass_true x0 x1).mono fun e W' ⟨he, hB⟩ => ?_
 subst he
 have hlt : ∀ z ∈ p0 ++ p1, z.block < W.heap.size := fun z hz => hW'.lt z (by simpa using hz)
 have hargs : DataW.TrodAll enc Tryz.prog W' 0 (fun b => decide (b < W.heap.size)) true [3, 3] [.int .i64 x0, .int .i64 x1] [d0, d1] (p0 ++ p1) :=
  trodAll_mk2 (Below.trod laid_out (by kernel_rfl) (of_decide_eq_true (by kernel_rfl)) h0 hB (fun z hz => hlt z (by simp [hz]))) (Below.trod laid_out (by kernel_rfl) (of_decide_eq_true (by kernel_rfl)) h1 hB (fun z hz => hlt z (by simp [hz])))
 exact ⟨_, rfl, _, _, _, [], p0 ++ p1, [], hW', trodAll_mk1 (shut_bool Tryz.underlying4 _), hargs, rfl, hB.frame _, fun h => by cases h⟩
theorem idealMass_said : Rows.IdealMassSaid :=
 OpenClaim.holds_of_wide 9 Tryz.f9 rfl rfl rfl rfl rfl rfl rfl ⟨rfl, rfl, rfl, rfl, rfl⟩ rfl rfl rfl rfl rfl (by kernel_rfl) Tryz.func9 (by kernel_rfl)
  (of_decide_eq_true (by kernel_rfl)) (by unfold Func.isWrapper; first | (rw [if_pos (by decide +kernel)]; kernel_rfl) | (rw [if_neg (by decide +kernel)]; exact ⟨rfl, rfl⟩))
  (fun os started H enc _ => lawM_lifted os started H enc)
#print axioms idealMass_said
end Go.Proofs.YtdjpeimecfhdjaaGreat
