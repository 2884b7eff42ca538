/- Package brandt: fractions; Value. Package brandt: gcd, lowest. Package brandt: chains of valid polynomials; Between. -/
import Derived.Test.YtdmdagilopckgaaGreatExa
namespace Go.Proofs.YtdmdagilopckgaaGreat
open Go.RowKit

/-- The error of a fraction. -/
def cfE (num den : Int) : Int := if den < 1 then 3 else if num < -1000000000 then 8 else if 1000000000 < num then 8 else if 1000000000 < den then 8 else 0
theorem cfE_zero {num den : Int} (h : cfE num den = 0) : 1 ≤ den ∧ den ≤ 1000000000 ∧ -1000000000 ≤ num ∧ num ≤ 1000000000 := by
  unfold cfE at h
  split at h
  · omega
  · split at h
    · omega
    · split at h
      · omega
      · split at h
        · omega
        · omega

set_option maxHeartbeats 1000000 in
theorem checkFrac_any {num den : Int} {w : World} : Calls Tryz.prog 31 #[.agg #[.int .i64 num, .int .i64 den]] w fun e w' => e = .returned (.int .i64 (cfE num den)) ∧ Below w.heap.size w w' := by
  have hb := below_al (Below.refl w.heap.size w) (.cells #[.int .i64 num, .int .i64 den] 24)
  by_cases h1 : den < 1
  · have HE := Lib.hid (show cfE num den = 3 by unfold cfE; rw [if_pos h1])
    go_enter Tryz.func31, Tryz.ntmps31
    go_wp2_with fail
    go_ret
    exact ⟨by rw [HE.out]; rfl, hb⟩
  · by_cases h2 : num < -1000000000
    · have HE := Lib.hid (show cfE num den = 8 by unfold cfE; rw [if_neg h1, if_pos h2])
      have z1 : decide (num < -1000000000) = true := decide_eq_true h2
      go_enter Tryz.func31, Tryz.ntmps31
      go_wp2_with fail
      go_ret
      exact ⟨by rw [HE.out]; rfl, hb⟩
    · have z1 : decide (num < -1000000000) = false := decide_eq_false h2
      by_cases h3 : 1000000000 < num
      · have HE := Lib.hid (show cfE num den = 8 by unfold cfE; rw [if_neg h1, if_neg h2, if_pos h3])
        have z2 : decide (1000000000 < num) = true := decide_eq_true h3
        go_enter Tryz.func31, Tryz.ntmps31
        go_wp2_with fail
        go_ret
        exact ⟨by rw [HE.out]; rfl, hb⟩
      · have z2 : decide (1000000000 < num) = false := decide_eq_false h3
        by_cases h4 : 1000000000 < den
        · have HE := Lib.hid (show cfE num den = 8 by unfold cfE; rw [if_neg h1, if_neg h2, if_neg h3, if_pos h4])
          have z3 : decide (1000000000 < den) = true := decide_eq_true h4
          go_enter Tryz.func31, Tryz.ntmps31
          go_wp2_with fail
          go_ret
          exact ⟨by rw [HE.out]; rfl, hb⟩
        · have HE := Lib.hid (show cfE num den = 0 by unfold cfE; rw [if_neg h1, if_neg h2, if_neg h3, if_neg h4])
          have z3 : decide (1000000000 < den) = false := decide_eq_false h4
          go_enter Tryz.func31, Tryz.ntmps31
          go_wp2_with fail
          go_ret
          exact ⟨by rw [HE.out]; rfl, hb⟩

theorem mul_in {a b : Int} (ha : a.natAbs ≤ 1000000000) (hb : b.natAbs ≤ 1000000000) : -1000000000000000000 ≤ a * b ∧ a * b ≤ 1000000000000000000 := by
  have h : (a * b).natAbs ≤ 1000000000 * 1000000000 := by rw [Int.natAbs_mul]; exact Nat.mul_le_mul ha hb
  omega

set_option maxHeartbeats 1000000 in
theorem before_any {a b c d : Int} {w : World} (ha : a.natAbs ≤ 1000000000) (hb : b.natAbs ≤ 1000000000) (hc : c.natAbs ≤ 1000000000) (hd : d.natAbs ≤ 1000000000) :
    Calls Tryz.prog 32 #[.agg #[.int .i64 a, .int .i64 b], .agg #[.int .i64 c, .int .i64 d]] w fun e w' => e = .returned (.bool (decide (a * d < c * b))) ∧ Below w.heap.size w w' := by
  obtain ⟨h1, h2⟩ := mul_in ha hd
  obtain ⟨h3, h4⟩ := mul_in hc hb
  have hbb := below_al (below_al (Below.refl w.heap.size w) (.cells #[.int .i64 a, .int .i64 b] 24)) (.cells #[.int .i64 c, .int .i64 d] 24)
  go_enter Tryz.func32, Tryz.ntmps32
  go_wp2_with fail
  go_ret
  exact ⟨rfl, hbb⟩

/-- The error of a value. -/
def vlE (l : List Int) (num den : Int) : Int := if rdE l ≠ 0 then rdE l else cfE num den

set_option maxHeartbeats 2000000 in
theorem Value_any {A : Option Addr} {n c : Nat} {l : List Int} {num den : Int} {w : World} (h : Pl IntB w (fun _ => True) A n c l) (hg : rdE l = 0 → GoodP (tz l)) :
    Calls Tryz.prog 21 #[.slice A n c, .agg #[.int .i64 num, .int .i64 den]] w (AnsR w (vlE l num den) (fun _ v => v = .int .i64 (sgA' num den (tz l))) (.int .i64 0)) := by
  have hm := h.room
  unfold maxLen at hm
  have hc := h.cap
  have hb0 := below_al (Below.refl w.heap.size w) (.cells #[.int .i64 num, .int .i64 den] 24)
  have h0 := h.below hb0
  obtain ⟨d, hd⟩ : ∃ d, rdE l = d := ⟨_, rfl⟩
  by_cases h1 : d = 0
  · subst h1
    have HR := Lib.hid (read_ok h0 hd)
    have G1 := Lib.hid (hg hd)
    obtain ⟨d, hd'⟩ : ∃ d, cfE num den = d := ⟨_, rfl⟩
    by_cases h2 : d = 0
    · subst h2
      have HE := Lib.hid (show vlE l num den = 0 by unfold vlE; rw [if_neg (by rw [hd]; simp), hd'])
      have HC := Lib.hid hd'
      obtain ⟨k1, k2, k3, k4⟩ := cfE_zero hd'
      clear h hg hd hd' h0
      generalize tz l = t at *
      obtain ⟨W0, hW0⟩ : ∃ W0, W0 = w.alloc (.cells #[.int .i64 num, .int .i64 den] 24) := ⟨_, rfl⟩
      have q0 : W0.cell? ⟨w.heap.size, 0, none⟩ = some (.int .i64 num) := by rw [hW0]; go_simp
      have q1 : W0.cell? ⟨w.heap.size, 1, none⟩ = some (.int .i64 den) := by rw [hW0]; go_simp
      have HW := Lib.hid hW0
      rw [← hW0] at hb0 HR
      clear hW0
      go_enter Tryz.func21, Tryz.ntmps21
      go_wp2_with (first
        | (go_at_call 30; rw [← HW.out]; go_must (refine HR.out.mono ?_); rintro e w1 ⟨A1, c1, rfl, hp1, hb1⟩; have hc1 := hp1.cap; have hr1 := hp1.room; unfold maxLen at hr1; have q2 := keepB hb1 q0; have q3 := keepB hb1 q1)
        | (go_at_call 31; go_must (refine (checkFrac_any).mono ?_); rintro e w2 ⟨rfl, hb2⟩; rw [HC.out]; have q4 := keepB hb2 q2; have q5 := keepB hb2 q3; have HS := Lib.hid (sign_any (hp1.below hb2) (by have := G1.out.le; omega) G1.out.bd (by omega) (show num.natAbs ≤ 1000000000 by omega) (show den.natAbs ≤ 1000000000 by omega)); clear hp1)
        | (go_at_call 36; go_must (refine HS.out.mono ?_); rintro e w3 ⟨rfl, hb3⟩))
      go_ret2
      exact AnsR.yes HE.out rfl rfl (btr hb0 (btr hb1 (btr hb2 hb3)))
    · have HE := Lib.hid (show vlE l num den = d by unfold vlE; rw [if_neg (by rw [hd]; simp), hd'])
      have HC := Lib.hid hd'
      clear h hg hd hd' h0
      generalize tz l = t at *
      obtain ⟨W0, hW0⟩ : ∃ W0, W0 = w.alloc (.cells #[.int .i64 num, .int .i64 den] 24) := ⟨_, rfl⟩
      have q0 : W0.cell? ⟨w.heap.size, 0, none⟩ = some (.int .i64 num) := by rw [hW0]; go_simp
      have q1 : W0.cell? ⟨w.heap.size, 1, none⟩ = some (.int .i64 den) := by rw [hW0]; go_simp
      have HW := Lib.hid hW0
      rw [← hW0] at hb0 HR
      clear hW0
      go_enter Tryz.func21, Tryz.ntmps21
      go_wp2_with (first
        | (go_at_call 30; rw [← HW.out]; go_must (refine HR.out.mono ?_); rintro e w1 ⟨A1, c1, rfl, hp1, hb1⟩; have hc1 := hp1.cap; have hr1 := hp1.room; unfold maxLen at hr1; have q2 := keepB hb1 q0; have q3 := keepB hb1 q1)
        | (go_at_call 31; go_must (refine (checkFrac_any).mono ?_); rintro e w2 ⟨rfl, hb2⟩; rw [HC.out]))
      go_ret2
      rw [HE.out]
      exact AnsR.no h2 rfl (btr hb0 (btr hb1 hb2))
  · have HR := Lib.hid (read_no h0 hd h1)
    have HE := Lib.hid (show vlE l num den = d by unfold vlE; rw [if_pos (by rw [hd]; exact h1), hd])
    clear h hg hd h0
    generalize tz l = t at *
    go_enter Tryz.func21, Tryz.ntmps21
    go_wp2_with (go_at_call 30; go_must (refine HR.out.mono ?_); rintro e w1 ⟨rfl, hb1⟩)
    go_ret2
    rw [HE.out]
    exact AnsR.no h1 rfl (btr hb0 hb1)
end Go.Proofs.YtdmdagilopckgaaGreat

namespace Go.Proofs.YtdmdagilopckgaaGreat
open Go.RowKit

theorem tmod_nat (x y : Nat) : (x : Int).tmod (y : Int) = ((x % y : Nat) : Int) := by
  rw [Int.tmod_eq_emod_of_nonneg (by omega)]; rfl
theorem tdiv_nat (x y : Nat) : (x : Int).tdiv (y : Int) = ((x / y : Nat) : Int) := by
  rw [Int.tdiv_eq_ediv_of_nonneg (by omega)]; rfl

set_option maxHeartbeats 1000000 in
theorem gcd_any {a b : Nat} {w : World} (ha : a ≤ 9000000000000000000) (hb : b ≤ 9000000000000000000) :
    Calls Tryz.prog 107 #[.int .i64 a, .int .i64 b] w fun e w' => e = .returned (.int .i64 (Nat.gcd a b : Nat)) ∧ Below w.heap.size w w' := by
  go_enter Tryz.func107, Tryz.ntmps107
  go_wp2_with fail
  go_loopw [0, 1] (fun av bv wr => ∃ x y : Nat, av = .int .i64 x ∧ bv = .int .i64 y ∧ x ≤ 9000000000000000000 ∧ y ≤ 9000000000000000000 ∧ Hid (Nat.gcd x y = Nat.gcd a b) ∧ Below w.heap.size w wr) (fun _ bv _ => (intOf bv).toNat)
  case atStart => exact ⟨a, b, rfl, rfl, ha, hb, Lib.hid rfl, Below.refl _ _⟩
  case round =>
    clear ha hb
    obtain ⟨x, y, rfl, rfl, hx, hy, HG, hbr⟩ := hrel
    by_cases h0 : 0 < y
    · have HS := Lib.hid (show Nat.gcd y (x % y) = Nat.gcd a b by rw [← HG.out, Nat.gcd_comm x y, Nat.gcd_rec y x, Nat.gcd_comm])
      have hlt := Nat.mod_lt x h0
      have HT := Lib.hid (tmod_nat x y)
      have y0 : ((y : Int) == 0) = false := by simp; omega
      go_wp2_with fail
      go_quiet (fail)
      go_wp2_with fail
      exact ⟨⟨y, x % y, rfl, by rw [Int.natCast_emod], hy, by omega, HS, below_drewN' hbr _⟩, by simp [intOf]; omega⟩
    · obtain rfl : y = 0 := by omega
      have HE := Lib.hid (show Nat.gcd a b = x by rw [← HG.out, Nat.gcd_zero_right])
      go_wp2_with fail
      go_ret
      exact ⟨by rw [HE.out]; rfl, hbr⟩

/-- A fraction in lowest terms. -/
def lwN (k d : Int) : Int := k / (Int.gcd k d : Int)
def lwD (k d : Int) : Int := d / (Int.gcd k d : Int)

set_option maxHeartbeats 1000000 in
theorem lowest_any {k d : Int} {w : World} (hk : k.natAbs ≤ 9000000000000000000) (h0 : 0 < d) (hd : d ≤ 9000000000000000000) :
    Calls Tryz.prog 75 #[.int .i64 k, .int .i64 d] w fun e w' => e = .returned (.agg #[.int .i64 (lwN k d), .int .i64 (lwD k d)]) ∧ Below w.heap.size w w' := by
  have hg0 : 0 < Int.gcd k d := Int.gcd_pos_of_ne_zero_right _ (by omega)
  have hgd : Int.gcd k d ≤ d.natAbs := Int.gcd_le_natAbs_right _ (by omega)
  have HN := Lib.hid (show k.tdiv (Int.gcd k d : Int) = lwN k d from Int.tdiv_eq_ediv_of_dvd (Int.gcd_dvd_left ..))
  have HD := Lib.hid (show d.tdiv (Int.gcd k d : Int) = lwD k d from Int.tdiv_eq_ediv_of_dvd (Int.gcd_dvd_right ..))
  have HC := Lib.hid (show ∀ m : Int, m = (k.natAbs : Int) → ∀ w, Calls Tryz.prog 107 #[.int .i64 m, .int .i64 d] w fun e w' => e = .returned (.int .i64 (Int.gcd k d : Nat)) ∧ Below w.heap.size w w' from fun m hm w => by
    have h1 := @gcd_any k.natAbs d.natAbs w hk (by omega)
    rw [← hm, show ((d.natAbs : Nat) : Int) = d by omega] at h1
    exact h1)
  generalize lwN k d = x at *
  generalize lwD k d = y at *
  generalize hg : Int.gcd k d = g at *
  have Hg := Lib.hid hg
  clear hg
  have g0 : ((g : Int) == 0) = false := by simp; omega
  have g1 : ((g : Int) == -1) = false := by simp
  go_enter Tryz.func75, Tryz.ntmps75
  go_wp2_with (go_at_call 107; go_must (refine (HC.out _ (by omega) _).mono ?_); rintro e w1 ⟨rfl, hb1⟩)
  all_goals
    have q0 : w1.cell? ⟨w.heap.size, 0, none⟩ = some (.int .i64 0) := keepB hb1 (by go_simp)
    have q1 : w1.cell? ⟨w.heap.size, 1, none⟩ = some (.int .i64 0) := keepB hb1 (by go_simp)
    have z0 : w1.frozen? ⟨w.heap.size, 0, none⟩ = false := ((bcell hb1).2 _ _ (by simp)).trans (by go_simp)
    have z1 : w1.frozen? ⟨w.heap.size, 1, none⟩ = false := ((bcell hb1).2 _ _ (by simp)).trans (by go_simp)
    go_region
    go_wp2_with fail
    have hb2 : Below w.heap.size w w1 := (below_al (Below.refl _ _) _).trans (hb1.mono (by simp))
    have HX : k / (g : Int) = x := by rw [← Hg.out, ← Int.tdiv_eq_ediv_of_dvd (Int.gcd_dvd_left ..), Hg.out]; exact HN.out
    have HY : d / (g : Int) = y := by rw [← Hg.out, ← Int.tdiv_eq_ediv_of_dvd (Int.gcd_dvd_right ..), Hg.out]; exact HD.out
    have HZ := HN.out
    have c0 : ((w1.setCell ⟨w.heap.size, 0, none⟩ (.int .i64 x)).setCell ⟨w.heap.size, 1, none⟩ (.int .i64 y)).cell? ⟨w.heap.size, 0, none⟩ = some (.int .i64 x) := by go_simp
    have c1 : ((w1.setCell ⟨w.heap.size, 0, none⟩ (.int .i64 x)).setCell ⟨w.heap.size, 1, none⟩ (.int .i64 y)).cell? ⟨w.heap.size, 1, none⟩ = some (.int .i64 y) := by go_simp
    try rw [HX]
    try rw [HZ]
    rw [HY]
    generalize hW : (w1.setCell ⟨w.heap.size, 0, none⟩ (.int .i64 x)).setCell ⟨w.heap.size, 1, none⟩ (.int .i64 y) = W at *
    have hb3 : Below w.heap.size w W.drew := by rw [← hW]; exact ((hb2.setCell (by simp) _).setCell (by simp) _).drew
    refine bodyPost_ret (v := .agg #[.int .i64 x, .int .i64 y]) (by simp [results, Tryz.results75, go_sem, c0, c1]) rfl ⟨rfl, hb3⟩
end Go.Proofs.YtdmdagilopckgaaGreat

namespace Go.Proofs.YtdmdagilopckgaaGreat
open Go.RowKit

theorem chain_good {A : Option Addr} {n c : Nat} {t : List Int} {w : World} (h : Pl NI w (fun _ => True) A n c t) (g : GoodP t) :
    Calls Tryz.prog 33 #[.slice A n c] w (Gives w fun w' v => CV w' v (ch t)) := by
  have hn := h.len
  exact chain_any h (squarefree_any h (by have := g.pos; omega) (by have := g.le; omega) g.norm g.bd g.sq) g.sqt g.sql g.sqb g.ne
theorem changesAt_good {w : World} {A : Option Addr} {n c : Nat} {t : List Int} {num den : Int} (h : CV w (.slice A n c) (ch t)) (g : GoodP t) (hnum : num.natAbs ≤ 1000000000) (hden : den.natAbs ≤ 1000000000) :
    Calls Tryz.prog 34 #[.slice A n c, .agg #[.int .i64 num, .int .i64 den]] w fun e w' => e = .returned (.int .i64 (chA num den (ch t))) ∧ Below w.heap.size w w' :=
  changesAt_any h (by have := h.room.1; have : (ch t).length ≤ 12 := g.chl; omega) (fun p hp => ⟨by have := (g.chb p hp).1; omega, (g.chb p hp).2.mono (by omega)⟩) hnum hden
theorem roots_good {w : World} {A : Option Addr} {n c : Nat} {t : List Int} (h : CV w (.slice A n c) (ch t)) (g : GoodP t) :
    Calls Tryz.prog 37 #[.slice A n c] w fun e w' => e = .returned (.int .i64 (allR (ch t))) ∧ Below w.heap.size w w' :=
  roots_any h (by have := h.room.1; have : (ch t).length ≤ 12 := g.chl; omega) (fun p hp => ⟨g.ne p hp, (g.chb p hp).2.mono (by omega)⟩)
theorem sign_good {w : World} {A : Option Addr} {n c : Nat} {t : List Int} {num den : Int} (h : Pl NI w (fun _ => True) A n c t) (g : GoodP t) (hnum : num.natAbs ≤ 1000000000) (hden : den.natAbs ≤ 1000000000) :
    Calls Tryz.prog 36 #[.slice A n c, .agg #[.int .i64 num, .int .i64 den]] w fun e w' => e = .returned (.int .i64 (sgA' num den t)) ∧ Below w.heap.size w w' :=
  sign_any h (by have := g.le; have := h.len; omega) g.bd (by omega) hnum hden
theorem chA_le (num den : Int) {t : List Int} (g : GoodP t) : 0 ≤ chA num den (ch t) ∧ chA num den (ch t) ≤ 12 := by
  have h := chc_le 0 ((ch t).map (sgA' num den))
  rw [List.length_map] at h
  have : (ch t).length ≤ 12 := g.chl
  unfold chA
  omega

/-- The error of two fractions. -/
def twE (a b c d : Int) : Int := if cfE a b ≠ 0 then cfE a b else cfE c d
/-- The error of Between. -/
def btE (l : List Int) (a b c d : Int) : Int := if rdE l ≠ 0 then rdE l else if cfE a b ≠ 0 then cfE a b else if cfE c d ≠ 0 then cfE c d else if c * b < a * d then 14 else 0

theorem ix0 (a b x y : Int) (w : World) : (Instr.index 69 (.agg #[.int .i64 a, .int .i64 b, .int .i64 x, .int .i64 y]) (.int .i64 0)).run Tryz.prog w = .ok (.agg #[.int .i64 a, .int .i64 b]) w := by kernel_rfl
theorem ix1 (a b x y : Int) (w : World) : (Instr.index 69 (.agg #[.int .i64 a, .int .i64 b, .int .i64 x, .int .i64 y]) (.int .i64 1)).run Tryz.prog w = .ok (.agg #[.int .i64 x, .int .i64 y]) w := by kernel_rfl

set_option maxHeartbeats 2000000 in
theorem Between_any {A : Option Addr} {n c : Nat} {l : List Int} {a b x y : Int} {w : World} (h : Pl IntB w (fun _ => True) A n c l) (hg : rdE l = 0 → GoodP (tz l)) :
    Calls Tryz.prog 8 #[.slice A n c, .agg #[.int .i64 a, .int .i64 b], .agg #[.int .i64 x, .int .i64 y]] w (AnsR w (btE l a b x y) (fun _ v => v = .int .i64 (chA a b (ch (tz l)) - chA x y (ch (tz l)))) (.int .i64 0)) := by
  have hm := h.room
  unfold maxLen at hm
  have hc := h.cap
  have hb0 := below_al (below_al (Below.refl w.heap.size w) (.cells #[.int .i64 a, .int .i64 b] 24)) (.cells #[.int .i64 x, .int .i64 y] 24)
  have h0 := h.below hb0
  obtain ⟨d, hd⟩ : ∃ d, rdE l = d := ⟨_, rfl⟩
  by_cases h1 : d = 0
  · subst h1
    have HR := Lib.hid (read_ok h0 hd)
    have G1 := Lib.hid (hg hd)
    have HE := Lib.hid (show btE l a b x y = if cfE a b ≠ 0 then cfE a b else if cfE x y ≠ 0 then cfE x y else if x * b < a * y then 14 else 0 by unfold btE; rw [if_neg (by rw [hd]; simp)])
    clear h hg hd h0
    generalize tz l = t at *
    obtain ⟨W0, hW0⟩ : ∃ W0, W0 = (w.alloc (.cells #[.int .i64 a, .int .i64 b] 24)).alloc (.cells #[.int .i64 x, .int .i64 y] 24) := ⟨_, rfl⟩
    have q0 : W0.cell? ⟨w.heap.size, 0, none⟩ = some (.int .i64 a) := by rw [hW0]; go_simp
    have q1 : W0.cell? ⟨w.heap.size, 1, none⟩ = some (.int .i64 b) := by rw [hW0]; go_simp
    have q2 : W0.cell? ⟨w.heap.size + 1, 0, none⟩ = some (.int .i64 x) := by rw [hW0]; go_simp
    have q3 : W0.cell? ⟨w.heap.size + 1, 1, none⟩ = some (.int .i64 y) := by rw [hW0]; go_simp
    have HW := Lib.hid hW0
    rw [← hW0] at hb0 HR
    clear hW0
    go_enter Tryz.func8, Tryz.ntmps8
    go_wp2_with (go_at_call 30; rw [← HW.out]; go_must (refine HR.out.mono ?_); rintro e w1 ⟨A1, c1, rfl, hp1, hb1⟩; have hc1 := hp1.cap; have hr1 := hp1.room; unfold maxLen at hr1; have p0 := keepB hb1 q0; have p1 := keepB hb1 q1; have p2 := keepB hb1 q2; have p3 := keepB hb1 q3)
    have hbw := btr hb0 hb1
    go_loopw [25] (fun iv wr => ∃ k : Nat, iv = .int .i64 k ∧ k ≤ 2 ∧ Hid (0 < k → cfE a b = 0) ∧ Hid (1 < k → cfE x y = 0) ∧ Below w1.heap.size w1 wr) (fun iv _ => 2 - (intOf iv).toNat)
    case atStart => exact ⟨0, rfl, by omega, Lib.hid (fun h => absurd h (by omega)), Lib.hid (fun h => absurd h (by omega)), Below.refl _ _⟩
    case round =>
      obtain ⟨k, rfl, hk, H1, H2, hbr⟩ := hrel
      have i0 := ix0 a b x y
      have i1 := ix1 a b x y
      by_cases hk0 : k = 0
      · subst hk0
        clear hk H1 H2 hp1
        by_cases hc0 : cfE a b = 0
        · have HC := Lib.hid hc0
          clear hc0
          go_wp2_with (go_at_call 31; go_must (refine (checkFrac_any).mono ?_); rintro e w2 ⟨rfl, hb2⟩; rw [HC.out])
          go_roundw
          case rel => exact ⟨1, rfl, by omega, Lib.hid (fun _ => HC.out), Lib.hid (fun h => absurd h (by omega)), btr (below_al hbr _) (hb2.mono (by simp))⟩
          case measure => simp [intOf]
        · obtain ⟨d, hd⟩ : ∃ d, cfE a b = d := ⟨_, rfl⟩
          rw [hd] at hc0
          have HE2 := Lib.hid (show btE l a b x y = d by rw [HE.out, if_pos (by rw [hd]; exact hc0), hd])
          have HC := Lib.hid hd
          clear hd
          go_wp2_with (go_at_call 31; go_must (refine (checkFrac_any).mono ?_); rintro e w2 ⟨rfl, hb2⟩; rw [HC.out])
          go_ret2
          rw [HE2.out]
          exact AnsR.no hc0 rfl (btr hbw (btr (below_al hbr _) (hb2.mono (by simp))))
      by_cases hk1 : k = 1
      · subst hk1
        clear hk H2 hp1 hk0
        have H0 := Lib.hid (H1.out (by omega))
        clear H1
        by_cases hc0 : cfE x y = 0
        · have HC := Lib.hid hc0
          clear hc0
          go_wp2_with (go_at_call 31; go_must (refine (checkFrac_any).mono ?_); rintro e w2 ⟨rfl, hb2⟩; rw [HC.out])
          go_roundw
          case rel => exact ⟨2, rfl, by omega, Lib.hid (fun _ => H0.out), Lib.hid (fun _ => HC.out), btr (below_al hbr _) (hb2.mono (by simp))⟩
          case measure => simp [intOf]
        · obtain ⟨d, hd⟩ : ∃ d, cfE x y = d := ⟨_, rfl⟩
          rw [hd] at hc0
          have HE2 := Lib.hid (show btE l a b x y = d by rw [HE.out, if_neg (by rw [H0.out]; simp), if_pos (by rw [hd]; exact hc0), hd])
          have HC := Lib.hid hd
          clear hd
          go_wp2_with (go_at_call 31; go_must (refine (checkFrac_any).mono ?_); rintro e w2 ⟨rfl, hb2⟩; rw [HC.out])
          go_ret2
          rw [HE2.out]
          exact AnsR.no hc0 rfl (btr hbw (btr (below_al hbr _) (hb2.mono (by simp))))
      · obtain rfl : k = 2 := by omega
        have h1 := H1.out (by omega)
        have h2 := H2.out (by omega)
        have HE2 := Lib.hid (show btE l a b x y = if x * b < a * y then 14 else 0 by rw [HE.out, if_neg (by rw [h1]; simp), if_neg (by rw [h2]; simp)])
        obtain ⟨e1, e2, e3, e4⟩ := cfE_zero h1
        obtain ⟨e5, e6, e7, e8⟩ := cfE_zero h2
        clear h1 h2 H1 H2 HE hk hk0 hk1 i0 i1
        have p4 := keepB hbr p0
        have p5 := keepB hbr p1
        have p6 := keepB hbr p2
        have p7 := keepB hbr p3
        have hp2 := hp1.below hbr
        have hbz := btr hbw hbr
        clear hp1 hbw hbr p0 p1 p2 p3 q0 q1 q2 q3 hb0 hb1
        by_cases hlt : x * b < a * y
        · have HE3 := Lib.hid (show btE l a b x y = 14 by rw [HE2.out, if_pos hlt])
          have HT := Lib.hid (decide_eq_true hlt)
          clear hlt
          go_wp2_with (go_at_call 32; go_must (refine (before_any (by omega) (by omega) (by omega) (by omega)).mono ?_); rintro e w3 ⟨rfl, hb3⟩; rw [HT.out])
          go_ret2
          rw [HE3.out]
          exact AnsR.no (by decide) rfl (btr hbz hb3)
        · have HE3 := Lib.hid (show btE l a b x y = 0 by rw [HE2.out, if_neg hlt])
          have HT := Lib.hid (decide_eq_false hlt)
          clear hlt
          have HP := Lib.hid hp2
          clear hp2
          go_wp2_with (first
            | (go_at_call 32; go_must (refine (before_any (by omega) (by omega) (by omega) (by omega)).mono ?_); rintro e w3 ⟨rfl, hb3⟩; rw [HT.out])
            | (go_at_call 33; go_must (refine (chain_good (HP.out.below hb3) G1.out).mono ?_); rintro e w4 ⟨v4, rfl, hv4, hb4⟩))
          have hb34 := btr hb3 hb4
          obtain ⟨A4, c4, rfl⟩ := hv4.slice
          have P0 := Lib.hid (keepB hb34 p4)
          have P1 := Lib.hid (keepB hb34 p5)
          have P2 := Lib.hid (keepB hb34 p6)
          have P3 := Lib.hid (keepB hb34 p7)
          have HV := Lib.hid hv4
          have hbY := btr hbz hb34
          have l1 := chA_le a b G1.out
          have l2 := chA_le x y G1.out
          clear hb34 hb3 hb4 hv4 p4 p5 p6 p7 hbz
          have K1 := Lib.hid (fun W (hb : Below w4.heap.size w4 W) => changesAt_good (num := a) (den := b) (HV.out.below hb) G1.out (by omega) (by omega))
          have K2 := Lib.hid (fun W (hb : Below w4.heap.size w4 W) => changesAt_good (num := x) (den := y) (HV.out.below hb) G1.out (by omega) (by omega))
          generalize hu1 : chA a b (ch t) = u1 at *
          generalize hu2 : chA x y (ch t) = u2 at *
          have HU1 := Lib.hid hu1
          have HU2 := Lib.hid hu2
          clear hu1 hu2
          have hs0 : Below w4.heap.size w4 w4.drew := (Below.refl _ _).drew
          refine wp_region_trg (.read 0 (.read 1 (.read 3 (.read 4 (.step 2 (.step 5 (.step 6 (.step 7 (.step 8 .nil))))))))) [] (by kernel_rfl) (by rfl) (by kernel_rfl) (by kernel_rfl) (fun _ _ _ _ _ h => h) (fun W' => Below w4.heap.size w4 W') ?_
          refine goG_read 39 hs0 (by rfl) (by rfl) ?_ (by rfl) (fun wz hSw => ?_) ?_
          rotate_left
          · go_simp
            try with_reducible rfl
          simp only [List.setIfInBounds_toArray, List.set]
          refine goG_read 40 hs0 (by rfl) (by rfl) ?_ (by rfl) (fun wz hSw => ?_) ?_
          rotate_left
          · (have x0 := keepB hSw P0.out); (have x1 := keepB hSw P1.out); go_simp
            try with_reducible rfl
          simp only [List.setIfInBounds_toArray, List.set]
          refine goG_read 42 hs0 (by rfl) (by rfl) ?_ (by rfl) (fun wz hSw => ?_) ?_
          rotate_left
          · go_simp
            try with_reducible rfl
          simp only [List.setIfInBounds_toArray, List.set]
          refine goG_read 43 hs0 (by rfl) (by rfl) ?_ (by rfl) (fun wz hSw => ?_) ?_
          rotate_left
          · (have x0 := keepB hSw P2.out); (have x1 := keepB hSw P3.out); go_simp
            try with_reducible rfl
          simp only [List.setIfInBounds_toArray, List.set]
          refine goG_step (by rfl) ?_
          go_wp2_with (go_at_call 34; go_must (refine (K1.out _ hs0).mono ?_); rintro e w5 ⟨rfl, hb5⟩)
          have hs1 := btr hs0 hb5
          refine ⟨fun _ => hs1, ?_⟩
          refine goG_step (by rfl) ?_
          go_wp2_with (go_at_call 34; go_must (refine (K2.out _ hs1).mono ?_); rintro e w6 ⟨rfl, hb6⟩)
          have hs2 := btr hs1 hb6
          refine ⟨fun _ => hs2, ?_⟩
          iterate 3
            refine goG_step (by rfl) ?_
            go_wp2_with fail
            refine ⟨fun _ => hs2, ?_⟩
          rename_i hK
          refine hK _ _ ?_
          go_wp2_with fail
          go_ret2
          exact AnsR.yes (v := .int .i64 (u1 - u2)) HE3.out rfl (by rw [HU1.out, HU2.out]) (btr hbY hs2)
  · have HR := Lib.hid (read_no h0 hd h1)
    have HE := Lib.hid (show btE l a b x y = d by unfold btE; rw [if_pos (by rw [hd]; exact h1), hd])
    clear h hg hd h0
    generalize tz l = t at *
    go_enter Tryz.func8, Tryz.ntmps8
    go_wp2_with (go_at_call 30; go_must (refine HR.out.mono ?_); rintro e w1 ⟨rfl, hb1⟩)
    go_ret2
    rw [HE.out]
    exact AnsR.no h1 rfl (btr hb0 hb1)
end Go.Proofs.YtdmdagilopckgaaGreat
