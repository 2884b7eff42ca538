/- (pruned) -/
import Derived.Test.YtdjpeimecfhdjaaGreatUf
import Derived.Test.YtdjpeimecfhdjaaGreatUp
namespace Go.Proofs.YtdjpeimecfhdjaaGreat
open Go.RowKit
set_option maxHeartbeats 1000000 in
theorem lowestR_any {k d : Int} {w : World} (hk : k.natAbs ≤ 9000000000000000000) (h0 : 0 < d) (hd : d ≤ 9000000000000000000) :
  Calls Tryz.prog 76 #[.int .i64 k, .int .i64 d] w fun e w' => e = .returned (.agg #[.int .i64 (lwBN k d), .int .i64 (lwBD k d)]) ∧ Below w.heap.size w w' := by
 have hg0 : 0 < Int.gcd k d := Int.gcd_pos_of_ne_zero_right _ (by omega)
 have hgd : Int.gcd k d ≤ d.natAbs := Int.gcd_le_natAbs_right _ (by omega)
 have HN := Lib.hid (show k.tdiv (Int.gcd k d : Int) = lwBN k d from Int.tdiv_eq_ediv_of_dvd (Int.gcd_dvd_left ..))
 have HD := Lib.hid (show d.tdiv (Int.gcd k d : Int) = lwBD k d from Int.tdiv_eq_ediv_of_dvd (Int.gcd_dvd_right ..))
 have HC := Lib.hid (fun w => @bGcd_any k d w hk (by omega))
 generalize lwBN k d = x at *
 generalize lwBD k d = y at *
 generalize hg : Int.gcd k d = g at *
 have Hg := Lib.hid hg
 clear hg
 have g0 : ((g : Int) == 0) = false := by simp; omega
 have g1 : ((g : Int) == -1) = false := by simp
 go_enter Tryz.func76, Tryz.ntmps76
 go_wp2_with (go_at_call 83; go_must (refine (HC.out _).mono ?_); rintro e w1 ⟨rfl, hb1⟩)
 all_goals
  have q0 : w1.cell? ⟨w.heap.size, 0, none⟩ = some (.int .i64 0) := keepB hb1 (by go_simp)
  have q1 : w1.cell? ⟨w.heap.size, 1, none⟩ = some (.int .i64 0) := keepB hb1 (by go_simp)
  have z0 : w1.frozen? ⟨w.heap.size, 0, none⟩ = false := ((bcell hb1).2 _ _ (by simp)).trans (by go_simp)
  have z1 : w1.frozen? ⟨w.heap.size, 1, none⟩ = false := ((bcell hb1).2 _ _ (by simp)).trans (by go_simp)
  go_region
  go_wp2_with fail
  have hb2 : Below w.heap.size w w1 := ((Below.refl _ _).alloc (Nat.le_refl _) _).trans (hb1.mono (by simp))
  have HX : k / (g : Int) = x := by rw [← Hg.out, ← Int.tdiv_eq_ediv_of_dvd (Int.gcd_dvd_left ..), Hg.out]; exact HN.out
  have HY : d / (g : Int) = y := by rw [← Hg.out, ← Int.tdiv_eq_ediv_of_dvd (Int.gcd_dvd_right ..), Hg.out]; exact HD.out
  have HZ := HN.out
  have c0 : ((w1.setCell ⟨w.heap.size, 0, none⟩ (.int .i64 x)).setCell ⟨w.heap.size, 1, none⟩ (.int .i64 y)).cell? ⟨w.heap.size, 0, none⟩ = some (.int .i64 x) := by go_simp
  have c1 : ((w1.setCell ⟨w.heap.size, 0, none⟩ (.int .i64 x)).setCell ⟨w.heap.size, 1, none⟩ (.int .i64 y)).cell? ⟨w.heap.size, 1, none⟩ = some (.int .i64 y) := by go_simp
  try rw [HX]
  try rw [HZ]
  rw [HY]
  generalize hW : (w1.setCell ⟨w.heap.size, 0, none⟩ (.int .i64 x)).setCell ⟨w.heap.size, 1, none⟩ (.int .i64 y) = W at *
  have hb3 : Below w.heap.size w W.drew := by rw [← hW]; exact ((hb2.setCell (by simp) _).setCell (by simp) _).drew
  refine bodyPost_ret (v := .agg #[.int .i64 x, .int .i64 y]) (by simp [results, Tryz.results76, go_sem, c0, c1]) rfl ⟨rfl, hb3⟩
end Go.Proofs.YtdjpeimecfhdjaaGreat
namespace Go.Proofs.YtdjpeimecfhdjaaGreat
open Go.RowKit
theorem bMod_w {a : Int} {n : Nat} {w : World} (hn : 0 < n) (hn2 : n ≤ 1000000000000000000) :
  Calls Tryz.prog 137 #[.int .i64 a, .int .i64 n] w fun e w' => e = .returned (.int .i64 (a % (n : Int))) ∧ w = w' := by
 have hr0 := Int.emod_nonneg a (show (n : Int) ≠ 0 by omega)
 have hr1 := Int.emod_lt_of_pos a (show (0 : Int) < (n : Int) by omega)
 have d0 : ((n : Int) == 0) = false := by rw [beq_eq_false_iff_ne]; omega
 have d1 : ((n : Int) == -1) = false := by rw [beq_eq_false_iff_ne]; omega
 have dn0 : ¬ (n : Int) = 0 := by omega
 obtain ⟨r, hr⟩ : ∃ r, r = a.tmod (n : Int) := ⟨_, rfl⟩
 have hrb : -(n : Int) < r ∧ r < n ∧ ((r < 0 ∧ r + n = a % (n : Int)) ∨ (¬ r < 0 ∧ r = a % (n : Int))) := by
  have h1 := Int.tmod_eq_emod (a := a) (b := (n : Int))
  rw [hr, h1]
  split <;> omega
 go_enter Tryz.func137, Tryz.ntmps137
 rcases hrb with ⟨h1, h2, ⟨h3, h4⟩ | ⟨h3, h4⟩⟩
 ·go_wp2_with fail
  rw [← hr]
  go_wp2_with fail
  go_ret
  refine ⟨?_, rfl⟩
  first
   | rfl
   | (rw [h4]; rfl)
 ·go_wp2_with fail
  rw [← hr]
  go_wp2_with fail
  go_ret
  refine ⟨?_, rfl⟩
  first
   | rfl
   | (rw [h4]; rfl)
set_option maxRecDepth 100000 in
set_option maxHeartbeats 4000000 in
theorem at24R_any {p : Nat} (hp : 2 ≤ p) (hp2 : p ≤ 1000) (hpr : Pr p) : ∀ (f d : Nat) (w : World), d < f → d ≤ 240 →
  Calls Tryz.prog 80 #[.int .i64 p, .int .i64 d] w fun e w' => e = .returned (.int .i64 (lcF f p d)) ∧ Below w.heap.size w w' := by
 intro fu
 induction fu with
 | zero => intro d w h; omega
 | succ fu ih =>
  intro d w hf hd
  by_cases h0 : d = 0
  ·have HE := Lib.hid (show lcF (fu + 1) p d = (p : Int) - 1 by unfold lcF; rw [if_pos h0])
   have z0 : ((d : Int) == 0) = true := by rw [h0]; rfl
   clear h0 hf hpr
   go_enter Tryz.func80, Tryz.ntmps80
   go_wp2_with fail
   go_ret
   exact ⟨by rw [HE.out]; rfl, Below.refl _ _⟩
  have z0 : ((d : Int) == 0) = false := by rw [beq_eq_false_iff_ne]; omega
  by_cases h1 : d % 4 = 1
  ·have HE := Lib.hid (show lcF (fu + 1) p d = 0 by unfold lcF; rw [if_neg h0, if_pos (.inl h1)])
   have z1 : (((d : Nat) : Int) % 4 == 1) = true := by rw [beq_iff_eq]; omega
   clear h0 hf hpr h1
   go_enter Tryz.func80, Tryz.ntmps80
   go_wp2_with fail
   go_ret
   exact ⟨by rw [HE.out]; rfl, Below.refl _ _⟩
  have z1 : (((d : Nat) : Int) % 4 == 1) = false := by rw [beq_eq_false_iff_ne]; omega
  by_cases h2 : d % 4 = 2
  ·have HE := Lib.hid (show lcF (fu + 1) p d = 0 by unfold lcF; rw [if_neg h0, if_pos (.inr h2)])
   have z2 : (((d : Nat) : Int) % 4 == 2) = true := by rw [beq_iff_eq]; omega
   clear h0 hf hpr h1 h2
   go_enter Tryz.func80, Tryz.ntmps80
   go_wp2_with fail
   go_ret
   exact ⟨by rw [HE.out]; rfl, Below.refl _ _⟩
  have z2 : (((d : Nat) : Int) % 4 == 2) = false := by rw [beq_eq_false_iff_ne]; omega
  have p0 : ((p : Int) == 0) = false := by rw [beq_eq_false_iff_ne]; omega
  have p1 : ((p : Int) == -1) = false := by rw [beq_eq_false_iff_ne]; omega
  have pn : ¬ (p : Int) = 0 := by omega
  have hd0 : 0 < d := by omega
  have HIH := Lib.hid ih
  have HPR := Lib.hid hpr
  have H4 := Lib.hid (show d % 4 ≠ 1 ∧ d % 4 ≠ 2 from ⟨h1, h2⟩)
  have HLC1 := Lib.hid (fun c (hc : cndP d = c) (h3 : c % p = 0) => (show lcF (fu + 1) p d = lcF fu p (d / (p * p)) by
   show (if d = 0 then _ else _) = _
   rw [if_neg h0, if_neg (by omega), if_pos (by rw [hc]; exact h3)]))
  have HLC2 := Lib.hid (fun c (hc : cndP d = c) (h3 : ¬ c % p = 0) => (show lcF (fu + 1) p d = (clsP d : Int) * (1 - symP d p) by
   show (if d = 0 then _ else _) = _
   rw [if_neg h0, if_neg (by omega), if_neg (by rw [hc]; exact h3)]))
  clear ih hpr h0 h1 h2
  go_enter Tryz.func80, Tryz.ntmps80
  go_wp2_with fail
  clear z0 z1 z2
  go_loopw [5, 6] (fun ov fv wr => ∃ k g : Nat, Hid (g = k + 1) ∧ ov = .int .i64 (cnd d k : Nat) ∧ fv = .int .i64 (g : Nat) ∧ k * k ≤ d ∧ Below w.heap.size w wr) (fun _ fv _ => d + 2 - (intOf fv).toNat)
  case atStart => exact ⟨0, 1, Lib.hid rfl, rfl, rfl, by omega, Below.refl _ _⟩
  case round =>
   obtain ⟨k, f, HF, rfl, rfl, hk, hbr⟩ := hrel
   have hf' := HF.out
   obtain ⟨q, hq⟩ : ∃ q, q = f * f := ⟨_, rfl⟩
   have hqi : (f : Int) * (f : Int) = ((q : Nat) : Int) := by rw [hq]; exact (Int.natCast_mul f f).symm
   have hfq : f ≤ q := by rw [hq]; exact Nat.le_mul_of_pos_left f (by omega)
   have hkd : k ≤ d := Nat.le_trans (by rcases Nat.eq_zero_or_pos k with h | h; · rw [h]; omega
                                        ·exact Nat.le_mul_of_pos_left k h) hk
   have hq1 : q = k * k + 2 * k + 1 := by rw [hq, hf', Nat.succ_mul, Nat.mul_succ]; omega
   have hqb : q ≤ 4000000 := by omega
   rcases Nat.lt_or_ge d q with hlt | hge
   ·have z1 : ¬ q ≤ d := by omega
    have HE := Lib.hid (show cndP d = cnd d k from (cnd_more hd0 hkd (by rw [← hf', ← hq]; exact hlt)))
    have hcd : cnd d k ≤ d := by
     have : ∀ k, k ≤ d → cnd d k ≤ d := by
      intro k hk
      induction k with
      | zero => show 1 ≤ d; omega
      | succ k ih => rw [cnd_succ]; split; exact hk; exact ih (by omega)
     exact this k hkd
    clear hf' hq hq1 hk hkd
    obtain ⟨c, hc⟩ : ∃ c, c = cnd d k := ⟨_, rfl⟩
    rw [← hc] at HE hcd ⊢
    clear hc
    obtain ⟨Q, hQ⟩ : ∃ q, q = p * p := ⟨_, rfl⟩
    have hQi : (p : Int) * (p : Int) = ((Q : Nat) : Int) := by rw [hQ]; exact (Int.natCast_mul p p).symm
    have hQ1 : p ≤ Q := by rw [hQ]; exact Nat.le_mul_of_pos_left p (by omega)
    have hQ2 : Q ≤ 1000 * 1000 := by rw [hQ]; exact Nat.mul_le_mul hp2 hp2
    have Q0 : ((Q : Int) == 0) = false := by rw [beq_eq_false_iff_ne]; omega
    have Q1 : ((Q : Int) == -1) = false := by rw [beq_eq_false_iff_ne]; omega
    have Qn : ¬ (Q : Int) = 0 := by omega
    by_cases h3 : c % p = 0
    ·have HL := Lib.hid (show lcF (fu + 1) p d = lcF fu p (d / Q) by rw [hQ]; exact HLC1.out c HE.out h3)
     have z3 : (((c : Nat) : Int) % (p : Int) == 0) = true := by rw [← Int.natCast_emod, h3]; rfl
     obtain ⟨m, hm⟩ : ∃ m, m = d / Q := ⟨_, rfl⟩
     have hm2 : (d : Int) / (Q : Int) = (m : Int) := by rw [hm, Int.natCast_ediv]
     have hlt2 : m < d := by rw [hm]; exact Nat.div_lt_self (by omega) (by omega)
     rw [← hm] at HL
     have HI := Lib.hid (fun w => HIH.out m w (by omega) (by omega))
     clear h3 hm hQ hf
     go_wp2_with (go_at_call 80; go_must (refine (HI.out _).mono ?_); rintro e w2 ⟨rfl, hb2⟩)
     go_ret
     exact ⟨by rw [HL.out]; rfl, btrN hbr hb2⟩
    ·have HL := Lib.hid (HLC2.out c HE.out h3)
     have z3 : (((c : Nat) : Int) % (p : Int) == 0) = false := by rw [← Int.natCast_emod, beq_eq_false_iff_ne]; omega
     have HK := Lib.hid (fun w : World => @twelfths_any d w (by omega))
     have HS := Lib.hid (fun w : World => @kronR_any d p w hp hp2 HPR.out hd H4.out)
     have hcl := clsP_le d
     have hcm : (d + 1) * ((d + 1) * 24) ≤ 4001 * (4001 * 24) := Nat.mul_le_mul (by omega) (by omega)
     have hsy := symP_le d p
     clear h3 hQ hf
     generalize clsP d = X at *
     obtain ⟨y, hy⟩ : ∃ y, y = 1 - symP d p := ⟨_, rfl⟩
     rw [← hy] at HL
     have hyb : 0 ≤ y ∧ y ≤ 2 := by omega
     have hXy : 0 ≤ (X : Int) * y ∧ (X : Int) * y ≤ 768384048 := by
      rcases (show y = 0 ∨ y = 1 ∨ y = 2 by omega) with h | h | h <;> rw [h] <;> omega
     generalize symP d p = z at *
     clear hcm
     rw [hy] at hXy
     have hwr : wrap64 ((X : Int) * (1 - z)) = (X : Int) * (1 - z) := by unfold wrap64; omega
     have HY := Lib.hid hy
     clear hy
     go_wp2_with (first
      | (go_at_call 77; go_must (refine (HK.out _).mono ?_); rintro e w2 ⟨rfl, rfl⟩)
      | (go_at_call 138; go_must (refine (HS.out _).mono ?_); rintro e w3 ⟨rfl, hb3⟩))
     go_ret
     exact ⟨by rw [HL.out, HY.out]; rfl, btrN hbr hb3⟩
   ·have z1 : q ≤ d := hge
    have q0 : ((q : Int) == 0) = false := by rw [beq_eq_false_iff_ne]; omega
    have q1 : ((q : Int) == -1) = false := by rw [beq_eq_false_iff_ne]; omega
    have qn : ¬ (q : Int) = 0 := by omega
    have HSX : Hid (cnd d f = if d % q = 0 ∧ (d / q % 4 = 0 ∨ d / q % 4 = 3) then f else cnd d k) := Lib.hid (by rw [hq, hf']; exact cnd_succ d k)
    have hfq2 : f * f ≤ d := by rw [← hq]; exact hge
    have hfd : f ≤ d := by omega
    obtain ⟨m, hm⟩ : ∃ m, m = d / q := ⟨_, rfl⟩
    rw [← hm] at HSX
    have hmd : m ≤ d := by rw [hm]; exact Nat.div_le_self _ _
    have HFQ := Lib.hid hfq2
    have hm2 : (d : Int) / (q : Int) = (m : Int) := by rw [hm, Int.natCast_ediv]
    clear hq hq1 hfq hkd hf' hfq2 hk hf
    generalize cnd d k = c at *
    by_cases h1 : d % q = 0
    ·have t1 : (((d : Nat) : Int) % (q : Int) == 0) = true := by rw [← Int.natCast_emod, h1]; rfl
     have hdm : (d : Int) = (q : Int) * (m : Int) := by
      rw [hm, ← Int.natCast_mul]
      have := Nat.div_add_mod d q
      rw [h1, Nat.add_zero] at this
      rw [this]
     have hm5 : (-(d : Int)).tdiv (q : Int) = -(m : Int) := by rw [Int.neg_tdiv, Int.tdiv_eq_ediv_of_nonneg (by omega), hm2]
     have HM := Lib.hid (fun w => @bMod_w (-(m : Int)) 4 w (by omega) (by omega))
     have hm4 : m % 4 = 0 ∨ m % 4 = 1 ∨ m % 4 = 2 ∨ m % 4 = 3 := by omega
     clear hm hdm
     rcases hm4 with h | h | h | h
     ·have HX := Lib.hid (show (-(m : Int)) % ((4 : Nat) : Int) = 0 by omega)
      have HM2 := Lib.hid (fun w => (by have := HM.out w; rw [HX.out] at this; exact this))
      have HS3 := Lib.hid (show cnd d f = f by rw [HSX.out, if_pos ⟨h1, by omega⟩])
      clear h h1 HM HX
      go_wp2_with (go_at_call 137; (try rw [hm2]); go_must (refine (HM2.out _).mono ?_); rintro e w1 ⟨rfl, rfl⟩)
      go_roundw
      case rel => exact ⟨f, f + 1, Lib.hid rfl, by rw [HS3.out], by go_num, HFQ.out, hbr⟩
      case measure => simp [intOf]; omega
     ·have HX := Lib.hid (show (-(m : Int)) % ((4 : Nat) : Int) = 3 by omega)
      have HM2 := Lib.hid (fun w => (by have := HM.out w; rw [HX.out] at this; exact this))
      have HS3 := Lib.hid (show cnd d f = c by rw [HSX.out, if_neg (fun h2 => by omega)])
      clear h h1 HM HX
      go_wp2_with (go_at_call 137; (try rw [hm2]); go_must (refine (HM2.out _).mono ?_); rintro e w1 ⟨rfl, rfl⟩)
      go_roundw
      case rel => exact ⟨f, f + 1, Lib.hid rfl, by rw [HS3.out], by go_num, HFQ.out, hbr⟩
      case measure => simp [intOf]; omega
     ·have HX := Lib.hid (show (-(m : Int)) % ((4 : Nat) : Int) = 2 by omega)
      have HM2 := Lib.hid (fun w => (by have := HM.out w; rw [HX.out] at this; exact this))
      have HS3 := Lib.hid (show cnd d f = c by rw [HSX.out, if_neg (fun h2 => by omega)])
      clear h h1 HM HX
      go_wp2_with (go_at_call 137; (try rw [hm2]); go_must (refine (HM2.out _).mono ?_); rintro e w1 ⟨rfl, rfl⟩)
      go_roundw
      case rel => exact ⟨f, f + 1, Lib.hid rfl, by rw [HS3.out], by go_num, HFQ.out, hbr⟩
      case measure => simp [intOf]; omega
     ·have HX := Lib.hid (show (-(m : Int)) % ((4 : Nat) : Int) = 1 by omega)
      have HM2 := Lib.hid (fun w => (by have := HM.out w; rw [HX.out] at this; exact this))
      have HS3 := Lib.hid (show cnd d f = f by rw [HSX.out, if_pos ⟨h1, by omega⟩])
      clear h h1 HM HX
      go_wp2_with (go_at_call 137; (try rw [hm2]); go_must (refine (HM2.out _).mono ?_); rintro e w1 ⟨rfl, rfl⟩)
      go_roundw
      case rel => exact ⟨f, f + 1, Lib.hid rfl, by rw [HS3.out], by go_num, HFQ.out, hbr⟩
      case measure => simp [intOf]; omega
    ·have t1 : (((d : Nat) : Int) % (q : Int) == 0) = false := by rw [← Int.natCast_emod, beq_eq_false_iff_ne]; omega
     have HS3 := Lib.hid (show cnd d f = c by rw [HSX.out, if_neg (fun h => h1 h.1)])
     clear h1 hm
     go_wp2_with fail
     go_roundw
     case rel => exact ⟨f, f + 1, Lib.hid rfl, by rw [HS3.out], by go_num, HFQ.out, hbr⟩
     case measure => simp [intOf]; omega
end Go.Proofs.YtdjpeimecfhdjaaGreat
