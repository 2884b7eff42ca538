/- BrandtRoots: true for every input. -/
import Derived.Test.YtdmdagilopckgaaGreatB8
import Derived.Test.YtdmdagilopckgaaGreatB7
import Derived.Test.YtdmdagilopckgaaGreatExk
namespace Go.Proofs.YtdmdagilopckgaaGreat
open Go.RowKit

theorem enc_shape {w w' : World} {d : Int} {L : List En} {e : Ending} (h : AnsR w d (fun w' v => EnV w' v L) (.slice none 0 0) e w') : ∃ B m k, e = .returned (.tuple #[.slice B m k, .int .i64 d]) ∧ m ≤ k ∧ k ≤ 9223372036854775807 ∧ (d = 0 → EnA w' B m k L) ∧ (d ≠ 0 → m = 0) ∧ Below w.heap.size w w' := by
  obtain ⟨v, rfl, h1, h2, hb⟩ := h
  by_cases hd : d = 0
  · obtain ⟨A, c, rfl, hp⟩ := h1 hd
    have := hp.room
    unfold maxLen at this
    exact ⟨A, _, c, rfl, hp.cap, this, fun _ => hp, fun h => absurd hd h, hb⟩
  · exact ⟨none, 0, 0, by rw [h2 hd], Nat.le_refl _, by omega, fun h => absurd h hd, fun _ => rfl, hb⟩

set_option maxRecDepth 100000 in
set_option maxHeartbeats 8000000 in
theorem BrandtRoots_true {A : Option Addr} {n c : Nat} {l : List Int} {w : World} (h : Pl IntU w (fun _ => True) A n c l) (a b x y den : Int) :
    Calls Tryz.prog 3 #[.slice A n c, .agg #[.int .i64 a, .int .i64 b, .int .i64 x, .int .i64 y], .int .i64 den] w (TrueR w) := by
  have hm := h.room
  unfold maxLen at hm
  have hc := h.cap
  obtain ⟨W0, hW0⟩ : ∃ W0, W0 = w.alloc (.cells #[.int .i64 a, .int .i64 b, .int .i64 x, .int .i64 y] 26) := ⟨_, rfl⟩
  have hb0 : Below w.heap.size w W0 := by rw [hW0]; exact below_al (Below.refl _ _) _
  have Q0 := Lib.hid (show W0.cell? ⟨w.heap.size, 0, none⟩ = some (.int .i64 a) by rw [hW0]; go_simp)
  have Q1 := Lib.hid (show W0.cell? ⟨w.heap.size, 1, none⟩ = some (.int .i64 b) by rw [hW0]; go_simp)
  have Q2 := Lib.hid (show W0.cell? ⟨w.heap.size, 2, none⟩ = some (.int .i64 x) by rw [hW0]; go_simp)
  have Q3 := Lib.hid (show W0.cell? ⟨w.heap.size, 3, none⟩ = some (.int .i64 y) by rw [hW0]; go_simp)
  by_cases hs : ShP w A n l
  · have HS := Lib.hid (fun w' (hb : Below w.heap.size w w') => lawShort_yes h hs hb)
    have hp := hs.pl h
    have hnn := hs.1
    have hg := fun h0 => hs.good h.len h0
    have hbd := fun h0 => hs.bd h0
    have hl := h.len
    clear h hs
    by_cases h1 : 9 < n ∧ n ≤ 61
    · clear hp hg hbd
      subst hW0
      have zn9 : decide ((9 : Int) < (n : Int)) = true := decide_eq_true (by omega)
      have yn61 : decide ((n : Int) ≤ (61 : Int)) = true := decide_eq_true (by omega)
      go_enter Tryz.func3, Tryz.ntmps3
      go_wp2_with (first
        | (go_at_call 6; go_must (refine lawRoots_any.mono ?_); rintro e w1 ⟨rfl, hb1⟩; have t1 := btr hb0 hb1)
        | (go_at_call 7; go_must (refine (HS.out _ t1).mono ?_); rintro e w2 ⟨rfl, hb2⟩; have t2 := btr t1 hb2; have u2 := btr hb1 hb2; have c20 := keepB u2 Q0.out; have c21 := keepB u2 Q1.out; have c22 := keepB u2 Q2.out; have c23 := keepB u2 Q3.out))
      go_ret
      exact ⟨rfl, t2⟩
    · by_cases h2 : 20 < den ∧ den ≤ 1000
      · clear hp hg hbd
        subst hW0
        rcases (show n ≤ 9 ∨ (9 < n ∧ 61 < n) by omega) with h3 | h3
        · skip
          have zn9 : decide ((9 : Int) < (n : Int)) = false := decide_eq_false (by omega)
          have zd20 : decide ((20 : Int) < (den : Int)) = true := decide_eq_true (by omega)
          have yd1000 : decide ((den : Int) ≤ (1000 : Int)) = true := decide_eq_true (by omega)
          go_enter Tryz.func3, Tryz.ntmps3
          go_wp2_with (first
            | (go_at_call 6; go_must (refine lawRoots_any.mono ?_); rintro e w1 ⟨rfl, hb1⟩; have t1 := btr hb0 hb1)
            | (go_at_call 7; go_must (refine (HS.out _ t1).mono ?_); rintro e w2 ⟨rfl, hb2⟩; have t2 := btr t1 hb2; have u2 := btr hb1 hb2; have c20 := keepB u2 Q0.out; have c21 := keepB u2 Q1.out; have c22 := keepB u2 Q2.out; have c23 := keepB u2 Q3.out))
          go_ret
          exact ⟨rfl, t2⟩
        · skip
          have zn9 : decide ((9 : Int) < (n : Int)) = true := decide_eq_true (by omega)
          have yn61 : decide ((n : Int) ≤ (61 : Int)) = false := decide_eq_false (by omega)
          have zd20 : decide ((20 : Int) < (den : Int)) = true := decide_eq_true (by omega)
          have yd1000 : decide ((den : Int) ≤ (1000 : Int)) = true := decide_eq_true (by omega)
          go_enter Tryz.func3, Tryz.ntmps3
          go_wp2_with (first
            | (go_at_call 6; go_must (refine lawRoots_any.mono ?_); rintro e w1 ⟨rfl, hb1⟩; have t1 := btr hb0 hb1)
            | (go_at_call 7; go_must (refine (HS.out _ t1).mono ?_); rintro e w2 ⟨rfl, hb2⟩; have t2 := btr t1 hb2; have u2 := btr hb1 hb2; have c20 := keepB u2 Q0.out; have c21 := keepB u2 Q1.out; have c22 := keepB u2 Q2.out; have c23 := keepB u2 Q3.out))
          go_ret
          exact ⟨rfl, t2⟩
      · have hden2 : den ≤ 20 ∨ 1000 < den := by omega
        have K1 := Lib.hid (fun w' (hb : Below w.heap.size w w') => (Between_any (a := a) (b := b) (x := x) (y := y) (hp.below hb) hg).mono fun e w'' h => value_shape h)
        have K2 := Lib.hid (fun w' (hb : Below w.heap.size w w') => (Enclose_any (den := den) (hp.below hb) hg hden2).mono fun e w'' h => enc_shape h)
        have K3 := Lib.hid (fun w' (hb : Below w.heap.size w w') => qCheckPoly_any (hp.below hb))
        by_cases hd : rdE l = 0
        · have hn9 : n ≤ 9 := by
            have h61 : ¬ 61 < l.length := fun h => by unfold rdE at hd; rw [if_pos h] at hd; cases hd
            omega
          have g := hg hd
          have hbd2 := hbd hd
          have zn9 : decide ((9 : Int) < (n : Int)) = false := decide_eq_false (by omega)
          have BT1 := Lib.hid (fun h1 : cfE a b ≠ 0 => show btE l a b x y = cfE a b by unfold btE; rw [if_neg (by rw [hd]; simp), if_pos h1])
          have BT2 := Lib.hid (fun (h1 : cfE a b = 0) (h2 : cfE x y ≠ 0) => show btE l a b x y = cfE x y by unfold btE; rw [if_neg (by rw [hd]; simp), if_neg (by rw [h1]; simp), if_pos h2])
          have BT3 := Lib.hid (fun (h1 : cfE a b = 0) (h2 : cfE x y = 0) (h3 : x * b < a * y) => show btE l a b x y = 14 by unfold btE; rw [if_neg (by rw [hd]; simp), if_neg (by rw [h1]; simp), if_neg (by rw [h2]; simp), if_pos h3])
          have BT4 := Lib.hid (fun (h1 : cfE a b = 0) (h2 : cfE x y = 0) (h3 : ¬ x * b < a * y) => show btE l a b x y = 0 by unfold btE; rw [if_neg (by rw [hd]; simp), if_neg (by rw [h1]; simp), if_neg (by rw [h2]; simp), if_neg h3])
          have KBW := Lib.hid (fun w' (hb : Below w.heap.size w w') h1 h2 h3 h4 => qBetween_any (a := a) (b := b) (x := x) (y := y) (hp.below hb) (by omega) g h1 h2 h3 h4)
          have KC1 := Lib.hid (fun w' => qCheckFrac_any (num := a) (den := b) (w := w'))
          have KC2 := Lib.hid (fun w' => qCheckFrac_any (num := x) (den := y) (w := w'))
          have KF := Lib.hid (fun w' (hb : Below w.heap.size w w') => qFar_any (hp.below hb) (by omega) g hbd2)
          have KQ := Lib.hid (fun w' (hb : Below w.heap.size w w') (h1 : 0 < den) (h2 : den ≤ 20) => qEnclose_any (hp.below hb) (by omega) g h1 h2)
          have KO := Lib.hid (fun (he : enE l den = 0) (h2 : den ≤ 20) w' A' n' c' (hb : Below w.heap.size w w') (hE : EnA w' A' n' c' (enL (tz l) den)) => show Calls Tryz.prog 17 #[.slice A n c, .slice A' n' c'] w' (fun e w'' => e = .returned (.int .i64 0) ∧ Below w'.heap.size w' w'') by
            have := CheckEnclosures_any (hp.below hb) hg hE
            rw [enL_ok hg he h2] at this
            exact this)
          have EN1 := Lib.hid (fun h1 : den < 1 => show enE l den = 2 by unfold enE; rw [if_neg (by rw [hd]; simp), if_pos h1])
          have EN2 := Lib.hid (fun h1 : 1000 < den => show enE l den = 2 by unfold enE; rw [if_neg (by rw [hd]; simp), if_neg (by omega), if_pos h1])
          have EN3 := Lib.hid (fun (h1 : 1 ≤ den) (h2 : den ≤ 20) (h3 : farB (tz l) = false) => show enE l den = 0 by unfold enE; rw [if_neg (by rw [hd]; simp), if_neg (by omega), if_neg (by omega), if_pos (by rw [ins_far (by omega)]; exact h3)])
          have EN4 := Lib.hid (fun (h1 : 1 ≤ den) (h2 : den ≤ 20) (h3 : farB (tz l) = true) => show enE l den = 8 by unfold enE; rw [if_neg (by rw [hd]; simp), if_neg (by omega), if_neg (by omega), if_neg (by rw [ins_far (by omega), h3]; simp)])
          rw [hd] at K3
          clear hp hg hbd g hbd2 hd hnn hl hn9
          subst hW0
          obtain ⟨vv, hvv⟩ : ∃ vv, chA a b (ch (tz l)) - chA x y (ch (tz l)) = vv := ⟨_, rfl⟩
          rw [hvv] at K1 KBW
          clear hvv
          rcases (show den < 1 ∨ (1 ≤ den ∧ den ≤ 20) ∨ 1000 < den by omega) with hdc | hdc | hdc
          · rw [EN1.out hdc] at K2
            have HNZ4 := Lib.hid (show (2 : Int) ≠ 0 by decide)
            have KW := Lib.hid (fun w' => Within_any (n := den) (lo := 1) (hi := 1000) (b := false) (decide_eq_false (by omega)) w')
            have zd20 : decide ((20 : Int) < den) = false := decide_eq_false (by omega)
            clear EN1 EN2 EN3 EN4 KF KQ KO
            by_cases m1 : cfE a b = 0
            · by_cases m2 : cfE x y = 0
              · obtain ⟨y1, y2, y3, y4⟩ := cfE_zero m1
                obtain ⟨y5, y6, y7, y8⟩ := cfE_zero m2
                have KL := Lib.hid (fun w' => qLess_any (a := x) (b := y) (c := a) (d := b) (w := w') (by omega) (by omega) (by omega) (by omega))
                have KB := Lib.hid (fun w' hb => KBW.out w' hb (by omega) (by omega) (by omega) (by omega))
                rw [m1] at KC1
                rw [m2] at KC2
                by_cases m3 : x * b < a * y
                · rw [BT3.out m1 m2 m3] at K1
                  have HNZ := Lib.hid (show (14 : Int) ≠ 0 by decide)
                  rw [decide_eq_true m3] at KL
                  clear BT1 BT2 BT3 BT4 KBW KB m1 m2 m3 y1 y2 y3 y4 y5 y6 y7 y8
                  go_enter Tryz.func3, Tryz.ntmps3
                  go_wp2_with (first
                    | (go_at_call 6; go_must (refine lawRoots_any.mono ?_); rintro e w1 ⟨rfl, hb1⟩; have t1 := btr hb0 hb1)
                    | (go_at_call 7; go_must (refine (HS.out _ t1).mono ?_); rintro e w2 ⟨rfl, hb2⟩; have t2 := btr t1 hb2; have u2 := btr hb1 hb2; have c20 := keepB u2 Q0.out; have c21 := keepB u2 Q1.out; have c22 := keepB u2 Q2.out; have c23 := keepB u2 Q3.out)
                    | (go_at_call 8; go_must (refine (K1.out _ t2).mono ?_); rintro e w3 ⟨y3, rfl, r3, z3, hb3⟩; have t3 := btr t2 hb3; have u3 := btr u2 hb3; obtain rfl : y3 = 0 := z3 HNZ.out; clear r3 z3)
                    | (go_at_call 9; go_must (refine (K2.out _ t3).mono ?_); rintro e w4 ⟨A4, m4, c4, rfl, hc4, hr4, r4, z4, hb4⟩; have t4 := btr t3 hb4; have u4 := btr u3 hb4; obtain rfl : m4 = 0 := z4 HNZ4.out; clear r4 z4)
                    | (go_at_call 10; go_must (refine (K3.out _ t4).mono ?_); rintro e w5 ⟨rfl, hb5⟩; have t5 := btr t4 hb5; have u5 := btr u4 hb5; have c50 := keepB u5 Q0.out; have c51 := keepB u5 Q1.out)
                    | (go_at_call 11; go_must (refine (KW.out _).mono ?_); rintro e w6 ⟨rfl, rfl⟩)
                    | (go_at_call 12; ((with_reducible refine (KC1.out _).mono ?_)); rintro e w7 ⟨rfl, hb7⟩; have t7 := btr t5 hb7; have u7 := btr u5 hb7; have c72 := keepB u7 Q2.out; have c73 := keepB u7 Q3.out)
                    | (go_at_call 12; go_must (refine (KC2.out _).mono ?_); rintro e w8 ⟨rfl, hb8⟩; have t8 := btr t7 hb8; have u8 := btr u7 hb8; have c80 := keepB u8 Q0.out; have c81 := keepB u8 Q1.out; have c82 := keepB u8 Q2.out; have c83 := keepB u8 Q3.out)
                    | (go_at_call 13; go_must (refine (KL.out _).mono ?_); rintro e w9 ⟨rfl, hb9⟩; have t9 := btr t8 hb9; have u9 := btr u8 hb9; have c90 := keepB u9 Q0.out; have c91 := keepB u9 Q1.out; have c92 := keepB u9 Q2.out; have c93 := keepB u9 Q3.out))
                  go_ret
                  exact ⟨rfl, t9⟩
                · rw [BT4.out m1 m2 m3] at K1
                  rw [decide_eq_false m3] at KL
                  clear BT1 BT2 BT3 BT4 KBW m1 m2 m3 y1 y2 y3 y4 y5 y6 y7 y8
                  go_enter Tryz.func3, Tryz.ntmps3
                  go_wp2_with (first
                    | (go_at_call 6; go_must (refine lawRoots_any.mono ?_); rintro e w1 ⟨rfl, hb1⟩; have t1 := btr hb0 hb1)
                    | (go_at_call 7; go_must (refine (HS.out _ t1).mono ?_); rintro e w2 ⟨rfl, hb2⟩; have t2 := btr t1 hb2; have u2 := btr hb1 hb2; have c20 := keepB u2 Q0.out; have c21 := keepB u2 Q1.out; have c22 := keepB u2 Q2.out; have c23 := keepB u2 Q3.out)
                    | (go_at_call 8; go_must (refine (K1.out _ t2).mono ?_); rintro e w3 ⟨y3, rfl, r3, z3, hb3⟩; have t3 := btr t2 hb3; have u3 := btr u2 hb3; obtain rfl : y3 = vv := r3 (by first | exact rfl | trivial); clear r3 z3)
                    | (go_at_call 9; go_must (refine (K2.out _ t3).mono ?_); rintro e w4 ⟨A4, m4, c4, rfl, hc4, hr4, r4, z4, hb4⟩; have t4 := btr t3 hb4; have u4 := btr u3 hb4; obtain rfl : m4 = 0 := z4 HNZ4.out; clear r4 z4)
                    | (go_at_call 10; go_must (refine (K3.out _ t4).mono ?_); rintro e w5 ⟨rfl, hb5⟩; have t5 := btr t4 hb5; have u5 := btr u4 hb5; have c50 := keepB u5 Q0.out; have c51 := keepB u5 Q1.out)
                    | (go_at_call 11; go_must (refine (KW.out _).mono ?_); rintro e w6 ⟨rfl, rfl⟩)
                    | (go_at_call 12; ((with_reducible refine (KC1.out _).mono ?_)); rintro e w7 ⟨rfl, hb7⟩; have t7 := btr t5 hb7; have u7 := btr u5 hb7; have c72 := keepB u7 Q2.out; have c73 := keepB u7 Q3.out)
                    | (go_at_call 12; go_must (refine (KC2.out _).mono ?_); rintro e w8 ⟨rfl, hb8⟩; have t8 := btr t7 hb8; have u8 := btr u7 hb8; have c80 := keepB u8 Q0.out; have c81 := keepB u8 Q1.out; have c82 := keepB u8 Q2.out; have c83 := keepB u8 Q3.out)
                    | (go_at_call 13; go_must (refine (KL.out _).mono ?_); rintro e w9 ⟨rfl, hb9⟩; have t9 := btr t8 hb9; have u9 := btr u8 hb9; have c90 := keepB u9 Q0.out; have c91 := keepB u9 Q1.out; have c92 := keepB u9 Q2.out; have c93 := keepB u9 Q3.out)
                    | (go_at_call 14; go_must (refine (KB.out _ t9).mono ?_); rintro e wa ⟨rfl, hba⟩; have ta := btr t9 hba; have ua := btr u9 hba))
                  go_ret
                  exact ⟨rfl, ta⟩
              · rw [BT2.out m1 m2] at K1
                have HNZ := Lib.hid m2
                rw [m1] at KC1
                have zd : (cfE x y == 0) = false := by simpa using m2
                have ze : (cfE x y != 0) = true := by simpa using m2
                clear BT1 BT2 BT3 BT4 KBW m1 m2
                generalize cfE x y = d2 at *
                go_enter Tryz.func3, Tryz.ntmps3
                go_wp2_with (first
                  | (go_at_call 6; go_must (refine lawRoots_any.mono ?_); rintro e w1 ⟨rfl, hb1⟩; have t1 := btr hb0 hb1)
                  | (go_at_call 7; go_must (refine (HS.out _ t1).mono ?_); rintro e w2 ⟨rfl, hb2⟩; have t2 := btr t1 hb2; have u2 := btr hb1 hb2; have c20 := keepB u2 Q0.out; have c21 := keepB u2 Q1.out; have c22 := keepB u2 Q2.out; have c23 := keepB u2 Q3.out)
                  | (go_at_call 8; go_must (refine (K1.out _ t2).mono ?_); rintro e w3 ⟨y3, rfl, r3, z3, hb3⟩; have t3 := btr t2 hb3; have u3 := btr u2 hb3; obtain rfl : y3 = 0 := z3 HNZ.out; clear r3 z3)
                  | (go_at_call 9; go_must (refine (K2.out _ t3).mono ?_); rintro e w4 ⟨A4, m4, c4, rfl, hc4, hr4, r4, z4, hb4⟩; have t4 := btr t3 hb4; have u4 := btr u3 hb4; obtain rfl : m4 = 0 := z4 HNZ4.out; clear r4 z4)
                  | (go_at_call 10; go_must (refine (K3.out _ t4).mono ?_); rintro e w5 ⟨rfl, hb5⟩; have t5 := btr t4 hb5; have u5 := btr u4 hb5; have c50 := keepB u5 Q0.out; have c51 := keepB u5 Q1.out)
                  | (go_at_call 11; go_must (refine (KW.out _).mono ?_); rintro e w6 ⟨rfl, rfl⟩)
                  | (go_at_call 12; ((with_reducible refine (KC1.out _).mono ?_)); rintro e w7 ⟨rfl, hb7⟩; have t7 := btr t5 hb7; have u7 := btr u5 hb7; have c72 := keepB u7 Q2.out; have c73 := keepB u7 Q3.out)
                  | (go_at_call 12; go_must (refine (KC2.out _).mono ?_); rintro e w8 ⟨rfl, hb8⟩; have t8 := btr t7 hb8; have u8 := btr u7 hb8; have c80 := keepB u8 Q0.out; have c81 := keepB u8 Q1.out; have c82 := keepB u8 Q2.out; have c83 := keepB u8 Q3.out))
                go_ret
                exact ⟨rfl, t8⟩
            · rw [BT1.out m1] at K1
              have HNZ := Lib.hid m1
              have zd : (cfE a b == 0) = false := by simpa using m1
              have ze : (cfE a b != 0) = true := by simpa using m1
              clear BT1 BT2 BT3 BT4 KBW KC2 m1
              generalize cfE a b = d1 at *
              go_enter Tryz.func3, Tryz.ntmps3
              go_wp2_with (first
                | (go_at_call 6; go_must (refine lawRoots_any.mono ?_); rintro e w1 ⟨rfl, hb1⟩; have t1 := btr hb0 hb1)
                | (go_at_call 7; go_must (refine (HS.out _ t1).mono ?_); rintro e w2 ⟨rfl, hb2⟩; have t2 := btr t1 hb2; have u2 := btr hb1 hb2; have c20 := keepB u2 Q0.out; have c21 := keepB u2 Q1.out; have c22 := keepB u2 Q2.out; have c23 := keepB u2 Q3.out)
                | (go_at_call 8; go_must (refine (K1.out _ t2).mono ?_); rintro e w3 ⟨y3, rfl, r3, z3, hb3⟩; have t3 := btr t2 hb3; have u3 := btr u2 hb3; obtain rfl : y3 = 0 := z3 HNZ.out; clear r3 z3)
                | (go_at_call 9; go_must (refine (K2.out _ t3).mono ?_); rintro e w4 ⟨A4, m4, c4, rfl, hc4, hr4, r4, z4, hb4⟩; have t4 := btr t3 hb4; have u4 := btr u3 hb4; obtain rfl : m4 = 0 := z4 HNZ4.out; clear r4 z4)
                | (go_at_call 10; go_must (refine (K3.out _ t4).mono ?_); rintro e w5 ⟨rfl, hb5⟩; have t5 := btr t4 hb5; have u5 := btr u4 hb5; have c50 := keepB u5 Q0.out; have c51 := keepB u5 Q1.out)
                | (go_at_call 11; go_must (refine (KW.out _).mono ?_); rintro e w6 ⟨rfl, rfl⟩)
                | (go_at_call 12; ((with_reducible refine (KC1.out _).mono ?_)); rintro e w7 ⟨rfl, hb7⟩; have t7 := btr t5 hb7; have u7 := btr u5 hb7; have c72 := keepB u7 Q2.out; have c73 := keepB u7 Q3.out))
              go_ret
              exact ⟨rfl, t7⟩
          · obtain ⟨hdc1, hdc2⟩ := hdc
            have KW := Lib.hid (fun w' => Within_any (n := den) (lo := 1) (hi := 1000) (b := true) (decide_eq_true (by omega)) w')
            have zd20 : decide ((20 : Int) < den) = false := decide_eq_false (by omega)
            have KE := Lib.hid (fun w' hb => KQ.out w' hb (by omega) hdc2)
            cases hfar : farB (tz l)
            · have hE3 := EN3.out hdc1 hdc2 hfar
              have KX := Lib.hid (KO.out hE3 hdc2)
              rw [hE3] at K2
              rw [hfar] at KF
              obtain ⟨L, hL⟩ : ∃ L, enL (tz l) den = L := ⟨_, rfl⟩
              rw [hL] at K2 KE KX
              clear EN1 EN2 EN3 EN4 KQ KO hfar hE3 hL
              by_cases m1 : cfE a b = 0
              · by_cases m2 : cfE x y = 0
                · obtain ⟨y1, y2, y3, y4⟩ := cfE_zero m1
                  obtain ⟨y5, y6, y7, y8⟩ := cfE_zero m2
                  have KL := Lib.hid (fun w' => qLess_any (a := x) (b := y) (c := a) (d := b) (w := w') (by omega) (by omega) (by omega) (by omega))
                  have KB := Lib.hid (fun w' hb => KBW.out w' hb (by omega) (by omega) (by omega) (by omega))
                  rw [m1] at KC1
                  rw [m2] at KC2
                  by_cases m3 : x * b < a * y
                  · rw [BT3.out m1 m2 m3] at K1
                    have HNZ := Lib.hid (show (14 : Int) ≠ 0 by decide)
                    rw [decide_eq_true m3] at KL
                    clear BT1 BT2 BT3 BT4 KBW KB m1 m2 m3 y1 y2 y3 y4 y5 y6 y7 y8
                    go_enter Tryz.func3, Tryz.ntmps3
                    go_wp2_with (first
                      | (go_at_call 6; go_must (refine lawRoots_any.mono ?_); rintro e w1 ⟨rfl, hb1⟩; have t1 := btr hb0 hb1)
                      | (go_at_call 7; go_must (refine (HS.out _ t1).mono ?_); rintro e w2 ⟨rfl, hb2⟩; have t2 := btr t1 hb2; have u2 := btr hb1 hb2; have c20 := keepB u2 Q0.out; have c21 := keepB u2 Q1.out; have c22 := keepB u2 Q2.out; have c23 := keepB u2 Q3.out)
                      | (go_at_call 8; go_must (refine (K1.out _ t2).mono ?_); rintro e w3 ⟨y3, rfl, r3, z3, hb3⟩; have t3 := btr t2 hb3; have u3 := btr u2 hb3; obtain rfl : y3 = 0 := z3 HNZ.out; clear r3 z3)
                      | (go_at_call 9; go_must (refine (K2.out _ t3).mono ?_); rintro e w4 ⟨A4, m4, c4, rfl, hc4, hr4, r4, z4, hb4⟩; have t4 := btr t3 hb4; have u4 := btr u3 hb4; have HEA := Lib.hid (r4 (by first | exact rfl | trivial)); obtain rfl : m4 = L.length := HEA.out.len.symm; clear r4 z4)
                      | (go_at_call 10; go_must (refine (K3.out _ t4).mono ?_); rintro e w5 ⟨rfl, hb5⟩; have t5 := btr t4 hb5; have u5 := btr u4 hb5; have c50 := keepB u5 Q0.out; have c51 := keepB u5 Q1.out)
                      | (go_at_call 11; go_must (refine (KW.out _).mono ?_); rintro e w6 ⟨rfl, rfl⟩)
                      | (go_at_call 12; ((with_reducible refine (KC1.out _).mono ?_)); rintro e w7 ⟨rfl, hb7⟩; have t7 := btr t5 hb7; have u7 := btr u5 hb7; have c72 := keepB u7 Q2.out; have c73 := keepB u7 Q3.out)
                      | (go_at_call 12; go_must (refine (KC2.out _).mono ?_); rintro e w8 ⟨rfl, hb8⟩; have t8 := btr t7 hb8; have u8 := btr u7 hb8; have c80 := keepB u8 Q0.out; have c81 := keepB u8 Q1.out; have c82 := keepB u8 Q2.out; have c83 := keepB u8 Q3.out)
                      | (go_at_call 13; go_must (refine (KL.out _).mono ?_); rintro e w9 ⟨rfl, hb9⟩; have t9 := btr t8 hb9; have u9 := btr u8 hb9; have c90 := keepB u9 Q0.out; have c91 := keepB u9 Q1.out; have c92 := keepB u9 Q2.out; have c93 := keepB u9 Q3.out)
                      | (go_at_call 15; go_must (refine (KF.out _ t9).mono ?_); rintro e wb ⟨rfl, hbb⟩; have tb := btr t9 hbb; have ub := btr u9 hbb)
                      | (go_at_call 16; go_must (refine (KE.out _ tb).mono ?_); rintro e wc ⟨vc, rfl, rc, hbc⟩; obtain ⟨Ac, cc, rfl, hcc, hcr⟩ := rc.slice; have tc := btr tb hbc; have uc := btr ub hbc))
                    unfold maxLen at hcr
                    have EB : EnA wc Ac L.length cc L := by
                      obtain ⟨_, _, e9, h9⟩ := rc.env
                      injection e9 with e91 e92 e93
                      subst e91 e93
                      exact h9
                    have V4 : Below w4.heap.size w4 wc := btr (btr (btr (btr (btr hb5 hb7) hb8) hb9) hbb) hbc
                    have E1 := Lib.hid (HEA.out.below V4)
                    have E2 := Lib.hid EB
                    clear EB rc
                    go_loopw [14] (fun iv wr => ∃ k : Nat, iv = .int .i64 k ∧ k ≤ L.length ∧ Below wc.heap.size wc wr) (fun iv _ => L.length - (intOf iv).toNat)
                    case atStart => exact ⟨0, rfl, Nat.zero_le _, Below.refl _ _⟩
                    case round =>
                      obtain ⟨k, rfl, hk, hbr⟩ := hrel
                      rcases Nat.lt_or_ge k L.length with hkn | hkn
                      · obtain ⟨q, hq⟩ : ∃ q, L[k]? = some q := ⟨_, List.getElem?_eq_getElem hkn⟩
                        obtain ⟨b1', off1, rfl, f0, f1, f2, f3, f4⟩ := (E1.out.below hbr).at hq
                        obtain ⟨b2', off2, rfl, g0, g1, g2, g3, g4⟩ := (E2.out.below hbr).at hq
                        clear hq
                        obtain ⟨qa, qb, qc, qd, qn⟩ := q
                        simp only at f0 f1 f2 f3 f4 g0 g1 g2 g3 g4
                        have hki : (k : Int) < (L.length : Int) := by omega
                        have hk0 : (0 : Int) ≤ (k : Int) := by omega
                        go_wp2_with fail
                        go_quiet (fail)
                        go_wp2_with fail
                        go_roundw
                        case rel => exact ⟨k + 1, by go_num, by omega, below_drewN' hbr _⟩
                        case measure => simp [intOf]; omega
                      · obtain rfl : k = L.length := by omega
                        have KZ := Lib.hid (KX.out _ _ _ _ (btr tc hbr) (E1.out.below hbr))
                        go_wp2_with (go_at_call 17; go_must (refine KZ.out.mono ?_); rintro e wd ⟨rfl, hbd⟩)
                        go_ret
                        exact ⟨rfl, btr (btr tc hbr) hbd⟩
                  · rw [BT4.out m1 m2 m3] at K1
                    rw [decide_eq_false m3] at KL
                    clear BT1 BT2 BT3 BT4 KBW m1 m2 m3 y1 y2 y3 y4 y5 y6 y7 y8
                    go_enter Tryz.func3, Tryz.ntmps3
                    go_wp2_with (first
                      | (go_at_call 6; go_must (refine lawRoots_any.mono ?_); rintro e w1 ⟨rfl, hb1⟩; have t1 := btr hb0 hb1)
                      | (go_at_call 7; go_must (refine (HS.out _ t1).mono ?_); rintro e w2 ⟨rfl, hb2⟩; have t2 := btr t1 hb2; have u2 := btr hb1 hb2; have c20 := keepB u2 Q0.out; have c21 := keepB u2 Q1.out; have c22 := keepB u2 Q2.out; have c23 := keepB u2 Q3.out)
                      | (go_at_call 8; go_must (refine (K1.out _ t2).mono ?_); rintro e w3 ⟨y3, rfl, r3, z3, hb3⟩; have t3 := btr t2 hb3; have u3 := btr u2 hb3; obtain rfl : y3 = vv := r3 (by first | exact rfl | trivial); clear r3 z3)
                      | (go_at_call 9; go_must (refine (K2.out _ t3).mono ?_); rintro e w4 ⟨A4, m4, c4, rfl, hc4, hr4, r4, z4, hb4⟩; have t4 := btr t3 hb4; have u4 := btr u3 hb4; have HEA := Lib.hid (r4 (by first | exact rfl | trivial)); obtain rfl : m4 = L.length := HEA.out.len.symm; clear r4 z4)
                      | (go_at_call 10; go_must (refine (K3.out _ t4).mono ?_); rintro e w5 ⟨rfl, hb5⟩; have t5 := btr t4 hb5; have u5 := btr u4 hb5; have c50 := keepB u5 Q0.out; have c51 := keepB u5 Q1.out)
                      | (go_at_call 11; go_must (refine (KW.out _).mono ?_); rintro e w6 ⟨rfl, rfl⟩)
                      | (go_at_call 12; ((with_reducible refine (KC1.out _).mono ?_)); rintro e w7 ⟨rfl, hb7⟩; have t7 := btr t5 hb7; have u7 := btr u5 hb7; have c72 := keepB u7 Q2.out; have c73 := keepB u7 Q3.out)
                      | (go_at_call 12; go_must (refine (KC2.out _).mono ?_); rintro e w8 ⟨rfl, hb8⟩; have t8 := btr t7 hb8; have u8 := btr u7 hb8; have c80 := keepB u8 Q0.out; have c81 := keepB u8 Q1.out; have c82 := keepB u8 Q2.out; have c83 := keepB u8 Q3.out)
                      | (go_at_call 13; go_must (refine (KL.out _).mono ?_); rintro e w9 ⟨rfl, hb9⟩; have t9 := btr t8 hb9; have u9 := btr u8 hb9; have c90 := keepB u9 Q0.out; have c91 := keepB u9 Q1.out; have c92 := keepB u9 Q2.out; have c93 := keepB u9 Q3.out)
                      | (go_at_call 14; go_must (refine (KB.out _ t9).mono ?_); rintro e wa ⟨rfl, hba⟩; have ta := btr t9 hba; have ua := btr u9 hba)
                      | (go_at_call 15; go_must (refine (KF.out _ ta).mono ?_); rintro e wb ⟨rfl, hbb⟩; have tb := btr ta hbb; have ub := btr ua hbb)
                      | (go_at_call 16; go_must (refine (KE.out _ tb).mono ?_); rintro e wc ⟨vc, rfl, rc, hbc⟩; obtain ⟨Ac, cc, rfl, hcc, hcr⟩ := rc.slice; have tc := btr tb hbc; have uc := btr ub hbc))
                    unfold maxLen at hcr
                    have EB : EnA wc Ac L.length cc L := by
                      obtain ⟨_, _, e9, h9⟩ := rc.env
                      injection e9 with e91 e92 e93
                      subst e91 e93
                      exact h9
                    have V4 : Below w4.heap.size w4 wc := btr (btr (btr (btr (btr (btr hb5 hb7) hb8) hb9) hba) hbb) hbc
                    have E1 := Lib.hid (HEA.out.below V4)
                    have E2 := Lib.hid EB
                    clear EB rc
                    go_loopw [14] (fun iv wr => ∃ k : Nat, iv = .int .i64 k ∧ k ≤ L.length ∧ Below wc.heap.size wc wr) (fun iv _ => L.length - (intOf iv).toNat)
                    case atStart => exact ⟨0, rfl, Nat.zero_le _, Below.refl _ _⟩
                    case round =>
                      obtain ⟨k, rfl, hk, hbr⟩ := hrel
                      rcases Nat.lt_or_ge k L.length with hkn | hkn
                      · obtain ⟨q, hq⟩ : ∃ q, L[k]? = some q := ⟨_, List.getElem?_eq_getElem hkn⟩
                        obtain ⟨b1', off1, rfl, f0, f1, f2, f3, f4⟩ := (E1.out.below hbr).at hq
                        obtain ⟨b2', off2, rfl, g0, g1, g2, g3, g4⟩ := (E2.out.below hbr).at hq
                        clear hq
                        obtain ⟨qa, qb, qc, qd, qn⟩ := q
                        simp only at f0 f1 f2 f3 f4 g0 g1 g2 g3 g4
                        have hki : (k : Int) < (L.length : Int) := by omega
                        have hk0 : (0 : Int) ≤ (k : Int) := by omega
                        go_wp2_with fail
                        go_quiet (fail)
                        go_wp2_with fail
                        go_roundw
                        case rel => exact ⟨k + 1, by go_num, by omega, below_drewN' hbr _⟩
                        case measure => simp [intOf]; omega
                      · obtain rfl : k = L.length := by omega
                        have KZ := Lib.hid (KX.out _ _ _ _ (btr tc hbr) (E1.out.below hbr))
                        go_wp2_with (go_at_call 17; go_must (refine KZ.out.mono ?_); rintro e wd ⟨rfl, hbd⟩)
                        go_ret
                        exact ⟨rfl, btr (btr tc hbr) hbd⟩
                · rw [BT2.out m1 m2] at K1
                  have HNZ := Lib.hid m2
                  rw [m1] at KC1
                  have zd : (cfE x y == 0) = false := by simpa using m2
                  have ze : (cfE x y != 0) = true := by simpa using m2
                  clear BT1 BT2 BT3 BT4 KBW m1 m2
                  generalize cfE x y = d2 at *
                  go_enter Tryz.func3, Tryz.ntmps3
                  go_wp2_with (first
                    | (go_at_call 6; go_must (refine lawRoots_any.mono ?_); rintro e w1 ⟨rfl, hb1⟩; have t1 := btr hb0 hb1)
                    | (go_at_call 7; go_must (refine (HS.out _ t1).mono ?_); rintro e w2 ⟨rfl, hb2⟩; have t2 := btr t1 hb2; have u2 := btr hb1 hb2; have c20 := keepB u2 Q0.out; have c21 := keepB u2 Q1.out; have c22 := keepB u2 Q2.out; have c23 := keepB u2 Q3.out)
                    | (go_at_call 8; go_must (refine (K1.out _ t2).mono ?_); rintro e w3 ⟨y3, rfl, r3, z3, hb3⟩; have t3 := btr t2 hb3; have u3 := btr u2 hb3; obtain rfl : y3 = 0 := z3 HNZ.out; clear r3 z3)
                    | (go_at_call 9; go_must (refine (K2.out _ t3).mono ?_); rintro e w4 ⟨A4, m4, c4, rfl, hc4, hr4, r4, z4, hb4⟩; have t4 := btr t3 hb4; have u4 := btr u3 hb4; have HEA := Lib.hid (r4 (by first | exact rfl | trivial)); obtain rfl : m4 = L.length := HEA.out.len.symm; clear r4 z4)
                    | (go_at_call 10; go_must (refine (K3.out _ t4).mono ?_); rintro e w5 ⟨rfl, hb5⟩; have t5 := btr t4 hb5; have u5 := btr u4 hb5; have c50 := keepB u5 Q0.out; have c51 := keepB u5 Q1.out)
                    | (go_at_call 11; go_must (refine (KW.out _).mono ?_); rintro e w6 ⟨rfl, rfl⟩)
                    | (go_at_call 12; ((with_reducible refine (KC1.out _).mono ?_)); rintro e w7 ⟨rfl, hb7⟩; have t7 := btr t5 hb7; have u7 := btr u5 hb7; have c72 := keepB u7 Q2.out; have c73 := keepB u7 Q3.out)
                    | (go_at_call 12; go_must (refine (KC2.out _).mono ?_); rintro e w8 ⟨rfl, hb8⟩; have t8 := btr t7 hb8; have u8 := btr u7 hb8; have c80 := keepB u8 Q0.out; have c81 := keepB u8 Q1.out; have c82 := keepB u8 Q2.out; have c83 := keepB u8 Q3.out)
                    | (go_at_call 15; go_must (refine (KF.out _ t8).mono ?_); rintro e wb ⟨rfl, hbb⟩; have tb := btr t8 hbb; have ub := btr u8 hbb)
                    | (go_at_call 16; go_must (refine (KE.out _ tb).mono ?_); rintro e wc ⟨vc, rfl, rc, hbc⟩; obtain ⟨Ac, cc, rfl, hcc, hcr⟩ := rc.slice; have tc := btr tb hbc; have uc := btr ub hbc))
                  unfold maxLen at hcr
                  have EB : EnA wc Ac L.length cc L := by
                    obtain ⟨_, _, e9, h9⟩ := rc.env
                    injection e9 with e91 e92 e93
                    subst e91 e93
                    exact h9
                  have V4 : Below w4.heap.size w4 wc := btr (btr (btr (btr hb5 hb7) hb8) hbb) hbc
                  have E1 := Lib.hid (HEA.out.below V4)
                  have E2 := Lib.hid EB
                  clear EB rc
                  go_loopw [14] (fun iv wr => ∃ k : Nat, iv = .int .i64 k ∧ k ≤ L.length ∧ Below wc.heap.size wc wr) (fun iv _ => L.length - (intOf iv).toNat)
                  case atStart => exact ⟨0, rfl, Nat.zero_le _, Below.refl _ _⟩
                  case round =>
                    obtain ⟨k, rfl, hk, hbr⟩ := hrel
                    rcases Nat.lt_or_ge k L.length with hkn | hkn
                    · obtain ⟨q, hq⟩ : ∃ q, L[k]? = some q := ⟨_, List.getElem?_eq_getElem hkn⟩
                      obtain ⟨b1', off1, rfl, f0, f1, f2, f3, f4⟩ := (E1.out.below hbr).at hq
                      obtain ⟨b2', off2, rfl, g0, g1, g2, g3, g4⟩ := (E2.out.below hbr).at hq
                      clear hq
                      obtain ⟨qa, qb, qc, qd, qn⟩ := q
                      simp only at f0 f1 f2 f3 f4 g0 g1 g2 g3 g4
                      have hki : (k : Int) < (L.length : Int) := by omega
                      have hk0 : (0 : Int) ≤ (k : Int) := by omega
                      go_wp2_with fail
                      go_quiet (fail)
                      go_wp2_with fail
                      go_roundw
                      case rel => exact ⟨k + 1, by go_num, by omega, below_drewN' hbr _⟩
                      case measure => simp [intOf]; omega
                    · obtain rfl : k = L.length := by omega
                      have KZ := Lib.hid (KX.out _ _ _ _ (btr tc hbr) (E1.out.below hbr))
                      go_wp2_with (go_at_call 17; go_must (refine KZ.out.mono ?_); rintro e wd ⟨rfl, hbd⟩)
                      go_ret
                      exact ⟨rfl, btr (btr tc hbr) hbd⟩
              · rw [BT1.out m1] at K1
                have HNZ := Lib.hid m1
                have zd : (cfE a b == 0) = false := by simpa using m1
                have ze : (cfE a b != 0) = true := by simpa using m1
                clear BT1 BT2 BT3 BT4 KBW KC2 m1
                generalize cfE a b = d1 at *
                go_enter Tryz.func3, Tryz.ntmps3
                go_wp2_with (first
                  | (go_at_call 6; go_must (refine lawRoots_any.mono ?_); rintro e w1 ⟨rfl, hb1⟩; have t1 := btr hb0 hb1)
                  | (go_at_call 7; go_must (refine (HS.out _ t1).mono ?_); rintro e w2 ⟨rfl, hb2⟩; have t2 := btr t1 hb2; have u2 := btr hb1 hb2; have c20 := keepB u2 Q0.out; have c21 := keepB u2 Q1.out; have c22 := keepB u2 Q2.out; have c23 := keepB u2 Q3.out)
                  | (go_at_call 8; go_must (refine (K1.out _ t2).mono ?_); rintro e w3 ⟨y3, rfl, r3, z3, hb3⟩; have t3 := btr t2 hb3; have u3 := btr u2 hb3; obtain rfl : y3 = 0 := z3 HNZ.out; clear r3 z3)
                  | (go_at_call 9; go_must (refine (K2.out _ t3).mono ?_); rintro e w4 ⟨A4, m4, c4, rfl, hc4, hr4, r4, z4, hb4⟩; have t4 := btr t3 hb4; have u4 := btr u3 hb4; have HEA := Lib.hid (r4 (by first | exact rfl | trivial)); obtain rfl : m4 = L.length := HEA.out.len.symm; clear r4 z4)
                  | (go_at_call 10; go_must (refine (K3.out _ t4).mono ?_); rintro e w5 ⟨rfl, hb5⟩; have t5 := btr t4 hb5; have u5 := btr u4 hb5; have c50 := keepB u5 Q0.out; have c51 := keepB u5 Q1.out)
                  | (go_at_call 11; go_must (refine (KW.out _).mono ?_); rintro e w6 ⟨rfl, rfl⟩)
                  | (go_at_call 12; ((with_reducible refine (KC1.out _).mono ?_)); rintro e w7 ⟨rfl, hb7⟩; have t7 := btr t5 hb7; have u7 := btr u5 hb7; have c72 := keepB u7 Q2.out; have c73 := keepB u7 Q3.out)
                  | (go_at_call 15; go_must (refine (KF.out _ t7).mono ?_); rintro e wb ⟨rfl, hbb⟩; have tb := btr t7 hbb; have ub := btr u7 hbb)
                  | (go_at_call 16; go_must (refine (KE.out _ tb).mono ?_); rintro e wc ⟨vc, rfl, rc, hbc⟩; obtain ⟨Ac, cc, rfl, hcc, hcr⟩ := rc.slice; have tc := btr tb hbc; have uc := btr ub hbc))
                unfold maxLen at hcr
                have EB : EnA wc Ac L.length cc L := by
                  obtain ⟨_, _, e9, h9⟩ := rc.env
                  injection e9 with e91 e92 e93
                  subst e91 e93
                  exact h9
                have V4 : Below w4.heap.size w4 wc := btr (btr (btr hb5 hb7) hbb) hbc
                have E1 := Lib.hid (HEA.out.below V4)
                have E2 := Lib.hid EB
                clear EB rc
                go_loopw [14] (fun iv wr => ∃ k : Nat, iv = .int .i64 k ∧ k ≤ L.length ∧ Below wc.heap.size wc wr) (fun iv _ => L.length - (intOf iv).toNat)
                case atStart => exact ⟨0, rfl, Nat.zero_le _, Below.refl _ _⟩
                case round =>
                  obtain ⟨k, rfl, hk, hbr⟩ := hrel
                  rcases Nat.lt_or_ge k L.length with hkn | hkn
                  · obtain ⟨q, hq⟩ : ∃ q, L[k]? = some q := ⟨_, List.getElem?_eq_getElem hkn⟩
                    obtain ⟨b1', off1, rfl, f0, f1, f2, f3, f4⟩ := (E1.out.below hbr).at hq
                    obtain ⟨b2', off2, rfl, g0, g1, g2, g3, g4⟩ := (E2.out.below hbr).at hq
                    clear hq
                    obtain ⟨qa, qb, qc, qd, qn⟩ := q
                    simp only at f0 f1 f2 f3 f4 g0 g1 g2 g3 g4
                    have hki : (k : Int) < (L.length : Int) := by omega
                    have hk0 : (0 : Int) ≤ (k : Int) := by omega
                    go_wp2_with fail
                    go_quiet (fail)
                    go_wp2_with fail
                    go_roundw
                    case rel => exact ⟨k + 1, by go_num, by omega, below_drewN' hbr _⟩
                    case measure => simp [intOf]; omega
                  · obtain rfl : k = L.length := by omega
                    have KZ := Lib.hid (KX.out _ _ _ _ (btr tc hbr) (E1.out.below hbr))
                    go_wp2_with (go_at_call 17; go_must (refine KZ.out.mono ?_); rintro e wd ⟨rfl, hbd⟩)
                    go_ret
                    exact ⟨rfl, btr (btr tc hbr) hbd⟩
            · rw [EN4.out hdc1 hdc2 hfar] at K2
              have HNZ4 := Lib.hid (show (8 : Int) ≠ 0 by decide)
              rw [hfar] at KF
              clear EN1 EN2 EN3 EN4 KQ KO KE hfar
              by_cases m1 : cfE a b = 0
              · by_cases m2 : cfE x y = 0
                · obtain ⟨y1, y2, y3, y4⟩ := cfE_zero m1
                  obtain ⟨y5, y6, y7, y8⟩ := cfE_zero m2
                  have KL := Lib.hid (fun w' => qLess_any (a := x) (b := y) (c := a) (d := b) (w := w') (by omega) (by omega) (by omega) (by omega))
                  have KB := Lib.hid (fun w' hb => KBW.out w' hb (by omega) (by omega) (by omega) (by omega))
                  rw [m1] at KC1
                  rw [m2] at KC2
                  by_cases m3 : x * b < a * y
                  · rw [BT3.out m1 m2 m3] at K1
                    have HNZ := Lib.hid (show (14 : Int) ≠ 0 by decide)
                    rw [decide_eq_true m3] at KL
                    clear BT1 BT2 BT3 BT4 KBW KB m1 m2 m3 y1 y2 y3 y4 y5 y6 y7 y8
                    go_enter Tryz.func3, Tryz.ntmps3
                    go_wp2_with (first
                      | (go_at_call 6; go_must (refine lawRoots_any.mono ?_); rintro e w1 ⟨rfl, hb1⟩; have t1 := btr hb0 hb1)
                      | (go_at_call 7; go_must (refine (HS.out _ t1).mono ?_); rintro e w2 ⟨rfl, hb2⟩; have t2 := btr t1 hb2; have u2 := btr hb1 hb2; have c20 := keepB u2 Q0.out; have c21 := keepB u2 Q1.out; have c22 := keepB u2 Q2.out; have c23 := keepB u2 Q3.out)
                      | (go_at_call 8; go_must (refine (K1.out _ t2).mono ?_); rintro e w3 ⟨y3, rfl, r3, z3, hb3⟩; have t3 := btr t2 hb3; have u3 := btr u2 hb3; obtain rfl : y3 = 0 := z3 HNZ.out; clear r3 z3)
                      | (go_at_call 9; go_must (refine (K2.out _ t3).mono ?_); rintro e w4 ⟨A4, m4, c4, rfl, hc4, hr4, r4, z4, hb4⟩; have t4 := btr t3 hb4; have u4 := btr u3 hb4; obtain rfl : m4 = 0 := z4 HNZ4.out; clear r4 z4)
                      | (go_at_call 10; go_must (refine (K3.out _ t4).mono ?_); rintro e w5 ⟨rfl, hb5⟩; have t5 := btr t4 hb5; have u5 := btr u4 hb5; have c50 := keepB u5 Q0.out; have c51 := keepB u5 Q1.out)
                      | (go_at_call 11; go_must (refine (KW.out _).mono ?_); rintro e w6 ⟨rfl, rfl⟩)
                      | (go_at_call 12; ((with_reducible refine (KC1.out _).mono ?_)); rintro e w7 ⟨rfl, hb7⟩; have t7 := btr t5 hb7; have u7 := btr u5 hb7; have c72 := keepB u7 Q2.out; have c73 := keepB u7 Q3.out)
                      | (go_at_call 12; go_must (refine (KC2.out _).mono ?_); rintro e w8 ⟨rfl, hb8⟩; have t8 := btr t7 hb8; have u8 := btr u7 hb8; have c80 := keepB u8 Q0.out; have c81 := keepB u8 Q1.out; have c82 := keepB u8 Q2.out; have c83 := keepB u8 Q3.out)
                      | (go_at_call 13; go_must (refine (KL.out _).mono ?_); rintro e w9 ⟨rfl, hb9⟩; have t9 := btr t8 hb9; have u9 := btr u8 hb9; have c90 := keepB u9 Q0.out; have c91 := keepB u9 Q1.out; have c92 := keepB u9 Q2.out; have c93 := keepB u9 Q3.out)
                      | (go_at_call 15; go_must (refine (KF.out _ t9).mono ?_); rintro e wb ⟨rfl, hbb⟩; have tb := btr t9 hbb; have ub := btr u9 hbb))
                    go_ret
                    exact ⟨rfl, tb⟩
                  · rw [BT4.out m1 m2 m3] at K1
                    rw [decide_eq_false m3] at KL
                    clear BT1 BT2 BT3 BT4 KBW m1 m2 m3 y1 y2 y3 y4 y5 y6 y7 y8
                    go_enter Tryz.func3, Tryz.ntmps3
                    go_wp2_with (first
                      | (go_at_call 6; go_must (refine lawRoots_any.mono ?_); rintro e w1 ⟨rfl, hb1⟩; have t1 := btr hb0 hb1)
                      | (go_at_call 7; go_must (refine (HS.out _ t1).mono ?_); rintro e w2 ⟨rfl, hb2⟩; have t2 := btr t1 hb2; have u2 := btr hb1 hb2; have c20 := keepB u2 Q0.out; have c21 := keepB u2 Q1.out; have c22 := keepB u2 Q2.out; have c23 := keepB u2 Q3.out)
                      | (go_at_call 8; go_must (refine (K1.out _ t2).mono ?_); rintro e w3 ⟨y3, rfl, r3, z3, hb3⟩; have t3 := btr t2 hb3; have u3 := btr u2 hb3; obtain rfl : y3 = vv := r3 (by first | exact rfl | trivial); clear r3 z3)
                      | (go_at_call 9; go_must (refine (K2.out _ t3).mono ?_); rintro e w4 ⟨A4, m4, c4, rfl, hc4, hr4, r4, z4, hb4⟩; have t4 := btr t3 hb4; have u4 := btr u3 hb4; obtain rfl : m4 = 0 := z4 HNZ4.out; clear r4 z4)
                      | (go_at_call 10; go_must (refine (K3.out _ t4).mono ?_); rintro e w5 ⟨rfl, hb5⟩; have t5 := btr t4 hb5; have u5 := btr u4 hb5; have c50 := keepB u5 Q0.out; have c51 := keepB u5 Q1.out)
                      | (go_at_call 11; go_must (refine (KW.out _).mono ?_); rintro e w6 ⟨rfl, rfl⟩)
                      | (go_at_call 12; ((with_reducible refine (KC1.out _).mono ?_)); rintro e w7 ⟨rfl, hb7⟩; have t7 := btr t5 hb7; have u7 := btr u5 hb7; have c72 := keepB u7 Q2.out; have c73 := keepB u7 Q3.out)
                      | (go_at_call 12; go_must (refine (KC2.out _).mono ?_); rintro e w8 ⟨rfl, hb8⟩; have t8 := btr t7 hb8; have u8 := btr u7 hb8; have c80 := keepB u8 Q0.out; have c81 := keepB u8 Q1.out; have c82 := keepB u8 Q2.out; have c83 := keepB u8 Q3.out)
                      | (go_at_call 13; go_must (refine (KL.out _).mono ?_); rintro e w9 ⟨rfl, hb9⟩; have t9 := btr t8 hb9; have u9 := btr u8 hb9; have c90 := keepB u9 Q0.out; have c91 := keepB u9 Q1.out; have c92 := keepB u9 Q2.out; have c93 := keepB u9 Q3.out)
                      | (go_at_call 14; go_must (refine (KB.out _ t9).mono ?_); rintro e wa ⟨rfl, hba⟩; have ta := btr t9 hba; have ua := btr u9 hba)
                      | (go_at_call 15; go_must (refine (KF.out _ ta).mono ?_); rintro e wb ⟨rfl, hbb⟩; have tb := btr ta hbb; have ub := btr ua hbb))
                    go_ret
                    exact ⟨rfl, tb⟩
                · rw [BT2.out m1 m2] at K1
                  have HNZ := Lib.hid m2
                  rw [m1] at KC1
                  have zd : (cfE x y == 0) = false := by simpa using m2
                  have ze : (cfE x y != 0) = true := by simpa using m2
                  clear BT1 BT2 BT3 BT4 KBW m1 m2
                  generalize cfE x y = d2 at *
                  go_enter Tryz.func3, Tryz.ntmps3
                  go_wp2_with (first
                    | (go_at_call 6; go_must (refine lawRoots_any.mono ?_); rintro e w1 ⟨rfl, hb1⟩; have t1 := btr hb0 hb1)
                    | (go_at_call 7; go_must (refine (HS.out _ t1).mono ?_); rintro e w2 ⟨rfl, hb2⟩; have t2 := btr t1 hb2; have u2 := btr hb1 hb2; have c20 := keepB u2 Q0.out; have c21 := keepB u2 Q1.out; have c22 := keepB u2 Q2.out; have c23 := keepB u2 Q3.out)
                    | (go_at_call 8; go_must (refine (K1.out _ t2).mono ?_); rintro e w3 ⟨y3, rfl, r3, z3, hb3⟩; have t3 := btr t2 hb3; have u3 := btr u2 hb3; obtain rfl : y3 = 0 := z3 HNZ.out; clear r3 z3)
                    | (go_at_call 9; go_must (refine (K2.out _ t3).mono ?_); rintro e w4 ⟨A4, m4, c4, rfl, hc4, hr4, r4, z4, hb4⟩; have t4 := btr t3 hb4; have u4 := btr u3 hb4; obtain rfl : m4 = 0 := z4 HNZ4.out; clear r4 z4)
                    | (go_at_call 10; go_must (refine (K3.out _ t4).mono ?_); rintro e w5 ⟨rfl, hb5⟩; have t5 := btr t4 hb5; have u5 := btr u4 hb5; have c50 := keepB u5 Q0.out; have c51 := keepB u5 Q1.out)
                    | (go_at_call 11; go_must (refine (KW.out _).mono ?_); rintro e w6 ⟨rfl, rfl⟩)
                    | (go_at_call 12; ((with_reducible refine (KC1.out _).mono ?_)); rintro e w7 ⟨rfl, hb7⟩; have t7 := btr t5 hb7; have u7 := btr u5 hb7; have c72 := keepB u7 Q2.out; have c73 := keepB u7 Q3.out)
                    | (go_at_call 12; go_must (refine (KC2.out _).mono ?_); rintro e w8 ⟨rfl, hb8⟩; have t8 := btr t7 hb8; have u8 := btr u7 hb8; have c80 := keepB u8 Q0.out; have c81 := keepB u8 Q1.out; have c82 := keepB u8 Q2.out; have c83 := keepB u8 Q3.out)
                    | (go_at_call 15; go_must (refine (KF.out _ t8).mono ?_); rintro e wb ⟨rfl, hbb⟩; have tb := btr t8 hbb; have ub := btr u8 hbb))
                  go_ret
                  exact ⟨rfl, tb⟩
              · rw [BT1.out m1] at K1
                have HNZ := Lib.hid m1
                have zd : (cfE a b == 0) = false := by simpa using m1
                have ze : (cfE a b != 0) = true := by simpa using m1
                clear BT1 BT2 BT3 BT4 KBW KC2 m1
                generalize cfE a b = d1 at *
                go_enter Tryz.func3, Tryz.ntmps3
                go_wp2_with (first
                  | (go_at_call 6; go_must (refine lawRoots_any.mono ?_); rintro e w1 ⟨rfl, hb1⟩; have t1 := btr hb0 hb1)
                  | (go_at_call 7; go_must (refine (HS.out _ t1).mono ?_); rintro e w2 ⟨rfl, hb2⟩; have t2 := btr t1 hb2; have u2 := btr hb1 hb2; have c20 := keepB u2 Q0.out; have c21 := keepB u2 Q1.out; have c22 := keepB u2 Q2.out; have c23 := keepB u2 Q3.out)
                  | (go_at_call 8; go_must (refine (K1.out _ t2).mono ?_); rintro e w3 ⟨y3, rfl, r3, z3, hb3⟩; have t3 := btr t2 hb3; have u3 := btr u2 hb3; obtain rfl : y3 = 0 := z3 HNZ.out; clear r3 z3)
                  | (go_at_call 9; go_must (refine (K2.out _ t3).mono ?_); rintro e w4 ⟨A4, m4, c4, rfl, hc4, hr4, r4, z4, hb4⟩; have t4 := btr t3 hb4; have u4 := btr u3 hb4; obtain rfl : m4 = 0 := z4 HNZ4.out; clear r4 z4)
                  | (go_at_call 10; go_must (refine (K3.out _ t4).mono ?_); rintro e w5 ⟨rfl, hb5⟩; have t5 := btr t4 hb5; have u5 := btr u4 hb5; have c50 := keepB u5 Q0.out; have c51 := keepB u5 Q1.out)
                  | (go_at_call 11; go_must (refine (KW.out _).mono ?_); rintro e w6 ⟨rfl, rfl⟩)
                  | (go_at_call 12; ((with_reducible refine (KC1.out _).mono ?_)); rintro e w7 ⟨rfl, hb7⟩; have t7 := btr t5 hb7; have u7 := btr u5 hb7; have c72 := keepB u7 Q2.out; have c73 := keepB u7 Q3.out)
                  | (go_at_call 15; go_must (refine (KF.out _ t7).mono ?_); rintro e wb ⟨rfl, hbb⟩; have tb := btr t7 hbb; have ub := btr u7 hbb))
                go_ret
                exact ⟨rfl, tb⟩
          · rw [EN2.out hdc] at K2
            have HNZ4 := Lib.hid (show (2 : Int) ≠ 0 by decide)
            have KW := Lib.hid (fun w' => Within_any (n := den) (lo := 1) (hi := 1000) (b := false) (decide_eq_false (by omega)) w')
            have zd20 : decide ((20 : Int) < den) = true := decide_eq_true (by omega)
            have yd1000 : decide ((den : Int) ≤ 1000) = false := decide_eq_false (by omega)
            clear EN1 EN2 EN3 EN4 KF KQ KO
            by_cases m1 : cfE a b = 0
            · by_cases m2 : cfE x y = 0
              · obtain ⟨y1, y2, y3, y4⟩ := cfE_zero m1
                obtain ⟨y5, y6, y7, y8⟩ := cfE_zero m2
                have KL := Lib.hid (fun w' => qLess_any (a := x) (b := y) (c := a) (d := b) (w := w') (by omega) (by omega) (by omega) (by omega))
                have KB := Lib.hid (fun w' hb => KBW.out w' hb (by omega) (by omega) (by omega) (by omega))
                rw [m1] at KC1
                rw [m2] at KC2
                by_cases m3 : x * b < a * y
                · rw [BT3.out m1 m2 m3] at K1
                  have HNZ := Lib.hid (show (14 : Int) ≠ 0 by decide)
                  rw [decide_eq_true m3] at KL
                  clear BT1 BT2 BT3 BT4 KBW KB m1 m2 m3 y1 y2 y3 y4 y5 y6 y7 y8
                  go_enter Tryz.func3, Tryz.ntmps3
                  go_wp2_with (first
                    | (go_at_call 6; go_must (refine lawRoots_any.mono ?_); rintro e w1 ⟨rfl, hb1⟩; have t1 := btr hb0 hb1)
                    | (go_at_call 7; go_must (refine (HS.out _ t1).mono ?_); rintro e w2 ⟨rfl, hb2⟩; have t2 := btr t1 hb2; have u2 := btr hb1 hb2; have c20 := keepB u2 Q0.out; have c21 := keepB u2 Q1.out; have c22 := keepB u2 Q2.out; have c23 := keepB u2 Q3.out)
                    | (go_at_call 8; go_must (refine (K1.out _ t2).mono ?_); rintro e w3 ⟨y3, rfl, r3, z3, hb3⟩; have t3 := btr t2 hb3; have u3 := btr u2 hb3; obtain rfl : y3 = 0 := z3 HNZ.out; clear r3 z3)
                    | (go_at_call 9; go_must (refine (K2.out _ t3).mono ?_); rintro e w4 ⟨A4, m4, c4, rfl, hc4, hr4, r4, z4, hb4⟩; have t4 := btr t3 hb4; have u4 := btr u3 hb4; obtain rfl : m4 = 0 := z4 HNZ4.out; clear r4 z4)
                    | (go_at_call 10; go_must (refine (K3.out _ t4).mono ?_); rintro e w5 ⟨rfl, hb5⟩; have t5 := btr t4 hb5; have u5 := btr u4 hb5; have c50 := keepB u5 Q0.out; have c51 := keepB u5 Q1.out)
                    | (go_at_call 11; go_must (refine (KW.out _).mono ?_); rintro e w6 ⟨rfl, rfl⟩)
                    | (go_at_call 12; ((with_reducible refine (KC1.out _).mono ?_)); rintro e w7 ⟨rfl, hb7⟩; have t7 := btr t5 hb7; have u7 := btr u5 hb7; have c72 := keepB u7 Q2.out; have c73 := keepB u7 Q3.out)
                    | (go_at_call 12; go_must (refine (KC2.out _).mono ?_); rintro e w8 ⟨rfl, hb8⟩; have t8 := btr t7 hb8; have u8 := btr u7 hb8; have c80 := keepB u8 Q0.out; have c81 := keepB u8 Q1.out; have c82 := keepB u8 Q2.out; have c83 := keepB u8 Q3.out)
                    | (go_at_call 13; go_must (refine (KL.out _).mono ?_); rintro e w9 ⟨rfl, hb9⟩; have t9 := btr t8 hb9; have u9 := btr u8 hb9; have c90 := keepB u9 Q0.out; have c91 := keepB u9 Q1.out; have c92 := keepB u9 Q2.out; have c93 := keepB u9 Q3.out))
                  go_ret
                  exact ⟨rfl, t9⟩
                · rw [BT4.out m1 m2 m3] at K1
                  rw [decide_eq_false m3] at KL
                  clear BT1 BT2 BT3 BT4 KBW m1 m2 m3 y1 y2 y3 y4 y5 y6 y7 y8
                  go_enter Tryz.func3, Tryz.ntmps3
                  go_wp2_with (first
                    | (go_at_call 6; go_must (refine lawRoots_any.mono ?_); rintro e w1 ⟨rfl, hb1⟩; have t1 := btr hb0 hb1)
                    | (go_at_call 7; go_must (refine (HS.out _ t1).mono ?_); rintro e w2 ⟨rfl, hb2⟩; have t2 := btr t1 hb2; have u2 := btr hb1 hb2; have c20 := keepB u2 Q0.out; have c21 := keepB u2 Q1.out; have c22 := keepB u2 Q2.out; have c23 := keepB u2 Q3.out)
                    | (go_at_call 8; go_must (refine (K1.out _ t2).mono ?_); rintro e w3 ⟨y3, rfl, r3, z3, hb3⟩; have t3 := btr t2 hb3; have u3 := btr u2 hb3; obtain rfl : y3 = vv := r3 (by first | exact rfl | trivial); clear r3 z3)
                    | (go_at_call 9; go_must (refine (K2.out _ t3).mono ?_); rintro e w4 ⟨A4, m4, c4, rfl, hc4, hr4, r4, z4, hb4⟩; have t4 := btr t3 hb4; have u4 := btr u3 hb4; obtain rfl : m4 = 0 := z4 HNZ4.out; clear r4 z4)
                    | (go_at_call 10; go_must (refine (K3.out _ t4).mono ?_); rintro e w5 ⟨rfl, hb5⟩; have t5 := btr t4 hb5; have u5 := btr u4 hb5; have c50 := keepB u5 Q0.out; have c51 := keepB u5 Q1.out)
                    | (go_at_call 11; go_must (refine (KW.out _).mono ?_); rintro e w6 ⟨rfl, rfl⟩)
                    | (go_at_call 12; ((with_reducible refine (KC1.out _).mono ?_)); rintro e w7 ⟨rfl, hb7⟩; have t7 := btr t5 hb7; have u7 := btr u5 hb7; have c72 := keepB u7 Q2.out; have c73 := keepB u7 Q3.out)
                    | (go_at_call 12; go_must (refine (KC2.out _).mono ?_); rintro e w8 ⟨rfl, hb8⟩; have t8 := btr t7 hb8; have u8 := btr u7 hb8; have c80 := keepB u8 Q0.out; have c81 := keepB u8 Q1.out; have c82 := keepB u8 Q2.out; have c83 := keepB u8 Q3.out)
                    | (go_at_call 13; go_must (refine (KL.out _).mono ?_); rintro e w9 ⟨rfl, hb9⟩; have t9 := btr t8 hb9; have u9 := btr u8 hb9; have c90 := keepB u9 Q0.out; have c91 := keepB u9 Q1.out; have c92 := keepB u9 Q2.out; have c93 := keepB u9 Q3.out)
                    | (go_at_call 14; go_must (refine (KB.out _ t9).mono ?_); rintro e wa ⟨rfl, hba⟩; have ta := btr t9 hba; have ua := btr u9 hba))
                  go_ret
                  exact ⟨rfl, ta⟩
              · rw [BT2.out m1 m2] at K1
                have HNZ := Lib.hid m2
                rw [m1] at KC1
                have zd : (cfE x y == 0) = false := by simpa using m2
                have ze : (cfE x y != 0) = true := by simpa using m2
                clear BT1 BT2 BT3 BT4 KBW m1 m2
                generalize cfE x y = d2 at *
                go_enter Tryz.func3, Tryz.ntmps3
                go_wp2_with (first
                  | (go_at_call 6; go_must (refine lawRoots_any.mono ?_); rintro e w1 ⟨rfl, hb1⟩; have t1 := btr hb0 hb1)
                  | (go_at_call 7; go_must (refine (HS.out _ t1).mono ?_); rintro e w2 ⟨rfl, hb2⟩; have t2 := btr t1 hb2; have u2 := btr hb1 hb2; have c20 := keepB u2 Q0.out; have c21 := keepB u2 Q1.out; have c22 := keepB u2 Q2.out; have c23 := keepB u2 Q3.out)
                  | (go_at_call 8; go_must (refine (K1.out _ t2).mono ?_); rintro e w3 ⟨y3, rfl, r3, z3, hb3⟩; have t3 := btr t2 hb3; have u3 := btr u2 hb3; obtain rfl : y3 = 0 := z3 HNZ.out; clear r3 z3)
                  | (go_at_call 9; go_must (refine (K2.out _ t3).mono ?_); rintro e w4 ⟨A4, m4, c4, rfl, hc4, hr4, r4, z4, hb4⟩; have t4 := btr t3 hb4; have u4 := btr u3 hb4; obtain rfl : m4 = 0 := z4 HNZ4.out; clear r4 z4)
                  | (go_at_call 10; go_must (refine (K3.out _ t4).mono ?_); rintro e w5 ⟨rfl, hb5⟩; have t5 := btr t4 hb5; have u5 := btr u4 hb5; have c50 := keepB u5 Q0.out; have c51 := keepB u5 Q1.out)
                  | (go_at_call 11; go_must (refine (KW.out _).mono ?_); rintro e w6 ⟨rfl, rfl⟩)
                  | (go_at_call 12; ((with_reducible refine (KC1.out _).mono ?_)); rintro e w7 ⟨rfl, hb7⟩; have t7 := btr t5 hb7; have u7 := btr u5 hb7; have c72 := keepB u7 Q2.out; have c73 := keepB u7 Q3.out)
                  | (go_at_call 12; go_must (refine (KC2.out _).mono ?_); rintro e w8 ⟨rfl, hb8⟩; have t8 := btr t7 hb8; have u8 := btr u7 hb8; have c80 := keepB u8 Q0.out; have c81 := keepB u8 Q1.out; have c82 := keepB u8 Q2.out; have c83 := keepB u8 Q3.out))
                go_ret
                exact ⟨rfl, t8⟩
            · rw [BT1.out m1] at K1
              have HNZ := Lib.hid m1
              have zd : (cfE a b == 0) = false := by simpa using m1
              have ze : (cfE a b != 0) = true := by simpa using m1
              clear BT1 BT2 BT3 BT4 KBW KC2 m1
              generalize cfE a b = d1 at *
              go_enter Tryz.func3, Tryz.ntmps3
              go_wp2_with (first
                | (go_at_call 6; go_must (refine lawRoots_any.mono ?_); rintro e w1 ⟨rfl, hb1⟩; have t1 := btr hb0 hb1)
                | (go_at_call 7; go_must (refine (HS.out _ t1).mono ?_); rintro e w2 ⟨rfl, hb2⟩; have t2 := btr t1 hb2; have u2 := btr hb1 hb2; have c20 := keepB u2 Q0.out; have c21 := keepB u2 Q1.out; have c22 := keepB u2 Q2.out; have c23 := keepB u2 Q3.out)
                | (go_at_call 8; go_must (refine (K1.out _ t2).mono ?_); rintro e w3 ⟨y3, rfl, r3, z3, hb3⟩; have t3 := btr t2 hb3; have u3 := btr u2 hb3; obtain rfl : y3 = 0 := z3 HNZ.out; clear r3 z3)
                | (go_at_call 9; go_must (refine (K2.out _ t3).mono ?_); rintro e w4 ⟨A4, m4, c4, rfl, hc4, hr4, r4, z4, hb4⟩; have t4 := btr t3 hb4; have u4 := btr u3 hb4; obtain rfl : m4 = 0 := z4 HNZ4.out; clear r4 z4)
                | (go_at_call 10; go_must (refine (K3.out _ t4).mono ?_); rintro e w5 ⟨rfl, hb5⟩; have t5 := btr t4 hb5; have u5 := btr u4 hb5; have c50 := keepB u5 Q0.out; have c51 := keepB u5 Q1.out)
                | (go_at_call 11; go_must (refine (KW.out _).mono ?_); rintro e w6 ⟨rfl, rfl⟩)
                | (go_at_call 12; ((with_reducible refine (KC1.out _).mono ?_)); rintro e w7 ⟨rfl, hb7⟩; have t7 := btr t5 hb7; have u7 := btr u5 hb7; have c72 := keepB u7 Q2.out; have c73 := keepB u7 Q3.out))
              go_ret
              exact ⟨rfl, t7⟩
        · rw [show btE l a b x y = rdE l by unfold btE; rw [if_pos hd]] at K1
          rw [show enE l den = rdE l by unfold enE; rw [if_pos hd]] at K2
          have HNZ := Lib.hid hd
          have HNZ4 := Lib.hid hd
          have zd : (rdE l == 0) = false := by simpa using hd
          have ze : (rdE l != 0) = true := by simpa using hd
          clear hp hg hbd hl hd
          generalize rdE l = d at *
          subst hW0
          rcases (show n ≤ 9 ∨ (9 < n ∧ 61 < n) by omega) with h3 | h3 <;> rcases hden2 with h5 | h5
          · skip
            have zn9 : decide ((9 : Int) < (n : Int)) = false := decide_eq_false (by omega)
            have zd20 : decide ((20 : Int) < (den : Int)) = false := decide_eq_false (by omega)
            go_enter Tryz.func3, Tryz.ntmps3
            go_wp2_with (first
              | (go_at_call 6; go_must (refine lawRoots_any.mono ?_); rintro e w1 ⟨rfl, hb1⟩; have t1 := btr hb0 hb1)
              | (go_at_call 7; go_must (refine (HS.out _ t1).mono ?_); rintro e w2 ⟨rfl, hb2⟩; have t2 := btr t1 hb2; have u2 := btr hb1 hb2; have c20 := keepB u2 Q0.out; have c21 := keepB u2 Q1.out; have c22 := keepB u2 Q2.out; have c23 := keepB u2 Q3.out)
              | (go_at_call 8; go_must (refine (K1.out _ t2).mono ?_); rintro e w3 ⟨y3, rfl, r3, z3, hb3⟩; have t3 := btr t2 hb3; have u3 := btr u2 hb3; obtain rfl : y3 = 0 := z3 HNZ.out; clear r3 z3)
              | (go_at_call 9; go_must (refine (K2.out _ t3).mono ?_); rintro e w4 ⟨A4, m4, c4, rfl, hc4, hr4, r4, z4, hb4⟩; have t4 := btr t3 hb4; have u4 := btr u3 hb4; obtain rfl : m4 = 0 := z4 HNZ4.out; clear r4 z4)
              | (go_at_call 10; go_must (refine (K3.out _ t4).mono ?_); rintro e w5 ⟨rfl, hb5⟩; have t5 := btr t4 hb5; have u5 := btr u4 hb5; have c50 := keepB u5 Q0.out; have c51 := keepB u5 Q1.out))
            go_ret
            exact ⟨rfl, t5⟩
          · skip
            have zn9 : decide ((9 : Int) < (n : Int)) = false := decide_eq_false (by omega)
            have zd20 : decide ((20 : Int) < (den : Int)) = true := decide_eq_true (by omega)
            have yd1000 : decide ((den : Int) ≤ (1000 : Int)) = false := decide_eq_false (by omega)
            go_enter Tryz.func3, Tryz.ntmps3
            go_wp2_with (first
              | (go_at_call 6; go_must (refine lawRoots_any.mono ?_); rintro e w1 ⟨rfl, hb1⟩; have t1 := btr hb0 hb1)
              | (go_at_call 7; go_must (refine (HS.out _ t1).mono ?_); rintro e w2 ⟨rfl, hb2⟩; have t2 := btr t1 hb2; have u2 := btr hb1 hb2; have c20 := keepB u2 Q0.out; have c21 := keepB u2 Q1.out; have c22 := keepB u2 Q2.out; have c23 := keepB u2 Q3.out)
              | (go_at_call 8; go_must (refine (K1.out _ t2).mono ?_); rintro e w3 ⟨y3, rfl, r3, z3, hb3⟩; have t3 := btr t2 hb3; have u3 := btr u2 hb3; obtain rfl : y3 = 0 := z3 HNZ.out; clear r3 z3)
              | (go_at_call 9; go_must (refine (K2.out _ t3).mono ?_); rintro e w4 ⟨A4, m4, c4, rfl, hc4, hr4, r4, z4, hb4⟩; have t4 := btr t3 hb4; have u4 := btr u3 hb4; obtain rfl : m4 = 0 := z4 HNZ4.out; clear r4 z4)
              | (go_at_call 10; go_must (refine (K3.out _ t4).mono ?_); rintro e w5 ⟨rfl, hb5⟩; have t5 := btr t4 hb5; have u5 := btr u4 hb5; have c50 := keepB u5 Q0.out; have c51 := keepB u5 Q1.out))
            go_ret
            exact ⟨rfl, t5⟩
          · skip
            have zn9 : decide ((9 : Int) < (n : Int)) = true := decide_eq_true (by omega)
            have yn61 : decide ((n : Int) ≤ (61 : Int)) = false := decide_eq_false (by omega)
            have zd20 : decide ((20 : Int) < (den : Int)) = false := decide_eq_false (by omega)
            go_enter Tryz.func3, Tryz.ntmps3
            go_wp2_with (first
              | (go_at_call 6; go_must (refine lawRoots_any.mono ?_); rintro e w1 ⟨rfl, hb1⟩; have t1 := btr hb0 hb1)
              | (go_at_call 7; go_must (refine (HS.out _ t1).mono ?_); rintro e w2 ⟨rfl, hb2⟩; have t2 := btr t1 hb2; have u2 := btr hb1 hb2; have c20 := keepB u2 Q0.out; have c21 := keepB u2 Q1.out; have c22 := keepB u2 Q2.out; have c23 := keepB u2 Q3.out)
              | (go_at_call 8; go_must (refine (K1.out _ t2).mono ?_); rintro e w3 ⟨y3, rfl, r3, z3, hb3⟩; have t3 := btr t2 hb3; have u3 := btr u2 hb3; obtain rfl : y3 = 0 := z3 HNZ.out; clear r3 z3)
              | (go_at_call 9; go_must (refine (K2.out _ t3).mono ?_); rintro e w4 ⟨A4, m4, c4, rfl, hc4, hr4, r4, z4, hb4⟩; have t4 := btr t3 hb4; have u4 := btr u3 hb4; obtain rfl : m4 = 0 := z4 HNZ4.out; clear r4 z4)
              | (go_at_call 10; go_must (refine (K3.out _ t4).mono ?_); rintro e w5 ⟨rfl, hb5⟩; have t5 := btr t4 hb5; have u5 := btr u4 hb5; have c50 := keepB u5 Q0.out; have c51 := keepB u5 Q1.out))
            go_ret
            exact ⟨rfl, t5⟩
          · skip
            have zn9 : decide ((9 : Int) < (n : Int)) = true := decide_eq_true (by omega)
            have yn61 : decide ((n : Int) ≤ (61 : Int)) = false := decide_eq_false (by omega)
            have zd20 : decide ((20 : Int) < (den : Int)) = true := decide_eq_true (by omega)
            have yd1000 : decide ((den : Int) ≤ (1000 : Int)) = false := decide_eq_false (by omega)
            go_enter Tryz.func3, Tryz.ntmps3
            go_wp2_with (first
              | (go_at_call 6; go_must (refine lawRoots_any.mono ?_); rintro e w1 ⟨rfl, hb1⟩; have t1 := btr hb0 hb1)
              | (go_at_call 7; go_must (refine (HS.out _ t1).mono ?_); rintro e w2 ⟨rfl, hb2⟩; have t2 := btr t1 hb2; have u2 := btr hb1 hb2; have c20 := keepB u2 Q0.out; have c21 := keepB u2 Q1.out; have c22 := keepB u2 Q2.out; have c23 := keepB u2 Q3.out)
              | (go_at_call 8; go_must (refine (K1.out _ t2).mono ?_); rintro e w3 ⟨y3, rfl, r3, z3, hb3⟩; have t3 := btr t2 hb3; have u3 := btr u2 hb3; obtain rfl : y3 = 0 := z3 HNZ.out; clear r3 z3)
              | (go_at_call 9; go_must (refine (K2.out _ t3).mono ?_); rintro e w4 ⟨A4, m4, c4, rfl, hc4, hr4, r4, z4, hb4⟩; have t4 := btr t3 hb4; have u4 := btr u3 hb4; obtain rfl : m4 = 0 := z4 HNZ4.out; clear r4 z4)
              | (go_at_call 10; go_must (refine (K3.out _ t4).mono ?_); rintro e w5 ⟨rfl, hb5⟩; have t5 := btr t4 hb5; have u5 := btr u4 hb5; have c50 := keepB u5 Q0.out; have c51 := keepB u5 Q1.out))
            go_ret
            exact ⟨rfl, t5⟩
  · have HS := Lib.hid (fun w' (hb : Below w.heap.size w w') => lawShort_no h hs hb)
    clear h hs
    subst hW0
    go_enter Tryz.func3, Tryz.ntmps3
    go_wp2_with (first
      | (go_at_call 6; go_must (refine lawRoots_any.mono ?_); rintro e w1 ⟨rfl, hb1⟩; have t1 := btr hb0 hb1)
      | (go_at_call 7; go_must (refine (HS.out _ t1).mono ?_); rintro e w2 ⟨rfl, hb2⟩; have t2 := btr t1 hb2))
    go_ret
    exact ⟨rfl, t2⟩
end Go.Proofs.YtdmdagilopckgaaGreat
