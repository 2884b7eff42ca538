/- BrandtPolynomials: true for every input. -/
import Derived.Test.YtdmdagilopckgaaGreatShr
import Derived.Test.YtdmdagilopckgaaGreatRts
import Derived.Test.YtdmdagilopckgaaGreatRfj
import Derived.Test.YtdmdagilopckgaaGreatRfi
import Derived.Test.YtdmdagilopckgaaGreatRfg
import Derived.StillTailTactics
import Derived.IntWalk
namespace Go.Proofs.YtdmdagilopckgaaGreat
open Go.RowKit

theorem hv_snoc_zero (num den : Int) (l : List Int) : hv num den (l ++ [0]) = hv num den l * den := by
  induction l with
  | nil => simp [hv]
  | cons c r ih =>
    rw [List.cons_append, hv, ih, hv, List.length_append, List.length_singleton, Int.pow_succ]
    grind
theorem cmpI_scale {x d : Int} (hd : 0 < d) : cmpI (x * d) 0 = cmpI x 0 := by
  unfold cmpI
  rcases Int.lt_trichotomy x 0 with h | h | h
  · rw [if_pos h, if_pos (Int.mul_neg_of_neg_of_pos h hd)]
  · subst h; simp
  · have h2 := Int.mul_pos h hd
    rw [if_neg (by omega), if_neg (by omega), if_neg (by omega), if_neg (by omega)]
theorem sgA_tz {num den : Int} (hd : 0 < den) (l : List Int) : sgA' num den (tz l) = sgA' num den l :=
  tz_law (sgA' num den) (fun l => by unfold sgA'; rw [hv_snoc_zero, cmpI_scale hd]) l

/-- An answer without an error. -/
theorem AnsR.ok {w w' : World} {R : World → Value → Prop} {z : Value} {e : Ending} (h : AnsR w 0 R z e w') : ∃ v, e = .returned (.tuple #[v, .int .i64 0]) ∧ R w' v ∧ Below w.heap.size w w' := by
  obtain ⟨v, he, h1, _, hb⟩ := h
  exact ⟨v, he, h1 rfl, hb⟩
/-- An answer with an error. -/
theorem AnsR.err {w w' : World} {d : Int} {R : World → Value → Prop} {z : Value} {e : Ending} (h : AnsR w d R z e w') (hd : d ≠ 0) : e = .returned (.tuple #[z, .int .i64 d]) ∧ Below w.heap.size w w' := by
  obtain ⟨v, he, _, h2, hb⟩ := h
  rw [h2 hd] at he
  exact ⟨he, hb⟩
theorem value_shape {w w' : World} {d x : Int} {e : Ending} (h : AnsR w d (fun _ v => v = .int .i64 x) (.int .i64 0) e w') : ∃ y, e = .returned (.tuple #[.int .i64 y, .int .i64 d]) ∧ (d = 0 → y = x) ∧ (d ≠ 0 → y = 0) ∧ Below w.heap.size w w' := by
  obtain ⟨v, rfl, h1, h2, hb⟩ := h
  by_cases hd : d = 0
  · exact ⟨x, by rw [h1 hd], fun _ => rfl, fun h => absurd hd h, hb⟩
  · exact ⟨0, by rw [h2 hd], fun h => absurd h hd, fun _ => rfl, hb⟩
theorem list_shape {w w' : World} {d : Int} {l : List Int} {e : Ending} (h : AnsR w d (fun w' v => PL w' v l) (.slice none 0 0) e w') : ∃ B m k, e = .returned (.tuple #[.slice B m k, .int .i64 d]) ∧ m ≤ k ∧ k ≤ 9223372036854775807 ∧ (d = 0 → Pl NI w' (fun _ => True) B m k l) ∧ (d ≠ 0 → m = 0) ∧ Below w.heap.size w w' := by
  obtain ⟨v, rfl, h1, h2, hb⟩ := h
  by_cases hd : d = 0
  · obtain ⟨A, c, rfl, hp⟩ := pv_shape (h1 hd) rfl rfl
    have := hp.room
    unfold maxLen at this
    exact ⟨A, _, c, rfl, hp.cap, this, fun _ => hp, fun h => absurd hd h, hb⟩
  · exact ⟨none, 0, 0, by rw [h2 hd], Nat.le_refl _, by omega, fun h => absurd h hd, fun _ => rfl, hb⟩

theorem cv_room {w : World} {A : Option Addr} {n c : Nat} {L : List (List Int)} (h : CV w (.slice A n c) L) : n ≤ c ∧ c ≤ 9223372036854775807 := by
  have := h.room
  unfold maxLen at this
  omega

/-- What the law answers. -/
def TrueR (w : World) (e : Ending) (w' : World) : Prop := e = .returned (.bool true) ∧ Below w.heap.size w w'

set_option maxRecDepth 100000 in
set_option maxHeartbeats 4000000 in
theorem brandtPolynomials_no {A A' : Option Addr} {n c n' c' : Nat} {l l' : List Int} {num den : Int} {w : World} (h : Pl IntU w (fun _ => True) A n c l) (h' : Pl IntU w (fun _ => True) A' n' c' l') (hs : ¬ (ShP w A n l ∧ ShP w A' n' l')) :
    Calls Tryz.prog 5 #[.slice A n c, .slice A' n' c', .agg #[.int .i64 num, .int .i64 den]] w (TrueR w) := by
  have hm := h.room
  have hm' := h'.room
  unfold maxLen at hm hm'
  have hc := h.cap
  have hc' := h'.cap
  have hb0 := below_al (Below.refl w.heap.size w) (.cells #[.int .i64 num, .int .i64 den] 24)
  by_cases hp : ShP w A n l
  · have HS := Lib.hid (fun w' (hb : Below w.heap.size w w') => lawShort_yes h hp hb)
    have HT := Lib.hid (fun w' (hb : Below w.heap.size w w') => lawShort_no h' (fun hq => hs ⟨hp, hq⟩) hb)
    clear h h' hs hp
    go_enter Tryz.func5, Tryz.ntmps5
    go_wp2_with (first
      | (go_at_call 6; go_must (refine lawRoots_any.mono ?_); rintro e w1 ⟨rfl, hb1⟩)
      | (go_at_call 7; ((with_reducible refine (HS.out _ (btr hb0 hb1)).mono ?_)); rintro e w2 ⟨rfl, hb2⟩)
      | (go_at_call 7; go_must (refine (HT.out _ (btr (btr hb0 hb1) hb2)).mono ?_); rintro e w3 ⟨rfl, hb3⟩))
    go_ret
    exact ⟨rfl, btr (btr (btr hb0 hb1) hb2) hb3⟩
  · have HS := Lib.hid (fun w' (hb : Below w.heap.size w w') => lawShort_no h hp hb)
    clear h h' hs hp
    go_enter Tryz.func5, Tryz.ntmps5
    go_wp2_with (first
      | (go_at_call 6; go_must (refine lawRoots_any.mono ?_); rintro e w1 ⟨rfl, hb1⟩)
      | (go_at_call 7; go_must (refine (HS.out _ (btr hb0 hb1)).mono ?_); rintro e w2 ⟨rfl, hb2⟩))
    go_ret
    exact ⟨rfl, btr (btr hb0 hb1) hb2⟩

set_option maxRecDepth 100000 in
set_option maxHeartbeats 4000000 in
theorem brandtPolynomials_err {A A' : Option Addr} {n c n' c' : Nat} {l l' : List Int} {num den : Int} {w : World} (h : Pl IntU w (fun _ => True) A n c l) (h' : Pl IntU w (fun _ => True) A' n' c' l') (hs : ShP w A n l) (hs' : ShP w A' n' l') (hd : rdE l ≠ 0) :
    Calls Tryz.prog 5 #[.slice A n c, .slice A' n' c', .agg #[.int .i64 num, .int .i64 den]] w (TrueR w) := by
  have hm := h.room
  have hm' := h'.room
  unfold maxLen at hm hm'
  have hc := h.cap
  have hc' := h'.cap
  have hb0 := below_al (Below.refl w.heap.size w) (.cells #[.int .i64 num, .int .i64 den] 24)
  have Q0 := Lib.hid (show (w.alloc (.cells #[.int .i64 num, .int .i64 den] 24)).cell? ⟨w.heap.size, 0, none⟩ = some (.int .i64 num) by go_simp)
  have Q1 := Lib.hid (show (w.alloc (.cells #[.int .i64 num, .int .i64 den] 24)).cell? ⟨w.heap.size, 1, none⟩ = some (.int .i64 den) by go_simp)
  have HS := Lib.hid (fun w' (hb : Below w.heap.size w w') => lawShort_yes h hs hb)
  have HT := Lib.hid (fun w' (hb : Below w.heap.size w w') => lawShort_yes h' hs' hb)
  have hp := hs.pl h
  have hp' := hs'.pl h'
  have hg := fun h0 => hs.good h.len h0
  have hg' := fun h0 => hs'.good h'.len h0
  have e1 : vlE l num den = rdE l := by unfold vlE; rw [if_pos hd]
  have e2 : dvE l l' = rdE l := by unfold dvE; rw [if_pos hd]
  have K1 := Lib.hid (fun w' (hb : Below w.heap.size w w') => (Squarefree_any (hp.below hb) hg).mono fun e w'' h => h.err hd)
  have K2 := Lib.hid (fun w' (hb : Below w.heap.size w w') => (Sturm_any (hp.below hb) hg).mono fun e w'' h => h.err hd)
  have K3 := Lib.hid (fun w' (hb : Below w.heap.size w w') => (Value_any (num := num) (den := den) (hp.below hb) hg).mono fun e w'' h => h.err (by rw [e1]; exact hd))
  have K4 := Lib.hid (fun w' (hb : Below w.heap.size w w') => (Divide_any (hp.below hb) (hp'.below hb) hg hg').mono fun e w'' h => h.err (by rw [e2]; exact hd))
  have K5 := Lib.hid (fun w' (hb : Below w.heap.size w w') => qCheckPoly_any (hp.below hb))
  rw [e1] at K3
  rw [e2] at K4
  obtain ⟨d, hdd⟩ : ∃ d, rdE l = d := ⟨_, rfl⟩
  rw [hdd] at K1 K2 K3 K4 K5 hd
  have z1 : (d != 0) = true := by simpa using hd
  clear h h' hs hs' hp hp' hg hg' e1 e2 hdd hd
  go_enter Tryz.func5, Tryz.ntmps5
  go_wp2_with (first
    | (go_at_call 6; go_must (refine lawRoots_any.mono ?_); rintro e w1 ⟨rfl, hb1⟩; have t1 := btr hb0 hb1)
    | (go_at_call 7; ((with_reducible refine (HS.out _ t1).mono ?_)); rintro e w2 ⟨rfl, hb2⟩; have t2 := btr t1 hb2)
    | (go_at_call 7; go_must (refine (HT.out _ t2).mono ?_); rintro e w3 ⟨rfl, hb3⟩; have t3 := btr t2 hb3)
    | (go_at_call 19; go_must (refine (K1.out _ t3).mono ?_); rintro e w4 ⟨rfl, hb4⟩; have t4 := btr t3 hb4)
    | (go_at_call 20; go_must (refine (K2.out _ t4).mono ?_); rintro e w5 ⟨rfl, hb5⟩; have t5 := btr t4 hb5; have q0 := keepB (btr (btr (btr (btr hb1 hb2) hb3) hb4) hb5) Q0.out; have q1 := keepB (btr (btr (btr (btr hb1 hb2) hb3) hb4) hb5) Q1.out)
    | (go_at_call 21; go_must (refine (K3.out _ t5).mono ?_); rintro e w6 ⟨rfl, hb6⟩; have t6 := btr t5 hb6)
    | (go_at_call 22; go_must (refine (K4.out _ t6).mono ?_); rintro e w7 ⟨rfl, hb7⟩; have t7 := btr t6 hb7)
    | (go_at_call 10; go_must (refine (K5.out _ t7).mono ?_); rintro e w8 ⟨rfl, hb8⟩; have t8 := btr t7 hb8))
  go_ret
  exact ⟨rfl, t8⟩

theorem ShP.bd {A : Option Addr} {n : Nat} {l : List Int} {w : World} (hs : ShP w A n l) (h : rdE l = 0) : Bd 3 l := fun x hx => by
  obtain ⟨h1, _, h3⟩ := hs
  unfold rdE at h
  split at h
  · cases h
  split at h
  · cases h
  rename_i hbig
  rcases h3 x hx with h4 | h4
  · exact h4
  · exfalso
    have h5 : ¬ Lm ≤ x.natAbs := fun h6 => hbig (List.any_eq_true.2 ⟨x, hx, decide_eq_true h6⟩)
    have h7 : x.natAbs < 4294967296 ^ 32 := Nat.lt_of_lt_of_le (Nat.lt_of_not_le h5) (by decide +kernel)
    have h8 := dig_length_le (b := 4294967296) (by omega) h7
    unfold wl at h4
    omega

set_option maxRecDepth 100000 in
set_option maxHeartbeats 8000000 in
theorem brandtPolynomials_ok {A A' : Option Addr} {n c n' c' : Nat} {l l' : List Int} {num den : Int} {w : World} (h : Pl IntU w (fun _ => True) A n c l) (h' : Pl IntU w (fun _ => True) A' n' c' l') (hs : ShP w A n l) (hs' : ShP w A' n' l') (hd : rdE l = 0) :
    Calls Tryz.prog 5 #[.slice A n c, .slice A' n' c', .agg #[.int .i64 num, .int .i64 den]] w (TrueR w) := by
  have hm := h.room
  have hm' := h'.room
  unfold maxLen at hm hm'
  have hc := h.cap
  have hc' := h'.cap
  have hb0 := below_al (Below.refl w.heap.size w) (.cells #[.int .i64 num, .int .i64 den] 24)
  have Q0 := Lib.hid (show (w.alloc (.cells #[.int .i64 num, .int .i64 den] 24)).cell? ⟨w.heap.size, 0, none⟩ = some (.int .i64 num) by go_simp)
  have Q1 := Lib.hid (show (w.alloc (.cells #[.int .i64 num, .int .i64 den] 24)).cell? ⟨w.heap.size, 1, none⟩ = some (.int .i64 den) by go_simp)
  have HS := Lib.hid (fun w' (hb : Below w.heap.size w w') => lawShort_yes h hs hb)
  have HT := Lib.hid (fun w' (hb : Below w.heap.size w w') => lawShort_yes h' hs' hb)
  have hp := hs.pl h
  have hp' := hs'.pl h'
  have hn : n ≤ 1000 := by have := hs.1; omega
  have hn' : n' ≤ 1000 := by have := hs'.1; omega
  have hg := fun h0 => hs.good h.len h0
  have hg' := fun h0 => hs'.good h'.len h0
  have G := hg hd
  have hbd := hs.bd hd
  have e1 : vlE l num den = cfE num den := by unfold vlE; rw [if_neg (by rw [hd]; simp)]
  have K1 := Lib.hid (fun w' (hb : Below w.heap.size w w') => (Squarefree_any (hp.below hb) hg).mono fun e w'' h => (hd ▸ h).ok)
  have K2 := Lib.hid (fun w' (hb : Below w.heap.size w w') => (Sturm_any (hp.below hb) hg).mono fun e w'' h => (hd ▸ h).ok)
  have K3 := Lib.hid (fun w' (hb : Below w.heap.size w w') => (Value_any (num := num) (den := den) (hp.below hb) hg).mono fun e w'' h => value_shape h)
  have K4 := Lib.hid (fun w' (hb : Below w.heap.size w w') => (Divide_any (hp.below hb) (hp'.below hb) hg hg').mono fun e w'' h => list_shape h)
  have K5 := Lib.hid (fun w' (hb : Below w.heap.size w w') => qCheckPoly_any (hp.below hb))
  have K6 := Lib.hid (fun w' (hb : Below w.heap.size w w') => qSturm_any (hp.below hb) hn G)
  have K7 := Lib.hid (fun w' (hb : Below w.heap.size w w') => qSquarefree_any (hp.below hb) hn G)
  have K10 := Lib.hid (fun w' (hb : Below w.heap.size w w') (h1 : num.natAbs ≤ 1000000000) (h2 : den.natAbs ≤ 1000000000) => qValue_any (num := num) (den := den) (hp.below hb) hn hbd (by omega) h1 h2)
  have K11 := Lib.hid (fun w' (hb : Below w.heap.size w w') => qCheckPoly_any (hp'.below hb))
  have K12 := Lib.hid (fun w' (hb : Below w.heap.size w w') (h2 : rdE l' = 0) => qDivide_any (hp.below hb) (hp'.below hb) hn hn' (hg' h2).pos ⟨3, 3, G.bd, (hg' h2).bd, by have := G.le; have h3 : ((tz l).length + 1 - (tz l').length) * (3 + 1) ≤ 13 * 4 := Nat.mul_le_mul_right _ (by omega); omega, by omega, fun x hx => by cases hx⟩)
  rw [e1] at K3
  rw [hd] at K5
  have HD := Lib.hid hd
  have HD2 := Lib.hid (fun h2 : rdE l' ≠ 0 => show dvE l l' = rdE l' by unfold dvE; rw [if_neg (by rw [hd]; simp), if_pos h2])
  have HD3 := Lib.hid (fun h2 : rdE l' = 0 => show dvE l l' = if (ov (tz l) (tz l')).isNone = true then 12 else 0 by unfold dvE; rw [if_neg (by rw [hd]; simp), if_neg (by rw [h2]; simp)])
  have HCL := Lib.hid G.chl
  have HST := Lib.hid (fun h0 : 0 < den => sgA_tz (num := num) h0 l)
  obtain ⟨d3, hd3⟩ : ∃ d3, cfE num den = d3 := ⟨_, rfl⟩
  have HD4 := Lib.hid hd3
  rw [hd3] at K3
  have HCZ := Lib.hid (fun h0 : d3 = 0 => cfE_zero (num := num) (den := den) (by rw [hd3]; exact h0))
  have K9 := Lib.hid (fun w' => qCheckFrac_any (num := num) (den := den) (w := w'))
  rw [hd3] at K9
  clear h h' hs hs' hp hp' hg hg' e1 hd hd3 G hbd
  obtain ⟨t, ht⟩ : ∃ t, tz l = t := ⟨_, rfl⟩
  rw [ht] at K1 K2 K3 K4 K6 K7 K12 HD3 HCL HST
  clear ht
  obtain ⟨d4, hd4⟩ : ∃ d4, dvE l l' = d4 := ⟨_, rfl⟩
  rw [hd4] at K4 HD2 HD3
  clear hd4
  obtain ⟨S, hS⟩ : ∃ S, sq t = S := ⟨_, rfl⟩
  rw [hS] at K1 K7
  clear hS
  have hcl : (ch t).length ≤ 12 := HCL.out
  obtain ⟨C, hC⟩ : ∃ C, ch t = C := ⟨_, rfl⟩
  rw [hC] at K2 K6 hcl
  clear hC HCL
  go_enter Tryz.func5, Tryz.ntmps5
  go_wp2_with (first
    | (go_at_call 6; go_must (refine lawRoots_any.mono ?_); rintro e w1 ⟨rfl, hb1⟩; have t1 := btr hb0 hb1)
    | (go_at_call 7; ((with_reducible refine (HS.out _ t1).mono ?_)); rintro e w2 ⟨rfl, hb2⟩; have t2 := btr t1 hb2)
    | (go_at_call 7; go_must (refine (HT.out _ t2).mono ?_); rintro e w3 ⟨rfl, hb3⟩; have t3 := btr t2 hb3)
    | (go_at_call 19; go_must (refine (K1.out _ t3).mono ?_); rintro e w4 ⟨v4, rfl, r4, hb4⟩; have t4 := btr t3 hb4; obtain ⟨A4, c4, rfl, hp4⟩ := pv_shape (k := S.length) r4 rfl rfl; have hc4 := hp4.cap; have hr4 := hp4.room; unfold maxLen at hr4)
    | (go_at_call 20; go_must (refine (K2.out _ t4).mono ?_); rintro e w5 ⟨v5, rfl, r5, hb5⟩; have t5 := btr t4 hb5; obtain ⟨A5, c5, rfl⟩ := r5.slice; have hc5 := cv_room r5; have q0 := keepB (btr (btr (btr (btr hb1 hb2) hb3) hb4) hb5) Q0.out; have q1 := keepB (btr (btr (btr (btr hb1 hb2) hb3) hb4) hb5) Q1.out; have hp5 := hp4.below hb5)
    | (go_at_call 21; go_must (refine (K3.out _ t5).mono ?_); rintro e w6 ⟨y6, rfl, r6, z6, hb6⟩; have t6 := btr t5 hb6; have hp6 := hp5.below hb6; have HY6 := Lib.hid r6; have HZ6 := Lib.hid z6; clear r6 z6)
    | (go_at_call 22; go_must (refine (K4.out _ t6).mono ?_); rintro e w7 ⟨A7, m7, c7, rfl, hc7, hr7, r7, z7, hb7⟩; have t7 := btr t6 hb7; have hp7 := hp6.below hb7; have HY7 := Lib.hid r7; have HZ7 := Lib.hid z7; clear r7 z7)
    | (go_at_call 10; go_must (refine (K5.out _ t7).mono ?_); rintro e w8 ⟨rfl, hb8⟩; have t8 := btr t7 hb8; have hp8 := hp7.below hb8)
    | (go_at_call 23; go_must (refine (K6.out _ t8).mono ?_); rintro e w9 ⟨v9, rfl, r9, hb9⟩; have t9 := btr t8 hb9; obtain ⟨A9, c9, rfl⟩ := r9.slice; have hc9 := cv_room r9; have hp9 := hp8.below hb9)
    | (go_at_call 25; go_must (refine (K7.out _ t9).mono ?_); rintro e wa ⟨va, rfl, ra, hba⟩; have ta := btr t9 hba; obtain ⟨Aa, ca, rfl, hpa⟩ := pv_shape (k := S.length) ra.pv rfl rfl; have hpa9 := hp9.below hba)
    | (go_at_call 24; go_must (refine (SameInts_any hpa9 hpa).mono ?_); rintro e wb ⟨rfl, hbb⟩; have tb := btr ta hbb; rw [decide_eq_true rfl]))
  have u5 : Below w5.heap.size w5 wb := btr (btr (btr (btr (btr hb6 hb7) hb8) hb9) hba) hbb
  have u9 : Below w9.heap.size w9 wb := btr hba hbb
  have R5 := Lib.hid (r5.below u5)
  have R9 := Lib.hid (r9.below u9)
  have p0 := Lib.hid (keepB u5 q0)
  have p1 := Lib.hid (keepB u5 q1)
  have P7 := Lib.hid (fun h0 : d4 = 0 => (HY7.out h0).below (btr (btr (btr hb8 hb9) hba) hbb))
  have TB := Lib.hid tb
  clear HS HT K1 K2 K3 K4 K5 K6 K7 Q0 Q1 hp4 hp5 hp6 hp7 hp8 hp9 hpa hpa9 r4 r5 r9 q0 q1 u5 u9 hb1 hb2 hb3 hb4 hb5 hb6 hb7 hb8 hb9 hba hbb t1 t2 t3 t4 t5 t6 t7 t8 t9 ta tb hb0 HY7
  go_loopw [17] (fun iv wr => ∃ k : Nat, iv = .int .i64 k ∧ k ≤ C.length ∧ Below wb.heap.size wb wr) (fun iv _ => C.length - (intOf iv).toNat)
  case atStart => exact ⟨0, rfl, Nat.zero_le _, Below.refl _ _⟩
  case round =>
    obtain ⟨k, rfl, hk, hbr⟩ := hrel
    rcases Nat.lt_or_ge k C.length with hkn | hkn
    · obtain ⟨p, hp⟩ : ∃ p, C[k]? = some p := ⟨_, List.getElem?_eq_getElem hkn⟩
      obtain ⟨b, off, u, rfl, hu, hpv⟩ := (R5.out.below hbr).at hp
      obtain ⟨b', off', u', rfl, hu', hpv'⟩ := (R9.out.below hbr).at hp
      obtain ⟨A3, c3, rfl⟩ := hpv.slice_
      obtain ⟨A2, c2, rfl⟩ := hpv'.slice_
      have hki : (k : Int) < (C.length : Int) := by omega
      have hk0 : (0 : Int) ≤ (k : Int) := by omega
      have HPV := Lib.hid hpv
      have HPW := Lib.hid hpv'
      clear hp hpv hpv'
      go_wp2_with fail
      go_still_tail 8, (by kernel_rfl)
      have hb3 : Below wb.heap.size wb wr.drew := hbr.drew
      have HSM := Lib.hid (SameInts_any (Pl.below HPV.out.pl_ ((Below.refl _ _).drew)) (Pl.below HPW.out.pl_ ((Below.refl _ _).drew)))
      change wpList _ _ _ _ _ wr.drew
      clear hu hu' hbr HPV HPW
      generalize wr.drew = w3 at *
      go_wp2_with (go_at_call 24; go_must (refine HSM.out.mono ?_); rintro e w4 ⟨rfl, hb4⟩; rw [decide_eq_true rfl])
      go_roundw
      case rel => exact ⟨k + 1, by go_num, by omega, hb3.trans (hb4.mono hb3.size)⟩
      case measure => simp [intOf]; omega
    · obtain rfl : k = C.length := by omega
      have T0 := Lib.hid (btr TB.out hbr)
      have p0' := keepB hbr p0.out
      have p1' := keepB hbr p1.out
      by_cases hi : d3 = 0
      · subst hi
        obtain ⟨k1, k2, k3, k4⟩ := HCZ.out rfl
        have hy : y6 = sgA' num den l := (HY6.out rfl).trans (HST.out (by omega))
        have KV := Lib.hid (fun w' hb => K10.out w' hb (by omega) (by omega))
        rw [← hy] at KV
        clear hy HST HCZ HY6 HZ6 K10 k1 k2 k3 k4 HD4
        by_cases h2 : rdE l' = 0
        · have KD := Lib.hid (fun w' hb => K12.out w' hb h2)
          have hd4 := HD3.out h2
          rw [h2] at K11
          clear h2
          cases ho : ov t (tz l') with
          | none =>
            rw [ho] at hd4 KD
            have hd4' : d4 = 12 := hd4
            subst hd4'
            obtain rfl : m7 = 0 := HZ7.out (by decide)
            clear ho hd4 HD2 HD3 P7 HZ7
            go_wp2_with (first
              | (go_at_call 12; go_must (refine (K9.out _).mono ?_); rintro e wc ⟨rfl, hbc⟩; have tc := btr T0.out hbc; have x0 := keepB hbc p0'; have x1 := keepB hbc p1')
              | (go_at_call 26; go_must (refine (KV.out _ tc).mono ?_); rintro e wv ⟨rfl, hbv⟩; have tv := btr tc hbv)
              | (go_at_call 10; go_must (refine (K11.out _ tv).mono ?_); rintro e wd ⟨rfl, hbd⟩; have td := btr tv hbd)
              | (go_at_call 27; go_must (refine (KD.out _ td).mono ?_); rintro e we ⟨ve, rfl, re, hbe⟩; have te := btr td hbe; rw [show (none : Option (List Int)).isSome = false from rfl]))
            go_ret
            exact ⟨rfl, te⟩
          | some q =>
            rw [ho] at hd4 KD P7
            have hd4' : d4 = 0 := hd4
            subst hd4'
            have PQ := Lib.hid ((P7.out rfl).below hbr)
            rw [show (some q : Option (List Int)).getD [] = q from rfl] at PQ
            clear ho hd4 HD2 HD3 P7 HZ7
            go_wp2_with (first
              | (go_at_call 12; go_must (refine (K9.out _).mono ?_); rintro e wc ⟨rfl, hbc⟩; have tc := btr T0.out hbc; have x0 := keepB hbc p0'; have x1 := keepB hbc p1')
              | (go_at_call 26; go_must (refine (KV.out _ tc).mono ?_); rintro e wv ⟨rfl, hbv⟩; have tv := btr tc hbv)
              | (go_at_call 10; go_must (refine (K11.out _ tv).mono ?_); rintro e wd ⟨rfl, hbd⟩; have td := btr tv hbd; have PD := ((PQ.out.below hbc).below hbv).below hbd)
              | (go_at_call 27; go_must (refine (KD.out _ td).mono ?_); rintro e we ⟨ve, rfl, re, hbe⟩; have te := btr td hbe; rw [show (some q : Option (List Int)).isSome = true from rfl]; have re2 := re q rfl; obtain ⟨Ae, ce, rfl, hpe⟩ := pv_shape (k := q.length) re2.pv rfl rfl; have PE := PD.below hbe)
              | (go_at_call 24; go_must (refine (SameInts_any PE hpe).mono ?_); rintro e wf ⟨rfl, hbf⟩; have tf := btr te hbf; rw [decide_eq_true rfl]))
            go_ret
            exact ⟨rfl, tf⟩
        · obtain rfl := HD2.out h2
          obtain rfl : m7 = 0 := HZ7.out h2
          obtain ⟨d2, hd2⟩ : ∃ d2, rdE l' = d2 := ⟨_, rfl⟩
          rw [hd2] at h2 K11
          have z8 : (d2 != 0) = true := by simpa using h2
          try rw [hd2]
          clear h2 hd2 HD2 HD3 P7 HZ7
          go_wp2_with (first
            | (go_at_call 12; go_must (refine (K9.out _).mono ?_); rintro e wc ⟨rfl, hbc⟩; have tc := btr T0.out hbc; have x0 := keepB hbc p0'; have x1 := keepB hbc p1')
              | (go_at_call 26; go_must (refine (KV.out _ tc).mono ?_); rintro e wv ⟨rfl, hbv⟩; have tv := btr tc hbv)
            | (go_at_call 10; go_must (refine (K11.out _ tv).mono ?_); rintro e wd ⟨rfl, hbd⟩; have td := btr tv hbd))
          go_ret
          exact ⟨rfl, td⟩
      · obtain rfl := HZ6.out hi
        have z6 : (d3 != 0) = true := by simpa using hi
        have z7 : (d3 == 0) = false := by simpa using hi
        clear HST HCZ HY6 HZ6 K10 HD4 hi
        by_cases h2 : rdE l' = 0
        · have KD := Lib.hid (fun w' hb => K12.out w' hb h2)
          have hd4 := HD3.out h2
          rw [h2] at K11
          clear h2
          cases ho : ov t (tz l') with
          | none =>
            rw [ho] at hd4 KD
            have hd4' : d4 = 12 := hd4
            subst hd4'
            obtain rfl : m7 = 0 := HZ7.out (by decide)
            clear ho hd4 HD2 HD3 P7 HZ7
            go_wp2_with (first
              | (go_at_call 12; go_must (refine (K9.out _).mono ?_); rintro e wc ⟨rfl, hbc⟩; have tc := btr T0.out hbc; have x0 := keepB hbc p0'; have x1 := keepB hbc p1')
              | (go_at_call 10; go_must (refine (K11.out _ tc).mono ?_); rintro e wd ⟨rfl, hbd⟩; have td := btr tc hbd)
              | (go_at_call 27; go_must (refine (KD.out _ td).mono ?_); rintro e we ⟨ve, rfl, re, hbe⟩; have te := btr td hbe; rw [show (none : Option (List Int)).isSome = false from rfl]))
            go_ret
            exact ⟨rfl, te⟩
          | some q =>
            rw [ho] at hd4 KD P7
            have hd4' : d4 = 0 := hd4
            subst hd4'
            have PQ := Lib.hid ((P7.out rfl).below hbr)
            rw [show (some q : Option (List Int)).getD [] = q from rfl] at PQ
            clear ho hd4 HD2 HD3 P7 HZ7
            go_wp2_with (first
              | (go_at_call 12; go_must (refine (K9.out _).mono ?_); rintro e wc ⟨rfl, hbc⟩; have tc := btr T0.out hbc; have x0 := keepB hbc p0'; have x1 := keepB hbc p1')
              | (go_at_call 10; go_must (refine (K11.out _ tc).mono ?_); rintro e wd ⟨rfl, hbd⟩; have td := btr tc hbd; have PD := (PQ.out.below hbc).below hbd)
              | (go_at_call 27; go_must (refine (KD.out _ td).mono ?_); rintro e we ⟨ve, rfl, re, hbe⟩; have te := btr td hbe; rw [show (some q : Option (List Int)).isSome = true from rfl]; have re2 := re q rfl; obtain ⟨Ae, ce, rfl, hpe⟩ := pv_shape (k := q.length) re2.pv rfl rfl; have PE := PD.below hbe)
              | (go_at_call 24; go_must (refine (SameInts_any PE hpe).mono ?_); rintro e wf ⟨rfl, hbf⟩; have tf := btr te hbf; rw [decide_eq_true rfl]))
            go_ret
            exact ⟨rfl, tf⟩
        · obtain rfl := HD2.out h2
          obtain rfl : m7 = 0 := HZ7.out h2
          obtain ⟨d2, hd2⟩ : ∃ d2, rdE l' = d2 := ⟨_, rfl⟩
          rw [hd2] at h2 K11
          have z8 : (d2 != 0) = true := by simpa using h2
          try rw [hd2]
          clear h2 hd2 HD2 HD3 P7 HZ7
          go_wp2_with (first
            | (go_at_call 12; go_must (refine (K9.out _).mono ?_); rintro e wc ⟨rfl, hbc⟩; have tc := btr T0.out hbc; have x0 := keepB hbc p0'; have x1 := keepB hbc p1')
            | (go_at_call 10; go_must (refine (K11.out _ tc).mono ?_); rintro e wd ⟨rfl, hbd⟩; have td := btr tc hbd))
          go_ret
          exact ⟨rfl, td⟩

theorem BrandtPolynomials_true {A A' : Option Addr} {n c n' c' : Nat} {l l' : List Int} {w : World} (h : Pl IntU w (fun _ => True) A n c l) (h' : Pl IntU w (fun _ => True) A' n' c' l') (num den : Int) :
    Calls Tryz.prog 5 #[.slice A n c, .slice A' n' c', .agg #[.int .i64 num, .int .i64 den]] w (TrueR w) := by
  by_cases hs : ShP w A n l ∧ ShP w A' n' l'
  · by_cases hd : rdE l = 0
    · exact brandtPolynomials_ok h h' hs.1 hs.2 hd
    · exact brandtPolynomials_err h h' hs.1 hs.2 hd
  · exact brandtPolynomials_no h h' hs
end Go.Proofs.YtdmdagilopckgaaGreat
