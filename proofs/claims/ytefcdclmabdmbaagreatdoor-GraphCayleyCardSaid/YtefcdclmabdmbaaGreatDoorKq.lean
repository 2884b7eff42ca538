/- Cayley graphs: the reference's error. Package graph: the errors of Cayley. Package graph: Cayley refuses. base.Abs, base.Decimal (from Txs, cut loose). base.Texts, base.Lists, ref.Same of equal things (from Txm, cut loose). -/
import Derived.Test.YtefcdclmabdmbaaGreatDoorKm
import Derived.Test.YtefcdclmabdmbaaGreatDoorKo
import Derived.StillTailTactics
import Derived.Test.YtefcdclmabdmbaaGreatDoorKu
import Derived.Test.YtefcdclmabdmbaaGreatDoorKd
namespace Go.Proofs.YtefcdclmabdmbaaGreatDoor
open Go.RowKit

/-- The number of vertices, by the reference. -/
def vtC (p : Int) (q : Nat) : Int := bif sqM p q then ((q : Int) * ((q : Int) * q - 1)).tdiv 2 else (q : Int) * ((q : Int) * q - 1)
noncomputable def chC (p q : Int) : Nat := if gdI p = true ∧ gdI q = true ∧ p ≠ q then (if 400 ≤ p ∨ 40 < q then 8 else if 2500 < vtC p q.toNat then 8 else 0) else 11
def ChCR (w : World) (p q : Int) (e : Ending) (w' : World) : Prop := e = .returned (.int .i64 (chC p q : Nat)) ∧ w = w'
theorem chCR_of {w : World} {p q : Int} {n : Nat} (h : chC p q = n) : ChCR w p q (.returned (.int .i64 (n : Nat))) w := ⟨by rw [h], rfl⟩
theorem chC_11 {p q : Int} (h : gdI p = false ∨ gdI q = false ∨ p = q) : chC p q = 11 := by
  unfold chC
  rw [if_neg]
  rintro ⟨h1, h2, h3⟩
  rcases h with h | h | h
  · rw [h] at h1; cases h1
  · rw [h] at h2; cases h2
  · exact h3 h
theorem gdI_pos {x : Int} (h : gdI x = true) : 2 ≤ x := by
  unfold gdI at h
  exact primeI_pos (Bool.and_eq_true_iff.1 h).1

set_option maxRecDepth 100000 in
set_option maxHeartbeats 4000000 in
theorem rCheckCayley_any {w : World} (p q : Int) : Calls Tryz.prog 18 #[.int .i64 p, .int .i64 q] w (ChCR w p q) := by
  have HP := Lib.hid (fun w x => IsGood_any (w := w) x)
  cases h1 : gdI p
  · have HC := Lib.hid (chC_11 (q := q) (.inl h1))
    go_enter Tryz.func18, Tryz.ntmps18
    go_wp2_with (go_at_call 62; go_must (refine (HP.out _ _).mono ?_); rintro e w2 ⟨rfl, rfl⟩; rw [h1])
    go_ret
    exact chCR_of HC.out
  · cases h2 : gdI q
    · have HC := Lib.hid (chC_11 (p := p) (.inr (.inl h2)))
      go_enter Tryz.func18, Tryz.ntmps18
      go_wp2_with (go_at_call 62; go_must (refine (HP.out _ _).mono ?_); rintro e w2 ⟨rfl, rfl⟩; first | rw [h1] | rw [h2])
      go_ret
      exact chCR_of HC.out
    · by_cases h3 : p = q
      · have HC := Lib.hid (chC_11 (.inr (.inr h3)))
        have z : (p == q) = true := by rw [h3]; exact beq_self_eq_true _
        go_enter Tryz.func18, Tryz.ntmps18
        go_wp2_with (go_at_call 62; go_must (refine (HP.out _ _).mono ?_); rintro e w2 ⟨rfl, rfl⟩; first | rw [h1] | rw [h2])
        go_ret
        exact chCR_of HC.out
      · have z : (p == q) = false := beq_eq_false_iff_ne.2 h3
        have hp2 := gdI_pos h1
        have hq2 := gdI_pos h2
        have E : chC p q = if 400 ≤ p ∨ 40 < q then 8 else if 2500 < vtC p q.toNat then 8 else 0 := by unfold chC; rw [if_pos ⟨h1, h2, h3⟩]
        by_cases h4 : 400 ≤ p
        · have HC := Lib.hid (show chC p q = 8 by rw [E, if_pos (.inl h4)])
          clear E
          go_enter Tryz.func18, Tryz.ntmps18
          go_wp2_with (go_at_call 62; go_must (refine (HP.out _ _).mono ?_); rintro e w2 ⟨rfl, rfl⟩; first | rw [h1] | rw [h2])
          go_ret
          exact chCR_of HC.out
        · by_cases h5 : 40 < q
          · have HC := Lib.hid (show chC p q = 8 by rw [E, if_pos (.inr h5)])
            clear E
            go_enter Tryz.func18, Tryz.ntmps18
            go_wp2_with (go_at_call 62; go_must (refine (HP.out _ _).mono ?_); rintro e w2 ⟨rfl, rfl⟩; first | rw [h1] | rw [h2])
            go_ret
            exact chCR_of HC.out
          · rw [if_neg (by omega)] at E
            obtain ⟨m, hm⟩ : ∃ m : Nat, q = m := ⟨q.toNat, by omega⟩
            subst hm
            rw [Int.toNat_natCast] at E
            have HS := Lib.hid (isSquare_any (w := w) (n := p) (q := m) (by omega) (by omega) (by omega))
            have hmm : (m : Int) * m ≤ 1600 := by
              have : m * m ≤ 40 * 40 := Nat.mul_le_mul (by omega) (by omega)
              have e : ((m * m : Nat) : Int) = (m : Int) * m := Int.natCast_mul m m
              omega
            have hmm0 : (1 : Int) ≤ (m : Int) * m := by
              have : 1 * 1 ≤ m * m := Nat.mul_le_mul (by omega) (by omega)
              have e : ((m * m : Nat) : Int) = (m : Int) * m := Int.natCast_mul m m
              omega
            obtain ⟨v, hv⟩ : ∃ v, v = (m : Int) * ((m : Int) * m - 1) := ⟨_, rfl⟩
            have hv0 : 0 ≤ v := by rw [hv]; exact Int.mul_nonneg (by omega) (by omega)
            have hv1 : v ≤ 64000 := by
              rw [hv]
              have a1 : (m : Int) * ((m : Int) * m - 1) ≤ 40 * ((m : Int) * m - 1) := Int.mul_le_mul_of_nonneg_right (by omega) (by omega)
              omega
            have w0 : IntKind.i64.wrap ((m : Int) * m) = (m : Int) * m := IntWalk.i64_in _ (by omega)
            have w1 : IntKind.i64.wrap ((m : Int) * m - 1) = (m : Int) * m - 1 := IntWalk.i64_in _ (by omega)
            have w2 : IntKind.i64.wrap ((m : Int) * ((m : Int) * m - 1)) = v := by rw [← hv]; exact IntWalk.i64_in _ (by omega)
            have hd : v.tdiv 2 = v / 2 := Int.tdiv_eq_ediv_of_nonneg hv0
            have w3 : IntKind.i64.wrap (v.tdiv 2) = v.tdiv 2 := IntWalk.i64_in _ (by omega)
            unfold vtC at E
            rw [← hv] at E
            cases hb : sqM p m
            · rw [hb] at E
              by_cases h6 : 2500 < v
              · have HC := Lib.hid (show chC p m = 8 by rw [E]; exact if_pos h6)
                clear E
                go_enter Tryz.func18, Tryz.ntmps18
                go_wp2_with (first | (go_at_call 62; go_must (refine (HP.out _ _).mono ?_); rintro e w2 ⟨rfl, rfl⟩; first | rw [h1] | rw [h2]) | (go_at_call 63; go_must (refine HS.out.mono ?_); rintro e w2 ⟨rfl, rfl⟩; rw [hb]))
                go_ret
                exact chCR_of HC.out
              · have HC := Lib.hid (show chC p m = 0 by rw [E]; exact if_neg h6)
                clear E
                go_enter Tryz.func18, Tryz.ntmps18
                go_wp2_with (first | (go_at_call 62; go_must (refine (HP.out _ _).mono ?_); rintro e w2 ⟨rfl, rfl⟩; first | rw [h1] | rw [h2]) | (go_at_call 63; go_must (refine HS.out.mono ?_); rintro e w2 ⟨rfl, rfl⟩; rw [hb]))
                go_ret
                exact chCR_of HC.out
            · rw [hb] at E
              by_cases h6 : 2500 < v.tdiv 2
              · have HC := Lib.hid (show chC p m = 8 by rw [E]; exact if_pos h6)
                clear E
                go_enter Tryz.func18, Tryz.ntmps18
                go_wp2_with (first | (go_at_call 62; go_must (refine (HP.out _ _).mono ?_); rintro e w2 ⟨rfl, rfl⟩; first | rw [h1] | rw [h2]) | (go_at_call 63; go_must (refine HS.out.mono ?_); rintro e w2 ⟨rfl, rfl⟩; rw [hb]))
                go_ret
                exact chCR_of HC.out
              · have HC := Lib.hid (show chC p m = 0 by rw [E]; exact if_neg h6)
                clear E
                go_enter Tryz.func18, Tryz.ntmps18
                go_wp2_with (first | (go_at_call 62; go_must (refine (HP.out _ _).mono ?_); rintro e w2 ⟨rfl, rfl⟩; first | rw [h1] | rw [h2]) | (go_at_call 63; go_must (refine HS.out.mono ?_); rintro e w2 ⟨rfl, rfl⟩; rw [hb]))
                go_ret
                exact chCR_of HC.out
end Go.Proofs.YtefcdclmabdmbaaGreatDoor

namespace Go.Proofs.YtefcdclmabdmbaaGreatDoor
open Go.RowKit

/-- The number of vertices, by the code. -/
def vtG (p : Int) (q : Nat) : Int := if 2500 < q then 2501 else bif jac (p % (q : Int)).toNat q == 1 then ((q : Int) * ((q : Int) * q - 1)).tdiv 2 else (q : Int) * ((q : Int) * q - 1)
theorem vtG_big {p : Int} {q : Nat} (h : 40 < q) : 2500 < vtG p q := by
  unfold vtG
  by_cases h1 : 2500 < q
  · rw [if_pos h1]; decide
  · rw [if_neg h1]
    have h2 : 1600 ≤ (q : Int) * q := by
      have : 40 * 40 ≤ q * q := Nat.mul_le_mul (by omega) (by omega)
      have e : ((q * q : Nat) : Int) = (q : Int) * q := Int.natCast_mul q q
      omega
    have h3 : 40 * ((q : Int) * q - 1) ≤ (q : Int) * ((q : Int) * q - 1) := Int.mul_le_mul_of_nonneg_right (by omega) (by omega)
    have h4 : ((q : Int) * ((q : Int) * q - 1)).tdiv 2 = ((q : Int) * ((q : Int) * q - 1)) / 2 := Int.tdiv_eq_ediv_of_nonneg (by omega)
    cases jac (p % (q : Int)).toNat q == 1
    · exact Int.lt_of_lt_of_le (by omega) h3
    · show 2500 < ((q : Int) * ((q : Int) * q - 1)).tdiv 2
      rw [h4]
      omega
theorem vtG_iff {p : Int} {q : Nat} (h : q % 4 = 1) (h2 : 2 ≤ q) (hq : q ≤ 40) : 2500 < vtG p q ↔ 2500 < vtC p q := by
  unfold vtG vtC
  rw [if_neg (by omega)]
  by_cases h17 : q = 17
  · subst h17
    rw [sqM_jac (.inr (.inr rfl))]
    have e : (jac (p % ((17 : Nat) : Int)).toNat 17 == 1) = decide (jac (p % ((17 : Nat) : Int)).toNat 17 = 1) := by
      rw [Bool.eq_iff_iff]
      simp
    rw [e]
  · generalize (jac (p % (q : Int)).toNat q == 1) = b
    generalize sqM p q = c
    have : q = 5 ∨ q = 9 ∨ q = 13 ∨ q = 21 ∨ q = 25 ∨ q = 29 ∨ q = 33 ∨ q = 37 := by omega
    rcases this with rfl | rfl | rfl | rfl | rfl | rfl | rfl | rfl <;> cases b <;> cases c <;> decide
set_option maxRecDepth 100000 in
set_option maxHeartbeats 4000000 in
theorem vertices_any {w : World} (p : Int) {q : Nat} (hq : primeI (q : Int) = true) (hq2 : q ≠ 2) : Calls Tryz.prog 65 #[.int .i64 p, .int .i64 (q : Nat)] w fun e w' => e = .returned (.int .i64 (vtG p q)) ∧ w = w' := by
  have hq0 := primeI_pos hq
  have HL := Lib.hid (fun w => Legendre_any (w := w) (a := p) (p := q) hq hq2)
  by_cases h : 2500 < q
  · have HV := Lib.hid (show vtG p q = 2501 by unfold vtG; rw [if_pos h])
    go_enter Tryz.func65, Tryz.ntmps65
    go_wp2_with fail
    go_ret
    exact ⟨by rw [HV.out]; rfl, rfl⟩
  · have E : vtG p q = bif jac (p % (q : Int)).toNat q == 1 then ((q : Int) * ((q : Int) * q - 1)).tdiv 2 else (q : Int) * ((q : Int) * q - 1) := by unfold vtG; rw [if_neg h]
    have hmm : (q : Int) * q ≤ 6250000 := by
      have : q * q ≤ 2500 * 2500 := Nat.mul_le_mul (by omega) (by omega)
      have e : ((q * q : Nat) : Int) = (q : Int) * q := Int.natCast_mul q q
      omega
    have hmm0 : (1 : Int) ≤ (q : Int) * q := by
      have : 1 * 1 ≤ q * q := Nat.mul_le_mul (by omega) (by omega)
      have e : ((q * q : Nat) : Int) = (q : Int) * q := Int.natCast_mul q q
      omega
    obtain ⟨v, hv⟩ : ∃ v, v = (q : Int) * ((q : Int) * q - 1) := ⟨_, rfl⟩
    have hv0 : 0 ≤ v := by rw [hv]; exact Int.mul_nonneg (by omega) (by omega)
    have hv1 : v ≤ 15625000000 := by
      rw [hv]
      have a1 : (q : Int) * ((q : Int) * q - 1) ≤ 2500 * ((q : Int) * q - 1) := Int.mul_le_mul_of_nonneg_right (by omega) (by omega)
      omega
    have w0 : IntKind.i64.wrap ((q : Int) * q) = (q : Int) * q := IntWalk.i64_in _ (by omega)
    have w1 : IntKind.i64.wrap ((q : Int) * q - 1) = (q : Int) * q - 1 := IntWalk.i64_in _ (by omega)
    have w2 : IntKind.i64.wrap ((q : Int) * ((q : Int) * q - 1)) = v := by rw [← hv]; exact IntWalk.i64_in _ (by omega)
    have hd : v.tdiv 2 = v / 2 := Int.tdiv_eq_ediv_of_nonneg hv0
    have w3 : IntKind.i64.wrap (v.tdiv 2) = v.tdiv 2 := IntWalk.i64_in _ (by omega)
    rw [← hv] at E
    cases hj : jac (p % (q : Int)).toNat q == 1
    · rw [hj] at E
      have HE := Lib.hid (show vtG p q = v from E)
      clear E
      generalize jac (p % (q : Int)).toNat q = j at *
      go_enter Tryz.func65, Tryz.ntmps65
      go_wp2_with (go_at_call 134; go_must (refine (HL.out _).mono ?_); rintro e w1 ⟨rfl, rfl⟩)
      go_ret
      exact ⟨by rw [HE.out, hv]; rfl, rfl⟩
    · rw [hj] at E
      have HE := Lib.hid (show vtG p q = v.tdiv 2 from E)
      clear E
      generalize jac (p % (q : Int)).toNat q = j at *
      go_enter Tryz.func65, Tryz.ntmps65
      go_wp2_with (go_at_call 134; go_must (refine (HL.out _).mono ?_); rintro e w1 ⟨rfl, rfl⟩)
      go_ret
      exact ⟨by rw [HE.out, hd, hv]; rfl, rfl⟩
end Go.Proofs.YtefcdclmabdmbaaGreatDoor

namespace Go.Proofs.YtefcdclmabdmbaaGreatDoor
open Go.RowKit

def CayB (w : World) (p q : Int) (e : Ending) (w' : World) : Prop := e = .returned (.tuple #[.agg #[.slice none 0 0, .slice none 0 0], .int .i64 (chC p q : Nat)]) ∧ Below w.heap.size w w'
set_option maxRecDepth 100000 in
set_option maxHeartbeats 4000000 in
theorem Cayley_bad {w : World} {p q : Int} (h : chC p q ≠ 0) : Calls Tryz.prog 19 #[.int .i64 p, .int .i64 q] w (CayB w p q) := by
  have HG := Lib.hid (fun (w : World) (x : Int) => good_any (w := w) x)
  have hb0 : Below w.heap.size w (w.alloc (.cells #[.slice none 0 0, .slice none 0 0] 25)) := (Below.refl _ _).alloc (Nat.le_refl _) _
  have g0 : (w.alloc (.cells #[.slice none 0 0, .slice none 0 0] 25)).heap[w.heap.size]? = some (.cells #[.slice none 0 0, .slice none 0 0] 25 (0, 0)) := heap_alloc_new w _
  have x0 : (w.alloc (.cells #[.slice none 0 0, .slice none 0 0] 25)).cell? ⟨w.heap.size, 0, none⟩ = some (.slice none 0 0) := by rw [Lib.cell_of_heap g0]; rfl
  have x1 : (w.alloc (.cells #[.slice none 0 0, .slice none 0 0] 25)).cell? ⟨w.heap.size, 1, none⟩ = some (.slice none 0 0) := by rw [Lib.cell_of_heap g0]; rfl
  clear g0
  cases h1 : gdI p
  · have HC := Lib.hid (chC_11 (q := q) (.inl h1))
    clear h
    refine (callsIn_wide (n := 3)).1 (callsIn_of_wp_marks Tryz.func19 rfl trivial ?_ rfl)
    simp only [Tryz.ntmps19, List.size_toArray, List.length_cons, List.length_nil, Nat.reduceAdd, Nat.reduceSub, Array.replicate_succ, Array.replicate_zero, List.push_toArray, List.append_toArray, List.nil_append, List.cons_append]
    refine wpIn_wide.2 ?_
    go_wp2_with (first
      | (go_at_call 64; go_must (refine (HG.out _ _).mono ?_); rintro e w1 ⟨rfl, rfl⟩; first | rw [h1] | rw [h2])
      | (go_at_call 65; go_must (refine (HV.out _).mono ?_); rintro e w1 ⟨rfl, rfl⟩))
    refine ⟨.tuple #[.agg #[.slice none 0 0, .slice none 0 0], .int .i64 11], by simp [results, Tryz.results19, go_sem, x0, x1], ?_⟩
    exact ⟨by rw [HC.out]; rfl, hb0⟩
  · cases h2 : gdI q
    · have HC := Lib.hid (chC_11 (p := p) (.inr (.inl h2)))
      clear h
      refine (callsIn_wide (n := 3)).1 (callsIn_of_wp_marks Tryz.func19 rfl trivial ?_ rfl)
      simp only [Tryz.ntmps19, List.size_toArray, List.length_cons, List.length_nil, Nat.reduceAdd, Nat.reduceSub, Array.replicate_succ, Array.replicate_zero, List.push_toArray, List.append_toArray, List.nil_append, List.cons_append]
      refine wpIn_wide.2 ?_
      go_wp2_with (first
        | (go_at_call 64; go_must (refine (HG.out _ _).mono ?_); rintro e w1 ⟨rfl, rfl⟩; first | rw [h1] | rw [h2])
        | (go_at_call 65; go_must (refine (HV.out _).mono ?_); rintro e w1 ⟨rfl, rfl⟩))
      refine ⟨.tuple #[.agg #[.slice none 0 0, .slice none 0 0], .int .i64 11], by simp [results, Tryz.results19, go_sem, x0, x1], ?_⟩
      exact ⟨by rw [HC.out]; rfl, hb0⟩
    · by_cases h3 : p = q
      · have HC := Lib.hid (chC_11 (.inr (.inr h3)))
        have z : (p == q) = true := by rw [h3]; exact beq_self_eq_true _
        clear h
        refine (callsIn_wide (n := 3)).1 (callsIn_of_wp_marks Tryz.func19 rfl trivial ?_ rfl)
        simp only [Tryz.ntmps19, List.size_toArray, List.length_cons, List.length_nil, Nat.reduceAdd, Nat.reduceSub, Array.replicate_succ, Array.replicate_zero, List.push_toArray, List.append_toArray, List.nil_append, List.cons_append]
        refine wpIn_wide.2 ?_
        go_wp2_with (first
          | (go_at_call 64; go_must (refine (HG.out _ _).mono ?_); rintro e w1 ⟨rfl, rfl⟩; first | rw [h1] | rw [h2])
          | (go_at_call 65; go_must (refine (HV.out _).mono ?_); rintro e w1 ⟨rfl, rfl⟩))
        refine ⟨.tuple #[.agg #[.slice none 0 0, .slice none 0 0], .int .i64 11], by simp [results, Tryz.results19, go_sem, x0, x1], ?_⟩
        exact ⟨by rw [HC.out]; rfl, hb0⟩
      · have z : (p == q) = false := beq_eq_false_iff_ne.2 h3
        have hp2 := gdI_pos h1
        have hq2 := gdI_pos h2
        have E : chC p q = if 400 ≤ p ∨ 40 < q then 8 else if 2500 < vtC p q.toNat then 8 else 0 := by unfold chC; rw [if_pos ⟨h1, h2, h3⟩]
        by_cases h4 : 400 ≤ p
        · have HC := Lib.hid (show chC p q = 8 by rw [E, if_pos (.inl h4)])
          clear E h
          refine (callsIn_wide (n := 3)).1 (callsIn_of_wp_marks Tryz.func19 rfl trivial ?_ rfl)
          simp only [Tryz.ntmps19, List.size_toArray, List.length_cons, List.length_nil, Nat.reduceAdd, Nat.reduceSub, Array.replicate_succ, Array.replicate_zero, List.push_toArray, List.append_toArray, List.nil_append, List.cons_append]
          refine wpIn_wide.2 ?_
          go_wp2_with (first
            | (go_at_call 64; go_must (refine (HG.out _ _).mono ?_); rintro e w1 ⟨rfl, rfl⟩; first | rw [h1] | rw [h2])
            | (go_at_call 65; go_must (refine (HV.out _).mono ?_); rintro e w1 ⟨rfl, rfl⟩))
          refine ⟨.tuple #[.agg #[.slice none 0 0, .slice none 0 0], .int .i64 8], by simp [results, Tryz.results19, go_sem, x0, x1], ?_⟩
          exact ⟨by rw [HC.out]; rfl, hb0⟩
        · obtain ⟨m, hm⟩ : ∃ m : Nat, q = m := ⟨q.toNat, by omega⟩
          subst hm
          rw [Int.toNat_natCast] at E
          have hg : primeI (m : Int) = true ∧ decide ((m : Int) % 4 = 1) = true := by
            unfold gdI at h2
            exact Bool.and_eq_true_iff.1 h2
          have hm4 : m % 4 = 1 := by
            have := of_decide_eq_true hg.2
            omega
          have HV := Lib.hid (fun w => vertices_any (w := w) p hg.1 (by omega))
          have h6 : 2500 < vtG p m := by
            by_cases h5 : 40 < m
            · exact vtG_big h5
            · refine (vtG_iff hm4 (by omega) (by omega)).2 (Classical.not_not.1 fun hn => h ?_)
              rw [E, if_neg (by omega), if_neg hn]
          have h7 : chC p m = 8 := by
            rw [E]
            by_cases h5 : 40 < m
            · rw [if_pos (by omega)]
            · rw [if_neg (by omega), if_pos ((vtG_iff hm4 (by omega) (by omega)).1 h6)]
          have HC := Lib.hid h7
          clear E h h7 hg hm4
          generalize vtG p m = v at *
          refine (callsIn_wide (n := 3)).1 (callsIn_of_wp_marks Tryz.func19 rfl trivial ?_ rfl)
          simp only [Tryz.ntmps19, List.size_toArray, List.length_cons, List.length_nil, Nat.reduceAdd, Nat.reduceSub, Array.replicate_succ, Array.replicate_zero, List.push_toArray, List.append_toArray, List.nil_append, List.cons_append]
          refine wpIn_wide.2 ?_
          go_wp2_with (first
            | (go_at_call 64; go_must (refine (HG.out _ _).mono ?_); rintro e w1 ⟨rfl, rfl⟩; first | rw [h1] | rw [h2])
            | (go_at_call 65; go_must (refine (HV.out _).mono ?_); rintro e w1 ⟨rfl, rfl⟩))
          refine ⟨.tuple #[.agg #[.slice none 0 0, .slice none 0 0], .int .i64 8], by simp [results, Tryz.results19, go_sem, x0, x1], ?_⟩
          exact ⟨by rw [HC.out]; rfl, hb0⟩
end Go.Proofs.YtefcdclmabdmbaaGreatDoor

namespace Go.Proofs.YtefcdclmabdmbaaGreatDoor
open Go.RowKit

def mkB (l : List UInt8) : ByteArray := ⟨l.toArray⟩
theorem mkB_of (s : ByteArray) : mkB s.data.toList = s := by
  unfold mkB
  simp
theorem eq_mkB {s : ByteArray} {l : List UInt8} (h : s.data.toList = l) : s = mkB l := by rw [← h, mkB_of]
theorem dec_step {u : Nat} (h : ¬ u < 10) : Lib.decDigits u = Lib.decDigits (u / 10) ++ [UInt8.ofNat (48 + u % 10)] := by
  rw [Lib.decDigits, dif_neg h]

set_option maxHeartbeats 2000000 in
theorem Abs_any {w : World} (t : Int) (h1 : -1000000 ≤ t) (h2 : t ≤ 1000000) : Calls Tryz.prog 142 #[.int .i64 t] w fun e w' => e = .returned (.int .i64 (t.natAbs : Int)) ∧ w = w' := by
  by_cases h : t < 0
  · have z1 : decide (t < 0) = true := decide_eq_true h
    have HN := Lib.hid (show -t = (t.natAbs : Int) by omega)
    go_enter Tryz.func142, Tryz.ntmps142
    go_wp2_with fail
    go_ret
    exact ⟨by rw [← HN.out]; rfl, rfl⟩
  · have z1 : decide (t < 0) = false := decide_eq_false h
    have HN := Lib.hid (show t = (t.natAbs : Int) by omega)
    go_enter Tryz.func142, Tryz.ntmps142
    go_wp2_with fail
    go_ret
    exact ⟨by rw [← HN.out]; rfl, rfl⟩

def dg0 (m : Nat) : List UInt8 := if m = 0 then [] else Lib.decDigits m
theorem dec_last (m : Nat) : Lib.decDigits m = dg0 (m / 10) ++ [UInt8.ofNat (48 + m % 10)] := by
  unfold dg0
  by_cases h : m < 10
  · rw [Lib.decDigits_one h, if_pos (by omega), Nat.mod_eq_of_lt h]; rfl
  · rw [dec_step h, if_neg (by omega)]
def DcR (v m : Nat) (acc : List UInt8) : Prop := (acc = [] ∧ m = v) ∨ (acc ≠ [] ∧ dg0 m ++ acc = Lib.decDigits v)
theorem DcR.step {v m : Nat} {acc : List UInt8} (h : DcR v m acc) (hc : acc = [] ∨ m ≠ 0) : DcR v (m / 10) (UInt8.ofNat (48 + m % 10) :: acc) := by
  refine .inr ⟨by simp, ?_⟩
  rcases h with ⟨rfl, rfl⟩ | ⟨h1, h2⟩
  · exact (dec_last m).symm
  · rcases hc with hc | hc
    · exact absurd hc h1
    · rw [← h2]
      have e : dg0 m = Lib.decDigits m := if_neg hc
      rw [e, dec_last m, List.append_assoc]
      rfl
theorem DcR.fin {v : Nat} {acc : List UInt8} (h : DcR v 0 acc) (ha : acc ≠ []) : acc = Lib.decDigits v := by
  rcases h with ⟨h1, _⟩ | ⟨_, h2⟩
  · exact absurd h1 ha
  · rw [← h2]; rfl
theorem dig_piece {d : Nat} (h : d < 10) : ((⟨#[48, 49, 50, 51, 52, 53, 54, 55, 56, 57]⟩ : ByteArray).extract d (d + 1)).data.toList = [UInt8.ofNat (48 + d)] := by
  have hc : d = 0 ∨ d = 1 ∨ d = 2 ∨ d = 3 ∨ d = 4 ∨ d = 5 ∨ d = 6 ∨ d = 7 ∨ d = 8 ∨ d = 9 := by omega
  rcases hc with rfl | rfl | rfl | rfl | rfl | rfl | rfl | rfl | rfl | rfl <;> rfl
theorem tmod_abs (x : Int) : (x.tmod 10).natAbs = x.natAbs % 10 := by rw [Int.natAbs_tmod]; rfl
theorem tdiv_abs (x : Int) : (x.tdiv 10).natAbs = x.natAbs / 10 := by rw [Int.natAbs_tdiv]; rfl

theorem dec_short4 : ∀ v, v < 10000 → (Lib.decDigits v).length ≤ 4 := by
  intro v hv
  rw [Lib.decDigits]
  split
  · simp
  · rw [Lib.decDigits]
    split
    · simp
    · rw [Lib.decDigits]
      split
      · simp
      · rw [Lib.decDigits, dif_pos (by omega)]; simp
theorem DcR.short {v m : Nat} {acc : List UInt8} (h : DcR v m acc) (hv : v < 10000) : acc.length ≤ 4 := by
  rcases h with ⟨rfl, _⟩ | ⟨_, h2⟩
  · simp
  · have h3 := dec_short4 v hv
    rw [← h2, List.length_append] at h3
    omega
def emp : Value → Nat
  | .string s => if s.size = 0 then 1 else 0
  | _ => 0
def DecR (v : Int) (w : World) (e : Ending) (w' : World) : Prop := e = .returned (.string ⟨(Lib.itoa v).toArray⟩) ∧ w = w'
set_option maxHeartbeats 4000000 in
set_option maxRecDepth 100000 in
theorem Decimal_any {w : World} (v : Int) (h1 : -9999 ≤ v) (h2 : v ≤ 9999) : Calls Tryz.prog 82 #[.int .i64 v] w (DecR v w) := by
  have HA := Lib.hid (fun (w : World) (t : Int) (a : -9 ≤ t) (b : t ≤ 9) => Abs_any (w := w) t (by omega) (by omega))
  have key : ∀ sg : List UInt8, Lib.itoa v = sg ++ Lib.decDigits v.natAbs → Hid (∀ z : ByteArray, z.data.toList = Lib.decDigits v.natAbs → (⟨sg.toArray⟩ : ByteArray) ++ z = ⟨(Lib.itoa v).toArray⟩) := fun sg hsg => Lib.hid (fun z ha => by
    rw [hsg]
    refine (eq_mkB (l := sg ++ Lib.decDigits v.natAbs) ?_)
    rw [ByteArray.data_append, Array.toList_append, ha])
  have hvn : v.natAbs < 10000 := by omega
  obtain ⟨sg, hsg, HK, hneg⟩ : ∃ sg : ByteArray, (sg = ⟨#[]⟩ ∧ ¬ v < 0 ∨ sg = ⟨#[45]⟩ ∧ v < 0) ∧ Hid (∀ z : ByteArray, z.data.toList = Lib.decDigits v.natAbs → sg ++ z = ⟨(Lib.itoa v).toArray⟩) ∧ sg.size ≤ 1 := by
    by_cases hneg : v < 0
    · exact ⟨⟨#[45]⟩, .inr ⟨rfl, hneg⟩, key [45] (by unfold Lib.itoa; rw [if_pos hneg]; rfl), by decide⟩
    · exact ⟨⟨#[]⟩, .inl ⟨rfl, hneg⟩, key [] (by unfold Lib.itoa; rw [if_neg hneg, List.nil_append]; congr 1; omega), by decide⟩
  clear key
  rcases hsg with ⟨hsg, hn⟩ | ⟨hsg, hn⟩
  all_goals
    first | have z1 : decide (v < 0) = true := decide_eq_true hn | have z1 : decide (v < 0) = false := decide_eq_false hn
    have HSG := Lib.hid hsg
    clear hn
    go_enter Tryz.func82, Tryz.ntmps82
    go_wp2_with fail
    clear z1
    go_loop [0, 4, 5] (fun nv sv _ => ∃ (x : Int) (z : ByteArray), nv = .int .i64 x ∧ sv = .string z ∧ -9999 ≤ x ∧ x ≤ 9999 ∧ Hid (DcR v.natAbs x.natAbs z.data.toList)) (fun nv sv _ => 2 * (intOf nv).natAbs + emp sv)
    case atStart => exact ⟨v, ⟨#[]⟩, rfl, rfl, h1, h2, Lib.hid (.inl ⟨rfl, rfl⟩)⟩
    case round =>
      obtain ⟨x, z, rfl, rfl, hx1, hx2, HD⟩ := hrel
      have hzl := HD.out.short hvn
      rw [← Lib.size_eq] at hzl
      by_cases hfin : z.size ≠ 0 ∧ x = 0
      · obtain ⟨hz0, hx0⟩ := hfin
        have hzne : z.data.toList ≠ [] := fun e => hz0 (by rw [Lib.size_eq, e]; rfl)
        have HF := Lib.hid (HK.out z (by
          have h9 := HD.out
          rw [hx0] at h9
          exact h9.fin hzne))
        have e1 : ¬ z.toList = [] := by rw [Lib.toList_data]; exact hzne
        have e2 : z.toList.isEmpty = false := by rw [Lib.toList_data]; simpa using hzne
        have e3 : (x != 0) = false := by simp [hx0]
        clear hx0 hzne
        go_wp2_with fail
        go_ret
        exact ⟨by rw [← HF.out, HSG.out]; rfl, rfl⟩
      · obtain ⟨t, ht⟩ : ∃ t, x.tmod 10 = t := ⟨_, rfl⟩
        obtain ⟨u, hu⟩ : ∃ u, x.tdiv 10 = u := ⟨_, rfl⟩
        have ht2 := tmod_abs x
        have hu2 := tdiv_abs x
        rw [ht] at ht2
        rw [hu] at hu2
        obtain ⟨d, hd⟩ : ∃ d, t.natAbs = d := ⟨_, rfl⟩
        rw [hd] at ht2
        have hd10 : d < 10 := by omega
        have hst := HD.out.step (by
          rcases Classical.em (z.size = 0) with h | h
          · exact .inl (List.eq_nil_of_length_eq_zero (by rw [← Lib.size_eq]; exact h))
          · exact .inr (fun e => hfin ⟨h, by omega⟩))
        have HS := Lib.hid (show DcR v.natAbs u.natAbs (((⟨#[48, 49, 50, 51, 52, 53, 54, 55, 56, 57]⟩ : ByteArray).extract d (d + 1)) ++ z).data.toList by
          rw [ByteArray.data_append, Array.toList_append, dig_piece hd10, hu2, ht2]
          exact hst)
        have htb1 : -9 ≤ t := by omega
        have htb2 : t ≤ 9 := by omega
        have hub1 : -9999 ≤ u := by omega
        have hub2 : u ≤ 9999 := by omega
        have HU := Lib.hid hu2
        have HDD := Lib.hid hd
        have HT := Lib.hid (HA.out w t htb1 htb2)
        rw [hd] at HT
        have HFI := Lib.hid hfin
        have hms : 2 * u.natAbs + emp (.string (((⟨#[48, 49, 50, 51, 52, 53, 54, 55, 56, 57]⟩ : ByteArray).extract d (d + 1)) ++ z)) < 2 * x.natAbs + emp (.string z) := by
          have e0 : (((⟨#[48, 49, 50, 51, 52, 53, 54, 55, 56, 57]⟩ : ByteArray).extract d (d + 1)) ++ z).size ≠ 0 := by
            rw [Lib.size_eq, ByteArray.data_append, Array.toList_append, dig_piece hd10]
            simp
          have e1 : emp (.string (((⟨#[48, 49, 50, 51, 52, 53, 54, 55, 56, 57]⟩ : ByteArray).extract d (d + 1)) ++ z)) = 0 := by
            show (if _ = 0 then 1 else 0) = 0
            rw [if_neg e0]
          rw [e1]
          by_cases hz0 : z.size = 0
          · have e2 : emp (.string z) = 1 := by
              show (if z.size = 0 then 1 else 0) = 1
              rw [if_pos hz0]
            rw [e2]
            omega
          · have : x ≠ 0 := fun e => hfin ⟨hz0, e⟩
            omega
        have HMS := Lib.hid hms
        clear ht2 hu2 hst hms
        by_cases hz0 : z.size = 0
        · have e1 : z.toList = [] := List.eq_nil_of_length_eq_zero (by rw [Lib.toList_data, ← Lib.size_eq]; exact hz0)
          have e2 : z.toList.isEmpty = true := by rw [e1]; rfl
          clear hfin
          go_wp2_with fail
          refine HT.out.mono ?_
          rintro e w' ⟨rfl, rfl⟩
          go_wp2_with fail
          go_round
          case rel => exact ⟨u, _, rfl, rfl, hub1, hub2, HS⟩
          case measure => simp only [intOf]; exact HMS.out
        · have e1 : ¬ z.toList = [] := fun e => hz0 (by rw [Lib.size_eq, ← Lib.toList_data, e]; rfl)
          have e2 : z.toList.isEmpty = false := by simpa using e1
          have hx0 : x ≠ 0 := fun e => hfin ⟨hz0, e⟩
          have e3 : (x != 0) = true := by simp [hx0]
          clear hfin
          go_wp2_with fail
          refine HT.out.mono ?_
          rintro e w' ⟨rfl, rfl⟩
          go_wp2_with fail
          go_round
          case rel => exact ⟨u, _, rfl, rfl, hub1, hub2, HS⟩
          case measure => simp only [intOf]; exact HMS.out
end Go.Proofs.YtefcdclmabdmbaaGreatDoor

namespace Go.Proofs.YtefcdclmabdmbaaGreatDoor
open Go.RowKit

def YesR (w : World) (e : Ending) (w' : World) : Prop := e = .returned (.bool true) ∧ Below w.heap.size w w'
theorem Ints_yes {w : World} {A B : Option Addr} {n c n' c' : Nat} {l : List Int} (h : Il w A n c l) (h' : Il w B n' c' l) : Calls Tryz.prog 30 #[.slice A n c, .slice B n' c'] w (YesR w) := by
  refine (Ints_any h h').mono ?_
  rintro e w' ⟨rfl, hb⟩
  exact ⟨by simp, hb⟩
set_option maxHeartbeats 1000000 in
theorem Texts_yes {w : World} {A B : Option Addr} {n c c' : Nat} {l : List ByteArray} (h : Sl w A n c l) (h' : Sl w B n c' l) :
    Calls Tryz.prog 78 #[.slice A n c, .slice B n c'] w (YesR w) := by
  have hl : l.length = n := h.len
  have hr := h.room
  have hr' := h'.room
  unfold maxLen at hr hr'
  have hb : ((n : Int) != (n : Int)) = false := by simp
  have HL := Lib.hid hl
  clear hl
  go_enter Tryz.func78, Tryz.ntmps78
  go_wp2_with fail
  go_loopw [5] (fun i wr => ∃ (k q : Nat), k ≤ n ∧ i = .int .i64 (k : Nat) ∧ wr = w.drewN q) (fun i _ => n - (intOf i).toNat)
  case atStart => exact ⟨0, 0, Nat.zero_le _, rfl, rfl⟩
  case round =>
    obtain ⟨k, q, hk, rfl, rfl⟩ := hrel
    by_cases hlt : k < n
    · obtain ⟨b, off, rfl, hc⟩ := h.cell (by omega)
      obtain ⟨b', off', rfl, hc'⟩ := h'.cell (by omega)
      obtain ⟨x, hx⟩ : ∃ x, l[k]? = some x := ⟨_, List.getElem?_eq_getElem (by rw [HL.out]; exact hlt)⟩
      have cx := hc k x hx
      have cy := hc' k x hx
      have hki : (k : Int) < (n : Int) := by omega
      have hk0 : (0 : Int) ≤ (k : Int) := by omega
      have hbx : (x.toList != x.toList) = false := by simp
      clear hc hc' hx
      go_wp2_with fail
      go_quiet (fail)
      go_wp2_with fail
      exact ⟨⟨k + 1, q + nq, by omega, by go_num, rfl⟩, by simp [intOf]; omega⟩
    · go_wp2_with fail
      go_ret
      exact ⟨rfl, below_drewN' (Below.refl _ _) _⟩

set_option maxHeartbeats 1000000 in
theorem Lists_yes {w : World} {A B : Option Addr} {n c c' : Nat} {E : List (List Nat)} (h : Gl w A n c (toI E)) (h' : Gl w B n c' (toI E)) :
    Calls Tryz.prog 79 #[.slice A n c, .slice B n c'] w (YesR w) := by
  have hl : E.length = n := by have := h.len; rw [toI_length] at this; exact this
  have hr := h.room
  have hr' := h'.room
  unfold maxLen at hr hr'
  have hb : ((n : Int) != (n : Int)) = false := by simp
  have HL := Lib.hid hl
  clear hl
  go_enter Tryz.func79, Tryz.ntmps79
  go_wp2_with fail
  go_loopw [5] (fun i wr => ∃ (k : Nat), k ≤ n ∧ i = .int .i64 (k : Nat) ∧ Below w.heap.size w wr) (fun i _ => n - (intOf i).toNat)
  case atStart => exact ⟨0, Nat.zero_le _, rfl, Below.refl _ _⟩
  case round =>
    obtain ⟨k, hk, rfl, hbr⟩ := hrel
    by_cases hlt : k < n
    · obtain ⟨b, off, A2, c2, rfl, cx', hr3, hr4, hil⟩ := h.row (i := k) (by rw [HL.out]; exact hlt)
      obtain ⟨b', off', A3, c3, rfl, cy', hr5, hr6, hil'⟩ := h'.row (i := k) (by rw [HL.out]; exact hlt)
      have HI := Lib.hid (fun wz (hb : Below w.heap.size w wz) => Ints_yes (hil.below hb) (hil'.below hb))
      have HX := Lib.hid (fun wz (hb : Below w.heap.size w wz) => ((bcell hb).1 _ _ (cell_some_lt cx')).trans cx')
      have HY := Lib.hid (fun wz (hb : Below w.heap.size w wz) => ((bcell hb).1 _ _ (cell_some_lt cy')).trans cy')
      have hki : (k : Int) < (n : Int) := by omega
      have hk0 : (0 : Int) ≤ (k : Int) := by omega
      clear cx' cy' hil hil'
      go_wp2_with fail
      refine wp_region_trg (.read 0 (.read 1 (.read 2 (.read 3 (.read 4 (.read 5 (.read 6 (.read 7 (.step 8 (.read 9 .nil)))))))))) [] (by kernel_rfl) (by rfl) (by kernel_rfl) (by kernel_rfl) (fun _ _ _ _ _ h => h) (fun W => Below w.heap.size w W) ?_
      have hs0 : Below w.heap.size w wr.drew := hbr.drew
      change goG _ _ _ _ _ _ _ wr.drew
      refine goG_read 17 hs0 (by rfl) (by rfl) ?_ (by rfl) (fun wz hSw => ?_) ?_
      rotate_left
      · have cx := HX.out wz hSw
        have cy := HY.out wz hSw
        go_simp
        try with_reducible rfl
      simp only [List.setIfInBounds_toArray]
      refine goG_read 18 hs0 (by rfl) (by rfl) ?_ (by rfl) (fun wz hSw => ?_) ?_
      rotate_left
      · have cx := HX.out wz hSw
        have cy := HY.out wz hSw
        go_simp
        try with_reducible rfl
      simp only [List.setIfInBounds_toArray]
      refine goG_read 19 hs0 (by rfl) (by rfl) ?_ (by rfl) (fun wz hSw => ?_) ?_
      rotate_left
      · have cx := HX.out wz hSw
        have cy := HY.out wz hSw
        go_simp
        try with_reducible rfl
      simp only [List.setIfInBounds_toArray]
      refine goG_read 20 hs0 (by rfl) (by rfl) ?_ (by rfl) (fun wz hSw => ?_) ?_
      rotate_left
      · have cx := HX.out wz hSw
        have cy := HY.out wz hSw
        go_simp
        try with_reducible rfl
      simp only [List.setIfInBounds_toArray]
      refine goG_read 21 hs0 (by rfl) (by rfl) ?_ (by rfl) (fun wz hSw => ?_) ?_
      rotate_left
      · have cx := HX.out wz hSw
        have cy := HY.out wz hSw
        go_simp
        try with_reducible rfl
      simp only [List.setIfInBounds_toArray]
      refine goG_read 22 hs0 (by rfl) (by rfl) ?_ (by rfl) (fun wz hSw => ?_) ?_
      rotate_left
      · have cx := HX.out wz hSw
        have cy := HY.out wz hSw
        go_simp
        try with_reducible rfl
      simp only [List.setIfInBounds_toArray]
      refine goG_read 23 hs0 (by rfl) (by rfl) ?_ (by rfl) (fun wz hSw => ?_) ?_
      rotate_left
      · have cx := HX.out wz hSw
        have cy := HY.out wz hSw
        go_simp
        try with_reducible rfl
      simp only [List.setIfInBounds_toArray]
      refine goG_read 24 hs0 (by rfl) (by rfl) ?_ (by rfl) (fun wz hSw => ?_) ?_
      rotate_left
      · have cx := HX.out wz hSw
        have cy := HY.out wz hSw
        go_simp
        try with_reducible rfl
      simp only [List.setIfInBounds_toArray]
      refine goG_step (by rfl) ?_
      clear hs0
      go_wp2_with (go_at_call 30; refine (HI.out _ hbr.drew).mono ?_; rintro e w1 ⟨rfl, hb1⟩; have hb2 := hbr.drew.trans (hb1.mono hbr.drew.size))
      refine ⟨fun _ => hb2, ?_⟩
      refine goG_read 26 hb2 (by rfl) (by rfl) ?_ (by rfl) (fun wz hSw => ?_) ?_
      rotate_left
      · go_simp
        try with_reducible rfl
      simp only [List.setIfInBounds_toArray]
      show Exit.then _ _ .normal _ _
      go_wp2_with fail
      exact ⟨⟨k + 1, by omega, by go_num, hb2⟩, by simp [intOf]; omega⟩
    · go_wp2_with fail
      go_ret
      exact ⟨rfl, hbr⟩
set_option maxHeartbeats 1000000 in
theorem Same_yes {w : World} {v v' : Value} {names : List ByteArray} {E : List (List Nat)} (h : GrV w v names (toI E)) (h' : GrV w v' names (toI E)) : Calls Tryz.prog 20 #[v, v'] w (YesR w) := by
  obtain ⟨A, c, A', c', rfl, hs, hg⟩ := h
  obtain ⟨B, d, B', d', rfl, hs', hg'⟩ := h'
  rw [toI_length] at *
  obtain ⟨W, G, hW, hG, hbW, c0, c1, hGl, hwG⟩ := gbox w (.slice A names.length c) (.slice A' E.length c')
  obtain ⟨V, H, hV, hH, hbV, e0, e1, hHl, hwH⟩ := gbox W (.slice B names.length d) (.slice B' E.length d')
  have HW := Lib.hid hW
  have HG := Lib.hid hG
  have HV := Lib.hid hV
  have HH := Lib.hid (show H = G + 1 by rw [hH, hW, World.size_alloc, hG])
  have hbb := hbW.trans (hbV.mono hbW.size)
  have x0 := ((bcell hbV).1 _ 0 hGl).trans c0
  have x1 := ((bcell hbV).1 _ 1 hGl).trans c1
  have HT := Lib.hid (fun wz (hb : Below w.heap.size w wz) => Texts_yes (hs.below hb) (hs'.below hb))
  have HL := Lib.hid (fun wz (hb : Below w.heap.size w wz) => Lists_yes (hg.below hb) (hg'.below hb))
  clear hW hG hV hH hs hs' hg hg' c0 c1
  go_enter Tryz.func20, Tryz.ntmps20
  go_wp2_with fail
  rw [← HW.out, ← HG.out, ← HV.out, ← HH.out]
  refine (HT.out _ hbb).mono ?_
  rintro e w1 ⟨rfl, hb1⟩
  have hb2 := hbb.trans (hb1.mono hbb.size)
  have y1 := ((bcell hb1).1 _ 1 (Nat.lt_of_lt_of_le hGl hbV.size)).trans x1
  have z1 := ((bcell hb1).1 _ 1 hHl).trans e1
  go_wp2_with fail
  refine (HL.out _ hb2).mono ?_
  rintro e w3 ⟨rfl, hb3⟩
  go_wp2_with fail
  go_ret
  exact ⟨rfl, hb2.trans (hb3.mono hb2.size)⟩
theorem nil_gr (w : World) : GrV w (.agg #[.slice none 0 0, .slice none 0 0]) [] (toI []) := (GB.nil w 0).gr
theorem Same_nil {w : World} : Calls Tryz.prog 20 #[.agg #[.slice none 0 0, .slice none 0 0], .agg #[.slice none 0 0, .slice none 0 0]] w (YesR w) := Same_yes (nil_gr w) (nil_gr w)
end Go.Proofs.YtefcdclmabdmbaaGreatDoor
