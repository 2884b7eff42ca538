/- BrandtChecks: true for every input. -/
import Derived.Test.YtdmdagilopckgaaGreatLaq
import Derived.Test.YtdmdagilopckgaaGreatQce
import Derived.Test.YtdmdagilopckgaaGreatExk
namespace Go.Proofs.YtdmdagilopckgaaGreat
open Go.RowKit

set_option maxRecDepth 100000 in
set_option maxHeartbeats 8000000 in
theorem BrandtChecks_true {A A' : Option Addr} {n c n' c' : Nat} {l : List Int} {L : List En} {w : World} (h : Pl IntU w (fun _ => True) A n c l) (hl : EnA w A' n' c' L) :
    Calls Tryz.prog 4 #[.slice A n c, .slice A' n' c'] w (TrueR w) := by
  have hm := h.room
  have hm' := hl.room
  unfold maxLen at hm hm'
  have hc := h.cap
  have hc' := hl.cap
  by_cases hs : ShP w A n l
  · have HS := Lib.hid (fun w' (hb : Below w.heap.size w w') => lawShort_yes h hs hb)
    have hp := hs.pl h
    have hnn := hs.1
    have hg := fun h0 => hs.good h.len h0
    have K1 := Lib.hid (fun w' (hb : Below w.heap.size w w') => CheckEnclosures_any (hp.below hb) hg (hl.below hb))
    have K2 := Lib.hid (fun w' (hb : Below w.heap.size w w') => qCheckEnclosures_any (hp.below hb) (by omega) hg (hl.below hb))
    generalize ceE l L = d at *
    clear h hl hp hg hs
    by_cases h1 : 9 < n ∧ n ≤ 61
    · skip
      have za9 : decide ((9 : Int) < (n : Int)) = true := decide_eq_true (by omega)
      have ya61 : decide ((n : Int) ≤ (61 : Int)) = true := decide_eq_true (by omega)
      go_enter Tryz.func4, Tryz.ntmps4
      go_wp2_with (first
        | (go_at_call 6; go_must (refine lawRoots_any.mono ?_); rintro e w1 ⟨rfl, hb1⟩)
        | (go_at_call 7; go_must (refine (HS.out _ hb1).mono ?_); rintro e w2 ⟨rfl, hb2⟩))
      go_ret
      exact ⟨rfl, btr hb1 hb2⟩
    · by_cases h2 : 20 < n' ∧ n' ≤ 61
      · rcases (show n ≤ 9 ∨ (9 < n ∧ 61 < n) by omega) with h3 | h3
        · skip
          have za9 : decide ((9 : Int) < (n : Int)) = false := decide_eq_false (by omega)
          have zb20 : decide ((20 : Int) < (n' : Int)) = true := decide_eq_true (by omega)
          have yb61 : decide ((n' : Int) ≤ (61 : Int)) = true := decide_eq_true (by omega)
          go_enter Tryz.func4, Tryz.ntmps4
          go_wp2_with (first
            | (go_at_call 6; go_must (refine lawRoots_any.mono ?_); rintro e w1 ⟨rfl, hb1⟩)
            | (go_at_call 7; go_must (refine (HS.out _ hb1).mono ?_); rintro e w2 ⟨rfl, hb2⟩))
          go_ret
          exact ⟨rfl, btr hb1 hb2⟩
        · skip
          have za9 : decide ((9 : Int) < (n : Int)) = true := decide_eq_true (by omega)
          have ya61 : decide ((n : Int) ≤ (61 : Int)) = false := decide_eq_false (by omega)
          have zb20 : decide ((20 : Int) < (n' : Int)) = true := decide_eq_true (by omega)
          have yb61 : decide ((n' : Int) ≤ (61 : Int)) = true := decide_eq_true (by omega)
          go_enter Tryz.func4, Tryz.ntmps4
          go_wp2_with (first
            | (go_at_call 6; go_must (refine lawRoots_any.mono ?_); rintro e w1 ⟨rfl, hb1⟩)
            | (go_at_call 7; go_must (refine (HS.out _ hb1).mono ?_); rintro e w2 ⟨rfl, hb2⟩))
          go_ret
          exact ⟨rfl, btr hb1 hb2⟩
      · by_cases h4 : 70 < n'
        · rcases (show n ≤ 9 ∨ (9 < n ∧ 61 < n) by omega) with h3 | h3
          · skip
            have za9 : decide ((9 : Int) < (n : Int)) = false := decide_eq_false (by omega)
            have zb20 : decide ((20 : Int) < (n' : Int)) = true := decide_eq_true (by omega)
            have yb61 : decide ((n' : Int) ≤ (61 : Int)) = false := decide_eq_false (by omega)
            have zb70 : decide ((70 : Int) < (n' : Int)) = true := decide_eq_true (by omega)
            go_enter Tryz.func4, Tryz.ntmps4
            go_wp2_with (first
              | (go_at_call 6; go_must (refine lawRoots_any.mono ?_); rintro e w1 ⟨rfl, hb1⟩)
              | (go_at_call 7; go_must (refine (HS.out _ hb1).mono ?_); rintro e w2 ⟨rfl, hb2⟩))
            go_ret
            exact ⟨rfl, btr hb1 hb2⟩
          · skip
            have za9 : decide ((9 : Int) < (n : Int)) = true := decide_eq_true (by omega)
            have ya61 : decide ((n : Int) ≤ (61 : Int)) = false := decide_eq_false (by omega)
            have zb20 : decide ((20 : Int) < (n' : Int)) = true := decide_eq_true (by omega)
            have yb61 : decide ((n' : Int) ≤ (61 : Int)) = false := decide_eq_false (by omega)
            have zb70 : decide ((70 : Int) < (n' : Int)) = true := decide_eq_true (by omega)
            go_enter Tryz.func4, Tryz.ntmps4
            go_wp2_with (first
              | (go_at_call 6; go_must (refine lawRoots_any.mono ?_); rintro e w1 ⟨rfl, hb1⟩)
              | (go_at_call 7; go_must (refine (HS.out _ hb1).mono ?_); rintro e w2 ⟨rfl, hb2⟩))
            go_ret
            exact ⟨rfl, btr hb1 hb2⟩
        · rcases (show n ≤ 9 ∨ (9 < n ∧ 61 < n) by omega) with h3 | h3 <;> rcases (show n' ≤ 20 ∨ (20 < n' ∧ 61 < n') by omega) with h5 | h5
          · skip
            have za9 : decide ((9 : Int) < (n : Int)) = false := decide_eq_false (by omega)
            have zb20 : decide ((20 : Int) < (n' : Int)) = false := decide_eq_false (by omega)
            have zb70 : decide ((70 : Int) < (n' : Int)) = false := decide_eq_false (by omega)
            go_enter Tryz.func4, Tryz.ntmps4
            go_wp2_with (first
              | (go_at_call 6; go_must (refine lawRoots_any.mono ?_); rintro e w1 ⟨rfl, hb1⟩)
              | (go_at_call 7; go_must (refine (HS.out _ hb1).mono ?_); rintro e w2 ⟨rfl, hb2⟩; have t2 := btr hb1 hb2)
              | (go_at_call 17; go_must (refine (K1.out _ t2).mono ?_); rintro e w3 ⟨rfl, hb3⟩; have t3 := btr t2 hb3)
              | (go_at_call 18; go_must (refine (K2.out _ t3).mono ?_); rintro e w4 ⟨rfl, hb4⟩))
            go_ret
            exact ⟨rfl, btr t3 hb4⟩
          · skip
            have za9 : decide ((9 : Int) < (n : Int)) = false := decide_eq_false (by omega)
            have zb20 : decide ((20 : Int) < (n' : Int)) = true := decide_eq_true (by omega)
            have yb61 : decide ((n' : Int) ≤ (61 : Int)) = false := decide_eq_false (by omega)
            have zb70 : decide ((70 : Int) < (n' : Int)) = false := decide_eq_false (by omega)
            go_enter Tryz.func4, Tryz.ntmps4
            go_wp2_with (first
              | (go_at_call 6; go_must (refine lawRoots_any.mono ?_); rintro e w1 ⟨rfl, hb1⟩)
              | (go_at_call 7; go_must (refine (HS.out _ hb1).mono ?_); rintro e w2 ⟨rfl, hb2⟩; have t2 := btr hb1 hb2)
              | (go_at_call 17; go_must (refine (K1.out _ t2).mono ?_); rintro e w3 ⟨rfl, hb3⟩; have t3 := btr t2 hb3)
              | (go_at_call 18; go_must (refine (K2.out _ t3).mono ?_); rintro e w4 ⟨rfl, hb4⟩))
            go_ret
            exact ⟨rfl, btr t3 hb4⟩
          · skip
            have za9 : decide ((9 : Int) < (n : Int)) = true := decide_eq_true (by omega)
            have ya61 : decide ((n : Int) ≤ (61 : Int)) = false := decide_eq_false (by omega)
            have zb20 : decide ((20 : Int) < (n' : Int)) = false := decide_eq_false (by omega)
            have zb70 : decide ((70 : Int) < (n' : Int)) = false := decide_eq_false (by omega)
            go_enter Tryz.func4, Tryz.ntmps4
            go_wp2_with (first
              | (go_at_call 6; go_must (refine lawRoots_any.mono ?_); rintro e w1 ⟨rfl, hb1⟩)
              | (go_at_call 7; go_must (refine (HS.out _ hb1).mono ?_); rintro e w2 ⟨rfl, hb2⟩; have t2 := btr hb1 hb2)
              | (go_at_call 17; go_must (refine (K1.out _ t2).mono ?_); rintro e w3 ⟨rfl, hb3⟩; have t3 := btr t2 hb3)
              | (go_at_call 18; go_must (refine (K2.out _ t3).mono ?_); rintro e w4 ⟨rfl, hb4⟩))
            go_ret
            exact ⟨rfl, btr t3 hb4⟩
          · skip
            have za9 : decide ((9 : Int) < (n : Int)) = true := decide_eq_true (by omega)
            have ya61 : decide ((n : Int) ≤ (61 : Int)) = false := decide_eq_false (by omega)
            have zb20 : decide ((20 : Int) < (n' : Int)) = true := decide_eq_true (by omega)
            have yb61 : decide ((n' : Int) ≤ (61 : Int)) = false := decide_eq_false (by omega)
            have zb70 : decide ((70 : Int) < (n' : Int)) = false := decide_eq_false (by omega)
            go_enter Tryz.func4, Tryz.ntmps4
            go_wp2_with (first
              | (go_at_call 6; go_must (refine lawRoots_any.mono ?_); rintro e w1 ⟨rfl, hb1⟩)
              | (go_at_call 7; go_must (refine (HS.out _ hb1).mono ?_); rintro e w2 ⟨rfl, hb2⟩; have t2 := btr hb1 hb2)
              | (go_at_call 17; go_must (refine (K1.out _ t2).mono ?_); rintro e w3 ⟨rfl, hb3⟩; have t3 := btr t2 hb3)
              | (go_at_call 18; go_must (refine (K2.out _ t3).mono ?_); rintro e w4 ⟨rfl, hb4⟩))
            go_ret
            exact ⟨rfl, btr t3 hb4⟩
  · have HS := Lib.hid (fun w' (hb : Below w.heap.size w w') => lawShort_no h hs hb)
    clear h hl hs
    go_enter Tryz.func4, Tryz.ntmps4
    go_wp2_with (first
      | (go_at_call 6; go_must (refine lawRoots_any.mono ?_); rintro e w1 ⟨rfl, hb1⟩)
      | (go_at_call 7; go_must (refine (HS.out _ hb1).mono ?_); rintro e w2 ⟨rfl, hb2⟩))
    go_ret
    exact ⟨rfl, btr hb1 hb2⟩
end Go.Proofs.YtdmdagilopckgaaGreat
