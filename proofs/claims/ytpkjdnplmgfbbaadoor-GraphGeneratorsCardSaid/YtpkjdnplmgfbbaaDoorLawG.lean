/- The law GraphGenerators: its walk. -/
import Derived.Test.YtpkjdnplmgfbbaaDoorGec
import Derived.Test.YtpkjdnplmgfbbaaDoorLawD
import Derived.Deep.QuietTactic
import Derived.BigQuiet
namespace Go.Proofs.YtpkjdnplmgfbbaaDoor
open Go.RowKit

/-- The cells of a list of quaternions. -/
def QC (w : World) (g : Nat) (L : List Qt) : Prop := ∀ i q, L[i]? = some q →
  w.cell? ⟨g, i * 5, none⟩ = some (.int .i64 q.1) ∧ w.cell? ⟨g, i * 5 + 1, none⟩ = some (.int .i64 q.2.1) ∧ w.cell? ⟨g, i * 5 + 2, none⟩ = some (.int .i64 q.2.2.1) ∧ w.cell? ⟨g, i * 5 + 3, none⟩ = some (.int .i64 q.2.2.2) ∧ w.cell? ⟨g, i * 5 + 4, none⟩ = some (.int .i64 1)
theorem QC.below {w w' : World} {g : Nat} {L : List Qt} (h : QC w g L) (hg : g < w.heap.size) (hb : Below w.heap.size w w') : QC w' g L := by
  intro i q hq
  obtain ⟨h0, h1, h2, h3, h4⟩ := h i q hq
  exact ⟨(hb.cell (p := ⟨g, i * 5, none⟩) hg).trans h0, (hb.cell (p := ⟨g, i * 5 + 1, none⟩) hg).trans h1, (hb.cell (p := ⟨g, i * 5 + 2, none⟩) hg).trans h2, (hb.cell (p := ⟨g, i * 5 + 3, none⟩) hg).trans h3, (hb.cell (p := ⟨g, i * 5 + 4, none⟩) hg).trans h4⟩
theorem OwnQ.cells {w : World} {base : Nat} {A : Option Addr} {n c : Nat} {L : List Qt} (h : OwnQ w base (.slice A n c) L) (hn : 0 < n) : ∃ g, A = some ⟨g, 0, none⟩ ∧ base ≤ g ∧ g < w.heap.size ∧ n ≤ c ∧ c ≤ maxLen ∧ QC w g L := by
  obtain rfl := h.len
  obtain ⟨g, cap, e, hb, h1, h2, _, h4⟩ := own_cells h hn
  injection e with e1 e2 e3
  subst e1 e3
  have hlt := (World.ownsRow.lt h g rfl).2
  refine ⟨g, rfl, hb, hlt, h1, h2, fun i q hq => ?_⟩
  have key := fun (j : Nat) (hj : j < 5) (u : Value) (hu : (qc q)[j]? = some u) => h4 (i * 5 + j) u ((qcs_at hq j hj).trans hu)
  exact ⟨key 0 (by omega) _ rfl, key 1 (by omega) _ rfl, key 2 (by omega) _ rfl, key 3 (by omega) _ rfl, key 4 (by omega) _ rfl⟩

set_option maxHeartbeats 4000000 in
set_option maxRecDepth 100000 in
theorem SameQuats_same {w : World} {g g' n c c' : Nat} {L : List Qt} (hn : n = L.length) (h : QC w g L) (h' : QC w g' L) (hc : n ≤ c) (hc' : n ≤ c') (hm : c ≤ maxLen) :
    Calls Tryd.prog 50 #[.slice (some ⟨g, 0, none⟩) n c, .slice (some ⟨g', 0, none⟩) n c'] w fun e w' => e = .returned (.bool true) ∧ Below w.heap.size w w' := by
  unfold maxLen at hm
  have HN := Lib.hid hn
  clear hn
  go_enter Tryd.func50, Tryd.ntmps50
  go_wp2_with fail
  go_loopw [5] (fun i wr => ∃ k m : Nat, k ≤ n ∧ i = .int .i64 (k : Nat) ∧ wr = w.drewN m) (fun i _ => n - (intOf i).toNat)
  case atStart => exact ⟨0, 0, by omega, rfl, rfl⟩
  case round =>
    obtain ⟨k, m, hk, rfl, rfl⟩ := hrel
    by_cases hkn : k < n
    · obtain ⟨q, hq⟩ : ∃ q, L[k]? = some q := ⟨_, List.getElem?_eq_getElem (by rw [← HN.out]; exact hkn)⟩
      obtain ⟨a0, a1, a2, a3, a4⟩ := h k q hq
      obtain ⟨b0, b1, b2, b3, b4⟩ := h' k q hq
      have hk0 : (0 : Int) ≤ (k : Int) := by omega
      have hk1 : (k : Int) < (n : Int) := by omega
      clear hq
      go_wp2_with fail
      go_quiet (fail)
      go_wp2_with fail
      go_roundw
      case rel => exact ⟨k + 1, m + nq, by omega, by go_num, rfl⟩
      case measure => simp [intOf]; omega
    · obtain rfl : k = n := by omega
      go_wp2_with fail
      go_ret
      exact ⟨rfl, below_drewN (Below.refl _ _) _⟩

/-- The error of generators. -/
noncomputable def chG (x : Int) : Nat := if gdI x = true then (if 400 ≤ x then 8 else 0) else 11
set_option maxHeartbeats 4000000 in
set_option maxRecDepth 100000 in
theorem rCheckGenerators_any {w : World} (x : Int) : Calls Tryd.prog 48 #[.int .i64 x] w fun e w' => e = .returned (.int .i64 (chG x : Nat)) ∧ w = w' := by
  have HP := Lib.hid (fun w => IsGood_any (w := w) x)
  cases hb : gdI x
  · have HC := Lib.hid (show 11 = chG x by unfold chG; rw [hb]; rfl)
    have HB := Lib.hid hb
    clear hb
    go_enter Tryd.func48, Tryd.ntmps48
    go_wp2_with fail
    refine (HP.out _).mono ?_
    rintro e w' ⟨rfl, rfl⟩
    rw [HB.out]
    go_wp2_with fail
    go_ret
    exact ⟨by rw [← HC.out]; rfl, rfl⟩
  · by_cases h4 : 400 ≤ x
    · have HC := Lib.hid (show 8 = chG x by unfold chG; rw [hb, if_pos rfl, if_pos h4])
      have HB := Lib.hid hb
      have z1 : decide (400 ≤ x) = true := decide_eq_true h4
      clear hb
      go_enter Tryd.func48, Tryd.ntmps48
      go_wp2_with fail
      refine (HP.out _).mono ?_
      rintro e w' ⟨rfl, rfl⟩
      rw [HB.out]
      go_wp2_with fail
      go_ret
      exact ⟨by rw [← HC.out]; rfl, rfl⟩
    · have HC := Lib.hid (show 0 = chG x by unfold chG; rw [hb, if_pos rfl, if_neg h4])
      have HB := Lib.hid hb
      have z1 : decide (400 ≤ x) = false := decide_eq_false h4
      clear hb
      go_enter Tryd.func48, Tryd.ntmps48
      go_wp2_with fail
      refine (HP.out _).mono ?_
      rintro e w' ⟨rfl, rfl⟩
      rw [HB.out]
      go_wp2_with fail
      go_ret
      exact ⟨by rw [← HC.out]; rfl, rfl⟩
set_option maxHeartbeats 4000000 in
set_option maxRecDepth 100000 in
theorem Generators_bad {w : World} {x : Int} (h : chG x ≠ 0) : Calls Tryd.prog 47 #[.int .i64 x] w fun e w' => e = .returned (.tuple #[.slice none 0 0, .int .i64 (chG x : Nat)]) ∧ w = w' := by
  have HP := Lib.hid (fun w => good_any (w := w) x)
  cases hb : gdI x
  · have HC := Lib.hid (show 11 = chG x by unfold chG; rw [hb]; rfl)
    have HB := Lib.hid hb
    clear hb h
    go_enter Tryd.func47, Tryd.ntmps47
    go_wp2_with fail
    refine (HP.out _).mono ?_
    rintro e w' ⟨rfl, rfl⟩
    rw [HB.out]
    go_wp2_with fail
    go_ret2
    exact ⟨by rw [← HC.out]; rfl, rfl⟩
  · by_cases h4 : 400 ≤ x
    · have HC := Lib.hid (show 8 = chG x by unfold chG; rw [hb, if_pos rfl, if_pos h4])
      have HB := Lib.hid hb
      have z1 : decide (400 ≤ x) = true := decide_eq_true h4
      clear hb h
      go_enter Tryd.func47, Tryd.ntmps47
      go_wp2_with fail
      refine (HP.out _).mono ?_
      rintro e w' ⟨rfl, rfl⟩
      rw [HB.out]
      go_wp2_with fail
      go_ret2
      exact ⟨by rw [← HC.out]; rfl, rfl⟩
    · exact absurd (by unfold chG; rw [hb, if_pos rfl, if_neg h4]) h
theorem chG_zero {x : Int} (h : chG x = 0) : gdI x = true ∧ ¬ 400 ≤ x := by
  unfold chG at h
  split at h
  · split at h
    · cases h
    · exact ⟨by assumption, by assumption⟩
  · cases h
theorem chG_ok {x : Int} (h : chG x = 0) : ∃ p : Nat, x = p ∧ Pr p ∧ p % 4 = 1 ∧ p < 400 := by
  obtain ⟨h1, h2⟩ := chG_zero h
  unfold gdI at h1
  rw [Bool.and_eq_true, decide_eq_true_eq] at h1
  obtain ⟨a1, a2, a3⟩ := primeI_yes.1 h1.1
  exact ⟨x.toNat, by omega, a3, by omega, by omega⟩
def GensR (w : World) (p : Nat) (e : Ending) (w' : World) : Prop := ∃ A n c, e = .returned (.tuple #[.slice A n c, .int .i64 0]) ∧ OwnQ w' w.heap.size (.slice A n c) (gqs p) ∧ Below w.heap.size w w'
set_option maxHeartbeats 4000000 in
set_option maxRecDepth 100000 in
theorem Generators_ok {w : World} {p : Nat} (h : chG (p : Int) = 0) : Calls Tryd.prog 47 #[.int .i64 (p : Int)] w (GensR w p) := by
  obtain ⟨hb, h4⟩ := chG_zero h
  have HP := Lib.hid (fun w => good_any (w := w) (p : Int))
  have HB := Lib.hid hb
  have z1 : decide (400 ≤ (p : Int)) = false := decide_eq_false h4
  have hp : p < 400 := by omega
  have HG := Lib.hid (fun w => @generators_any w p hp)
  clear h hb h4
  go_enter Tryd.func47, Tryd.ntmps47
  go_wp2_with fail
  refine (HP.out _).mono ?_
  rintro e w' ⟨rfl, rfl⟩
  rw [HB.out]
  go_wp2_with fail
  refine (HG.out _).mono ?_
  rintro e w1 ⟨A, n, c, rfl, hown, hb1⟩
  go_wp2_with fail
  go_ret2
  exact ⟨A, n, c, rfl, hown, hb1⟩

set_option maxHeartbeats 4000000 in
set_option maxRecDepth 100000 in
theorem lawG_bad {w : World} {x : Int} (h : chG x ≠ 0) : Calls Tryd.prog 10 #[.int .i64 x] w (TrueR w) := by
  have HG := Lib.hid (fun w => @Generators_bad w x h)
  have HC := Lib.hid (fun w => @rCheckGenerators_any w x)
  have hz : (((chG x : Nat) : Int) != 0) = true := by simp [h]
  have hz2 : (((chG x : Nat) : Int) == ((chG x : Nat) : Int)) = true := by simp
  generalize chG x = q at *
  clear h
  go_enter Tryd.func10, Tryd.ntmps10
  go_wp2_with fail
  refine (HG.out _).mono ?_
  rintro e w1 ⟨rfl, rfl⟩
  go_wp2_with fail
  refine (HC.out _).mono ?_
  rintro e w1 ⟨rfl, rfl⟩
  go_wp2_with fail
  refine awake_any.mono ?_
  rintro e w2 ⟨rfl, hb2⟩
  go_wp2_with fail
  go_ret
  exact ⟨rfl, hb2⟩

/-- The conjugate. -/
def cj (q : Qt) : Qt := (q.1, -q.2.1, -q.2.2.1, -q.2.2.2)
def NoC (L : List Qt) (q : Qt) (f : Bool) (k : Nat) : Prop := f = true ∨ ∀ t r, t < k → L[t]? = some r → r ≠ cj q
theorem NoC.step {L : List Qt} {q r : Qt} {k : Nat} (h : NoC L q false k) (hr : L[k]? = some r) (hne : r ≠ cj q) : NoC L q false (k + 1) := by
  rcases h with h | h
  · cases h
  · refine .inr fun t s ht hs => ?_
    rcases Nat.lt_or_ge t k with h1 | h1
    · exact h t s h1 hs
    · obtain rfl : t = k := by omega
      rw [hr] at hs
      injection hs with hs
      subst hs
      exact hne

set_option maxHeartbeats 8000000 in
set_option maxRecDepth 100000 in
theorem lawG_ok {w : World} {p : Nat} (h : chG (p : Int) = 0) (hp1 : Pr p) (h4 : p % 4 = 1) (hp : p < 400) : Calls Tryd.prog 10 #[.int .i64 (p : Int)] w (TrueR w) := by
  have HG := Lib.hid (fun w => @Generators_ok w p h)
  have HC := Lib.hid (fun w => @rCheckGenerators_any w (p : Int))
  rw [h] at HC
  have HR := Lib.hid (fun w => @rGenerators_any w p hp)
  have HL := Lib.hid (show p + 1 = (gqs p).length from (gqs_count hp1 h4 hp).symm)
  clear h h4 hp1
  go_enter Tryd.func10, Tryd.ntmps10
  go_wp2_with fail
  refine (HG.out _).mono ?_
  rintro e w1 ⟨A, n, c, rfl, hown1, hb1⟩
  obtain rfl : n = p + 1 := hown1.len.trans HL.out.symm
  go_wp2_with fail
  refine (HC.out _).mono ?_
  rintro e w2 ⟨rfl, rfl⟩
  go_wp2_with fail
  refine (HR.out _).mono ?_
  rintro e w2 ⟨A2, n2, c2, rfl, hown2, hb2⟩
  obtain rfl : n2 = p + 1 := hown2.len.trans HL.out.symm
  obtain ⟨g, rfl, hg1, hg2, hg3, hg4, hq1⟩ := hown1.cells (by omega)
  obtain ⟨g', rfl, hg1', hg2', hg3', hg4', hq2⟩ := hown2.cells (by omega)
  replace hq1 := hq1.below hg2 hb2
  have hbb := hb1.trans (hb2.mono hb1.size)
  have HS := Lib.hid (SameQuats_same HL.out hq1 hq2 hg3 hg3' hg4)
  have HQ := Lib.hid hq1
  have hgs : g < w2.heap.size := Nat.lt_of_lt_of_le hg2 hb2.size
  clear hown1 hown2 hq2 hq1 hb1 hb2
  have hmx := hg4
  unfold maxLen at hmx
  go_wp2_with fail
  refine HS.out.mono ?_
  rintro e w3 ⟨rfl, hb3⟩
  have HQ3 := Lib.hid (HQ.out.below hgs hb3)
  replace hb3 := hbb.trans (hb3.mono hbb.size)
  clear hbb HQ HS HG HC HR
  have ht1 : ((p : Int) + 1 != (p : Int) + 1) = false := by simp
  go_wp2_with fail
  clear ht1
  have hpI : (p : Int) + 1 ≤ 400 := by omega
  go_loopw [7, 8, 9] (fun i _ _ wr => ∃ k m : Nat, k ≤ p + 1 ∧ i = .int .i64 (k : Nat) ∧ wr = w3.drewN m) (fun i _ _ _ => p + 1 - (intOf i).toNat)
  case atStart => exact ⟨0, 0, by omega, rfl, rfl⟩
  case round =>
    obtain ⟨k, m, hk, rfl, rfl⟩ := hrel
    have hk0 : (0 : Int) ≤ (k : Int) := by omega
    by_cases hkp : k < p + 1
    · have hkI : (k : Int) < (p : Int) + 1 := by omega
      obtain ⟨q, hq⟩ : ∃ q, (gqs p)[k]? = some q := ⟨_, List.getElem?_eq_getElem (by rw [← HL.out]; exact hkp)⟩
      have hqm := List.mem_of_getElem? hq
      obtain ⟨⟨s1, s2⟩, ⟨s3, s4⟩, ⟨s5, s6⟩, s7, s8⟩ := gqs_small hqm
      obtain ⟨a0, a1, a2, a3, _⟩ := HQ3.out k q hq
      have HCJ := Lib.hid (gqs_conj hqm)
      clear hq hqm
      obtain ⟨q1, q2, q3, q4⟩ := q
      dsimp only at s1 s2 s3 s4 s5 s6 s7 s8 a0 a1 a2 a3
      go_wp2_with fail
      go_loopw [8, 9] (fun fv j wr => ∃ (fb : Bool) (t m : Nat), t ≤ p + 1 ∧ j = .int .i64 (t : Nat) ∧ fv = .bool fb ∧ Hid (NoC (gqs p) (q1, q2, q3, q4) fb t) ∧ wr = w3.drewN m) (fun _ j _ => p + 1 - (intOf j).toNat)
      case atStart => exact ⟨false, 0, m, by omega, rfl, rfl, Lib.hid (.inr fun t r ht => by omega), rfl⟩
      case round =>
        obtain ⟨fb, t, m, ht, rfl, rfl, HNO, rfl⟩ := hrel
        have ht0 : (0 : Int) ≤ (t : Int) := by omega
        by_cases htp : t < p + 1
        · have htI : (t : Int) < (p : Int) + 1 := by omega
          cases fb
          · obtain ⟨r, hr⟩ : ∃ r, (gqs p)[t]? = some r := ⟨_, List.getElem?_eq_getElem (by rw [← HL.out]; exact htp)⟩
            obtain ⟨⟨_, _⟩, ⟨_, _⟩, ⟨_, _⟩, _, _⟩ := gqs_small (List.mem_of_getElem? hr)
            obtain ⟨b0, b1, b2, b3, _⟩ := HQ3.out t r hr
            obtain ⟨r1, r2, r3, r4⟩ := r
            dsimp only at b0 b1 b2 b3
            have HST := Lib.hid (fun hne => HNO.out.step hr hne)
            have HEQ := Lib.hid (show (r1, r2, r3, r4) = cj (q1, q2, q3, q4) ↔ r1 = q1 ∧ r2 = -q2 ∧ r3 = -q3 ∧ r4 = -q4 by unfold cj; simp)
            clear hr
            by_cases e1 : r1 = q1
            · have z1 : (r1 == q1) = true := by simp [e1]
              by_cases e2 : r2 = -q2
              · have z2 : (r2 == -q2) = true := by simp [e2]
                by_cases e3 : r3 = -q3
                · have z3 : (r3 == -q3) = true := by simp [e3]
                  by_cases e4 : r4 = -q4
                  · have z4 : (r4 == -q4) = true := by simp [e4]
                    clear e1 e2 e3 e4
                    go_wp2_with fail
                    go_quiet (fail)
                    go_wp2_with fail
                    go_roundw
                    case rel => exact ⟨true, t + 1, m + nq, by omega, by go_num, rfl, Lib.hid (.inl rfl), rfl⟩
                    case measure => simp [intOf]; omega
                  · have z4 : (r4 == -q4) = false := beq_eq_false_iff_ne.2 e4
                    have HN2 := Lib.hid (HST.out (fun h => e4 (HEQ.out.1 h).2.2.2))
                    clear e1 e2 e3 e4
                    go_wp2_with fail
                    go_quiet (fail)
                    go_wp2_with fail
                    go_roundw
                    case rel => exact ⟨false, t + 1, m + nq, by omega, by go_num, rfl, HN2, rfl⟩
                    case measure => simp [intOf]; omega
                · have z3 : (r3 == -q3) = false := beq_eq_false_iff_ne.2 e3
                  have HN2 := Lib.hid (HST.out (fun h => e3 (HEQ.out.1 h).2.2.1))
                  clear e1 e2 e3
                  go_wp2_with fail
                  go_quiet (fail)
                  go_wp2_with fail
                  go_roundw
                  case rel => exact ⟨false, t + 1, m + nq, by omega, by go_num, rfl, HN2, rfl⟩
                  case measure => simp [intOf]; omega
              · have z2 : (r2 == -q2) = false := beq_eq_false_iff_ne.2 e2
                have HN2 := Lib.hid (HST.out (fun h => e2 (HEQ.out.1 h).2.1))
                clear e1 e2
                go_wp2_with fail
                go_quiet (fail)
                go_wp2_with fail
                go_roundw
                case rel => exact ⟨false, t + 1, m + nq, by omega, by go_num, rfl, HN2, rfl⟩
                case measure => simp [intOf]; omega
            · have z1 : (r1 == q1) = false := beq_eq_false_iff_ne.2 e1
              have HN2 := Lib.hid (HST.out (fun h => e1 (HEQ.out.1 h).1))
              clear e1
              go_wp2_with fail
              go_quiet (fail)
              go_wp2_with fail
              go_roundw
              case rel => exact ⟨false, t + 1, m + nq, by omega, by go_num, rfl, HN2, rfl⟩
              case measure => simp [intOf]; omega
          · go_wp2_with fail
            go_quiet (fail)
            go_wp2_with fail
            go_roundw
            case rel => exact ⟨true, t + 1, m + nq, by omega, by go_num, rfl, Lib.hid (.inl rfl), rfl⟩
            case measure => simp [intOf]; omega
        · obtain rfl : t = p + 1 := by omega
          obtain rfl : fb = true := by
            rcases HNO.out with h | h
            · exact h
            · obtain ⟨j, hj⟩ := List.getElem?_of_mem HCJ.out
              exact absurd rfl (h j _ (by rw [HL.out]; exact lt_of_some hj) hj)
          go_wp2_with fail
          go_roundw
          case rel => exact ⟨k + 1, m, by omega, by go_num, rfl⟩
          case measure => simp [intOf]; omega
    · obtain rfl : k = p + 1 := by omega
      go_wp2_with fail
      refine awake_any.mono ?_
      rintro e w4 ⟨rfl, hb4⟩
      go_wp2_with fail
      go_ret
      exact ⟨rfl, (below_drewN hb3 m).trans (hb4.mono (below_drewN hb3 m).size)⟩

/-- GraphGenerators returns true, whatever the number. -/
theorem GraphGenerators_true {w : World} (x : Int) : Calls Tryd.prog 10 #[.int .i64 x] w (TrueR w) := by
  by_cases h : chG x = 0
  · obtain ⟨p, rfl, h1, h2, h3⟩ := chG_ok h
    exact lawG_ok h h1 h2 h3
  · exact lawG_bad h
end Go.Proofs.YtpkjdnplmgfbbaaDoor
