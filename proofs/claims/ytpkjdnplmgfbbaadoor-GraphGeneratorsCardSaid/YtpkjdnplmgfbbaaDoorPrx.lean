/- integer.IsPrime, the reference's IsPrime. -/
import Derived.Test.YtpkjdnplmgfbbaaDoorPrw
namespace Go.Proofs.YtpkjdnplmgfbbaaDoor
open Go.RowKit

open Classical in
noncomputable def primeI (x : Int) : Bool := decide (2 ≤ x ∧ x ≤ 1000000000 ∧ Pr x.toNat)
open Classical in
theorem primeI_yes {x : Int} : primeI x = true ↔ (2 ≤ x ∧ x ≤ 1000000000 ∧ Pr x.toNat) := by unfold primeI; exact decide_eq_true_iff
open Classical in
theorem primeI_iff {x : Int} : primeI x = false ↔ ¬ (2 ≤ x ∧ x ≤ 1000000000 ∧ Pr x.toNat) := by unfold primeI; exact decide_eq_false_iff_not
theorem primeI_true {n : Nat} (h1 : 2 ≤ n) (h2 : n ≤ 1000000000) (h : Pr n) : primeI (n : Int) = true := by
  exact primeI_yes.2 ⟨by omega, by omega, by rw [Int.toNat_natCast]; exact h⟩
theorem primeI_no {n : Nat} (h : ¬ Pr n) : primeI (n : Int) = false := by
  refine primeI_iff.2 ?_
  rintro ⟨_, _, h3⟩
  rw [Int.toNat_natCast] at h3
  exact h h3
theorem primeI_out {x : Int} (h : x < 2 ∨ 1000000000 < x) : primeI x = false := by
  refine primeI_iff.2 ?_
  rintro ⟨h1, h2, _⟩
  omega
def PrmR (w : World) (x : Int) (e : Ending) (w' : World) : Prop := e = .returned (.bool (primeI x)) ∧ w = w'
theorem prmR_of {w : World} {x : Int} {b : Bool} (h : primeI x = b) : PrmR w x (.returned (.bool b)) w := ⟨by rw [h], rfl⟩
theorem pr_lit {p : Nat} (h : 2 ≤ p ∧ ∀ d, d < p → 2 ≤ d → p % d ≠ 0) : Pr p := pr_trial h.1 fun d h1 h2 h3 => h.2 d (by have := Nat.mul_le_mul_right d h1; omega) h1 h3
theorem pr_2 : Pr 2 := pr_lit (by decide)
theorem pr_3 : Pr 3 := pr_lit (by decide)
theorem pr_5 : Pr 5 := pr_lit (by decide)
theorem pr_7 : Pr 7 := pr_lit (by decide)

theorem ix_0 (w : World) : (Instr.index 160 (.agg #[.int .i64 2, .int .i64 3, .int .i64 5, .int .i64 7]) (.int .i64 0)).run Tryd.prog w = .ok (.int .i64 2) w := by kernel_rfl
theorem ix_1 (w : World) : (Instr.index 160 (.agg #[.int .i64 2, .int .i64 3, .int .i64 5, .int .i64 7]) (.int .i64 1)).run Tryd.prog w = .ok (.int .i64 3) w := by kernel_rfl
theorem ix_2 (w : World) : (Instr.index 160 (.agg #[.int .i64 2, .int .i64 3, .int .i64 5, .int .i64 7]) (.int .i64 2)).run Tryd.prog w = .ok (.int .i64 5) w := by kernel_rfl
theorem ix_3 (w : World) : (Instr.index 160 (.agg #[.int .i64 2, .int .i64 3, .int .i64 5, .int .i64 7]) (.int .i64 3)).run Tryd.prog w = .ok (.int .i64 7) w := by kernel_rfl
set_option maxHeartbeats 8000000 in
set_option maxRecDepth 100000 in
theorem IsPrime_any {w : World} (x : Int) : Calls Tryd.prog 123 #[.int .i64 x] w (PrmR w x) := by
  by_cases hlo : x < 2
  · have z1 : decide (x < 2) = true := decide_eq_true hlo
    have HP := Lib.hid (primeI_out (.inl hlo))
    go_enter Tryd.func123, Tryd.ntmps123
    go_wp2_with fail
    go_ret
    exact prmR_of HP.out
  · by_cases hhi : 1000000000 < x
    · have z1 : decide (x < 2) = false := decide_eq_false hlo
      have z2 : decide (1000000000 < x) = true := decide_eq_true hhi
      have HP := Lib.hid (primeI_out (.inr hhi))
      go_enter Tryd.func123, Tryd.ntmps123
      go_wp2_with fail
      go_ret
      exact prmR_of HP.out
    · obtain ⟨n, rfl⟩ : ∃ n : Nat, x = n := ⟨x.toNat, by omega⟩
      have z1 : decide ((n : Int) < 2) = false := decide_eq_false hlo
      have z2 : decide (1000000000 < (n : Int)) = false := decide_eq_false hhi
      have h1 : 2 ≤ n := by omega
      have h2 : n ≤ 1000000000 := by omega
      clear hlo hhi
      go_enter Tryd.func123, Tryd.ntmps123
      go_wp2_with fail
      have x0 := ix_0 w
      have x1 := ix_1 w
      have x2 := ix_2 w
      have x3 := ix_3 w
      clear z1 z2
      go_loop [12] (fun iv => ∃ k : Nat, k ≤ 4 ∧ iv = .int .i64 (k : Nat) ∧ Hid (∀ b ∈ [2, 3, 5, 7].take k, n ≠ b ∧ n % b ≠ 0 ∧ Pass b n)) (fun iv => 4 - (intOf iv).toNat)
      case atStart => exact ⟨0, by omega, rfl, Lib.hid (fun b hb => by simp at hb)⟩
      case round =>
      obtain ⟨k, hk, rfl, HI⟩ := hrel
      obtain rfl | rfl | rfl | rfl | rfl : k = 0 ∨ k = 1 ∨ k = 2 ∨ k = 3 ∨ k = 4 := by omega
      · -- 2
        by_cases he : n = 2
        · have z1 : ((n : Int) == 2) = true := by simp [he]
          have HP := Lib.hid (show primeI (n : Int) = true from primeI_true h1 h2 (by rw [he]; exact pr_2))
          clear he 
          go_wp2_with fail
          go_ret
          exact prmR_of HP.out
        · have z1 : ((n : Int) == 2) = false := beq_eq_false_iff_ne.2 (by omega)
          by_cases hm : n % 2 = 0
          · have z2 : ((n : Int) % 2 == 0) = true := by simp; omega
            have z3 : ((n : Int).tmod 2 == 0) = true := by rw [Int.tmod_eq_emod_of_nonneg (by omega)]; exact z2
            have HP := Lib.hid (show primeI (n : Int) = false from primeI_no (fun h => by rcases h.2 2 (Nat.dvd_of_mod_eq_zero hm) with e | e <;> omega))
            clear he hm 
            go_wp2_with fail
            go_ret
            exact prmR_of HP.out
          · have z2 : ((n : Int) % 2 == 0) = false := beq_eq_false_iff_ne.2 (by omega)
            have z3 : ((n : Int).tmod 2 == 0) = false := beq_eq_false_iff_ne.2 (by rw [Int.tmod_eq_emod_of_nonneg (by omega)]; omega)
            have hna : 2 < n := by omega
            have HW := Lib.hid (fun w => @witness_any w 2 n (by omega) (by omega) h2 (by omega))
            have HNE := Lib.hid (And.intro he hm)
            clear he hm 
            go_wp2_with fail
            refine (HW.out _).mono ?_
            rintro en w' ⟨b, hb1, hb2, rfl, rfl⟩
            cases b
            · have HN := Lib.hid (show ∀ b ∈ [2, 3, 5, 7].take 1, n ≠ b ∧ n % b ≠ 0 ∧ Pass b n from fun b hb => by
                have hb' : b ∈ [2, 3, 5, 7].take 0 ∨ b = 2 := by simp at hb ⊢; omega
                rcases hb' with hb' | rfl
                · exact HI.out b hb'
                · exact ⟨HNE.out.1, HNE.out.2, hb2 rfl⟩)
              clear hb1 hb2
              go_wp2_with fail
              go_round
              case rel => exact ⟨1, by omega, by go_num, HN⟩
              case measure => simp [intOf]
            · have HP := Lib.hid (show primeI (n : Int) = false from primeI_no (fun h => hb1 rfl (pass_prime h (fun hd => by have := Nat.le_of_dvd (by omega) hd; omega))))
              clear hb1 hb2
              go_wp2_with fail
              go_ret
              exact prmR_of HP.out
      · -- 3
        obtain ⟨p21, p22, p23⟩ := HI.out 2 (by simp)
        by_cases he : n = 3
        · have z1 : ((n : Int) == 3) = true := by simp [he]
          have HP := Lib.hid (show primeI (n : Int) = true from primeI_true h1 h2 (by rw [he]; exact pr_3))
          clear he p21 p22 p23
          go_wp2_with fail
          go_ret
          exact prmR_of HP.out
        · have z1 : ((n : Int) == 3) = false := beq_eq_false_iff_ne.2 (by omega)
          by_cases hm : n % 3 = 0
          · have z2 : ((n : Int) % 3 == 0) = true := by simp; omega
            have z3 : ((n : Int).tmod 3 == 0) = true := by rw [Int.tmod_eq_emod_of_nonneg (by omega)]; exact z2
            have HP := Lib.hid (show primeI (n : Int) = false from primeI_no (fun h => by rcases h.2 3 (Nat.dvd_of_mod_eq_zero hm) with e | e <;> omega))
            clear he hm p21 p22 p23
            go_wp2_with fail
            go_ret
            exact prmR_of HP.out
          · have z2 : ((n : Int) % 3 == 0) = false := beq_eq_false_iff_ne.2 (by omega)
            have z3 : ((n : Int).tmod 3 == 0) = false := beq_eq_false_iff_ne.2 (by rw [Int.tmod_eq_emod_of_nonneg (by omega)]; omega)
            have hna : 3 < n := by omega
            have HW := Lib.hid (fun w => @witness_any w 3 n (by omega) (by omega) h2 (by omega))
            have HNE := Lib.hid (And.intro he hm)
            clear he hm p21 p22 p23
            go_wp2_with fail
            refine (HW.out _).mono ?_
            rintro en w' ⟨b, hb1, hb2, rfl, rfl⟩
            cases b
            · have HN := Lib.hid (show ∀ b ∈ [2, 3, 5, 7].take 2, n ≠ b ∧ n % b ≠ 0 ∧ Pass b n from fun b hb => by
                have hb' : b ∈ [2, 3, 5, 7].take 1 ∨ b = 3 := by simp at hb ⊢; omega
                rcases hb' with hb' | rfl
                · exact HI.out b hb'
                · exact ⟨HNE.out.1, HNE.out.2, hb2 rfl⟩)
              clear hb1 hb2
              go_wp2_with fail
              go_round
              case rel => exact ⟨2, by omega, by go_num, HN⟩
              case measure => simp [intOf]
            · have HP := Lib.hid (show primeI (n : Int) = false from primeI_no (fun h => hb1 rfl (pass_prime h (fun hd => by have := Nat.le_of_dvd (by omega) hd; omega))))
              clear hb1 hb2
              go_wp2_with fail
              go_ret
              exact prmR_of HP.out
      · -- 5
        obtain ⟨p21, p22, p23⟩ := HI.out 2 (by simp)
        obtain ⟨p31, p32, p33⟩ := HI.out 3 (by simp)
        by_cases he : n = 5
        · have z1 : ((n : Int) == 5) = true := by simp [he]
          have HP := Lib.hid (show primeI (n : Int) = true from primeI_true h1 h2 (by rw [he]; exact pr_5))
          clear he p21 p22 p23 p31 p32 p33
          go_wp2_with fail
          go_ret
          exact prmR_of HP.out
        · have z1 : ((n : Int) == 5) = false := beq_eq_false_iff_ne.2 (by omega)
          by_cases hm : n % 5 = 0
          · have z2 : ((n : Int) % 5 == 0) = true := by simp; omega
            have z3 : ((n : Int).tmod 5 == 0) = true := by rw [Int.tmod_eq_emod_of_nonneg (by omega)]; exact z2
            have HP := Lib.hid (show primeI (n : Int) = false from primeI_no (fun h => by rcases h.2 5 (Nat.dvd_of_mod_eq_zero hm) with e | e <;> omega))
            clear he hm p21 p22 p23 p31 p32 p33
            go_wp2_with fail
            go_ret
            exact prmR_of HP.out
          · have z2 : ((n : Int) % 5 == 0) = false := beq_eq_false_iff_ne.2 (by omega)
            have z3 : ((n : Int).tmod 5 == 0) = false := beq_eq_false_iff_ne.2 (by rw [Int.tmod_eq_emod_of_nonneg (by omega)]; omega)
            have hna : 5 < n := by omega
            have HW := Lib.hid (fun w => @witness_any w 5 n (by omega) (by omega) h2 (by omega))
            have HNE := Lib.hid (And.intro he hm)
            clear he hm p21 p22 p23 p31 p32 p33
            go_wp2_with fail
            refine (HW.out _).mono ?_
            rintro en w' ⟨b, hb1, hb2, rfl, rfl⟩
            cases b
            · have HN := Lib.hid (show ∀ b ∈ [2, 3, 5, 7].take 3, n ≠ b ∧ n % b ≠ 0 ∧ Pass b n from fun b hb => by
                have hb' : b ∈ [2, 3, 5, 7].take 2 ∨ b = 5 := by simp at hb ⊢; omega
                rcases hb' with hb' | rfl
                · exact HI.out b hb'
                · exact ⟨HNE.out.1, HNE.out.2, hb2 rfl⟩)
              clear hb1 hb2
              go_wp2_with fail
              go_round
              case rel => exact ⟨3, by omega, by go_num, HN⟩
              case measure => simp [intOf]
            · have HP := Lib.hid (show primeI (n : Int) = false from primeI_no (fun h => hb1 rfl (pass_prime h (fun hd => by have := Nat.le_of_dvd (by omega) hd; omega))))
              clear hb1 hb2
              go_wp2_with fail
              go_ret
              exact prmR_of HP.out
      · -- 7
        obtain ⟨p21, p22, p23⟩ := HI.out 2 (by simp)
        obtain ⟨p31, p32, p33⟩ := HI.out 3 (by simp)
        obtain ⟨p51, p52, p53⟩ := HI.out 5 (by simp)
        by_cases he : n = 7
        · have z1 : ((n : Int) == 7) = true := by simp [he]
          have HP := Lib.hid (show primeI (n : Int) = true from primeI_true h1 h2 (by rw [he]; exact pr_7))
          clear he p21 p22 p23 p31 p32 p33 p51 p52 p53
          go_wp2_with fail
          go_ret
          exact prmR_of HP.out
        · have z1 : ((n : Int) == 7) = false := beq_eq_false_iff_ne.2 (by omega)
          by_cases hm : n % 7 = 0
          · have z2 : ((n : Int) % 7 == 0) = true := by simp; omega
            have z3 : ((n : Int).tmod 7 == 0) = true := by rw [Int.tmod_eq_emod_of_nonneg (by omega)]; exact z2
            have HP := Lib.hid (show primeI (n : Int) = false from primeI_no (fun h => by rcases h.2 7 (Nat.dvd_of_mod_eq_zero hm) with e | e <;> omega))
            clear he hm p21 p22 p23 p31 p32 p33 p51 p52 p53
            go_wp2_with fail
            go_ret
            exact prmR_of HP.out
          · have z2 : ((n : Int) % 7 == 0) = false := beq_eq_false_iff_ne.2 (by omega)
            have z3 : ((n : Int).tmod 7 == 0) = false := beq_eq_false_iff_ne.2 (by rw [Int.tmod_eq_emod_of_nonneg (by omega)]; omega)
            have hna : 7 < n := by omega
            have HW := Lib.hid (fun w => @witness_any w 7 n (by omega) (by omega) h2 (by omega))
            have HNE := Lib.hid (And.intro he hm)
            clear he hm p21 p22 p23 p31 p32 p33 p51 p52 p53
            go_wp2_with fail
            refine (HW.out _).mono ?_
            rintro en w' ⟨b, hb1, hb2, rfl, rfl⟩
            cases b
            · have HN := Lib.hid (show ∀ b ∈ [2, 3, 5, 7].take 4, n ≠ b ∧ n % b ≠ 0 ∧ Pass b n from fun b hb => by
                have hb' : b ∈ [2, 3, 5, 7].take 3 ∨ b = 7 := by simp at hb ⊢; omega
                rcases hb' with hb' | rfl
                · exact HI.out b hb'
                · exact ⟨HNE.out.1, HNE.out.2, hb2 rfl⟩)
              clear hb1 hb2
              go_wp2_with fail
              go_round
              case rel => exact ⟨4, by omega, by go_num, HN⟩
              case measure => simp [intOf]
            · have HP := Lib.hid (show primeI (n : Int) = false from primeI_no (fun h => hb1 rfl (pass_prime h (fun hd => by have := Nat.le_of_dvd (by omega) hd; omega))))
              clear hb1 hb2
              go_wp2_with fail
              go_ret
              exact prmR_of HP.out
      · have HP := Lib.hid (show primeI (n : Int) = true from by
          obtain ⟨a1, a2, a3⟩ := HI.out 2 (by simp)
          obtain ⟨b1, b2, b3⟩ := HI.out 3 (by simp)
          obtain ⟨c1, c2, c3⟩ := HI.out 5 (by simp)
          obtain ⟨d1, d2, d3⟩ := HI.out 7 (by simp)
          exact primeI_true h1 h2 (pr_of_thru (by omega) h2 ⟨a2, b2, c2, d2, a3, b3, c3, d3⟩))
        go_wp2_with fail
        go_ret
        exact prmR_of HP.out
end Go.Proofs.YtpkjdnplmgfbbaaDoor
