/- Plain numbers: the numbers with a great prime, or with small ones only, fail; no square of a prime below 1000. No program in sight. -/
import Derived.Test.YtefcdclmabdmbaaGreatDoorKg
namespace Go.Proofs.YtefcdclmabdmbaaGreatDoor
set_option maxRecDepth 1000000 in
theorem tabW0 : rg wf 10 0 = true := by decide +kernel
theorem tabW {p : Nat} (h : p < 1024) : wf p = true := rg_spec 10 0 tabW0 p (Nat.zero_le _) (by omega)
set_option maxRecDepth 1000000 in
theorem tabD : dfs smalls 1 = true := by decide +kernel
set_option maxRecDepth 1000000 in
theorem tabA0 : rg (tA (pr_ 15 1)) 13 0 = true := by decide +kernel
set_option maxRecDepth 1000000 in
theorem tabA1 : rg (tA (pr_ 15 1)) 13 8192 = true := by decide +kernel
theorem tabA {i : Nat} (h : i < 16384) : tA (pr_ 15 1) i = true := by
  rcases Nat.lt_or_ge i 8192 with h1 | h1
  · exact rg_spec 13 0 tabA0 i (Nat.zero_le _) (by omega)
  · exact rg_spec 13 8192 tabA1 i h1 (by omega)
theorem smalls_pr : ∀ p ∈ smalls, Pr p := by
  have h : ∀ p ∈ smalls, 2 ≤ p ∧ p < 100 ∧ ∀ d, d < 100 → 2 ≤ d → d < p → p % d ≠ 0 := by decide +kernel
  intro p hp
  obtain ⟨h1, h2, h3⟩ := h p hp
  refine pr_of_no (r := p) h1 (fun d hd1 hd2 hd3 => h3 d (by omega) hd1 hd2 (Nat.mod_eq_zero_of_dvd hd3)) ?_
  have := Nat.mul_le_mul_right p h1
  omega
theorem smalls_all {p : Nat} (hp : Pr p) (h1 : 10 < p) (h2 : p < 101) : p ∈ smalls := by
  have h : ∀ p, p < 101 → 10 < p → p ∈ smalls ∨ p % 2 = 0 ∨ p % 3 = 0 ∨ p % 5 = 0 ∨ p % 7 = 0 := by decide +kernel
  rcases h p h2 h1 with h3 | h3 | h3 | h3 | h3
  · exact h3
  all_goals
    rcases hp.2 _ (Nat.dvd_of_mod_eq_zero h3) with e | e <;> omega
theorem smalls_up : smalls.Pairwise (· < ·) := by unfold smalls; decide
end Go.Proofs.YtefcdclmabdmbaaGreatDoor
