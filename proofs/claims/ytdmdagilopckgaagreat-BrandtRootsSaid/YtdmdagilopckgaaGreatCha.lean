/- Package brandt: changes of sign at a fraction. -/
import Derived.Test.YtdmdagilopckgaaGreatChg
namespace Go.Proofs.YtdmdagilopckgaaGreat
open Go.RowKit

theorem sgs_at {W0 : World} {P : Nat} {L : List (List Int)} {num den : Int} (hL : ∀ p ∈ L, p.length ≤ 1000 ∧ Bd 500000000000 p) (hnum : num.natAbs ≤ 1000000000) (hden : den.natAbs ≤ 1000000000) (q0 : W0.cell? ⟨P, 0, none⟩ = some (.int .i64 num)) (q1 : W0.cell? ⟨P, 1, none⟩ = some (.int .i64 den)) :
    Sgs W0 74 #[.pointer (some ⟨P, 0, none⟩)] L (sgA' num den) := by
  intro p hp A' k' c' W hb hpl
  have h1 := changesAt1_any hpl (by rw [← hpl.len]; exact (hL p hp).1) (hL p hp).2 hnum hden (keepB hb q0) (keepB hb q1)
  exact h1
/-- The changes of sign at a fraction, laid in memory. -/
theorem chAt_any {w W0 : World} {A : Option Addr} {n c : Nat} {L : List (List Int)} {num den : Int} (h : CV w (.slice A n c) L) (hn : n ≤ 1000) (hL : ∀ p ∈ L, p.length ≤ 1000 ∧ Bd 500000000000 p) (hnum : num.natAbs ≤ 1000000000) (hden : den.natAbs ≤ 1000000000)
    (hW0 : W0 = w.alloc (.cells #[.int .i64 num, .int .i64 den] 24)) :
    Below w.heap.size w W0 ∧ Calls Tryz.prog 73 #[.slice A n c, .func (.func 74) #[] #[.pointer (some ⟨w.heap.size, 0, none⟩)]] W0 fun e w' => e = .returned (.int .i64 (chA num den L)) ∧ Below W0.heap.size W0 w' := by
  have q0 : W0.cell? ⟨w.heap.size, 0, none⟩ = some (.int .i64 num) := by rw [hW0]; go_simp
  have q1 : W0.cell? ⟨w.heap.size, 1, none⟩ = some (.int .i64 den) := by rw [hW0]; go_simp
  have hbW : Below w.heap.size w W0 := by rw [hW0]; exact below_al (Below.refl _ _) _
  have eg := enters_of Tryz.func74 (by kernel_rfl) rfl
  exact ⟨hbW, changes_any (h.below hbW) hn (sgs_at hL hnum hden q0 q1) (fun p _ => cmpI_one _ _) eg⟩

set_option maxHeartbeats 1000000 in
set_option maxRecDepth 100000 in
theorem changesAt_any {w : World} {A : Option Addr} {n c : Nat} {L : List (List Int)} {num den : Int} (h : CV w (.slice A n c) L) (hn : n ≤ 1000) (hL : ∀ p ∈ L, p.length ≤ 1000 ∧ Bd 500000000000 p) (hnum : num.natAbs ≤ 1000000000) (hden : den.natAbs ≤ 1000000000) :
    Calls Tryz.prog 34 #[.slice A n c, .agg #[.int .i64 num, .int .i64 den]] w fun e w' => e = .returned (.int .i64 (chA num den L)) ∧ Below w.heap.size w w' := by
  have HX := Lib.hid fun W0 h0 => chAt_any (W0 := W0) h hn hL hnum hden h0
  obtain ⟨hnl, hc, hr⟩ := h.room
  unfold maxLen at hr
  generalize chA num den L = r at *
  clear h hL hnum hden hn hnl
  go_enter Tryz.func34, Tryz.ntmps34
  go_wp2_with (go_at_call 73; obtain ⟨W0, hW0⟩ : ∃ W0, W0 = w.alloc (.cells #[.int .i64 num, .int .i64 den] 24) := ⟨_, rfl⟩; have hx := HX.out W0 hW0; rw [← hW0]; refine hx.2.mono ?_; have hb0 := hx.1; clear hx hW0; rintro e w1 ⟨rfl, hb1⟩)
  go_ret
  exact ⟨rfl, btr hb0 hb1⟩
end Go.Proofs.YtdmdagilopckgaaGreat
