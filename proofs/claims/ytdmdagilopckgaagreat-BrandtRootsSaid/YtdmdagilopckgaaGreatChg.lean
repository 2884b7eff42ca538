/- Package brandt: changes of sign of a chain. -/
import Derived.Test.YtdmdagilopckgaaGreatSgn
namespace Go.Proofs.YtdmdagilopckgaaGreat
open Go.RowKit

/-- The changes of sign behind a last one, zeros left out. -/
def chc : Int → List Int → Int
  | _, [] => 0
  | last, s :: r => if s ≠ 0 then (if s = -last then 1 else 0) + chc s r else chc last r
/-- The last sign other than 0. -/
def lsg : Int → List Int → Int
  | last, [] => last
  | last, s :: r => lsg (if s ≠ 0 then s else last) r
theorem chc_snoc (last : Int) (l : List Int) (s : Int) : chc last (l ++ [s]) = chc last l + (if s ≠ 0 then (if s = -(lsg last l) then 1 else 0) else 0) := by
  induction l generalizing last with
  | nil => rw [List.nil_append, chc, chc, chc, lsg, chc]; split <;> omega
  | cons y r ih =>
    rw [List.cons_append, chc, chc, lsg]
    split
    · rename_i h
      rw [ih]; omega
    · rename_i h
      rw [ih]
theorem lsg_snoc (last : Int) (l : List Int) (s : Int) : lsg last (l ++ [s]) = if s ≠ 0 then s else lsg last l := by
  induction l generalizing last with
  | nil => rw [List.nil_append, lsg, lsg, lsg]
  | cons y r ih => rw [List.cons_append, lsg, lsg, ih]
theorem lsg_le {last : Int} {l : List Int} (h : last.natAbs ≤ 1) (hl : ∀ s ∈ l, s.natAbs ≤ 1) : (lsg last l).natAbs ≤ 1 := by
  induction l generalizing last with
  | nil => exact h
  | cons y r ih =>
    rw [lsg]
    exact ih (by split; exact hl y (List.mem_cons_self ..); exact h) fun s hs => hl s (List.mem_cons_of_mem _ hs)
theorem chc_le (last : Int) (l : List Int) : 0 ≤ chc last l ∧ chc last l ≤ l.length := by
  induction l generalizing last with
  | nil => simp [chc]
  | cons y r ih =>
    rw [chc, List.length_cons]
    split
    · have := ih y; split <;> omega
    · have := ih last; omega

/-- What the function f answers at the polynomials of a chain. -/
def Sgs (w : World) (f : FuncId) (lb : Array Value) (L : List (List Int)) (sg : List Int → Int) : Prop :=
  ∀ p, p ∈ L → ∀ (A : Option Addr) (k c : Nat) (W : World), Below w.heap.size w W → Pl NI W (fun _ => True) A k c p → Calls Tryz.prog f (#[.slice A k c] ++ lb) W fun e W' => e = .returned (.int .i64 (sg p)) ∧ Below W.heap.size W W'

set_option maxHeartbeats 4000000 in
set_option maxRecDepth 100000 in
theorem changes_any {w : World} {A : Option Addr} {n c : Nat} {L : List (List Int)} {f : FuncId} {lb : Array Value} {sg : List Int → Int} (h : CV w (.slice A n c) L) (hn : n ≤ 1000) (hf : Sgs w f lb L sg) (hsg : ∀ p ∈ L, (sg p).natAbs ≤ 1)
    (eg : ∀ args w, (callFunc f args).run Tryz.prog w = .ok (.enter f args) w) :
    Calls Tryz.prog 73 #[.slice A n c, .func (.func f) #[] lb] w fun e w' => e = .returned (.int .i64 (chc 0 (L.map sg))) ∧ Below w.heap.size w w' := by
  obtain ⟨hl, hc, hr⟩ := h.room
  unfold maxLen at hr
  have HL := Lib.hid hl
  have HF := Lib.hid hf
  have EG := Lib.hid eg
  have HS := Lib.hid hsg
  have HV := Lib.hid h
  clear hl hf eg hsg h
  go_enter Tryz.func73, Tryz.ntmps73
  go_wp2_with fail
  go_loopw [5, 6, 12] (fun nv lv iv wr => ∃ (k : Nat), k ≤ n ∧ iv = .int .i64 (k : Nat) ∧ nv = .int .i64 (chc 0 ((L.take k).map sg)) ∧ lv = .int .i64 (lsg 0 ((L.take k).map sg)) ∧ Below w.heap.size w wr) (fun _ _ iv _ => n - (intOf iv).toNat)
  case atStart => exact ⟨0, Nat.zero_le _, rfl, rfl, rfl, Below.refl _ _⟩
  case round =>
    obtain ⟨k, hk, rfl, rfl, rfl, hbr⟩ := hrel
    by_cases hlt : k < n
    · obtain ⟨p, hp⟩ : ∃ p, L[k]? = some p := ⟨_, List.getElem?_eq_getElem (by have := HL.out; omega)⟩
      obtain ⟨b, off, u, rfl, hu, hpv⟩ := (HV.out.below hbr).at hp
      obtain ⟨A1, c1, rfl, hpl, _⟩ := hpv.get
      have hmem := List.mem_of_getElem? hp
      have HC := Lib.hid (HF.out p hmem A1 _ c1 wr hbr hpl)
      have hs1 := HS.out p hmem
      have et : (L.take (k + 1)).map sg = (L.take k).map sg ++ [sg p] := by rw [List.take_add_one, hp]; simp
      have hc1 := chc_snoc 0 ((L.take k).map sg) (sg p)
      have hc2 := lsg_snoc 0 ((L.take k).map sg) (sg p)
      rw [← et] at hc1 hc2
      have hle := chc_le 0 ((L.take k).map sg)
      have hll := lsg_le (last := 0) (l := (L.take k).map sg) (by decide) (fun s hs => by
        obtain ⟨q, hq, rfl⟩ := List.mem_map.1 hs
        exact HS.out q (List.mem_of_mem_take hq))
      rw [List.length_map, List.length_take] at hle
      have HC1 := Lib.hid hc1
      have HC2 := Lib.hid hc2
      have HPR := Lib.hid hpl.room
      have HPC := Lib.hid hpl.cap
      clear hc1 hc2 et hpl hpv hp hmem
      generalize chc 0 ((L.take k).map sg) = cn at *
      generalize lsg 0 ((L.take k).map sg) = ln at *
      generalize sg p = s at *
      generalize p.length = pn at *
      have eg := EG.out
      by_cases h0 : s = 0
      · subst h0
        go_wp2_with fail
        refine HC.out.mono ?_
        rintro e w1 ⟨rfl, hb1⟩
        clear eg
        go_wp2_with fail
        go_roundw
        case rel => exact ⟨k + 1, by omega, by go_num, by rw [HC1.out]; simp, by rw [HC2.out]; simp, btr hbr hb1⟩
        case measure => simp [intOf]; omega
      · by_cases h1 : s = -ln
        · subst h1
          have h2 : ¬ ln = 0 := by omega
          go_wp2_with fail
          refine HC.out.mono ?_
          rintro e w1 ⟨rfl, hb1⟩
          clear eg
          go_wp2_with fail
          go_roundw
          case rel => exact ⟨k + 1, by omega, by go_num, by rw [HC1.out, if_pos h0]; simp, by rw [HC2.out, if_pos h0], btr hbr hb1⟩
          case measure => simp [intOf]; omega
        · go_wp2_with fail
          refine HC.out.mono ?_
          rintro e w1 ⟨rfl, hb1⟩
          clear eg
          go_wp2_with fail
          go_roundw
          case rel => exact ⟨k + 1, by omega, by go_num, by rw [HC1.out, if_pos h0, if_neg h1]; simp, by rw [HC2.out, if_pos h0], btr hbr hb1⟩
          case measure => simp [intOf]; omega
    · obtain rfl : k = n := by omega
      rw [List.take_of_length_le (by have := HL.out; omega)]
      go_wp2_with fail
      go_ret
      exact ⟨rfl, hbr⟩

/-- The sign at a fraction. -/
def sgA' (num den : Int) (p : List Int) : Int := cmpI (hv num den p) 0
/-- The signs at the ends. -/
def sgH (p : List Int) : Int := cmpI (ld p) 0
def sgLo (p : List Int) : Int := if p.length % 2 = 0 then -(sgH p) else sgH p
theorem cmpI_one (x y : Int) : (cmpI x y).natAbs ≤ 1 := by unfold cmpI; split <;> (try split) <;> decide
theorem sgLo_one (p : List Int) : (sgLo p).natAbs ≤ 1 := by
  unfold sgLo
  split
  · rw [Int.natAbs_neg]; exact cmpI_one _ _
  · exact cmpI_one _ _
/-- The changes of sign at a fraction. -/
def chA (num den : Int) (L : List (List Int)) : Int := chc 0 (L.map (sgA' num den))
/-- The number of all real roots. -/
def allR (L : List (List Int)) : Int := chc 0 (L.map sgLo) - chc 0 (L.map sgH)

set_option maxHeartbeats 2000000 in
set_option maxRecDepth 100000 in
theorem changesAt1_any {w : World} {A : Option Addr} {k c P : Nat} {p : List Int} {num den : Int} (h : Pl NI w (fun _ => True) A k c p) (hn : k ≤ 1000) (hB : Bd 500000000000 p) (hnum : num.natAbs ≤ 1000000000) (hden : den.natAbs ≤ 1000000000) (p0 : w.cell? ⟨P, 0, none⟩ = some (.int .i64 num)) (p1 : w.cell? ⟨P, 1, none⟩ = some (.int .i64 den)) :
    Calls Tryz.prog 74 #[.slice A k c, .pointer (some ⟨P, 0, none⟩)] w fun e w' => e = .returned (.int .i64 (sgA' num den p)) ∧ Below w.heap.size w w' := by
  have HS := Lib.hid (sign_any h hn hB (Nat.le_refl _) hnum hden)
  have hr := h.room
  unfold maxLen at hr
  have hc := h.cap
  clear h hB
  go_enter Tryz.func74, Tryz.ntmps74
  go_wp2_with (go_at_call 36; go_must (refine HS.out.mono ?_); rintro e w1 ⟨rfl, hb1⟩)
  go_ret
  exact ⟨rfl, hb1⟩

set_option maxHeartbeats 2000000 in
set_option maxRecDepth 100000 in
theorem roots1_any {w : World} {A : Option Addr} {k c : Nat} {p : List Int} (h : Pl NI w (fun _ => True) A k c p) (hk : 0 < k) (hB : Bd 500000000000 p) :
    Calls Tryz.prog 81 #[.slice A k c] w fun e w' => e = .returned (.int .i64 (sgH p)) ∧ Below w.heap.size w w' := by
  have HB := Lib.hid (hB _ (ld_mem (by rw [h.len]; exact hk)))
  have HL := Lib.hid (lead_any h hk)
  have hr := h.room
  unfold maxLen at hr
  have hc := h.cap
  clear h hB
  go_enter Tryz.func81, Tryz.ntmps81
  go_wp2_with (first
    | (go_at_call 82; go_must (refine HL.out.mono ?_); rintro e w1 ⟨v1, rfl, hv1, hb1⟩)
    | (go_at_call 80; go_must (refine (Sign_any hv1.int (Nat.le_trans HB.out (by omega))).mono ?_); rintro e w2 ⟨rfl, hb2⟩))
  go_ret
  exact ⟨rfl, btr hb1 hb2⟩

set_option maxHeartbeats 2000000 in
set_option maxRecDepth 100000 in
theorem roots2_any {w : World} {A : Option Addr} {k c : Nat} {p : List Int} (h : Pl NI w (fun _ => True) A k c p) (hk : 0 < k) (hB : Bd 500000000000 p) :
    Calls Tryz.prog 83 #[.slice A k c] w fun e w' => e = .returned (.int .i64 (sgLo p)) ∧ Below w.heap.size w w' := by
  have HB := Lib.hid (hB _ (ld_mem (by rw [h.len]; exact hk)))
  have HL := Lib.hid (lead_any h hk)
  have hlen := h.len
  have hr := h.room
  unfold maxLen at hr
  have hc := h.cap
  have hone := cmpI_one (ld p) 0
  have HLN := Lib.hid hlen
  clear h hB hlen
  by_cases h2 : k % 2 = 0
  · have HE := Lib.hid (show sgLo p = -(cmpI (ld p) 0) by unfold sgLo; rw [if_pos (by rw [HLN.out]; exact h2)]; rfl)
    have z1 : (k : Int).tmod 2 = 0 := by rw [Int.tmod_eq_emod_of_nonneg (by omega)]; omega
    go_enter Tryz.func83, Tryz.ntmps83
    go_wp2_with (first
      | (go_at_call 82; go_must (refine HL.out.mono ?_); rintro e w1 ⟨v1, rfl, hv1, hb1⟩)
      | (go_at_call 80; go_must (refine (Sign_any hv1.int (Nat.le_trans HB.out (by omega))).mono ?_); rintro e w2 ⟨rfl, hb2⟩))
    go_ret
    exact ⟨by rw [HE.out]; rfl, btr hb1 hb2⟩
  · have HE := Lib.hid (show sgLo p = cmpI (ld p) 0 by unfold sgLo; rw [if_neg (by rw [HLN.out]; exact h2)]; rfl)
    have z1 : ¬ (k : Int).tmod 2 = 0 := by rw [Int.tmod_eq_emod_of_nonneg (by omega)]; omega
    go_enter Tryz.func83, Tryz.ntmps83
    go_wp2_with (first
      | (go_at_call 82; go_must (refine HL.out.mono ?_); rintro e w1 ⟨v1, rfl, hv1, hb1⟩)
      | (go_at_call 80; go_must (refine (Sign_any hv1.int (Nat.le_trans HB.out (by omega))).mono ?_); rintro e w2 ⟨rfl, hb2⟩))
    go_ret
    exact ⟨by rw [HE.out]; rfl, btr hb1 hb2⟩

set_option maxHeartbeats 2000000 in
set_option maxRecDepth 100000 in
theorem roots_any {w : World} {A : Option Addr} {n c : Nat} {L : List (List Int)} (h : CV w (.slice A n c) L) (hn : n ≤ 1000) (hL : ∀ p ∈ L, p ≠ [] ∧ Bd 500000000000 p) :
    Calls Tryz.prog 37 #[.slice A n c] w fun e w' => e = .returned (.int .i64 (allR L)) ∧ Below w.heap.size w w' := by
  have eg1 := enters_of Tryz.func81 (by kernel_rfl) rfl
  have eg2 := enters_of Tryz.func83 (by kernel_rfl) rfl
  have H1 := Lib.hid (fun w' (hb : Below w.heap.size w w') => changes_any (f := 81) (lb := #[]) (sg := sgH) (h.below hb) hn (fun p hp A' k' c' W hb hpl => by
    have h1 := roots1_any hpl (by rw [← hpl.len]; exact List.length_pos_iff.2 (hL p hp).1) (hL p hp).2
    simpa using h1) (fun p _ => cmpI_one _ _) eg1)
  have H2 := Lib.hid (fun w' (hb : Below w.heap.size w w') => changes_any (f := 83) (lb := #[]) (sg := sgLo) (h.below hb) hn (fun p hp A' k' c' W hb hpl => by
    have h1 := roots2_any hpl (by rw [← hpl.len]; exact List.length_pos_iff.2 (hL p hp).1) (hL p hp).2
    simpa using h1) (fun p _ => sgLo_one _) eg2)
  obtain ⟨hl, hc, hr⟩ := h.room
  unfold maxLen at hr
  have hc1 := chc_le 0 (L.map sgH)
  have hc2 := chc_le 0 (L.map sgLo)
  rw [List.length_map, ← hl] at hc1 hc2
  clear hl
  have HE := Lib.hid (show allR L = chc 0 (L.map sgLo) - chc 0 (L.map sgH) from rfl)
  generalize chc 0 (L.map sgH) = x1 at *
  generalize chc 0 (L.map sgLo) = x2 at *
  clear h hL eg1 eg2
  go_enter Tryz.func37, Tryz.ntmps37
  go_wp2_with (first
    | (go_at_call 73; (with_reducible refine (H1.out _ (Below.refl _ _)).mono ?_); rintro e w1 ⟨rfl, hb1⟩)
    | (go_at_call 73; (refine (H2.out _ hb1).mono ?_); rintro e w2 ⟨rfl, hb2⟩))
  go_ret
  exact ⟨by rw [HE.out]; rfl, btr hb1 hb2⟩
end Go.Proofs.YtdmdagilopckgaaGreat
