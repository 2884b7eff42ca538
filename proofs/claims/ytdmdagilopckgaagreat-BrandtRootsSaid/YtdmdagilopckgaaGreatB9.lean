/- The reference's polynomials: changes, Less. The reference's polynomials: at, All, Between. -/
import Derived.Test.YtdmdagilopckgaaGreatMxb
import Derived.Test.YtdmdagilopckgaaGreatChg
import Derived.Test.YtdmdagilopckgaaGreatB4
import Derived.IntWalk
import Derived.Test.YtdmdagilopckgaaGreatRfj
import Derived.Test.YtdmdagilopckgaaGreatRfi
namespace Go.Proofs.YtdmdagilopckgaaGreat
open Go.RowKit

/-- An int. -/
def Iv (_ : World) (_ : Nat → Prop) (v : Value) (x : Int) : Prop := v = .int .i64 x
instance : Foot Iv where
  keep := fun h _ => h
  mono := fun h _ => h
  one := fun h => by rw [show _ = _ from h]; rfl

theorem lsg_one {l : List Int} (h : ∀ x ∈ l, x.natAbs ≤ 1) : ∀ {last : Int}, last.natAbs ≤ 1 → (lsg last l).natAbs ≤ 1 := by
  induction l with
  | nil => exact fun h => h
  | cons y r ih =>
    intro last hl
    rw [lsg]
    refine ih (fun x hx => h x (List.mem_cons_of_mem _ hx)) ?_
    split
    · exact h y (List.mem_cons_self ..)
    · exact hl
theorem chc_bd (l : List Int) : ∀ last : Int, 0 ≤ chc last l ∧ chc last l ≤ l.length := by
  induction l with
  | nil => intro last; simp [chc]
  | cons y r ih =>
    intro last
    rw [chc, List.length_cons]
    split
    · have := ih y
      split <;> omega
    · have := ih last
      omega

set_option maxRecDepth 100000 in
set_option maxHeartbeats 4000000 in
theorem qChanges_any {A : Option Addr} {n c : Nat} {L : List Int} {w : World} (h : RowsD Iv w (fun _ => True) (.slice A n c) L) (hn : n ≤ 1000) (hs : ∀ x ∈ L, x.natAbs ≤ 1) :
    Calls Tryz.prog 42 #[.slice A n c] w fun e w' => e = .returned (.int .i64 (chc 0 L)) ∧ w = w' := by
  have hr := h.room
  unfold maxLen at hr
  obtain ⟨hl, hc, hm⟩ := hr
  have HL := Lib.hid hl
  have HS := Lib.hid hs
  have HH := Lib.hid h
  clear h hs hl
  go_enter Tryz.func42, Tryz.ntmps42
  go_wp2_with fail
  go_loopw [3, 4, 5] (fun nv lv iv wr => ∃ k : Nat, iv = .int .i64 k ∧ k ≤ n ∧ lv = .int .i64 (lsg 0 (L.take k)) ∧ nv = .int .i64 (chc 0 (L.take k)) ∧ w = wr) (fun _ _ iv _ => n - (intOf iv).toNat)
  case atStart => exact ⟨0, rfl, by omega, rfl, rfl, rfl⟩
  case round =>
    obtain ⟨k, rfl, hk, rfl, rfl, rfl⟩ := hrel
    rcases Nat.lt_or_ge k n with hkn | hkn
    · obtain ⟨s, hsk⟩ : ∃ s, L[k]? = some s := ⟨_, List.getElem?_eq_getElem (by rw [← HL.out]; exact hkn)⟩
      obtain ⟨b, off, u, rfl, hu, hw⟩ := HH.out.at hsk
      obtain rfl : u = .int .i64 s := hw
      have HT := Lib.hid (show L.take (k + 1) = L.take k ++ [s] by rw [List.take_add_one, hsk]; rfl)
      have hs1 := HS.out s (List.mem_of_getElem? hsk)
      have hl1 := lsg_one (l := L.take k) (fun x hx => HS.out x (List.mem_of_mem_take hx)) (last := 0) (by decide)
      obtain ⟨hb1, hb2⟩ := chc_bd (L.take k) 0
      have hb3 : (L.take k).length ≤ k := by rw [List.length_take]; omega
      have HN1 := Lib.hid (lsg_snoc 0 (L.take k) s)
      have HN2 := Lib.hid (chc_snoc 0 (L.take k) s)
      rw [← HT.out] at HN1 HN2
      clear hsk HT
      generalize lsg 0 (L.take k) = last at *
      generalize chc 0 (L.take k) = cn at *
      by_cases h0 : s = 0
      · have z1 : (s != 0) = false := by simpa using h0
        have E1 := Lib.hid (show lsg 0 (L.take (k + 1)) = last by rw [HN1.out, if_neg (by simpa using h0)])
        have E2 := Lib.hid (show chc 0 (L.take (k + 1)) = cn by rw [HN2.out, if_neg (by simpa using h0)]; omega)
        clear h0 HN1 HN2
        go_wp2_with fail
        go_roundw
        case rel => exact ⟨k + 1, by go_num, by omega, by rw [E1.out], by rw [E2.out], trivial⟩
        case measure => simp [intOf]; omega
      · have z1 : (s != 0) = true := by simpa using h0
        have E1 := Lib.hid (show lsg 0 (L.take (k + 1)) = s by rw [HN1.out, if_pos h0])
        by_cases h2 : last = 0
        · have z2 : (last != 0) = false := by simpa using h2
          have E2 := Lib.hid (show chc 0 (L.take (k + 1)) = cn by rw [HN2.out, if_pos h0, if_neg (by omega)]; omega)
          clear h0 h2 HN1 HN2
          go_wp2_with fail
          go_roundw
          case rel => exact ⟨k + 1, by go_num, by omega, by rw [E1.out], by rw [E2.out], trivial⟩
          case measure => simp [intOf]; omega
        · have z2 : (last != 0) = true := by simpa using h2
          by_cases h3 : last = s
          · have z3 : (last != s) = false := by simpa using h3
            have E2 := Lib.hid (show chc 0 (L.take (k + 1)) = cn by rw [HN2.out, if_pos h0, if_neg (by omega)]; omega)
            clear h0 h2 h3 HN1 HN2
            go_wp2_with fail
            go_roundw
            case rel => exact ⟨k + 1, by go_num, by omega, by rw [E1.out], by rw [E2.out], trivial⟩
            case measure => simp [intOf]; omega
          · have z3 : (last != s) = true := by simpa using h3
            have E2 := Lib.hid (show chc 0 (L.take (k + 1)) = cn + 1 by rw [HN2.out, if_pos h0, if_pos (by omega)])
            clear h0 h2 h3 HN1 HN2
            go_wp2_with fail
            go_roundw
            case rel => exact ⟨k + 1, by go_num, by omega, by rw [E1.out], by rw [E2.out], trivial⟩
            case measure => simp [intOf]; omega
    · obtain rfl : k = n := by omega
      have HT := Lib.hid (List.take_of_length_le (Nat.le_of_eq HL.out.symm))
      rw [HT.out]
      go_wp2_with fail
      go_ret
      exact ⟨rfl, rfl⟩

theorem qLess_any {a b c d : Int} {w : World} (ha : a.natAbs ≤ 1000000000) (hb : b.natAbs ≤ 1000000000) (hc : c.natAbs ≤ 1000000000) (hd : d.natAbs ≤ 1000000000) :
    Calls Tryz.prog 13 #[.agg #[.int .i64 a, .int .i64 b], .agg #[.int .i64 c, .int .i64 d]] w fun e w' => e = .returned (.bool (decide (a * d < c * b))) ∧ Below w.heap.size w w' := by
  obtain ⟨h1, h2⟩ := mul_in ha hd
  obtain ⟨h3, h4⟩ := mul_in hc hb
  have w1 : IntKind.i64.wrap (a * d) = a * d := IntWalk.i64_in _ (by omega)
  have w2 : IntKind.i64.wrap (c * b) = c * b := IntWalk.i64_in _ (by omega)
  go_enter Tryz.func13, Tryz.ntmps13
  go_wp2_with fail
  go_ret
  exact ⟨rfl, below_al (below_al (Below.refl _ _) _) _⟩
end Go.Proofs.YtdmdagilopckgaaGreat

namespace Go.Proofs.YtdmdagilopckgaaGreat
open Go.RowKit

theorem cv_roomQ {w : World} {A : Option Addr} {n c : Nat} {L : List (List Int)} (h : CV w (.slice A n c) L) : n ≤ c ∧ c ≤ 9223372036854775807 := by
  have := h.room
  unfold maxLen at this
  omega
theorem info_intK : (Tryz.prog.info? 3).map (fun i => (i.zero, i.size, i.bytes)) = some (some (.int .i64 0), 1, 8) := by kernel_rfl

set_option maxRecDepth 100000 in
set_option maxHeartbeats 4000000 in
theorem qAt_any {w : World} {A : Option Addr} {n c : Nat} {L : List (List Int)} {num den : Int} (h : CV w (.slice A n c) L) (hn : n ≤ 1000) (hL : ∀ p ∈ L, p.length ≤ 12 ∧ Bd 400000000000 p) (hnum : num.natAbs ≤ 1000000000) (hden : den.natAbs ≤ 1000000000) :
    Calls Tryz.prog 43 #[.slice A n c, .agg #[.int .i64 num, .int .i64 den]] w (Gives w fun w' v => RowsD Iv w' (fun _ => True) v (L.map (sgA' num den))) := by
  have hr := h.room
  unfold maxLen at hr
  obtain ⟨hl, hc, hm⟩ := hr
  have HN := Lib.hid hl
  have HL := Lib.hid hL
  obtain ⟨W0, hW0⟩ : ∃ W0, W0 = w.alloc (.cells #[.int .i64 num, .int .i64 den] 24) := ⟨_, rfl⟩
  have hbW : Below w.heap.size w W0 := by rw [hW0]; exact below_al (Below.refl _ _) _
  have q0 := Lib.hid (show W0.cell? ⟨w.heap.size, 0, none⟩ = some (.int .i64 num) by rw [hW0]; go_simp)
  have q1 := Lib.hid (show W0.cell? ⟨w.heap.size, 1, none⟩ = some (.int .i64 den) by rw [hW0]; go_simp)
  have HH := Lib.hid (h.below hbW)
  have HW := Lib.hid hW0
  clear h hW0 hL hl
  go_enter Tryz.func43, Tryz.ntmps43
  go_wp2_with fail
  rw [← HW.out]
  obtain ⟨F, hF⟩ : ∃ F, F = w.heap.size := ⟨_, rfl⟩
  have HF := Lib.hid hF
  rw [← hF] at q0 q1 ⊢
  clear hF HW
  go_loopw [5, 6] (fun ov iv wr => ∃ k : Nat, iv = .int .i64 k ∧ k ≤ n ∧ OwnK Iv 3 wr W0.heap.size ov ((L.take k).map (sgA' num den)) ∧ Below W0.heap.size W0 wr) (fun _ iv _ => n - (intOf iv).toNat)
  case atStart => exact ⟨0, rfl, by omega, OwnK.nil _ _, Below.refl _ _⟩
  case round =>
    obtain ⟨k, rfl, hk, hown, hbr⟩ := hrel
    have hlen : ((L.take k).map (sgA' num den)).length = k := by rw [List.length_map, List.length_take]; have := HN.out; omega
    obtain ⟨Ao, co, rfl, ho1, ho2⟩ := hown.slice_ hlen
    unfold maxLen at ho2
    rcases Nat.lt_or_ge k n with hkn | hkn
    · obtain ⟨p, hp⟩ : ∃ p, L[k]? = some p := ⟨_, List.getElem?_eq_getElem (by rw [← HN.out]; exact hkn)⟩
      obtain ⟨b, off, u, rfl, hu, hpv⟩ := (HH.out.below hbr).at hp
      obtain ⟨Ap, cp, rfl⟩ := hpv.slice_
      have hpb := HL.out p (List.mem_of_getElem? hp)
      have HT := Lib.hid (show (L.take (k + 1)).map (sgA' num den) = (L.take k).map (sgA' num den) ++ [sgA' num den p] by rw [List.take_add_one, hp]; simp)
      have HPI := Lib.hid (hpv.ib hpb.2 (by omega))
      have HV := Lib.hid (fun w1 (hb : Below wr.heap.size wr w1) => qValue_any (num := num) (den := den) (HPI.out.below hb) (by omega) hpb.2 (by omega) hnum hden)
      have HLN := Lib.hid hlen
      have HO := Lib.hid hown
      have x0 := keepB hbr q0.out
      have x1 := keepB hbr q1.out
      have X0 := Lib.hid x0
      have X1 := Lib.hid x1
      have XU := Lib.hid hu
      have hS0 : Below wr.heap.size wr wr.drew := (Below.refl _ _).drew
      have hki : (k : Int) < (n : Int) := by omega
      have hk0 : (0 : Int) ≤ (k : Int) := by omega
      clear hp hpv hlen hown
      generalize sgA' num den p = y at *
      clear hu x0 x1
      go_wp2_with fail
      rename_i K1 hK
      refine wp_region_tr5 (.read 0 (.read 1 (.read 2 (.read 3 (.read 4 (.read 5 (.step 6 (.step 7 (.step 8 (.step 9 .nil)))))))))) [8, 9] (by kernel_rfl) (by rfl) (by kernel_rfl) (by kernel_rfl) (fun _ _ _ _ _ h => h) (fun W' => Below wr.heap.size wr W') ?_
      change goU _ _ _ _ _ _ _ wr.drew
      refine goU_read 13 hS0 (by rfl) (by rfl) ?_ (by rfl) (fun wz hSw => ?_) ?_
      rotate_left
      · go_simp
        try with_reducible rfl
      simp only [List.setIfInBounds_toArray, List.set]
      refine goU_read 14 hS0 (by rfl) (by rfl) ?_ (by rfl) (fun wz hSw => ?_) ?_
      rotate_left
      · go_simp
        try with_reducible rfl
      simp only [List.setIfInBounds_toArray, List.set]
      refine goU_read 15 hS0 (by rfl) (by rfl) ?_ (by rfl) (fun wz hSw => ?_) ?_
      rotate_left
      · go_simp
        try with_reducible rfl
      simp only [List.setIfInBounds_toArray, List.set]
      refine goU_read 16 hS0 (by rfl) (by rfl) ?_ (by rfl) (fun wz hSw => ?_) ?_
      rotate_left
      · go_simp
        try with_reducible rfl
      simp only [List.setIfInBounds_toArray, List.set]
      refine goU_read 17 hS0 (by rfl) (by rfl) ?_ (by rfl) (fun wz hSw => ?_) ?_
      rotate_left
      · (have y0 := keepB hSw XU.out); go_simp
        try with_reducible rfl
      simp only [List.setIfInBounds_toArray, List.set]
      refine goU_read 18 hS0 (by rfl) (by rfl) ?_ (by rfl) (fun wz hSw => ?_) ?_
      rotate_left
      · (have y0 := keepB hSw X0.out); (have y1 := keepB hSw X1.out); go_simp
        try with_reducible rfl
      simp only [List.setIfInBounds_toArray, List.set]
      refine goU_step (by rfl) ?_
      go_wp2_with (go_at_call 26; go_must (refine (HV.out _ hS0).mono ?_); rintro e w1 ⟨rfl, hb1⟩)
      have hS1 := btr hS0 hb1
      refine ⟨fun _ => hS1, ?_⟩
      refine goU_step (by rfl) ?_
      go_wp2_with fail
      refine ⟨fun _ => below_al hS1 _, ?_⟩
      refine goU_step (by rfl) ?_
      refine wpList_pushK _ (by rfl) _ _ _ _ (.int .i64 0) 8 (by rfl) Tryz.underlying84 Tryz.underlying84 info_intK (by rfl) (by omega) W0.heap.size (.slice Ao k co) ((L.take k).map (sgA' num den)) k HLN.out (by rfl) (HO.out.below hS1) (.int .i64 y) y rfl (by rfl) (by omega) (Nat.le_trans hbr.size hS1.size) ?_
      intro A7 c7 w7 hown7 hgr7 hnw7 hb7
      refine ⟨(fun h => by cases h), ?_⟩
      refine goU_step (by rfl) ?_
      go_wp2_with fail
      refine ⟨(fun h => by cases h), ?_⟩
      change K1 _ _
      refine hK _ _ ?_
      go_wp2_with fail
      go_roundw
      case rel => exact ⟨k + 1, by go_num, by omega, by rw [HT.out]; exact hown7, (hbr.trans (hS1.mono hbr.size)).trans hb7⟩
      case measure => simp [intOf]; omega
    · obtain rfl : n = k := by omega
      have HT := Lib.hid (show L.take n = L from List.take_of_length_le (Nat.le_of_eq HN.out.symm))
      go_wp2_with fail
      go_ret
      rw [HT.out] at hown
      exact ⟨_, rfl, hown.rows, btr hbW hbr⟩

theorem sgs_one (num den : Int) (C : List (List Int)) : ∀ x ∈ C.map (sgA' num den), x.natAbs ≤ 1 := fun x hx => by
  obtain ⟨p, _, rfl⟩ := List.mem_map.1 hx
  exact cmpI_one _ _

set_option maxRecDepth 100000 in
set_option maxHeartbeats 4000000 in
theorem qBetween_any {A : Option Addr} {n c : Nat} {l : List Int} {a b x y : Int} {w : World} (h : Pl IntB w (fun _ => True) A n c l) (hn : n ≤ 1000) (g : GoodP (tz l)) (ha : a.natAbs ≤ 1000000000) (hb : b.natAbs ≤ 1000000000) (hx : x.natAbs ≤ 1000000000) (hy : y.natAbs ≤ 1000000000) :
    Calls Tryz.prog 14 #[.slice A n c, .agg #[.int .i64 a, .int .i64 b], .agg #[.int .i64 x, .int .i64 y]] w fun e w' => e = .returned (.int .i64 (chA a b (ch (tz l)) - chA x y (ch (tz l)))) ∧ Below w.heap.size w w' := by
  have hm := h.room
  unfold maxLen at hm
  have hc := h.cap
  obtain ⟨W0, hW0⟩ : ∃ W0, W0 = (w.alloc (.cells #[.int .i64 a, .int .i64 b] 24)).alloc (.cells #[.int .i64 x, .int .i64 y] 24) := ⟨_, rfl⟩
  have hbW : Below w.heap.size w W0 := by rw [hW0]; exact below_al (below_al (Below.refl _ _) _) _
  have q0 := Lib.hid (show W0.cell? ⟨w.heap.size, 0, none⟩ = some (.int .i64 a) by rw [hW0]; go_simp)
  have q1 := Lib.hid (show W0.cell? ⟨w.heap.size, 1, none⟩ = some (.int .i64 b) by rw [hW0]; go_simp)
  have q2 := Lib.hid (show W0.cell? ⟨w.heap.size + 1, 0, none⟩ = some (.int .i64 x) by rw [hW0]; go_simp)
  have q3 := Lib.hid (show W0.cell? ⟨w.heap.size + 1, 1, none⟩ = some (.int .i64 y) by rw [hW0]; go_simp)
  have HW := Lib.hid hW0
  have HST := Lib.hid (qSturm_any (h.below hbW) hn g)
  have HCB := Lib.hid g.chb
  have hcl : (ch (tz l)).length ≤ 12 := g.chl
  have e1 := chA_le a b g
  have e2 := chA_le x y g
  have HC1 := Lib.hid (sgs_one a b (ch (tz l)))
  have HC2 := Lib.hid (sgs_one x y (ch (tz l)))
  have hl1 : ((ch (tz l)).map (sgA' a b)).length ≤ 1000 := by rw [List.length_map]; omega
  have hl2 : ((ch (tz l)).map (sgA' x y)).length ≤ 1000 := by rw [List.length_map]; omega
  have HE1 := Lib.hid (fun (w' : World) (A' : Option Addr) (n' c' : Nat) (hr : RowsD Iv w' (fun _ => True) (.slice A' n' c') ((ch (tz l)).map (sgA' a b))) => show Calls Tryz.prog 42 #[.slice A' n' c'] w' (fun e w'' => e = .returned (.int .i64 (chA a b (ch (tz l)))) ∧ w' = w'') from qChanges_any hr (by have := hr.room.1; omega) HC1.out)
  have HE2 := Lib.hid (fun (w' : World) (A' : Option Addr) (n' c' : Nat) (hr : RowsD Iv w' (fun _ => True) (.slice A' n' c') ((ch (tz l)).map (sgA' x y))) => show Calls Tryz.prog 42 #[.slice A' n' c'] w' (fun e w'' => e = .returned (.int .i64 (chA x y (ch (tz l)))) ∧ w' = w'') from qChanges_any hr (by have := hr.room.1; omega) HC2.out)
  have HCB : Hid (∀ p ∈ ch (tz l), p.length ≤ 12 ∧ Bd 400000000000 p) := HCB
  clear h hW0 g hl1 hl2 HC1 HC2
  generalize chA a b (ch (tz l)) = u1 at *
  generalize chA x y (ch (tz l)) = u2 at *
  generalize ch (tz l) = C at *
  have hwu : IntKind.i64.wrap (u1 - u2) = u1 - u2 := IntWalk.i64_in _ (by omega)
  go_enter Tryz.func14, Tryz.ntmps14
  go_wp2_with fail
  rw [← HW.out]
  clear HW
  go_wp2_with (go_at_call 23; go_must (refine HST.out.mono ?_); rintro e w1 ⟨v1, rfl, r1, hb1⟩; obtain ⟨A1, c1, rfl⟩ := r1.slice; have hr1 := cv_roomQ r1)
  have R1 := Lib.hid r1
  have hS0 : Below w1.heap.size w1 w1.drew := (Below.refl _ _).drew
  have X0 := Lib.hid (keepB hb1 q0.out)
  have X1 := Lib.hid (keepB hb1 q1.out)
  have X2 := Lib.hid (keepB hb1 q2.out)
  have X3 := Lib.hid (keepB hb1 q3.out)
  clear r1 HST q0 q1 q2 q3
  rename_i K1 hK
  refine wp_region_tr5 (.read 0 (.read 1 (.read 4 (.read 5 (.step 2 (.step 3 (.step 6 (.step 7 (.step 8 (.step 9 .nil)))))))))) [] (by kernel_rfl) (by rfl) (by kernel_rfl) (by kernel_rfl) (fun _ _ _ _ _ h => h) (fun W' => Below w1.heap.size w1 W') ?_
  change goU _ _ _ _ _ _ _ w1.drew
  refine goU_read 10 hS0 (by rfl) (by rfl) ?_ (by rfl) (fun wz hSw => ?_) ?_
  rotate_left
  · go_simp
    try with_reducible rfl
  simp only [List.setIfInBounds_toArray, List.set]
  refine goU_read 11 hS0 (by rfl) (by rfl) ?_ (by rfl) (fun wz hSw => ?_) ?_
  rotate_left
  · (have y0 := keepB hSw X0.out); (have y1 := keepB hSw X1.out); go_simp
    try with_reducible rfl
  simp only [List.setIfInBounds_toArray, List.set]
  refine goU_read 14 hS0 (by rfl) (by rfl) ?_ (by rfl) (fun wz hSw => ?_) ?_
  rotate_left
  · go_simp
    try with_reducible rfl
  simp only [List.setIfInBounds_toArray, List.set]
  refine goU_read 15 hS0 (by rfl) (by rfl) ?_ (by rfl) (fun wz hSw => ?_) ?_
  rotate_left
  · (have y0 := keepB hSw X2.out); (have y1 := keepB hSw X3.out); go_simp
    try with_reducible rfl
  simp only [List.setIfInBounds_toArray, List.set]
  refine goU_step (by rfl) ?_
  go_wp2_with (go_at_call 43; go_must (refine (qAt_any (R1.out.below hS0) (by omega) HCB.out ha hb).mono ?_); rintro e w2 ⟨v2, rfl, r2, hb2⟩; obtain ⟨A2, c2, rfl⟩ := r2.slice_ (n := C.length) (by rw [List.length_map]))
  have hS1 := btr hS0 hb2
  refine ⟨fun _ => hS1, ?_⟩
  refine goU_step (by rfl) ?_
  go_wp2_with (go_at_call 42; go_must (refine (HE1.out _ _ _ _ r2).mono ?_); rintro e w3 ⟨rfl, rfl⟩)
  refine ⟨fun _ => hS1, ?_⟩
  refine goU_step (by rfl) ?_
  go_wp2_with (go_at_call 43; go_must (refine (qAt_any (R1.out.below hS1) (by omega) HCB.out hx hy).mono ?_); rintro e w4 ⟨v4, rfl, r4, hb4⟩; obtain ⟨A4, c4, rfl⟩ := r4.slice_ (n := C.length) (by rw [List.length_map]))
  have hS2 := btr hS1 hb4
  refine ⟨fun _ => hS2, ?_⟩
  refine goU_step (by rfl) ?_
  go_wp2_with (go_at_call 42; go_must (refine (HE2.out _ _ _ _ r4).mono ?_); rintro e w5 ⟨rfl, rfl⟩)
  refine ⟨fun _ => hS2, ?_⟩
  refine goU_step (by rfl) ?_
  go_wp2_with fail
  refine ⟨fun _ => hS2, ?_⟩
  refine goU_step (by rfl) ?_
  go_wp2_with fail
  refine ⟨fun _ => hS2, ?_⟩
  change K1 _ _
  refine hK _ _ ?_
  go_wp2_with fail
  go_ret
  exact ⟨rfl, btr (btr hbW hb1) hS2⟩

theorem OwnK.keepI {w w' : World} {T : TypeId} {base : Nat} {v : Value} {L : List Int} {row : Option Nat} (h : OwnK Iv T w base v L) (hg : w.grownBy w' row) (hne : ∀ b, v.ownBlock = some b → some b ≠ row) : OwnK Iv T w' base v L := by
  obtain ⟨vs, h1, h2, h3⟩ := h
  exact ⟨vs, World.ownsRow.kept h1 hg (by cases hv : v.ownBlock with | none => exact .inl rfl | some b => exact .inr (hne b hv)), h2, h3⟩
theorem OwnK.ltI {w : World} {T : TypeId} {base : Nat} {v : Value} {L : List Int} (h : OwnK Iv T w base v L) : ∀ b, v.ownBlock = some b → b < w.heap.size := fun b hb => by
  obtain ⟨vs, h1, _⟩ := h
  exact (h1.lt b hb).2
theorem sgLo_all (C : List (List Int)) : ∀ x ∈ C.map sgLo, x.natAbs ≤ 1 := fun x hx => by
  obtain ⟨p, _, rfl⟩ := List.mem_map.1 hx
  exact sgLo_one p
theorem sgH_all (C : List (List Int)) : ∀ x ∈ C.map sgH, x.natAbs ≤ 1 := fun x hx => by
  obtain ⟨p, _, rfl⟩ := List.mem_map.1 hx
  exact cmpI_one _ _

set_option maxRecDepth 100000 in
set_option maxHeartbeats 4000000 in
theorem qAll_any {A : Option Addr} {n c : Nat} {l : List Int} {w : World} (h : Pl IntB w (fun _ => True) A n c l) (hn : n ≤ 1000) (g : GoodP (tz l)) :
    Calls Tryz.prog 44 #[.slice A n c] w fun e w' => e = .returned (.int .i64 (allR (ch (tz l)))) ∧ Below w.heap.size w w' := by
  have hm := h.room
  unfold maxLen at hm
  have hc := h.cap
  have HST := Lib.hid (qSturm_any h hn g)
  have HCB := Lib.hid g.chb
  have HNE := Lib.hid g.ne
  have hcl : (ch (tz l)).length ≤ 12 := g.chl
  have HCB : Hid (∀ p ∈ ch (tz l), p.length ≤ 12 ∧ Bd 400000000000 p) := HCB
  have HNE : Hid (∀ p ∈ ch (tz l), p ≠ []) := HNE
  clear h g
  generalize ch (tz l) = C at *
  have HC1 := Lib.hid (sgLo_all C)
  have HC2 := Lib.hid (sgH_all C)
  have HE1 := Lib.hid (fun (w' : World) (A' : Option Addr) (n' c' : Nat) (hr : RowsD Iv w' (fun _ => True) (.slice A' n' c') (C.map sgLo)) => show Calls Tryz.prog 42 #[.slice A' n' c'] w' (fun e w'' => e = .returned (.int .i64 (chc 0 (C.map sgLo))) ∧ w' = w'') from qChanges_any hr (by have := hr.room.1; rw [List.length_map] at this; omega) HC1.out)
  have HE2 := Lib.hid (fun (w' : World) (A' : Option Addr) (n' c' : Nat) (hr : RowsD Iv w' (fun _ => True) (.slice A' n' c') (C.map sgH)) => show Calls Tryz.prog 42 #[.slice A' n' c'] w' (fun e w'' => e = .returned (.int .i64 (chc 0 (C.map sgH))) ∧ w' = w'') from qChanges_any hr (by have := hr.room.1; rw [List.length_map] at this; omega) HC2.out)
  have hu1 := chc_bd (C.map sgLo) 0
  have hu2 := chc_bd (C.map sgH) 0
  rw [List.length_map] at hu1 hu2
  have HA := Lib.hid (show allR C = chc 0 (C.map sgLo) - chc 0 (C.map sgH) from rfl)
  generalize hx1 : chc 0 (C.map sgLo) = u1 at *
  generalize hx2 : chc 0 (C.map sgH) = u2 at *
  rw [HA.out]
  clear hx1 hx2 HA
  have hwu : IntKind.i64.wrap (u1 - u2) = u1 - u2 := IntWalk.i64_in _ (by omega)
  go_enter Tryz.func44, Tryz.ntmps44
  go_wp2_with (go_at_call 23; go_must (refine HST.out.mono ?_); rintro e w1 ⟨v1, rfl, r1, hb1⟩; obtain ⟨A1, c1, rfl⟩ := r1.slice; have hr1 := cv_roomQ r1)
  have R1 := Lib.hid r1
  clear r1 HST
  go_loopw [4, 5, 6] (fun lv hv iv wr => ∃ k : Nat, iv = .int .i64 k ∧ k ≤ C.length ∧ OwnK Iv 3 wr w1.heap.size lv ((C.take k).map sgLo) ∧ OwnK Iv 3 wr w1.heap.size hv ((C.take k).map sgH) ∧ (∀ b, lv.ownBlock = some b → some b ≠ hv.ownBlock) ∧ Below w1.heap.size w1 wr) (fun _ _ iv _ => C.length - (intOf iv).toNat)
  case atStart => exact ⟨0, rfl, by omega, OwnK.nil _ _, OwnK.nil _ _, (fun b hb => by simp [Value.ownBlock] at hb), Below.refl _ _⟩
  case round =>
    obtain ⟨k, rfl, hk, hlo, hhi, hdis, hbr⟩ := hrel
    have hlen : ((C.take k).map sgLo).length = k := by rw [List.length_map, List.length_take]; omega
    have hlen2 : ((C.take k).map sgH).length = k := by rw [List.length_map, List.length_take]; omega
    obtain ⟨Al, cl, rfl, ho1, ho2⟩ := hlo.slice_ hlen
    obtain ⟨Ah, c9, rfl, ho3, ho4⟩ := hhi.slice_ hlen2
    unfold maxLen at ho2 ho4
    rcases Nat.lt_or_ge k C.length with hkn | hkn
    · obtain ⟨p, hp⟩ : ∃ p, C[k]? = some p := ⟨_, List.getElem?_eq_getElem hkn⟩
      obtain ⟨b, off, u, rfl, hu, hpv⟩ := (R1.out.below hbr).at hp
      have hpb := HCB.out p (List.mem_of_getElem? hp)
      have hpn := List.length_pos_iff.2 (HNE.out p (List.mem_of_getElem? hp))
      obtain ⟨m, hm1⟩ : ∃ m, p.length = m + 1 := ⟨p.length - 1, by omega⟩
      obtain ⟨Ap, cp, rfl, hcp1, hcp2, hpv2⟩ := PvD.shape hpv hm1
      obtain ⟨b2, off2, neg, B, m2, q2, rfl, x0, x1, x2⟩ := hpv2.last
      have HT1 := Lib.hid (show (C.take (k + 1)).map sgLo = (C.take k).map sgLo ++ [sgLo p] by rw [List.take_add_one, hp]; simp)
      have HT2 := Lib.hid (show (C.take (k + 1)).map sgH = (C.take k).map sgH ++ [sgH p] by rw [List.take_add_one, hp]; simp)
      have hB := hpb.2 (ld p) (ld_mem (by omega))
      have HSG := Lib.hid (qSign_any (x2.b (Nat.le_trans hB (by omega))))
      have HSH := Lib.hid (show cmpI (ld p) 0 = sgH p from rfl)
      have hs1 := cmpI_one (ld p) 0
      have HLO := Lib.hid (show sgLo p = if (m + 1) % 2 = 0 then -(sgH p) else sgH p by unfold sgLo; rw [hm1])
      rw [HSH.out] at HSG hs1
      have HL1 := Lib.hid hlen
      have HL2 := Lib.hid hlen2
      have HO1 := Lib.hid hlo
      have HO2 := Lib.hid hhi
      have HD := Lib.hid hdis
      have hki : (k : Int) < (C.length : Int) := by omega
      have hk0 : (0 : Int) ≤ (k : Int) := by omega
      have hmw : IntKind.i64.wrap ((m : Int) + 1 - 1) = m := by rw [show (m : Int) + 1 - 1 = m by omega]; exact IntWalk.i64_in _ (by omega)
      clear hp hpv hpv2 hlen hlen2 hlo hhi hdis x2 hB HSH hpn hpb
      generalize sgH p = s at *
      generalize sgLo p = s2 at *
      clear hm1
      have hwn : IntKind.i64.wrap (-s) = -s := IntWalk.i64_in _ (by omega)
      by_cases hpar : (m + 1) % 2 = 0
      · have HLO2 := Lib.hid (show s2 = -s by rw [HLO.out, if_pos hpar])
        have z1 : (((m : Int) + 1) % 2 == 0) = true := by rw [beq_iff_eq]; omega
        clear hpar HLO
        go_upto_region 11 with (first
          | (go_at_call 54; go_must (refine HSG.out.mono ?_); rintro e w2 ⟨rfl, hb2⟩; have hbs := Nat.le_trans hbr.size hb2.size)
          | (at_builtin; refine wpList_pushK _ rfl _ _ _ _ (.int .i64 0) 8 rfl Tryz.underlying84 Tryz.underlying84 info_intK rfl (by omega) w1.heap.size (.slice Ah k c9) ((C.take k).map sgH) k HL2.out rfl (HO2.out.below hb2) (.int .i64 s) s rfl rfl (by omega) hbs ?_; intro A7 c7 w7 hown7 hgr7 hnw7 hb7; have HW7 := Lib.hid hown7; have HG7 := Lib.hid hgr7; have HNW7 := Lib.hid hnw7; clear hown7 hgr7 hnw7; have HLW := Lib.hid ((HO1.out.below hb2).keepI HG7.out HD.out); have HLT := Lib.hid ((HO1.out.below hb2).ltI); have hbs7 := Nat.le_trans hbs (HG7.out).size))
        clear HO1 HO2
        go_wp2_with (at_builtin; go_must (refine wpList_pushK w7 (by rfl) _ _ _ _ (.int .i64 0) 8 (by rfl) Tryz.underlying84 Tryz.underlying84 info_intK (by rfl) (by omega) w1.heap.size (.slice Al k cl) ((C.take k).map sgLo) k HL1.out (by rfl) HLW.out (.int .i64 (-s)) (-s) rfl (by rfl) (by omega) hbs7 ?_); intro A8 c8 w8 hown8 hgr8 hnw8 hb8)
        have hx7 : ∀ b, (Value.slice A7 (k + 1) c7).ownBlock = some b → some b ≠ (Value.slice Al k cl).ownBlock := fun b hb e => HNW7.out b (HLT.out b e.symm) (HD.out b e.symm) hb.symm
        go_roundw
        case rel => exact ⟨k + 1, by go_num, by omega, by rw [HT1.out, HLO2.out]; exact hown8, by rw [HT2.out]; exact HW7.out.keepI hgr8 hx7, fun b hb e => hnw8 b (HW7.out.ltI b e.symm) (hx7 b e.symm) hb.symm, ((hbr.trans (hb2.mono hbr.size)).trans hb7).trans hb8⟩
        case measure => simp [intOf]; omega
      · have HLO2 := Lib.hid (show s2 = s by rw [HLO.out, if_neg hpar])
        have z1 : (((m : Int) + 1) % 2 == 0) = false := by rw [beq_eq_false_iff_ne]; omega
        clear hpar HLO
        go_upto_region 11 with (first
          | (go_at_call 54; go_must (refine HSG.out.mono ?_); rintro e w2 ⟨rfl, hb2⟩; have hbs := Nat.le_trans hbr.size hb2.size)
          | (at_builtin; refine wpList_pushK _ rfl _ _ _ _ (.int .i64 0) 8 rfl Tryz.underlying84 Tryz.underlying84 info_intK rfl (by omega) w1.heap.size (.slice Ah k c9) ((C.take k).map sgH) k HL2.out rfl (HO2.out.below hb2) (.int .i64 s) s rfl rfl (by omega) hbs ?_; intro A7 c7 w7 hown7 hgr7 hnw7 hb7; have HW7 := Lib.hid hown7; have HG7 := Lib.hid hgr7; have HNW7 := Lib.hid hnw7; clear hown7 hgr7 hnw7; have HLW := Lib.hid ((HO1.out.below hb2).keepI HG7.out HD.out); have HLT := Lib.hid ((HO1.out.below hb2).ltI); have hbs7 := Nat.le_trans hbs (HG7.out).size))
        clear HO1 HO2
        go_wp2_with (at_builtin; go_must (refine wpList_pushK w7 (by rfl) _ _ _ _ (.int .i64 0) 8 (by rfl) Tryz.underlying84 Tryz.underlying84 info_intK (by rfl) (by omega) w1.heap.size (.slice Al k cl) ((C.take k).map sgLo) k HL1.out (by rfl) HLW.out (.int .i64 s) s rfl (by rfl) (by omega) hbs7 ?_); intro A8 c8 w8 hown8 hgr8 hnw8 hb8)
        have hx7 : ∀ b, (Value.slice A7 (k + 1) c7).ownBlock = some b → some b ≠ (Value.slice Al k cl).ownBlock := fun b hb e => HNW7.out b (HLT.out b e.symm) (HD.out b e.symm) hb.symm
        go_roundw
        case rel => exact ⟨k + 1, by go_num, by omega, by rw [HT1.out, HLO2.out]; exact hown8, by rw [HT2.out]; exact HW7.out.keepI hgr8 hx7, fun b hb e => hnw8 b (HW7.out.ltI b e.symm) (hx7 b e.symm) hb.symm, ((hbr.trans (hb2.mono hbr.size)).trans hb7).trans hb8⟩
        case measure => simp [intOf]; omega
    · obtain rfl : k = C.length := by omega
      rw [List.take_of_length_le (Nat.le_refl _)] at hlo hhi
      have HO1 := Lib.hid hlo.rows
      have HO2 := Lib.hid hhi.rows
      clear hlo hhi hdis hlen hlen2
      go_wp2_with (first
        | (go_at_call 42; ((with_reducible refine (HE1.out _ _ _ _ HO1.out).mono ?_)); rintro e w5 ⟨rfl, rfl⟩)
        | (go_at_call 42; go_must (refine (HE2.out _ _ _ _ HO2.out).mono ?_); rintro e w6 ⟨rfl, rfl⟩))
      go_ret
      exact ⟨rfl, btr hb1 hbr⟩
end Go.Proofs.YtdmdagilopckgaaGreat
