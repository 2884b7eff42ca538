/- The law GraphComponents: its walk. -/
import Derived.Test.YtpkjdnplmgfbbaaDoorBpt
namespace Go.Proofs.YtpkjdnplmgfbbaaDoor
open Go.RowKit

theorem IsComp.small {R : List (List Nat)} {l : List Int} (h : IsComp R l) (hn : R.length ≤ 2500) : ∀ x ∈ l, -9223372036854775808 ≤ x ∧ x ≤ 9223372036854775807 := fun x hx => by
  obtain ⟨v, hv⟩ := List.getElem?_of_mem hx
  have hvl := lt_of_some hv
  obtain ⟨k, r, h1, _, h3⟩ := h.2 v (by rw [← h.1]; exact hvl)
  rw [getD_some hv] at h3
  have h4 := some_lt h1
  have h5 := rts_len (R := R) R.length
  omega
theorem ColI.smallI {R : List (List Nat)} {l : List Int} (h : ColI R (fun _ => True) l) : ∀ x ∈ l, -9223372036854775808 ≤ x ∧ x ≤ 9223372036854775807 := fun x hx => by
  obtain ⟨v, hv⟩ := List.getElem?_of_mem hx
  have hvl := lt_of_some hv
  have h3 := h.small (v := v) (by rw [← h.1]; exact hvl)
  rw [getD_some hv] at h3
  omega
theorem Il.nilK (w : World) : Il w none 0 0 [] := ⟨⟨rfl, Nat.le_refl _, Nat.zero_le _, fun hn => by omega⟩, fun x hx => by cases hx⟩
theorem ints_same {w : World} {A B : Option Addr} {n c n' c' : Nat} {l : List Int} (h : Il w A n c l) (h' : Il w B n' c' l) :
    Calls Tryd.prog 19 #[.slice A n c, .slice B n' c'] w fun e w' => e = .returned (.bool true) ∧ Below w.heap.size w w' := by
  refine (Ints_any h h').mono ?_
  rintro e w' ⟨rfl, hb⟩
  exact ⟨by simp, hb⟩

set_option maxHeartbeats 4000000 in
set_option maxRecDepth 100000 in
theorem lawK_bad {w : World} {v : Value} {names : List ByteArray} {E : List (List Int)} (h : GrV w v names E) (hc : chk names E ≠ 0) : Calls Tryd.prog 7 #[v] w (TrueR w) := by
  have H := Lib.hid (fun w' hb => h.at w' hb)
  have hz : (((chk names E : Nat) : Int) != 0) = true := by simp [hc]
  have hz2 : (((chk names E : Nat) : Int) == ((chk names E : Nat) : Int)) = true := by simp
  have HD := Lib.hid (fun w' hb => Components_bad (h.at w' hb) hc)
  have HM := Lib.hid (fun w' hb => Bipartite_bad (h.at w' hb) hc)
  have HR := Lib.hid (fun w' hb => rCheck_any (h.at w' hb))
  generalize chk names E = q at *
  clear hc
  obtain ⟨A, c, A', c', rfl, hs, hg⟩ := h
  obtain ⟨W, G, hW, hG, hbW, c0, c1, hGl, hwG⟩ := gbox w (.slice A names.length c) (.slice A' E.length c')
  have HW := Lib.hid hW
  have HG := Lib.hid hG
  clear hW hG hs hg
  go_enter Tryd.func7, Tryd.ntmps7
  go_wp2_with fail
  rw [← HW.out, ← HG.out]
  refine (Light_any (H.out _ hbW)).mono ?_
  rintro e w1 ⟨b, rfl, _, hb1⟩
  obtain ⟨d0, d1⟩ := keep2 hb1 c0 c1
  replace hb1 := hbW.trans (hb1.mono hbW.size)
  clear c0 c1
  cases b
  · go_wp2_with fail
    refine awake_any.mono ?_
    rintro e w2 ⟨rfl, hb2⟩
    go_wp2_with fail
    go_ret
    exact ⟨rfl, hb1.trans (hb2.mono hb1.size)⟩
  · go_wp2_with fail
    refine (HD.out _ hb1).mono ?_
    rintro e w2 ⟨rfl, hb2⟩
    obtain ⟨e0, e1⟩ := keep2 hb2 d0 d1
    replace hb2 := hb1.trans (hb2.mono hb1.size)
    clear d0 d1 hb1
    go_wp2_with fail
    refine (HM.out _ hb2).mono ?_
    rintro e w3 ⟨rfl, hb3⟩
    obtain ⟨f0, f1⟩ := keep2 hb3 e0 e1
    replace hb3 := hb2.trans (hb3.mono hb2.size)
    clear e0 e1 hb2
    go_wp2_with fail
    refine (HR.out _ hb3).mono ?_
    rintro e w4 ⟨rfl, hb4⟩
    replace hb4 := hb3.trans (hb4.mono hb3.size)
    clear f0 f1 hb3
    go_wp2_with fail
    refine awake_any.mono ?_
    rintro e w6 ⟨rfl, hb6⟩
    go_wp2_with fail
    go_ret
    exact ⟨rfl, hb4.trans (hb6.mono hb4.size)⟩

set_option maxHeartbeats 4000000 in
set_option maxRecDepth 100000 in
theorem lawK_ok {w : World} {v : Value} {names : List ByteArray} {E : List (List Nat)} (h : GrV w v names (toI E)) (hc : chk names (toI E) = 0) (hk : Ok names E) : Calls Tryd.prog 7 #[v] w (TrueR w) := by
  have H := Lib.hid (fun w' hb => h.at w' hb)
  have HD := Lib.hid (fun w' hb => Components_ok (h.at w' hb) hc hk)
  have HM := Lib.hid (fun w' hb => Bipartite_ok (h.at w' hb) hc hk)
  have HR := Lib.hid (fun w' hb => rCheck_any (h.at w' hb))
  rw [hc] at HR
  have HRC := Lib.hid (fun w' hb => rComponents_ok (h.at w' hb) hk)
  have HRB := Lib.hid (fun w' hb => rBipartite_ok (h.at w' hb) hk)
  have hsm := hk.small
  have HE := Lib.hid (And.intro (bth_valid hk.valid) (bth_sym hk.valid))
  have HBL := Lib.hid (bth_length E)
  clear hc hk
  obtain ⟨A, c, A', c', rfl, hs, hg⟩ := h
  obtain ⟨W, G, hW, hG, hbW, c0, c1, hGl, hwG⟩ := gbox w (.slice A names.length c) (.slice A' (toI E).length c')
  have HW := Lib.hid hW
  have HG := Lib.hid hG
  clear hW hG hs hg
  go_enter Tryd.func7, Tryd.ntmps7
  go_wp2_with fail
  rw [← HW.out, ← HG.out]
  refine (Light_any (H.out _ hbW)).mono ?_
  rintro e w1 ⟨b, rfl, _, hb1⟩
  obtain ⟨d0, d1⟩ := keep2 hb1 c0 c1
  replace hb1 := hbW.trans (hb1.mono hbW.size)
  clear c0 c1
  cases b
  · go_wp2_with fail
    refine awake_any.mono ?_
    rintro e w2 ⟨rfl, hb2⟩
    go_wp2_with fail
    go_ret
    exact ⟨rfl, hb1.trans (hb2.mono hb1.size)⟩
  · go_wp2_with fail
    refine (HD.out _ hb1).mono ?_
    rintro e w2 ⟨G1, l1, rfl, hn1, hcp1, hb2⟩
    have HCP1 := Lib.hid hcp1
    obtain ⟨e0, e1⟩ := keep2 hb2 d0 d1
    replace hb2 := hb1.trans (hb2.mono hb1.size)
    clear d0 d1 hb1 hcp1
    go_wp2_with fail
    refine (HM.out _ hb2).mono ?_
    rintro e w3 (⟨G2, l2, rfl, hn2, hco2, hpr2, hb3⟩ | ⟨rfl, hno2, hb3⟩)
    · have HC2 := Lib.hid (And.intro hco2 hpr2)
      obtain ⟨f0, f1⟩ := keep2 hb3 e0 e1
      have hn1' := hn1.below hb3
      replace hb3 := hb2.trans (hb3.mono hb2.size)
      clear e0 e1 hb2 hco2 hpr2 hn1
      go_wp2_with fail
      refine (HR.out _ hb3).mono ?_
      rintro e w4 ⟨rfl, hb4⟩
      obtain ⟨g0, g1⟩ := keep2 hb4 f0 f1
      have hn1 := hn1'.below hb4
      have hn2' := hn2.below hb4
      replace hb4 := hb3.trans (hb4.mono hb3.size)
      clear f0 f1 hb3 hn1' hn2
      go_wp2_with fail
      refine (HRB.out _ hb4).mono ?_
      rintro e w5 (⟨G3, l3, rfl, hn3, hco3, hpr3, hb5⟩ | ⟨rfl, ⟨l3, hco3, hpr3⟩, hb5⟩)
      · obtain rfl : l2 = l3 := ColI.unique HE.out.2 HE.out.1 HC2.out.1 hco3 HC2.out.2
        obtain ⟨i0, i1⟩ := keep2 hb5 g0 g1
        have hn1' := hn1.below hb5
        have hn2 := hn2'.below hb5
        replace hb5 := hb4.trans (hb5.mono hb4.size)
        clear g0 g1 hb4 hn1 hn2' hco3 hpr3
        go_wp2_with fail
        refine (HRC.out _ hb5).mono ?_
        rintro e w6 ⟨G4, l4, rfl, hn4, hcp4, hb6⟩
        obtain rfl : l1 = l4 := IsComp.unique HE.out.2 HCP1.out hcp4
        have hs1 := hcp4.small (by rw [HBL.out]; exact hsm)
        have hL1 := hcp4.1
        rw [HBL.out] at hL1
        have hn1 := hn1'.below hb6
        have hn2' := hn2.below hb6
        have hn3' := hn3.below hb6
        replace hb6 := hb5.trans (hb6.mono hb5.size)
        clear hb5 hn1' hn2 hn3 hcp4
        have hm : l1.length ≤ maxLen := by unfold maxLen; omega
        have k1 := hn1.il hs1 hm
        have k4 := hn4.il hs1 hm
        rw [hL1] at k1 k4
        have HK1 := Lib.hid (ints_same k1 k4)
        clear k1 k4 hs1 hL1 hm hn1 hn4
        go_wp2_with fail
        refine HK1.out.mono ?_
        rintro e w7 ⟨rfl, hb7⟩
        have hs2 := HC2.out.1.smallI
        have hL2 := HC2.out.1.1
        rw [HBL.out] at hL2
        have hm : l2.length ≤ maxLen := by unfold maxLen; omega
        have k2 := (hn2'.below hb7).il hs2 hm
        have k3 := (hn3'.below hb7).il hs2 hm
        rw [hL2] at k2 k3
        have HK2 := Lib.hid (ints_same k2 k3)
        replace hb7 := hb6.trans (hb7.mono hb6.size)
        clear k2 k3 hs2 hL2 hm hn2' hn3' hb6
        go_wp2_with fail
        refine HK2.out.mono ?_
        rintro e w8 ⟨rfl, hb8⟩
        replace hb8 := hb7.trans (hb8.mono hb7.size)
        clear hb7
        go_wp2_with fail
        refine awake_any.mono ?_
        rintro e w9 ⟨rfl, hb9⟩
        go_wp2_with fail
        go_ret
        exact ⟨rfl, hb8.trans (hb9.mono hb8.size)⟩
      · obtain rfl : l2 = l3 := ColI.unique HE.out.2 HE.out.1 HC2.out.1 hco3 HC2.out.2
        exact absurd HC2.out.2 hpr3
    · have HN2 := Lib.hid hno2
      obtain ⟨f0, f1⟩ := keep2 hb3 e0 e1
      have hn1' := hn1.below hb3
      replace hb3 := hb2.trans (hb3.mono hb2.size)
      clear e0 e1 hb2 hno2 hn1
      go_wp2_with fail
      refine (HR.out _ hb3).mono ?_
      rintro e w4 ⟨rfl, hb4⟩
      obtain ⟨g0, g1⟩ := keep2 hb4 f0 f1
      have hn1 := hn1'.below hb4
      replace hb4 := hb3.trans (hb4.mono hb3.size)
      clear f0 f1 hb3 hn1'
      go_wp2_with fail
      refine (HRB.out _ hb4).mono ?_
      rintro e w5 (⟨G3, l3, rfl, hn3, hco3, hpr3, hb5⟩ | ⟨rfl, _, hb5⟩)
      · obtain ⟨l2, hco2, hpr2⟩ := HN2.out
        obtain rfl : l3 = l2 := ColI.unique HE.out.2 HE.out.1 hco3 hco2 hpr3
        exact absurd hpr3 hpr2
      · obtain ⟨i0, i1⟩ := keep2 hb5 g0 g1
        have hn1' := hn1.below hb5
        replace hb5 := hb4.trans (hb5.mono hb4.size)
        clear g0 g1 hb4 hn1
        go_wp2_with fail
        refine (HRC.out _ hb5).mono ?_
        rintro e w6 ⟨G4, l4, rfl, hn4, hcp4, hb6⟩
        obtain rfl : l1 = l4 := IsComp.unique HE.out.2 HCP1.out hcp4
        have hs1 := hcp4.small (by rw [HBL.out]; exact hsm)
        have hL1 := hcp4.1
        rw [HBL.out] at hL1
        have hn1 := hn1'.below hb6
        replace hb6 := hb5.trans (hb6.mono hb5.size)
        clear hb5 hn1' hcp4
        have hm : l1.length ≤ maxLen := by unfold maxLen; omega
        have k1 := hn1.il hs1 hm
        have k4 := hn4.il hs1 hm
        rw [hL1] at k1 k4
        have HK1 := Lib.hid (ints_same k1 k4)
        clear k1 k4 hs1 hL1 hm hn1 hn4
        go_wp2_with fail
        refine HK1.out.mono ?_
        rintro e w7 ⟨rfl, hb7⟩
        replace hb7 := hb6.trans (hb7.mono hb6.size)
        clear hb6
        have HK2 := Lib.hid (ints_same (Il.nilK w7) (Il.nilK w7))
        go_wp2_with fail
        refine HK2.out.mono ?_
        rintro e w8 ⟨rfl, hb8⟩
        replace hb8 := hb7.trans (hb8.mono hb7.size)
        clear hb7
        go_wp2_with fail
        refine awake_any.mono ?_
        rintro e w9 ⟨rfl, hb9⟩
        go_wp2_with fail
        go_ret
        exact ⟨rfl, hb8.trans (hb9.mono hb8.size)⟩

/-- GraphComponents returns true, whatever the graph. -/
theorem GraphComponents_true {w : World} {v : Value} {names : List ByteArray} {E : List (List Int)} (h : GrV w v names E) : Calls Tryd.prog 7 #[v] w (TrueR w) := by
  by_cases hc : chk names E = 0
  · obtain ⟨E', rfl, hk⟩ := ok_of_chk hc
    exact lawK_ok h hc hk
  · exact lawK_bad h hc
end Go.Proofs.YtpkjdnplmgfbbaaDoor
