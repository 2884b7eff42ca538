/- The law GraphDistances: its walk. -/
import Derived.Test.YtpkjdnplmgfbbaaDoorG10
namespace Go.Proofs.YtpkjdnplmgfbbaaDoor
open Go.RowKit

def TrueR (w : World) (e : Ending) (w' : World) : Prop := e = .returned (.bool true) ∧ Below w.heap.size w w'

theorem rHas_is {w : World} {v : Value} {names : List ByteArray} {E : List (List Int)} (h : GrV w v names E) (x : Int) {b : Bool} (hb : hasB names.length x = b) :
    Calls Tryd.prog 18 #[v, .int .i64 x] w fun e w' => e = .returned (.bool b) ∧ Below w.heap.size w w' := by rw [← hb]; exact rHas_any h x

theorem DistsAt.il {w w' : World} {E : List (List Nat)} {a : Nat} {v : Value} (h : DistsAt w E a w' v) (hE : Valid E) (ha : a < E.length) (hn : E.length ≤ 2500) : ∃ A, v = .slice A E.length E.length ∧ Il w' A E.length E.length (dd E a) := by
  obtain ⟨G, _, rfl, h3⟩ := h
  have hl := (dd_is hE ha).1
  have := h3.il (fun x hx => by have := dd_small hE ha hx; omega) (by rw [hl]; unfold maxLen; omega)
  rw [hl] at this
  exact ⟨_, rfl, this⟩
theorem Ints_same {w : World} {A B : Option Addr} {n c n' c' : Nat} {l : List Int} (h : Il w A n c l) (h' : Il w B n' c' l) : Calls Tryd.prog 19 #[.slice A n c, .slice B n' c'] w (TrueR w) := by
  refine (Ints_any h h').mono ?_
  rintro e w' ⟨rfl, hb⟩
  exact ⟨by simp, hb⟩

theorem dia_small {E : List (List Nat)} (hE : Valid E) (hn : E.length ≤ 2500) : 0 ≤ (dia E).1 ∧ (dia E).1 ≤ 2500 ∧ 0 ≤ (dia E).2 ∧ (dia E).2 ≤ 12 := by
  unfold dia
  split
  · simp
  · split
    · have := dm_small hE E.length (Nat.le_refl _); simp; omega
    · simp

/-- The boxed graph, through a call that only makes new memory. -/
theorem keep2 {w w' : World} {G : Nat} {a b : Value} (hb : Below w.heap.size w w') (h0 : w.cell? ⟨G, 0, none⟩ = some a) (h1 : w.cell? ⟨G, 1, none⟩ = some b) : w'.cell? ⟨G, 0, none⟩ = some a ∧ w'.cell? ⟨G, 1, none⟩ = some b :=
  ⟨(hb.cell (p := ⟨G, 0, none⟩) (cell_some_lt h0)).trans h0, (hb.cell (p := ⟨G, 1, none⟩) (cell_some_lt h1)).trans h1⟩

set_option maxHeartbeats 4000000 in
set_option maxRecDepth 100000 in
theorem lawD_bad {w : World} {v : Value} {names : List ByteArray} {E : List (List Int)} (h : GrV w v names E) (x : Int) (hc : chk names E ≠ 0) : Calls Tryd.prog 3 #[v, .int .i64 x] w (TrueR w) := by
  have H := Lib.hid (fun w' hb => h.at w' hb)
  have HC := Lib.hid hc
  have hz : (((chk names E : Nat) : Int) != 0) = true := by simp [hc]
  have hz2 : (((chk names E : Nat) : Int) == ((chk names E : Nat) : Int)) = true := by simp
  have HD := Lib.hid (fun w' hb => Distances_bad (h.at w' hb) x hc)
  have HM := Lib.hid (fun w' hb => Diameter_bad (h.at w' hb) hc)
  have HR := Lib.hid (fun w' hb => rCheck_any (h.at w' hb))
  generalize chk names E = q at *
  clear hc
  obtain ⟨A, c, A', c', rfl, hs, hg⟩ := h
  obtain ⟨W, G, hW, hG, hbW, c0, c1, hGl, hwG⟩ := gbox w (.slice A names.length c) (.slice A' E.length c')
  have HW := Lib.hid hW
  have HG := Lib.hid hG
  clear hW hG hs hg
  go_enter Tryd.func3, Tryd.ntmps3
  go_wp2_with fail
  rw [← HW.out, ← HG.out]
  refine (Light_any (H.out _ hbW)).mono ?_
  rintro e w1 ⟨b, rfl, _, hb1⟩
  obtain ⟨d0, d1⟩ := keep2 hb1 c0 c1
  replace hb1 := hbW.trans (hb1.mono hbW.size)
  clear c0 c1
  cases b
  · go_wp2_with fail
    refine awake_any.mono ?_
    rintro e w2 ⟨rfl, hb2⟩
    go_wp2_with fail
    go_ret
    exact ⟨rfl, hb1.trans (hb2.mono hb1.size)⟩
  · go_wp2_with fail
    refine (HD.out _ hb1).mono ?_
    rintro e w2 ⟨rfl, hb2⟩
    obtain ⟨e0, e1⟩ := keep2 hb2 d0 d1
    replace hb2 := hb1.trans (hb2.mono hb1.size)
    clear d0 d1 hb1
    go_wp2_with fail
    refine (HM.out _ hb2).mono ?_
    rintro e w3 ⟨rfl, hb3⟩
    obtain ⟨f0, f1⟩ := keep2 hb3 e0 e1
    replace hb3 := hb2.trans (hb3.mono hb2.size)
    clear e0 e1 hb2
    go_wp2_with fail
    refine (HR.out _ hb3).mono ?_
    rintro e w4 ⟨rfl, hb4⟩
    replace hb4 := hb3.trans (hb4.mono hb3.size)
    clear f0 f1 hb3
    go_wp2_with fail
    refine awake_any.mono ?_
    rintro e w5 ⟨rfl, hb5⟩
    go_wp2_with fail
    go_ret
    exact ⟨rfl, hb4.trans (hb5.mono hb4.size)⟩

set_option maxHeartbeats 4000000 in
set_option maxRecDepth 100000 in
theorem lawD_ok {w : World} {v : Value} {names : List ByteArray} {E : List (List Nat)} (h : GrV w v names (toI E)) (x : Int) (hc : chk names (toI E) = 0) (hk : Ok names E) : Calls Tryd.prog 3 #[v, .int .i64 x] w (TrueR w) := by
  have H := Lib.hid (fun w' hb => h.at w' hb)
  have HM := Lib.hid (fun w' hb => Diameter_ok (h.at w' hb) hc hk)
  have HRM := Lib.hid (fun w' hb => rDiameter_ok (h.at w' hb) hk)
  have HR := Lib.hid (fun w' hb => rCheck_any (h.at w' hb))
  rw [hc] at HR
  have HC := Lib.hid hc
  have HK := Lib.hid hk
  have hds := dia_small hk.valid hk.small
  obtain ⟨p1, hp1⟩ : ∃ p, p = (dia E).1 := ⟨_, rfl⟩
  obtain ⟨p2, hp2⟩ : ∃ p, p = (dia E).2 := ⟨_, rfl⟩
  rw [← hp1, ← hp2] at hds
  have HP1 := Lib.hid hp1
  have HP2 := Lib.hid hp2
  have hq1 : (p1 != p1) = false := by simp
  have hq2 : (p2 != p2) = false := by simp
  clear hp1 hp2 hc hk
  obtain ⟨A, c, A', c', hv, hs, hg⟩ := h
  rw [toI_length] at hv
  subst hv
  obtain ⟨W, G, hW, hG, hbW, c0, c1, hGl, hwG⟩ := gbox w (.slice A names.length c) (.slice A' E.length c')
  have HW := Lib.hid hW
  have HG := Lib.hid hG
  clear hW hG hs hg
  go_enter Tryd.func3, Tryd.ntmps3
  go_wp2_with fail
  rw [← HW.out, ← HG.out]
  refine (Light_any (H.out _ hbW)).mono ?_
  rintro e w1 ⟨b, rfl, _, hb1⟩
  obtain ⟨d0, d1⟩ := keep2 hb1 c0 c1
  replace hb1 := hbW.trans (hb1.mono hbW.size)
  clear c0 c1
  cases b
  · go_wp2_with fail
    refine awake_any.mono ?_
    rintro e w2 ⟨rfl, hb2⟩
    go_wp2_with fail
    go_ret
    exact ⟨rfl, hb1.trans (hb2.mono hb1.size)⟩
  · cases hx : hasB names.length x
    · have HX := Lib.hid hx
      clear hx
      go_wp2_with fail
      refine (Distances_missing (H.out _ hb1) x HC.out HX.out).mono ?_
      rintro e w2 ⟨rfl, hb2⟩
      obtain ⟨e0, e1⟩ := keep2 hb2 d0 d1
      replace hb2 := hb1.trans (hb2.mono hb1.size)
      clear d0 d1 hb1
      go_wp2_with fail
      refine (HM.out _ hb2).mono ?_
      rintro e w3 ⟨rfl, hb3⟩
      rw [← HP1.out, ← HP2.out]
      obtain ⟨f0, f1⟩ := keep2 hb3 e0 e1
      replace hb3 := hb2.trans (hb3.mono hb2.size)
      clear e0 e1 hb2
      go_wp2_with fail
      refine (HR.out _ hb3).mono ?_
      rintro e w4 ⟨rfl, hb4⟩
      obtain ⟨g0, g1⟩ := keep2 hb4 f0 f1
      replace hb4 := hb3.trans (hb4.mono hb3.size)
      clear f0 f1 hb3
      go_wp2_with fail
      refine (HRM.out _ hb4).mono ?_
      rintro e w5 ⟨rfl, hb5⟩
      rw [← HP1.out, ← HP2.out]
      obtain ⟨h0, h1⟩ := keep2 hb5 g0 g1
      replace hb5 := hb4.trans (hb5.mono hb4.size)
      clear g0 g1 hb4
      go_wp2_with fail
      refine (rHas_is (H.out _ hb5) x HX.out).mono ?_
      rintro e w6 ⟨rfl, hb6⟩
      replace hb6 := hb5.trans (hb6.mono hb5.size)
      clear h0 h1 hb5
      go_wp2_with fail
      refine awake_any.mono ?_
      rintro e w7 ⟨rfl, hb7⟩
      go_wp2_with fail
      go_ret
      exact ⟨rfl, hb6.trans (hb7.mono hb6.size)⟩
    · have HX := Lib.hid hx
      have hxx := hx
      unfold hasB at hxx
      simp at hxx
      obtain ⟨a, rfl⟩ := Int.eq_ofNat_of_zero_le hxx.1
      have hal : a < E.length := by have := HK.out.len; omega
      clear hx hxx
      have HDO := Lib.hid (fun w' hb => Distances_ok (H.out w' hb) a HC.out HK.out hal)
      have HRD := Lib.hid (fun w' hb => rDistances_ok (H.out w' hb) HK.out.valid HK.out.small hal)
      go_wp2_with fail
      refine (HDO.out _ hb1).mono ?_
      rintro e w2 ⟨u, rfl, hda, hb2⟩
      obtain ⟨A2, rfl, hil⟩ := hda.il HK.out.valid hal HK.out.small
      obtain ⟨e0, e1⟩ := keep2 hb2 d0 d1
      replace hb2 := hb1.trans (hb2.mono hb1.size)
      clear d0 d1 hb1 hda
      go_wp2_with fail
      refine (HM.out _ hb2).mono ?_
      rintro e w3 ⟨rfl, hb3⟩
      rw [← HP1.out, ← HP2.out]
      obtain ⟨f0, f1⟩ := keep2 hb3 e0 e1
      replace hil := hil.below hb3
      replace hb3 := hb2.trans (hb3.mono hb2.size)
      clear e0 e1 hb2
      go_wp2_with fail
      refine (HR.out _ hb3).mono ?_
      rintro e w4 ⟨rfl, hb4⟩
      obtain ⟨g0, g1⟩ := keep2 hb4 f0 f1
      replace hil := hil.below hb4
      replace hb4 := hb3.trans (hb4.mono hb3.size)
      clear f0 f1 hb3
      go_wp2_with fail
      refine (HRM.out _ hb4).mono ?_
      rintro e w5 ⟨rfl, hb5⟩
      rw [← HP1.out, ← HP2.out]
      obtain ⟨h0, h1⟩ := keep2 hb5 g0 g1
      replace hil := hil.below hb5
      replace hb5 := hb4.trans (hb5.mono hb4.size)
      clear g0 g1 hb4
      go_wp2_with fail
      refine (rHas_is (H.out _ hb5) _ HX.out).mono ?_
      rintro e w6 ⟨rfl, hb6⟩
      obtain ⟨i0, i1⟩ := keep2 hb6 h0 h1
      replace hil := hil.below hb6
      replace hb6 := hb5.trans (hb6.mono hb5.size)
      clear h0 h1 hb5
      go_wp2_with fail
      refine (HRD.out _ hb6).mono ?_
      rintro e w7 ⟨u7, rfl, hda7, hb7⟩
      obtain ⟨A7, rfl, hil7⟩ := hda7.il HK.out.valid hal HK.out.small
      replace hil := hil.below hb7
      replace hb7 := hb6.trans (hb7.mono hb6.size)
      clear i0 i1 hb6 hda7
      go_wp2_with fail
      refine (Ints_same hil hil7).mono ?_
      rintro e w8 ⟨rfl, hb8⟩
      replace hb8 := hb7.trans (hb8.mono hb7.size)
      go_wp2_with fail
      refine awake_any.mono ?_
      rintro e w9 ⟨rfl, hb9⟩
      go_wp2_with fail
      go_ret
      exact ⟨rfl, hb8.trans (hb9.mono hb8.size)⟩

/-- GraphDistances returns true, whatever the graph and the number. -/
theorem GraphDistances_true {w : World} {v : Value} {names : List ByteArray} {E : List (List Int)} (h : GrV w v names E) (x : Int) : Calls Tryd.prog 3 #[v, .int .i64 x] w (TrueR w) := by
  by_cases hc : chk names E = 0
  · obtain ⟨E', rfl, hk⟩ := ok_of_chk hc
    exact lawD_ok h x hc hk
  · exact lawD_bad h x hc
end Go.Proofs.YtpkjdnplmgfbbaaDoor
