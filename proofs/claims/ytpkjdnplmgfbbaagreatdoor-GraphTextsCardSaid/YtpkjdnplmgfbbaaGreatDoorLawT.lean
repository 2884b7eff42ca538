/- The law GraphTexts: its walk. -/
import Derived.Test.YtpkjdnplmgfbbaaGreatDoorTxu
namespace Go.Proofs.YtpkjdnplmgfbbaaGreatDoor
open Go.RowKit

theorem keepT {w w' : World} {G : Nat} {a b : Value} (hb : Below w.heap.size w w') (h0 : w.cell? ⟨G, 0, none⟩ = some a) (h1 : w.cell? ⟨G, 1, none⟩ = some b) : w'.cell? ⟨G, 0, none⟩ = some a ∧ w'.cell? ⟨G, 1, none⟩ = some b :=
  ⟨(hb.cell (p := ⟨G, 0, none⟩) (cell_some_lt h0)).trans h0, (hb.cell (p := ⟨G, 1, none⟩) (cell_some_lt h1)).trans h1⟩

set_option maxHeartbeats 4000000 in
set_option maxRecDepth 100000 in
theorem lawT_skipB {w : World} {v : Value} {names : List ByteArray} {E : List (List Int)} (h : GrV w v names E) (s : ByteArray) (hs : 400 < s.size ∧ s.size ≤ 20000) : Calls Tryz.prog 4 #[v, .string s] w (YesR w) := by
  have H := Lib.hid (fun w' hb => h.at w' hb)
  have z1 : decide ((400 : Int) < (s.size : Int)) = true := decide_eq_true (by omega)
  have z2 : decide ((s.size : Int) ≤ 20000) = true := decide_eq_true (by omega)

  obtain ⟨A, c, A', c', rfl, hs, hg⟩ := h
  obtain ⟨W, G, hW, hG, hbW, c0, c1, hGl, hwG⟩ := gbox w (.slice A names.length c) (.slice A' E.length c')
  have HW := Lib.hid hW
  have HG := Lib.hid hG
  clear hW hG hs hg
  go_enter Tryz.func4, Tryz.ntmps4
  go_wp2_with fail
  rw [← HW.out, ← HG.out]
  refine (Light_any (H.out _ hbW)).mono ?_
  rintro e w1 ⟨b, rfl, hli, hb1⟩
  replace hb1 := hbW.trans (hb1.mono hbW.size)
  clear hli c0 c1
  cases b
  all_goals
    go_wp2_with fail
    refine awake_any.mono ?_
    rintro e w9 ⟨rfl, hb9⟩
    go_wp2_with fail
    go_ret
    exact ⟨rfl, hb1.trans (hb9.mono hb1.size)⟩

set_option maxHeartbeats 4000000 in
set_option maxRecDepth 100000 in
theorem lawT_skipD {w : World} {v : Value} {names : List ByteArray} {E : List (List Int)} (h : GrV w v names E) (s : ByteArray) (hs : 21000 < s.size) : Calls Tryz.prog 4 #[v, .string s] w (YesR w) := by
  have H := Lib.hid (fun w' hb => h.at w' hb)
  have z1 : decide ((400 : Int) < (s.size : Int)) = true := decide_eq_true (by omega)
  have z2 : decide ((s.size : Int) ≤ 20000) = false := decide_eq_false (by omega)
  have z3 : decide ((21000 : Int) < (s.size : Int)) = true := decide_eq_true (by omega)

  obtain ⟨A, c, A', c', rfl, hs, hg⟩ := h
  obtain ⟨W, G, hW, hG, hbW, c0, c1, hGl, hwG⟩ := gbox w (.slice A names.length c) (.slice A' E.length c')
  have HW := Lib.hid hW
  have HG := Lib.hid hG
  clear hW hG hs hg
  go_enter Tryz.func4, Tryz.ntmps4
  go_wp2_with fail
  rw [← HW.out, ← HG.out]
  refine (Light_any (H.out _ hbW)).mono ?_
  rintro e w1 ⟨b, rfl, hli, hb1⟩
  replace hb1 := hbW.trans (hb1.mono hbW.size)
  clear hli c0 c1
  cases b
  all_goals
    go_wp2_with fail
    refine awake_any.mono ?_
    rintro e w9 ⟨rfl, hb9⟩
    go_wp2_with fail
    go_ret
    exact ⟨rfl, hb1.trans (hb9.mono hb1.size)⟩
set_option maxHeartbeats 4000000 in
set_option maxRecDepth 100000 in
theorem lawT_okA {w : World} (hv : Vrs w) {v : Value} {names : List ByteArray} {E : List (List Nat)} (h : GrV w v names (toI E)) (hc : chk names (toI E) = 0) (hk : Ok names E) (s : ByteArray) (hs : s.size ≤ 400) : Calls Tryz.prog 4 #[v, .string s] w (YesR w) := by
  have H := Lib.hid (fun w' hb => h.at w' hb)
  have HV := Lib.hid (fun w' (hb : Below w.heap.size w w') => hv.below hb)
  have z1 : decide ((400 : Int) < (s.size : Int)) = false := decide_eq_false (by omega)
  have z3 : decide ((21000 : Int) < (s.size : Int)) = false := decide_eq_false (by omega)
  obtain ⟨n1, E1, q1, HP1, HP2, _⟩ := reads s (by omega)
  have HPR := Lib.hid (fun w' (hb : Below w.heap.size w w') => Print_tab (hv.below hb) (h.at w' hb) hc hk)
  have HCK := Lib.hid (fun w' hb => rCheck_any (h.at w' hb))
  rw [hc] at HCK
  have HRP := Lib.hid (fun w' hb => rPrint_any (h.at w' hb) hk)
  obtain ⟨A, c, A', c', rfl, hs0, hg0⟩ := h
  obtain ⟨W, G, hW, hG, hbW, c0, c1, hGl, hwG⟩ := gbox w (.slice A names.length c) (.slice A' (toI E).length c')
  have HW := Lib.hid hW
  have HG := Lib.hid hG
  clear hW hG hs0 hg0
  go_enter Tryz.func4, Tryz.ntmps4
  go_wp2_with fail
  rw [← HW.out, ← HG.out]
  refine (Light_any (H.out _ hbW)).mono ?_
  rintro e w1 ⟨b, rfl, hli, hb1⟩
  obtain ⟨d0, d1⟩ := keepT hb1 c0 c1
  replace hb1 := hbW.trans (hb1.mono hbW.size)
  clear c0 c1
  cases b with
  | false =>
    go_wp2_with fail
    refine awake_any.mono ?_
    rintro e w9 ⟨rfl, hb9⟩
    go_wp2_with fail
    go_ret
    exact ⟨rfl, hb1.trans (hb9.mono hb1.size)⟩
  | true =>
    have hlp := hli rfl
    clear hli
    have htz : (mkB (prn names E E.length)).size ≤ 2000 := by rw [mkB_size]; exact light_short hk hlp
    obtain ⟨n2, E2, q2, HQ1, _, hq⟩ := reads (mkB (prn names E E.length)) (.inl htz)
    obtain ⟨rfl, rfl, rfl⟩ := hq htz names E ⟨hc, hk, mkB_data _⟩
    have HQ := Lib.hid HQ1
    obtain ⟨t, ht⟩ : ∃ t : ByteArray, t = mkB (prn n2 E2 E2.length) := ⟨_, rfl⟩
    change Hid (∀ w', _ → Calls _ _ _ _ fun e w'' => e = .returned (.tuple #[.string (mkB (prn n2 E2 E2.length)), .int .i64 0]) ∧ _) at HPR
    rw [← ht] at HQ HPR HRP
    have htt : (t.toList == t.toList) = true := by simp
    clear hq hc hk htz hlp ht HQ1
    have K1 := Lib.hid (HP1 w1 (HV.out _ hb1))
    clear HP1
    go_wp2_with fail
    refine K1.out.mono ?_
    rintro e w2 ⟨A2, e2, A3, e3, rfl, hg2, hb2⟩
    obtain ⟨d2, d3⟩ := keepT hb2 d0 d1
    replace hb2 := hb1.trans (hb2.mono hb1.size)
    have K2 := Lib.hid (fun w => HP2 w)
    obtain ⟨w3, X, hw3, hX⟩ : ∃ w3 X, w3 = w2.alloc (.cells #[.slice A2 n1.length e2, .slice A3 E1.length e3] 25) ∧ X = w2.heap.size := ⟨_, _, rfl, rfl⟩
    have x0 : w3.cell? ⟨X, 0, none⟩ = some (.slice A2 n1.length e2) := by rw [hw3, hX, Lib.cell_of_heap (World.alloc_heap_new _ _)]; rfl
    have x1 : w3.cell? ⟨X, 1, none⟩ = some (.slice A3 E1.length e3) := by rw [hw3, hX, Lib.cell_of_heap (World.alloc_heap_new _ _)]; rfl
    have hb3 : Below w2.heap.size w2 w3 := by rw [hw3]; exact (Below.refl _ _).alloc (Nat.le_refl _) _
    obtain ⟨d4, d5⟩ := keepT hb3 d2 d3
    have hg3 := hg2.below hb3
    replace hb3 := hb2.trans (hb3.mono hb2.size)
    have HW3 := Lib.hid hw3
    have HX := Lib.hid hX
    clear hw3 hX HP2 d0 d1 d2 d3 hg2
    go_wp2_with fail
    rw [← HW3.out, ← HX.out]
    refine (K2.out _).mono ?_
    rintro e w4 ⟨A4, e4, A5, e5, rfl, hg4, hb4⟩
    obtain ⟨d0, d1⟩ := keepT hb4 d4 d5
    obtain ⟨x2, x3⟩ := keepT hb4 x0 x1
    have hg3 := hg3.below hb4
    replace hb4 := hb3.trans (hb4.mono hb3.size)
    obtain ⟨w5, Y, hw5, hY⟩ : ∃ w5 Y, w5 = w4.alloc (.cells #[.slice A4 n1.length e4, .slice A5 E1.length e5] 25) ∧ Y = w4.heap.size := ⟨_, _, rfl, rfl⟩
    have y0 : w5.cell? ⟨Y, 0, none⟩ = some (.slice A4 n1.length e4) := by rw [hw5, hY, Lib.cell_of_heap (World.alloc_heap_new _ _)]; rfl
    have y1 : w5.cell? ⟨Y, 1, none⟩ = some (.slice A5 E1.length e5) := by rw [hw5, hY, Lib.cell_of_heap (World.alloc_heap_new _ _)]; rfl
    have hb5 : Below w4.heap.size w4 w5 := by rw [hw5]; exact (Below.refl _ _).alloc (Nat.le_refl _) _
    obtain ⟨d2, d3⟩ := keepT hb5 d0 d1
    obtain ⟨x4, x5⟩ := keepT hb5 x2 x3
    have KS := Lib.hid (Same_yes (hg3.below hb5) (hg4.below hb5))
    replace hb5 := hb4.trans (hb5.mono hb4.size)
    have u4 : (w4.alloc (.cells #[.slice A4 n1.length e4, .slice A5 E1.length e5] 25)).cell? ⟨X, 0, none⟩ = some (.slice A2 n1.length e2) := by rw [← hw5]; exact x4
    have u5 : (w4.alloc (.cells #[.slice A4 n1.length e4, .slice A5 E1.length e5] 25)).cell? ⟨X, 1, none⟩ = some (.slice A3 E1.length e3) := by rw [← hw5]; exact x5
    have HW5 := Lib.hid hw5
    have HY := Lib.hid hY
    clear hw5 hY d0 d1 x2 x3 x0 x1 d4 d5 hg3 hg4
    go_wp2_with fail
    rw [← HW5.out, ← HY.out]
    refine KS.out.mono ?_
    rintro e w6 ⟨rfl, hb6⟩
    obtain ⟨d0, d1⟩ := keepT hb6 d2 d3
    replace hb6 := hb5.trans (hb6.mono hb5.size)
    have hqq : ((q1 : Int) != (q1 : Int)) = false := by simp
    clear d2 d3 x4 x5 y0 y1 u4 u5
    go_wp2_with fail
    refine (HPR.out _ hb6).mono ?_
    rintro e w7 ⟨rfl, hb7⟩
    obtain ⟨d2, d3⟩ := keepT hb7 d0 d1
    replace hb7 := hb6.trans (hb7.mono hb6.size)
    clear d0 d1
    go_wp2_with fail
    refine (HCK.out _ hb7).mono ?_
    rintro e w8 ⟨rfl, hb8⟩
    obtain ⟨d0, d1⟩ := keepT hb8 d2 d3
    replace hb8 := hb7.trans (hb8.mono hb7.size)
    clear d2 d3
    have K9 := Lib.hid (HQ.out w8 (HV.out _ hb8))
    have HG8 := Lib.hid (fun w' hb => H.out w' hb)
    go_wp2_with fail
    refine K9.out.mono ?_
    rintro e w9 ⟨A6, e6, A7, e7, rfl, hg9, hb9⟩
    obtain ⟨d2, d3⟩ := keepT hb9 d0 d1
    replace hb9 := hb8.trans (hb9.mono hb8.size)
    obtain ⟨wa, Z, hwa, hZ⟩ : ∃ wa Z, wa = w9.alloc (.cells #[.slice A6 n2.length e6, .slice A7 E2.length e7] 25) ∧ Z = w9.heap.size := ⟨_, _, rfl, rfl⟩
    have y0 : wa.cell? ⟨Z, 0, none⟩ = some (.slice A6 n2.length e6) := by rw [hwa, hZ, Lib.cell_of_heap (World.alloc_heap_new _ _)]; rfl
    have y1 : wa.cell? ⟨Z, 1, none⟩ = some (.slice A7 E2.length e7) := by rw [hwa, hZ, Lib.cell_of_heap (World.alloc_heap_new _ _)]; rfl
    have hba : Below w9.heap.size w9 wa := by rw [hwa]; exact (Below.refl _ _).alloc (Nat.le_refl _) _
    obtain ⟨d4, d5⟩ := keepT hba d2 d3
    have hga := hg9.below hba
    replace hba := hb9.trans (hba.mono hb9.size)
    have u6 : (w9.alloc (.cells #[.slice A6 n2.length e6, .slice A7 E2.length e7] 25)).cell? ⟨G, 0, none⟩ = some (.slice A n2.length c) := by rw [← hwa]; exact d4
    have u7 : (w9.alloc (.cells #[.slice A6 n2.length e6, .slice A7 E2.length e7] 25)).cell? ⟨G, 1, none⟩ = some (.slice A' (toI E2).length c') := by rw [← hwa]; exact d5
    have HWA := Lib.hid hwa
    have HZ := Lib.hid hZ
    clear hwa hZ d0 d1 d2 d3 hg9
    go_wp2_with fail
    rw [← HWA.out, ← HZ.out]
    refine (HRP.out _ hba).mono ?_
    rintro e wb ⟨rfl, hbb⟩
    obtain ⟨d0, d1⟩ := keepT hbb d4 d5
    obtain ⟨y2, y3⟩ := keepT hbb y0 y1
    have hgb := hga.below hbb
    replace hbb := hba.trans (hbb.mono hba.size)
    have KS2 := Lib.hid (Same_yes hgb (H.out _ hbb))
    clear y0 y1 d4 d5 u6 u7 hga hgb
    go_wp2_with fail
    refine KS2.out.mono ?_
    rintro e wc ⟨rfl, hbc⟩
    replace hbc := hbb.trans (hbc.mono hbb.size)
    go_wp2_with fail
    refine awake_any.mono ?_
    rintro e wd ⟨rfl, hbd⟩
    go_wp2_with fail
    go_ret
    exact ⟨rfl, hbc.trans (hbd.mono hbc.size)⟩
set_option maxHeartbeats 4000000 in
set_option maxRecDepth 100000 in
theorem lawT_okC {w : World} (hv : Vrs w) {v : Value} {names : List ByteArray} {E : List (List Nat)} (h : GrV w v names (toI E)) (hc : chk names (toI E) = 0) (hk : Ok names E) (s : ByteArray) (hs : 20000 < s.size ∧ s.size ≤ 21000) : Calls Tryz.prog 4 #[v, .string s] w (YesR w) := by
  have H := Lib.hid (fun w' hb => h.at w' hb)
  have HV := Lib.hid (fun w' (hb : Below w.heap.size w w') => hv.below hb)
  have z1 : decide ((400 : Int) < (s.size : Int)) = true := decide_eq_true (by omega)
  have z2 : decide ((s.size : Int) ≤ 20000) = false := decide_eq_false (by omega)
  have z3 : decide ((21000 : Int) < (s.size : Int)) = false := decide_eq_false (by omega)
  obtain ⟨n1, E1, q1, HP1, HP2, _⟩ := reads s (by omega)
  have HPR := Lib.hid (fun w' (hb : Below w.heap.size w w') => Print_tab (hv.below hb) (h.at w' hb) hc hk)
  have HCK := Lib.hid (fun w' hb => rCheck_any (h.at w' hb))
  rw [hc] at HCK
  have HRP := Lib.hid (fun w' hb => rPrint_any (h.at w' hb) hk)
  obtain ⟨A, c, A', c', rfl, hs0, hg0⟩ := h
  obtain ⟨W, G, hW, hG, hbW, c0, c1, hGl, hwG⟩ := gbox w (.slice A names.length c) (.slice A' (toI E).length c')
  have HW := Lib.hid hW
  have HG := Lib.hid hG
  clear hW hG hs0 hg0
  go_enter Tryz.func4, Tryz.ntmps4
  go_wp2_with fail
  rw [← HW.out, ← HG.out]
  refine (Light_any (H.out _ hbW)).mono ?_
  rintro e w1 ⟨b, rfl, hli, hb1⟩
  obtain ⟨d0, d1⟩ := keepT hb1 c0 c1
  replace hb1 := hbW.trans (hb1.mono hbW.size)
  clear c0 c1
  cases b with
  | false =>
    go_wp2_with fail
    refine awake_any.mono ?_
    rintro e w9 ⟨rfl, hb9⟩
    go_wp2_with fail
    go_ret
    exact ⟨rfl, hb1.trans (hb9.mono hb1.size)⟩
  | true =>
    have hlp := hli rfl
    clear hli
    have htz : (mkB (prn names E E.length)).size ≤ 2000 := by rw [mkB_size]; exact light_short hk hlp
    obtain ⟨n2, E2, q2, HQ1, _, hq⟩ := reads (mkB (prn names E E.length)) (.inl htz)
    obtain ⟨rfl, rfl, rfl⟩ := hq htz names E ⟨hc, hk, mkB_data _⟩
    have HQ := Lib.hid HQ1
    obtain ⟨t, ht⟩ : ∃ t : ByteArray, t = mkB (prn n2 E2 E2.length) := ⟨_, rfl⟩
    change Hid (∀ w', _ → Calls _ _ _ _ fun e w'' => e = .returned (.tuple #[.string (mkB (prn n2 E2 E2.length)), .int .i64 0]) ∧ _) at HPR
    rw [← ht] at HQ HPR HRP
    have htt : (t.toList == t.toList) = true := by simp
    clear hq hc hk htz hlp ht HQ1
    have K1 := Lib.hid (HP1 w1 (HV.out _ hb1))
    clear HP1
    go_wp2_with fail
    refine K1.out.mono ?_
    rintro e w2 ⟨A2, e2, A3, e3, rfl, hg2, hb2⟩
    obtain ⟨d2, d3⟩ := keepT hb2 d0 d1
    replace hb2 := hb1.trans (hb2.mono hb1.size)
    have K2 := Lib.hid (fun w => HP2 w)
    obtain ⟨w3, X, hw3, hX⟩ : ∃ w3 X, w3 = w2.alloc (.cells #[.slice A2 n1.length e2, .slice A3 E1.length e3] 25) ∧ X = w2.heap.size := ⟨_, _, rfl, rfl⟩
    have x0 : w3.cell? ⟨X, 0, none⟩ = some (.slice A2 n1.length e2) := by rw [hw3, hX, Lib.cell_of_heap (World.alloc_heap_new _ _)]; rfl
    have x1 : w3.cell? ⟨X, 1, none⟩ = some (.slice A3 E1.length e3) := by rw [hw3, hX, Lib.cell_of_heap (World.alloc_heap_new _ _)]; rfl
    have hb3 : Below w2.heap.size w2 w3 := by rw [hw3]; exact (Below.refl _ _).alloc (Nat.le_refl _) _
    obtain ⟨d4, d5⟩ := keepT hb3 d2 d3
    have hg3 := hg2.below hb3
    replace hb3 := hb2.trans (hb3.mono hb2.size)
    have HW3 := Lib.hid hw3
    have HX := Lib.hid hX
    clear hw3 hX HP2 d0 d1 d2 d3 hg2
    go_wp2_with fail
    rw [← HW3.out, ← HX.out]
    refine (K2.out _).mono ?_
    rintro e w4 ⟨A4, e4, A5, e5, rfl, hg4, hb4⟩
    obtain ⟨d0, d1⟩ := keepT hb4 d4 d5
    obtain ⟨x2, x3⟩ := keepT hb4 x0 x1
    have hg3 := hg3.below hb4
    replace hb4 := hb3.trans (hb4.mono hb3.size)
    obtain ⟨w5, Y, hw5, hY⟩ : ∃ w5 Y, w5 = w4.alloc (.cells #[.slice A4 n1.length e4, .slice A5 E1.length e5] 25) ∧ Y = w4.heap.size := ⟨_, _, rfl, rfl⟩
    have y0 : w5.cell? ⟨Y, 0, none⟩ = some (.slice A4 n1.length e4) := by rw [hw5, hY, Lib.cell_of_heap (World.alloc_heap_new _ _)]; rfl
    have y1 : w5.cell? ⟨Y, 1, none⟩ = some (.slice A5 E1.length e5) := by rw [hw5, hY, Lib.cell_of_heap (World.alloc_heap_new _ _)]; rfl
    have hb5 : Below w4.heap.size w4 w5 := by rw [hw5]; exact (Below.refl _ _).alloc (Nat.le_refl _) _
    obtain ⟨d2, d3⟩ := keepT hb5 d0 d1
    obtain ⟨x4, x5⟩ := keepT hb5 x2 x3
    have KS := Lib.hid (Same_yes (hg3.below hb5) (hg4.below hb5))
    replace hb5 := hb4.trans (hb5.mono hb4.size)
    have u4 : (w4.alloc (.cells #[.slice A4 n1.length e4, .slice A5 E1.length e5] 25)).cell? ⟨X, 0, none⟩ = some (.slice A2 n1.length e2) := by rw [← hw5]; exact x4
    have u5 : (w4.alloc (.cells #[.slice A4 n1.length e4, .slice A5 E1.length e5] 25)).cell? ⟨X, 1, none⟩ = some (.slice A3 E1.length e3) := by rw [← hw5]; exact x5
    have HW5 := Lib.hid hw5
    have HY := Lib.hid hY
    clear hw5 hY d0 d1 x2 x3 x0 x1 d4 d5 hg3 hg4
    go_wp2_with fail
    rw [← HW5.out, ← HY.out]
    refine KS.out.mono ?_
    rintro e w6 ⟨rfl, hb6⟩
    obtain ⟨d0, d1⟩ := keepT hb6 d2 d3
    replace hb6 := hb5.trans (hb6.mono hb5.size)
    have hqq : ((q1 : Int) != (q1 : Int)) = false := by simp
    clear d2 d3 x4 x5 y0 y1 u4 u5
    go_wp2_with fail
    refine (HPR.out _ hb6).mono ?_
    rintro e w7 ⟨rfl, hb7⟩
    obtain ⟨d2, d3⟩ := keepT hb7 d0 d1
    replace hb7 := hb6.trans (hb7.mono hb6.size)
    clear d0 d1
    go_wp2_with fail
    refine (HCK.out _ hb7).mono ?_
    rintro e w8 ⟨rfl, hb8⟩
    obtain ⟨d0, d1⟩ := keepT hb8 d2 d3
    replace hb8 := hb7.trans (hb8.mono hb7.size)
    clear d2 d3
    have K9 := Lib.hid (HQ.out w8 (HV.out _ hb8))
    have HG8 := Lib.hid (fun w' hb => H.out w' hb)
    go_wp2_with fail
    refine K9.out.mono ?_
    rintro e w9 ⟨A6, e6, A7, e7, rfl, hg9, hb9⟩
    obtain ⟨d2, d3⟩ := keepT hb9 d0 d1
    replace hb9 := hb8.trans (hb9.mono hb8.size)
    obtain ⟨wa, Z, hwa, hZ⟩ : ∃ wa Z, wa = w9.alloc (.cells #[.slice A6 n2.length e6, .slice A7 E2.length e7] 25) ∧ Z = w9.heap.size := ⟨_, _, rfl, rfl⟩
    have y0 : wa.cell? ⟨Z, 0, none⟩ = some (.slice A6 n2.length e6) := by rw [hwa, hZ, Lib.cell_of_heap (World.alloc_heap_new _ _)]; rfl
    have y1 : wa.cell? ⟨Z, 1, none⟩ = some (.slice A7 E2.length e7) := by rw [hwa, hZ, Lib.cell_of_heap (World.alloc_heap_new _ _)]; rfl
    have hba : Below w9.heap.size w9 wa := by rw [hwa]; exact (Below.refl _ _).alloc (Nat.le_refl _) _
    obtain ⟨d4, d5⟩ := keepT hba d2 d3
    have hga := hg9.below hba
    replace hba := hb9.trans (hba.mono hb9.size)
    have u6 : (w9.alloc (.cells #[.slice A6 n2.length e6, .slice A7 E2.length e7] 25)).cell? ⟨G, 0, none⟩ = some (.slice A n2.length c) := by rw [← hwa]; exact d4
    have u7 : (w9.alloc (.cells #[.slice A6 n2.length e6, .slice A7 E2.length e7] 25)).cell? ⟨G, 1, none⟩ = some (.slice A' (toI E2).length c') := by rw [← hwa]; exact d5
    have HWA := Lib.hid hwa
    have HZ := Lib.hid hZ
    clear hwa hZ d0 d1 d2 d3 hg9
    go_wp2_with fail
    rw [← HWA.out, ← HZ.out]
    refine (HRP.out _ hba).mono ?_
    rintro e wb ⟨rfl, hbb⟩
    obtain ⟨d0, d1⟩ := keepT hbb d4 d5
    obtain ⟨y2, y3⟩ := keepT hbb y0 y1
    have hgb := hga.below hbb
    replace hbb := hba.trans (hbb.mono hba.size)
    have KS2 := Lib.hid (Same_yes hgb (H.out _ hbb))
    clear y0 y1 d4 d5 u6 u7 hga hgb
    go_wp2_with fail
    refine KS2.out.mono ?_
    rintro e wc ⟨rfl, hbc⟩
    replace hbc := hbb.trans (hbc.mono hbb.size)
    go_wp2_with fail
    refine awake_any.mono ?_
    rintro e wd ⟨rfl, hbd⟩
    go_wp2_with fail
    go_ret
    exact ⟨rfl, hbc.trans (hbd.mono hbc.size)⟩
set_option maxHeartbeats 4000000 in
set_option maxRecDepth 100000 in
theorem lawT_badA {w : World} (hv : Vrs w) {v : Value} {names : List ByteArray} {E : List (List Int)} (h : GrV w v names E) (hc : chk names E ≠ 0) (s : ByteArray) (hs : s.size ≤ 400) : Calls Tryz.prog 4 #[v, .string s] w (YesR w) := by
  have H := Lib.hid (fun w' hb => h.at w' hb)
  have HV := Lib.hid (fun w' (hb : Below w.heap.size w w') => hv.below hb)
  have z1 : decide ((400 : Int) < (s.size : Int)) = false := decide_eq_false (by omega)
  have z3 : decide ((21000 : Int) < (s.size : Int)) = false := decide_eq_false (by omega)
  obtain ⟨n1, E1, q1, HP1, HP2, _⟩ := reads s (by omega)
  have HPR := Lib.hid (fun w' hb => Print_bad (h.at w' hb) hc)
  have HCK := Lib.hid (fun w' hb => rCheck_any (h.at w' hb))
  have hz : (((chk names E : Nat) : Int) != 0) = true := by simp [hc]
  have hz2 : (((chk names E : Nat) : Int) == ((chk names E : Nat) : Int)) = true := by simp
  generalize chk names E = q at *
  obtain ⟨A, c, A', c', rfl, hs0, hg0⟩ := h
  obtain ⟨W, G, hW, hG, hbW, c0, c1, hGl, hwG⟩ := gbox w (.slice A names.length c) (.slice A' E.length c')
  have HW := Lib.hid hW
  have HG := Lib.hid hG
  clear hW hG hs0 hg0
  go_enter Tryz.func4, Tryz.ntmps4
  go_wp2_with fail
  rw [← HW.out, ← HG.out]
  refine (Light_any (H.out _ hbW)).mono ?_
  rintro e w1 ⟨b, rfl, hli, hb1⟩
  obtain ⟨d0, d1⟩ := keepT hb1 c0 c1
  replace hb1 := hbW.trans (hb1.mono hbW.size)
  clear c0 c1
  cases b with
  | false =>
    go_wp2_with fail
    refine awake_any.mono ?_
    rintro e w9 ⟨rfl, hb9⟩
    go_wp2_with fail
    go_ret
    exact ⟨rfl, hb1.trans (hb9.mono hb1.size)⟩
  | true =>
    have hlp := hli rfl
    clear hli
    clear hlp hc
    have K1 := Lib.hid (HP1 w1 (HV.out _ hb1))
    clear HP1
    go_wp2_with fail
    refine K1.out.mono ?_
    rintro e w2 ⟨A2, e2, A3, e3, rfl, hg2, hb2⟩
    obtain ⟨d2, d3⟩ := keepT hb2 d0 d1
    replace hb2 := hb1.trans (hb2.mono hb1.size)
    have K2 := Lib.hid (fun w => HP2 w)
    obtain ⟨w3, X, hw3, hX⟩ : ∃ w3 X, w3 = w2.alloc (.cells #[.slice A2 n1.length e2, .slice A3 E1.length e3] 25) ∧ X = w2.heap.size := ⟨_, _, rfl, rfl⟩
    have x0 : w3.cell? ⟨X, 0, none⟩ = some (.slice A2 n1.length e2) := by rw [hw3, hX, Lib.cell_of_heap (World.alloc_heap_new _ _)]; rfl
    have x1 : w3.cell? ⟨X, 1, none⟩ = some (.slice A3 E1.length e3) := by rw [hw3, hX, Lib.cell_of_heap (World.alloc_heap_new _ _)]; rfl
    have hb3 : Below w2.heap.size w2 w3 := by rw [hw3]; exact (Below.refl _ _).alloc (Nat.le_refl _) _
    obtain ⟨d4, d5⟩ := keepT hb3 d2 d3
    have hg3 := hg2.below hb3
    replace hb3 := hb2.trans (hb3.mono hb2.size)
    have HW3 := Lib.hid hw3
    have HX := Lib.hid hX
    clear hw3 hX HP2 d0 d1 d2 d3 hg2
    go_wp2_with fail
    rw [← HW3.out, ← HX.out]
    refine (K2.out _).mono ?_
    rintro e w4 ⟨A4, e4, A5, e5, rfl, hg4, hb4⟩
    obtain ⟨d0, d1⟩ := keepT hb4 d4 d5
    obtain ⟨x2, x3⟩ := keepT hb4 x0 x1
    have hg3 := hg3.below hb4
    replace hb4 := hb3.trans (hb4.mono hb3.size)
    obtain ⟨w5, Y, hw5, hY⟩ : ∃ w5 Y, w5 = w4.alloc (.cells #[.slice A4 n1.length e4, .slice A5 E1.length e5] 25) ∧ Y = w4.heap.size := ⟨_, _, rfl, rfl⟩
    have y0 : w5.cell? ⟨Y, 0, none⟩ = some (.slice A4 n1.length e4) := by rw [hw5, hY, Lib.cell_of_heap (World.alloc_heap_new _ _)]; rfl
    have y1 : w5.cell? ⟨Y, 1, none⟩ = some (.slice A5 E1.length e5) := by rw [hw5, hY, Lib.cell_of_heap (World.alloc_heap_new _ _)]; rfl
    have hb5 : Below w4.heap.size w4 w5 := by rw [hw5]; exact (Below.refl _ _).alloc (Nat.le_refl _) _
    obtain ⟨d2, d3⟩ := keepT hb5 d0 d1
    obtain ⟨x4, x5⟩ := keepT hb5 x2 x3
    have KS := Lib.hid (Same_yes (hg3.below hb5) (hg4.below hb5))
    replace hb5 := hb4.trans (hb5.mono hb4.size)
    have u4 : (w4.alloc (.cells #[.slice A4 n1.length e4, .slice A5 E1.length e5] 25)).cell? ⟨X, 0, none⟩ = some (.slice A2 n1.length e2) := by rw [← hw5]; exact x4
    have u5 : (w4.alloc (.cells #[.slice A4 n1.length e4, .slice A5 E1.length e5] 25)).cell? ⟨X, 1, none⟩ = some (.slice A3 E1.length e3) := by rw [← hw5]; exact x5
    have HW5 := Lib.hid hw5
    have HY := Lib.hid hY
    clear hw5 hY d0 d1 x2 x3 x0 x1 d4 d5 hg3 hg4
    go_wp2_with fail
    rw [← HW5.out, ← HY.out]
    refine KS.out.mono ?_
    rintro e w6 ⟨rfl, hb6⟩
    obtain ⟨d0, d1⟩ := keepT hb6 d2 d3
    replace hb6 := hb5.trans (hb6.mono hb5.size)
    have hqq : ((q1 : Int) != (q1 : Int)) = false := by simp
    clear d2 d3 x4 x5 y0 y1 u4 u5
    go_wp2_with fail
    refine (HPR.out _ hb6).mono ?_
    rintro e w7 ⟨rfl, hb7⟩
    obtain ⟨d2, d3⟩ := keepT hb7 d0 d1
    replace hb7 := hb6.trans (hb7.mono hb6.size)
    clear d0 d1
    go_wp2_with fail
    refine (HCK.out _ hb7).mono ?_
    rintro e w8 ⟨rfl, hb8⟩
    obtain ⟨d0, d1⟩ := keepT hb8 d2 d3
    replace hb8 := hb7.trans (hb8.mono hb7.size)
    clear d2 d3
    have hee : (((⟨#[]⟩ : ByteArray)).toList == ((⟨#[]⟩ : ByteArray)).toList) = true := by simp
    go_wp2_with fail
    refine awake_any.mono ?_
    rintro e wd ⟨rfl, hbd⟩
    go_wp2_with fail
    go_ret
    exact ⟨rfl, hb8.trans (hbd.mono hb8.size)⟩
set_option maxHeartbeats 4000000 in
set_option maxRecDepth 100000 in
theorem lawT_badC {w : World} (hv : Vrs w) {v : Value} {names : List ByteArray} {E : List (List Int)} (h : GrV w v names E) (hc : chk names E ≠ 0) (s : ByteArray) (hs : 20000 < s.size ∧ s.size ≤ 21000) : Calls Tryz.prog 4 #[v, .string s] w (YesR w) := by
  have H := Lib.hid (fun w' hb => h.at w' hb)
  have HV := Lib.hid (fun w' (hb : Below w.heap.size w w') => hv.below hb)
  have z1 : decide ((400 : Int) < (s.size : Int)) = true := decide_eq_true (by omega)
  have z2 : decide ((s.size : Int) ≤ 20000) = false := decide_eq_false (by omega)
  have z3 : decide ((21000 : Int) < (s.size : Int)) = false := decide_eq_false (by omega)
  obtain ⟨n1, E1, q1, HP1, HP2, _⟩ := reads s (by omega)
  have HPR := Lib.hid (fun w' hb => Print_bad (h.at w' hb) hc)
  have HCK := Lib.hid (fun w' hb => rCheck_any (h.at w' hb))
  have hz : (((chk names E : Nat) : Int) != 0) = true := by simp [hc]
  have hz2 : (((chk names E : Nat) : Int) == ((chk names E : Nat) : Int)) = true := by simp
  generalize chk names E = q at *
  obtain ⟨A, c, A', c', rfl, hs0, hg0⟩ := h
  obtain ⟨W, G, hW, hG, hbW, c0, c1, hGl, hwG⟩ := gbox w (.slice A names.length c) (.slice A' E.length c')
  have HW := Lib.hid hW
  have HG := Lib.hid hG
  clear hW hG hs0 hg0
  go_enter Tryz.func4, Tryz.ntmps4
  go_wp2_with fail
  rw [← HW.out, ← HG.out]
  refine (Light_any (H.out _ hbW)).mono ?_
  rintro e w1 ⟨b, rfl, hli, hb1⟩
  obtain ⟨d0, d1⟩ := keepT hb1 c0 c1
  replace hb1 := hbW.trans (hb1.mono hbW.size)
  clear c0 c1
  cases b with
  | false =>
    go_wp2_with fail
    refine awake_any.mono ?_
    rintro e w9 ⟨rfl, hb9⟩
    go_wp2_with fail
    go_ret
    exact ⟨rfl, hb1.trans (hb9.mono hb1.size)⟩
  | true =>
    have hlp := hli rfl
    clear hli
    clear hlp hc
    have K1 := Lib.hid (HP1 w1 (HV.out _ hb1))
    clear HP1
    go_wp2_with fail
    refine K1.out.mono ?_
    rintro e w2 ⟨A2, e2, A3, e3, rfl, hg2, hb2⟩
    obtain ⟨d2, d3⟩ := keepT hb2 d0 d1
    replace hb2 := hb1.trans (hb2.mono hb1.size)
    have K2 := Lib.hid (fun w => HP2 w)
    obtain ⟨w3, X, hw3, hX⟩ : ∃ w3 X, w3 = w2.alloc (.cells #[.slice A2 n1.length e2, .slice A3 E1.length e3] 25) ∧ X = w2.heap.size := ⟨_, _, rfl, rfl⟩
    have x0 : w3.cell? ⟨X, 0, none⟩ = some (.slice A2 n1.length e2) := by rw [hw3, hX, Lib.cell_of_heap (World.alloc_heap_new _ _)]; rfl
    have x1 : w3.cell? ⟨X, 1, none⟩ = some (.slice A3 E1.length e3) := by rw [hw3, hX, Lib.cell_of_heap (World.alloc_heap_new _ _)]; rfl
    have hb3 : Below w2.heap.size w2 w3 := by rw [hw3]; exact (Below.refl _ _).alloc (Nat.le_refl _) _
    obtain ⟨d4, d5⟩ := keepT hb3 d2 d3
    have hg3 := hg2.below hb3
    replace hb3 := hb2.trans (hb3.mono hb2.size)
    have HW3 := Lib.hid hw3
    have HX := Lib.hid hX
    clear hw3 hX HP2 d0 d1 d2 d3 hg2
    go_wp2_with fail
    rw [← HW3.out, ← HX.out]
    refine (K2.out _).mono ?_
    rintro e w4 ⟨A4, e4, A5, e5, rfl, hg4, hb4⟩
    obtain ⟨d0, d1⟩ := keepT hb4 d4 d5
    obtain ⟨x2, x3⟩ := keepT hb4 x0 x1
    have hg3 := hg3.below hb4
    replace hb4 := hb3.trans (hb4.mono hb3.size)
    obtain ⟨w5, Y, hw5, hY⟩ : ∃ w5 Y, w5 = w4.alloc (.cells #[.slice A4 n1.length e4, .slice A5 E1.length e5] 25) ∧ Y = w4.heap.size := ⟨_, _, rfl, rfl⟩
    have y0 : w5.cell? ⟨Y, 0, none⟩ = some (.slice A4 n1.length e4) := by rw [hw5, hY, Lib.cell_of_heap (World.alloc_heap_new _ _)]; rfl
    have y1 : w5.cell? ⟨Y, 1, none⟩ = some (.slice A5 E1.length e5) := by rw [hw5, hY, Lib.cell_of_heap (World.alloc_heap_new _ _)]; rfl
    have hb5 : Below w4.heap.size w4 w5 := by rw [hw5]; exact (Below.refl _ _).alloc (Nat.le_refl _) _
    obtain ⟨d2, d3⟩ := keepT hb5 d0 d1
    obtain ⟨x4, x5⟩ := keepT hb5 x2 x3
    have KS := Lib.hid (Same_yes (hg3.below hb5) (hg4.below hb5))
    replace hb5 := hb4.trans (hb5.mono hb4.size)
    have u4 : (w4.alloc (.cells #[.slice A4 n1.length e4, .slice A5 E1.length e5] 25)).cell? ⟨X, 0, none⟩ = some (.slice A2 n1.length e2) := by rw [← hw5]; exact x4
    have u5 : (w4.alloc (.cells #[.slice A4 n1.length e4, .slice A5 E1.length e5] 25)).cell? ⟨X, 1, none⟩ = some (.slice A3 E1.length e3) := by rw [← hw5]; exact x5
    have HW5 := Lib.hid hw5
    have HY := Lib.hid hY
    clear hw5 hY d0 d1 x2 x3 x0 x1 d4 d5 hg3 hg4
    go_wp2_with fail
    rw [← HW5.out, ← HY.out]
    refine KS.out.mono ?_
    rintro e w6 ⟨rfl, hb6⟩
    obtain ⟨d0, d1⟩ := keepT hb6 d2 d3
    replace hb6 := hb5.trans (hb6.mono hb5.size)
    have hqq : ((q1 : Int) != (q1 : Int)) = false := by simp
    clear d2 d3 x4 x5 y0 y1 u4 u5
    go_wp2_with fail
    refine (HPR.out _ hb6).mono ?_
    rintro e w7 ⟨rfl, hb7⟩
    obtain ⟨d2, d3⟩ := keepT hb7 d0 d1
    replace hb7 := hb6.trans (hb7.mono hb6.size)
    clear d0 d1
    go_wp2_with fail
    refine (HCK.out _ hb7).mono ?_
    rintro e w8 ⟨rfl, hb8⟩
    obtain ⟨d0, d1⟩ := keepT hb8 d2 d3
    replace hb8 := hb7.trans (hb8.mono hb7.size)
    clear d2 d3
    have hee : (((⟨#[]⟩ : ByteArray)).toList == ((⟨#[]⟩ : ByteArray)).toList) = true := by simp
    go_wp2_with fail
    refine awake_any.mono ?_
    rintro e wd ⟨rfl, hbd⟩
    go_wp2_with fail
    go_ret
    exact ⟨rfl, hb8.trans (hbd.mono hb8.size)⟩

theorem GraphTexts_true {w : World} (hv : Vrs w) {v : Value} {names : List ByteArray} {E : List (List Int)} (h : GrV w v names E) (s : ByteArray) : Calls Tryz.prog 4 #[v, .string s] w (YesR w) := by
  rcases Nat.lt_or_ge 400 s.size with h1 | h1
  · rcases Nat.lt_or_ge 20000 s.size with h2 | h2
    · rcases Nat.lt_or_ge 21000 s.size with h3 | h3
      · exact lawT_skipD h s h3
      · by_cases hc : chk names E = 0
        · obtain ⟨E', rfl, hk⟩ := ok_of_chk hc
          exact lawT_okC hv h hc hk s ⟨h2, h3⟩
        · exact lawT_badC hv h hc s ⟨h2, h3⟩
    · exact lawT_skipB h s ⟨h1, h2⟩
  · by_cases hc : chk names E = 0
    · obtain ⟨E', rfl, hk⟩ := ok_of_chk hc
      exact lawT_okA hv h hc hk s h1
    · exact lawT_badA hv h hc s h1
end Go.Proofs.YtpkjdnplmgfbbaaGreatDoor
