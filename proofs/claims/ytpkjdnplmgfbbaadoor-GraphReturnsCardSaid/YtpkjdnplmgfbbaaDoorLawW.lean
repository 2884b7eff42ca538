/- graph.Walks. The law GraphWalks: its walk. -/
import Derived.Test.YtpkjdnplmgfbbaaDoorWku
import Derived.Test.YtpkjdnplmgfbbaaDoorLawD
namespace Go.Proofs.YtpkjdnplmgfbbaaDoor
open Go.RowKit

theorem has_is {w : World} {v : Value} {names : List ByteArray} {E : List (List Int)} (h : GrV w v names E) (x : Int) {b : Bool} (hb : hasB names.length x = b) :
    Calls Tryd.prog 57 #[v, .int .i64 x] w fun e w' => e = .returned (.bool b) ∧ Below w.heap.size w w' := by rw [← hb]; exact has_any h x

def WlkE (w : World) (q : Int) (e : Ending) (w' : World) : Prop := e = .returned (.tuple #[.slice none 0 0, .int .i64 q]) ∧ Below w.heap.size w w'
/-- The error of Walks on a graph without one. -/
def wlkC (n : Nat) (u m : Int) : Nat := if hasB n u = false then 6 else if m < 0 ∨ 100 < m then 2 else 0

set_option maxHeartbeats 1000000 in
theorem Walks_bad {w : World} {v : Value} {names : List ByteArray} {E : List (List Int)} (h : GrV w v names E) (x y : Int) (hc : chk names E ≠ 0) :
    Calls Tryd.prog 22 #[v, .int .i64 x, .int .i64 y] w (WlkE w (chk names E : Nat)) := by
  have HC := Lib.hid (fun w' hb => Check_any (h.at w' hb))
  generalize chk names E = q at *
  have hz : (((q : Nat) : Int) != 0) = true := by simp [hc]
  clear hc
  obtain ⟨A1, c1, A', c', rfl, hs, hg⟩ := h
  obtain ⟨W, G, hW, hG, hbW, c0, c1', hGl, hwG⟩ := gbox w (.slice A1 names.length c1) (.slice A' E.length c')
  have HW := Lib.hid hW
  have HG := Lib.hid hG
  clear hW hG hs hg
  go_enter Tryd.func22, Tryd.ntmps22
  go_wp2_with (go_at_call 34; rw [← HW.out]; refine (HC.out _ hbW).mono ?_; rintro e w1 ⟨rfl, hb1⟩)
  go_ret2
  exact ⟨rfl, hbW.trans (hb1.mono hbW.size)⟩

set_option maxHeartbeats 1000000 in
theorem Walks_err {w : World} {v : Value} {names : List ByteArray} {E : List (List Int)} (h : GrV w v names E) (x y : Int) (hc : chk names E = 0) (hne : wlkC names.length x y ≠ 0) :
    Calls Tryd.prog 22 #[v, .int .i64 x, .int .i64 y] w (WlkE w (wlkC names.length x y : Nat)) := by
  have HC := Lib.hid (fun w' hb => Check_any (h.at w' hb))
  rw [hc] at HC
  have HH := Lib.hid (fun w' hb => @has_is w' _ _ _ (h.at w' hb) x)
  clear hc
  obtain ⟨A1, c1, A', c', rfl, hs, hg⟩ := h
  obtain ⟨W, G, hW, hG, hbW, c0, c1', hGl, hwG⟩ := gbox w (.slice A1 names.length c1) (.slice A' E.length c')
  have HW := Lib.hid hW
  have HG := Lib.hid hG
  clear hW hG hs hg
  cases hb : hasB names.length x
  · have e : wlkC names.length x y = 6 := by unfold wlkC; rw [if_pos hb]
    rw [e]
    have HB := Lib.hid hb
    clear hb hne e
    go_enter Tryd.func22, Tryd.ntmps22
    go_wp2_with (first
      | (go_at_call 34; rw [← HW.out, ← HG.out]; refine (HC.out _ hbW).mono ?_; rintro e w1 ⟨rfl, hb1⟩; obtain ⟨d0, d1⟩ := keep2 hb1 c0 c1'; have hb2 := hbW.trans (hb1.mono hbW.size))
      | (go_at_call 57; refine (HH.out _ hb2 HB.out).mono ?_; rintro e w3 ⟨rfl, hb3⟩))
    go_ret2
    exact ⟨rfl, hb2.trans (hb3.mono hb2.size)⟩
  · have hy : y < 0 ∨ 100 < y := by
      unfold wlkC at hne
      rw [if_neg (by rw [hb]; simp)] at hne
      apply Classical.byContradiction
      intro h
      rw [if_neg h] at hne
      exact hne rfl
    have e : wlkC names.length x y = 2 := by unfold wlkC; rw [if_neg (by rw [hb]; simp), if_pos hy]
    rw [e]
    have HB := Lib.hid hb
    clear hb hne e
    by_cases h0 : y < 0
    · clear hy
      go_enter Tryd.func22, Tryd.ntmps22
      go_wp2_with (first
        | (go_at_call 34; rw [← HW.out, ← HG.out]; refine (HC.out _ hbW).mono ?_; rintro e w1 ⟨rfl, hb1⟩; obtain ⟨d0, d1⟩ := keep2 hb1 c0 c1'; have hb2 := hbW.trans (hb1.mono hbW.size))
        | (go_at_call 57; refine (HH.out _ hb2 HB.out).mono ?_; rintro e w3 ⟨rfl, hb3⟩))
      go_ret2
      exact ⟨rfl, hb2.trans (hb3.mono hb2.size)⟩
    · have h1 : 100 < y := by omega
      have hd : decide (y < 0) = false := by simpa using h0
      clear hy
      go_enter Tryd.func22, Tryd.ntmps22
      go_wp2_with (first
        | (go_at_call 34; rw [← HW.out, ← HG.out]; refine (HC.out _ hbW).mono ?_; rintro e w1 ⟨rfl, hb1⟩; obtain ⟨d0, d1⟩ := keep2 hb1 c0 c1'; have hb2 := hbW.trans (hb1.mono hbW.size))
        | (go_at_call 57; refine (HH.out _ hb2 HB.out).mono ?_; rintro e w3 ⟨rfl, hb3⟩))
      go_ret2
      exact ⟨rfl, hb2.trans (hb3.mono hb2.size)⟩

def WlkR (w : World) (E : List (List Nat)) (u n : Nat) (e : Ending) (w' : World) : Prop := ∃ A, e = .returned (.tuple #[.slice A E.length E.length, .int .i64 0]) ∧ Pl NI w' (fun _ => True) A E.length E.length (lf (wn E u n) E.length) ∧ Below w.heap.size w w'

set_option maxHeartbeats 1000000 in
theorem Walks_ok {w : World} {v : Value} {names : List ByteArray} {E : List (List Nat)} (h : GrV w v names (toI E)) (hc : chk names (toI E) = 0) (hk : Ok names E) {u n : Nat} (hu : u < E.length) (hn : n ≤ 100) :
    Calls Tryd.prog 22 #[v, .int .i64 (u : Nat), .int .i64 (n : Nat)] w (WlkR w E u n) := by
  have hsm := hk.small
  have HC := Lib.hid (fun w' hb => Check_any (h.at w' hb))
  rw [hc] at HC
  have hh : hasB names.length (u : Nat) = true := by unfold hasB; simp; have := hk.len; omega
  have HH := Lib.hid (fun w' hb => has_is (h.at w' hb) (u : Nat) hh)
  have HWK := Lib.hid (fun w' (hb : Below w.heap.size w w') => walks_any (h.below hb) hk hu hn)
  clear hc hh
  obtain ⟨A1, c1, A', c', rfl, hs, hg⟩ := h
  rw [toI_length] at *
  obtain ⟨W, G, hW, hG, hbW, c0, c1', hGl, hwG⟩ := gbox w (.slice A1 names.length c1) (.slice A' E.length c')
  have HW := Lib.hid hW
  have HG := Lib.hid hG
  clear hW hG hs hg hk
  go_enter Tryd.func22, Tryd.ntmps22
  go_wp2_with (first
    | (go_at_call 34; rw [← HW.out, ← HG.out]; refine (HC.out _ hbW).mono ?_; rintro e w1 ⟨rfl, hb1⟩; obtain ⟨d0, d1⟩ := keep2 hb1 c0 c1'; have hb2 := hbW.trans (hb1.mono hbW.size))
    | (go_at_call 57; refine (HH.out _ hb2).mono ?_; rintro e w3 ⟨rfl, hb3⟩; obtain ⟨e0, e1⟩ := keep2 hb3 d0 d1; have hb4 := hb2.trans (hb3.mono hb2.size))
    | (go_at_call 60; refine (HWK.out _ hb4).mono ?_; rintro e w5 ⟨v5, rfl, ⟨S, hS, rfl, hia⟩, hb5⟩; rw [lf_length]))
  go_ret2
  have hpl := hia.pl (D := fun _ => True) trivial (by rw [lf_length]; unfold maxLen; omega)
  rw [lf_length] at hpl
  exact ⟨_, rfl, hpl, hb4.trans (hb5.mono hb4.size)⟩

theorem sml_eq {names : List ByteArray} {E : List (List Int)} (h : chk names E ≠ 0) : sml names E = chk names E := by unfold sml; rw [if_pos h]
theorem sml_light {names : List ByteArray} {E : List (List Int)} (h : chk names E = 0) (hl : LightP names E) : sml names E = 0 := by
  unfold sml
  rw [if_neg (by simp [h]), if_neg]
  unfold chk at h
  split at h
  · cases h
  · split at h
    · cases h
    · have := hl.1; omega

/-- The integer 0 as it is built in place. -/
theorem zero_ni (w : World) : NIntV w (fun _ => True) (.agg #[.bool false, .slice none 0 0]) 0 := NIntV.zero _ _
theorem same_zero {w : World} : Calls Tryd.prog 24 #[.agg #[.bool false, .slice none 0 0], .agg #[.bool false, .slice none 0 0]] w (TrueR w) := by
  refine (SameInt_any (zero_ni w) (zero_ni w)).mono ?_
  rintro e w' ⟨rfl, hb⟩
  exact ⟨rfl, hb⟩
theorem same_int {w : World} {D D' : Nat → Prop} {v v' : Value} {x : Int} (h : NIntV w D v x) (h' : NIntV w D' v' x) : Calls Tryd.prog 24 #[v, v'] w (TrueR w) := by
  refine (SameInt_any h h').mono ?_
  rintro e w' ⟨rfl, hb⟩
  exact ⟨by simp, hb⟩

/-- A new block of two cells. -/
theorem ibox (w : World) (a b : Value) : ∃ W P, W = w.alloc (.cells #[a, b] 46) ∧ P = w.heap.size ∧ Below w.heap.size w W ∧ W.cell? ⟨P, 0, none⟩ = some a ∧ W.cell? ⟨P, 1, none⟩ = some b :=
  ⟨_, _, rfl, rfl, (Below.refl _ _).alloc (Nat.le_refl _) _, by go_simp, by go_simp⟩

set_option maxHeartbeats 4000000 in
set_option maxRecDepth 100000 in
theorem lawW_bad {w : World} {v : Value} {names : List ByteArray} {E : List (List Int)} (h : GrV w v names E) (x y : Int) (hc : chk names E ≠ 0) : Calls Tryd.prog 4 #[v, .int .i64 x, .int .i64 y] w (TrueR w) := by
  have H := Lib.hid (fun w' hb => h.at w' hb)
  have hz : (((chk names E : Nat) : Int) != 0) = true := by simp [hc]
  have hz2 : (((chk names E : Nat) : Int) == ((chk names E : Nat) : Int)) = true := by simp
  have HD := Lib.hid (fun w' hb => Walks_bad (h.at w' hb) x y hc)
  have HM := Lib.hid (fun w' hb => Closed_bad (h.at w' hb) y (by rw [sml_eq hc]; exact hc))
  rw [sml_eq hc] at HM
  have HR := Lib.hid (fun w' hb => rCheck_any (h.at w' hb))
  generalize chk names E = q at *
  clear hc
  obtain ⟨A, c, A', c', rfl, hs, hg⟩ := h
  obtain ⟨W, G, hW, hG, hbW, c0, c1, hGl, hwG⟩ := gbox w (.slice A names.length c) (.slice A' E.length c')
  have HW := Lib.hid hW
  have HG := Lib.hid hG
  clear hW hG hs hg
  cases hwi : decide (11 ≤ y ∧ y ≤ 100)
  all_goals
    have HWI := Lib.hid hwi
    clear hwi
    go_enter Tryd.func4, Tryd.ntmps4
    go_wp2_with fail
    rw [← HW.out, ← HG.out]
    refine (Light_any (H.out _ hbW)).mono ?_
    rintro e w1 ⟨b, rfl, _, hb1⟩
    obtain ⟨d0, d1⟩ := keep2 hb1 c0 c1
    replace hb1 := hbW.trans (hb1.mono hbW.size)
    clear c0 c1
    cases b
    · go_wp2_with fail
      refine awake_any.mono ?_
      rintro e w2 ⟨rfl, hb2⟩
      go_wp2_with fail
      go_ret
      exact ⟨rfl, hb1.trans (hb2.mono hb1.size)⟩
    · go_wp2_with (go_at_call 21; refine (Within_any HWI.out _).mono ?_; rintro e w' ⟨rfl, rfl⟩)
      first
        | (refine awake_any.mono ?_
           rintro e w2 ⟨rfl, hb2⟩
           go_wp2_with fail
           go_ret
           exact ⟨rfl, hb1.trans (hb2.mono hb1.size)⟩)
        | (refine (HD.out _ hb1).mono ?_
           rintro e w2 ⟨rfl, hb2⟩
           obtain ⟨e0, e1⟩ := keep2 hb2 d0 d1
           replace hb2 := hb1.trans (hb2.mono hb1.size)
           clear d0 d1 hb1
           go_wp2_with fail
           refine (HM.out _ hb2).mono ?_
           rintro e w3 ⟨rfl, hb3⟩
           obtain ⟨f0, f1⟩ := keep2 hb3 e0 e1
           replace hb3 := hb2.trans (hb3.mono hb2.size)
           clear e0 e1 hb2
           obtain ⟨w4, P, hw4, hP, hb4, p0, p1⟩ := ibox w3 (.bool false) (.slice none 0 0)
           obtain ⟨g0, g1⟩ := keep2 hb4 f0 f1
           have k0 := g0
           have k1 := g1
           rw [hw4] at k0 k1
           have HW4 := Lib.hid hw4
           have HP := Lib.hid hP
           clear hw4 hP
           go_wp2_with fail
           replace hb4 := hb3.trans (hb4.mono hb3.size)
           rw [← HW4.out, ← HP.out]
           clear f0 f1 hb3 k0 k1
           refine (HR.out _ hb4).mono ?_
           rintro e w5 ⟨rfl, hb5⟩
           obtain ⟨q0, q1⟩ := keep2 hb5 p0 p1
           replace hb5 := hb4.trans (hb5.mono hb4.size)
           clear g0 g1 p0 p1 hb4
           go_wp2_with fail
           refine same_zero.mono ?_
           rintro e w6 ⟨rfl, hb6⟩
           replace hb6 := hb5.trans (hb6.mono hb5.size)
           go_wp2_with fail
           refine awake_any.mono ?_
           rintro e w7 ⟨rfl, hb7⟩
           go_wp2_with fail
           go_ret
           exact ⟨rfl, hb6.trans (hb7.mono hb6.size)⟩)
set_option maxHeartbeats 4000000 in
set_option maxRecDepth 100000 in
/-- Not computed: the graph is not light, or the length is too great. -/
theorem lawW_skip {w : World} {v : Value} {names : List ByteArray} {E : List (List Int)} (h : GrV w v names E) (x y : Int) (hy : 11 ≤ y ∧ y ≤ 100) : Calls Tryd.prog 4 #[v, .int .i64 x, .int .i64 y] w (TrueR w) := by
  have H := Lib.hid (fun w' hb => h.at w' hb)
  obtain ⟨A, c, A', c', rfl, hs, hg⟩ := h
  obtain ⟨W, G, hW, hG, hbW, c0, c1, hGl, hwG⟩ := gbox w (.slice A names.length c) (.slice A' E.length c')
  have HW := Lib.hid hW
  have HG := Lib.hid hG
  have hwi : decide (11 ≤ y ∧ y ≤ 100) = true := by simp [hy]
  have HWI := Lib.hid hwi
  clear hW hG hs hg hwi hy
  go_enter Tryd.func4, Tryd.ntmps4
  go_wp2_with fail
  rw [← HW.out, ← HG.out]
  refine (Light_any (H.out _ hbW)).mono ?_
  rintro e w1 ⟨b, rfl, _, hb1⟩
  obtain ⟨d0, d1⟩ := keep2 hb1 c0 c1
  replace hb1 := hbW.trans (hb1.mono hbW.size)
  clear c0 c1
  cases b
  all_goals
    go_wp2_with (go_at_call 21; refine (Within_any HWI.out _).mono ?_; rintro e w' ⟨rfl, rfl⟩)
    refine awake_any.mono ?_
    rintro e w2 ⟨rfl, hb2⟩
    go_wp2_with fail
    go_ret
    exact ⟨rfl, hb1.trans (hb2.mono hb1.size)⟩

set_option maxHeartbeats 4000000 in
set_option maxRecDepth 100000 in
theorem lawW_range {w : World} {v : Value} {names : List ByteArray} {E : List (List Nat)} (h : GrV w v names (toI E)) (x y : Int) (hc : chk names (toI E) = 0) (hy : y < 0 ∨ 100 < y) : Calls Tryd.prog 4 #[v, .int .i64 x, .int .i64 y] w (TrueR w) := by
  have H := Lib.hid (fun w' hb => h.at w' hb)
  have HR := Lib.hid (fun w' hb => rCheck_any (h.at w' hb))
  rw [hc] at HR
  have hwi : decide (11 ≤ y ∧ y ≤ 100) = false := by simp; omega
  have hwj : decide (0 ≤ y ∧ y ≤ 100) = false := by simp; omega
  have HWI := Lib.hid hwi
  have HWJ := Lib.hid hwj
  have HCL := Lib.hid (fun w' hb (hs : sml names (toI E) = 0) => Closed_range (h.at w' hb) y hs hy)
  have hq : wlkC names.length x y ≠ 0 := by
    unfold wlkC
    cases hasB names.length x
    · rw [if_pos rfl]; decide
    · rw [if_neg (by simp), if_pos hy]; decide
  have HD := Lib.hid (fun w' hb => Walks_err (h.at w' hb) x y hc hq)
  have HSL := Lib.hid (fun hl => @sml_light names (toI E) hc hl)
  have hwk : wlkC names.length x y = if hasB names.length x = false then 6 else 2 := by unfold wlkC; rw [if_pos hy]
  rw [hwk] at HD
  clear hwi hwj hq hwk hc hy
  obtain ⟨A, c, A', c', hv, hs, hg⟩ := h
  rw [toI_length] at hv
  subst hv
  obtain ⟨W, G, hW, hG, hbW, c0, c1, hGl, hwG⟩ := gbox w (.slice A names.length c) (.slice A' E.length c')
  have HW := Lib.hid hW
  have HG := Lib.hid hG
  clear hW hG hs hg
  cases hxb : hasB names.length x
  all_goals
    rw [hxb] at HD
    have HX := Lib.hid hxb
    clear hxb
    go_enter Tryd.func4, Tryd.ntmps4
    go_wp2_with fail
    rw [← HW.out, ← HG.out]
    refine (Light_any (H.out _ hbW)).mono ?_
    rintro e w1 ⟨b, rfl, hli, hb1⟩
    obtain ⟨d0, d1⟩ := keep2 hb1 c0 c1
    replace hb1 := hbW.trans (hb1.mono hbW.size)
    clear c0 c1
    cases b
    · clear hli
      go_wp2_with fail
      refine awake_any.mono ?_
      rintro e w2 ⟨rfl, hb2⟩
      go_wp2_with fail
      go_ret
      exact ⟨rfl, hb1.trans (hb2.mono hb1.size)⟩
    · have HS := Lib.hid (HSL.out (hli rfl))
      clear hli
      go_wp2_with (go_at_call 21; refine (Within_any HWI.out _).mono ?_; rintro e w' ⟨rfl, rfl⟩)
      refine (HD.out _ hb1).mono ?_
      rintro e w2 ⟨rfl, hb2⟩
      obtain ⟨e0, e1⟩ := keep2 hb2 d0 d1
      replace hb2 := hb1.trans (hb2.mono hb1.size)
      clear d0 d1 hb1
      go_wp2_with fail
      refine (HCL.out _ hb2 HS.out).mono ?_
      rintro e w3 ⟨rfl, hb3⟩
      obtain ⟨f0, f1⟩ := keep2 hb3 e0 e1
      replace hb3 := hb2.trans (hb3.mono hb2.size)
      clear e0 e1 hb2
      obtain ⟨w4, P, hw4, hP, hb4, p0, p1⟩ := ibox w3 (.bool false) (.slice none 0 0)
      obtain ⟨g0, g1⟩ := keep2 hb4 f0 f1
      have k0 := g0
      have k1 := g1
      rw [hw4] at k0 k1
      have HW4 := Lib.hid hw4
      have HP := Lib.hid hP
      clear hw4 hP
      go_wp2_with fail
      replace hb4 := hb3.trans (hb4.mono hb3.size)
      rw [← HW4.out, ← HP.out]
      clear f0 f1 hb3 k0 k1
      refine (HR.out _ hb4).mono ?_
      rintro e w5 ⟨rfl, hb5⟩
      obtain ⟨q0, q1⟩ := keep2 hb5 p0 p1
      obtain ⟨h0, h1⟩ := keep2 hb5 g0 g1
      replace hb5 := hb4.trans (hb5.mono hb4.size)
      clear g0 g1 p0 p1 hb4
      go_wp2_with (go_at_call 21; refine (Within_any HWJ.out _).mono ?_; rintro e w' ⟨rfl, rfl⟩)
      refine (rHas_is (H.out _ hb5) x HX.out).mono ?_
      rintro e w6 ⟨rfl, hb6⟩
      obtain ⟨r0, r1⟩ := keep2 hb6 q0 q1
      replace hb6 := hb5.trans (hb6.mono hb5.size)
      clear q0 q1 h0 h1 hb5
      go_wp2_with fail
      refine same_zero.mono ?_
      rintro e w7 ⟨rfl, hb7⟩
      replace hb7 := hb6.trans (hb7.mono hb6.size)
      go_wp2_with fail
      refine awake_any.mono ?_
      rintro e w8 ⟨rfl, hb8⟩
      go_wp2_with fail
      go_ret
      exact ⟨rfl, hb7.trans (hb8.mono hb7.size)⟩
theorem SameInts_same {w : World} {D D' : Nat → Prop} {A B : Option Addr} {n c n' c' : Nat} {l : List Int} (h : Pl NI w D A n c l) (h' : Pl NI w D' B n' c' l) : Calls Tryd.prog 27 #[.slice A n c, .slice B n' c'] w (TrueR w) := by
  refine (SameInts_any h h').mono ?_
  rintro e w' ⟨rfl, hb⟩
  exact ⟨by simp, hb⟩
theorem NIntV.shape {w : World} {D : Nat → Prop} {v : Value} {x : Int} (h : NIntV w D v x) : ∃ neg A m c, v = .agg #[.bool neg, .slice A m c] ∧ NIntV w (fun _ => True) (.agg #[.bool neg, .slice A m c]) x := by
  obtain ⟨A, c, rfl, h1⟩ := h
  exact ⟨_, A, _, c, rfl, A, c, rfl, h1.mono fun _ _ _ => trivial⟩

set_option maxHeartbeats 4000000 in
set_option maxRecDepth 100000 in
theorem lawW_ok {w : World} {v : Value} {names : List ByteArray} {E : List (List Nat)} (h : GrV w v names (toI E)) (x : Int) {n : Nat} (hc : chk names (toI E) = 0) (hk : Ok names E) (hn : n ≤ 10) : Calls Tryd.prog 4 #[v, .int .i64 x, .int .i64 (n : Nat)] w (TrueR w) := by
  have H := Lib.hid (fun w' hb => h.at w' hb)
  have HR := Lib.hid (fun w' hb => rCheck_any (h.at w' hb))
  rw [hc] at HR
  have hwi : decide (11 ≤ (n : Int) ∧ (n : Int) ≤ 100) = false := by simp; omega
  have hwj : decide (0 ≤ (n : Int) ∧ (n : Int) ≤ 100) = true := by simp; omega
  have HWI := Lib.hid hwi
  have HWJ := Lib.hid hwj
  have HCL := Lib.hid (fun w' hb (hs : sml names (toI E) = 0) => Closed_ok (h.at w' hb) hs hk (show n ≤ 100 by omega))
  have HSL := Lib.hid (fun hl => @sml_light names (toI E) hc hl)
  have HPW := Lib.hid (fun w' hb => rPower_any (h.at w' hb) hk (show n ≤ 100 by omega))
  have HE := Lib.hid (fun w' hb (hx : hasB names.length x = false) => Walks_err (h.at w' hb) x n hc (by unfold wlkC; rw [if_pos hx]; decide))
  have hsm := hk.small
  have HK := Lib.hid hk
  have HC := Lib.hid hc
  have HTR := Lib.hid (fun w' A c D (hr : RowsD PvD w' D (.slice A E.length c) (ml (wm E n) E.length)) => rTrace_any hr (by omega) (fun i _ => wm_le hk n i i) (by omega))
  have hst : sm (fun i => wm E n i i) E.length = (tr E n E.length : Nat) := sm_tr E n E.length
  rw [hst] at HTR
  clear hwi hwj hc hk hst
  obtain ⟨A, c, A', c', hv, hs, hg⟩ := h
  rw [toI_length] at hv
  subst hv
  obtain ⟨W, G, hW, hG, hbW, c0, c1, hGl, hwG⟩ := gbox w (.slice A names.length c) (.slice A' E.length c')
  have HW := Lib.hid hW
  have HG := Lib.hid hG
  clear hW hG hs hg
  cases hxb : hasB names.length x
  · have HX := Lib.hid hxb
    have hwk : wlkC names.length x n = 6 := by unfold wlkC; rw [if_pos hxb]
    rw [hwk] at HE
    clear hxb hwk
    go_enter Tryd.func4, Tryd.ntmps4
    go_wp2_with fail
    rw [← HW.out, ← HG.out]
    refine (Light_any (H.out _ hbW)).mono ?_
    rintro e w1 ⟨b, rfl, hli, hb1⟩
    obtain ⟨d0, d1⟩ := keep2 hb1 c0 c1
    replace hb1 := hbW.trans (hb1.mono hbW.size)
    clear c0 c1
    cases b
    · clear hli
      go_wp2_with fail
      refine awake_any.mono ?_
      rintro e w2 ⟨rfl, hb2⟩
      go_wp2_with fail
      go_ret
      exact ⟨rfl, hb1.trans (hb2.mono hb1.size)⟩
    · have HS := Lib.hid (HSL.out (hli rfl))
      clear hli
      go_wp2_with (go_at_call 21; refine (Within_any HWI.out _).mono ?_; rintro e w' ⟨rfl, rfl⟩)
      refine (HE.out _ hb1 HX.out).mono ?_
      rintro e w2 ⟨rfl, hb2⟩
      obtain ⟨e0, e1⟩ := keep2 hb2 d0 d1
      replace hb2 := hb1.trans (hb2.mono hb1.size)
      clear d0 d1 hb1
      go_wp2_with fail
      refine (HCL.out _ hb2 HS.out).mono ?_
      rintro e w3 ⟨v3, rfl, hn3, hb3⟩
      obtain ⟨neg3, A3, m3, c3, rfl, hi3⟩ := hn3.shape
      obtain ⟨f0, f1⟩ := keep2 hb3 e0 e1
      replace hb3 := hb2.trans (hb3.mono hb2.size)
      clear e0 e1 hb2 hn3
      obtain ⟨w4, P, hw4, hP, hb4, p0, p1⟩ := ibox w3 (.bool neg3) (.slice A3 m3 c3)
      obtain ⟨g0, g1⟩ := keep2 hb4 f0 f1
      replace hi3 := hi3.below hb4
      have k0 := g0
      have k1 := g1
      rw [hw4] at k0 k1
      have HW4 := Lib.hid hw4
      have HP := Lib.hid hP
      clear hw4 hP
      go_wp2_with fail
      replace hb4 := hb3.trans (hb4.mono hb3.size)
      rw [← HW4.out, ← HP.out]
      clear f0 f1 hb3 k0 k1
      refine (HR.out _ hb4).mono ?_
      rintro e w5 ⟨rfl, hb5⟩
      obtain ⟨q0, q1⟩ := keep2 hb5 p0 p1
      obtain ⟨h0, h1⟩ := keep2 hb5 g0 g1
      replace hi3 := hi3.below hb5
      replace hb5 := hb4.trans (hb5.mono hb4.size)
      clear g0 g1 p0 p1 hb4
      go_wp2_with (go_at_call 21; refine (Within_any HWJ.out _).mono ?_; rintro e w' ⟨rfl, rfl⟩)
      refine (HPW.out _ hb5).mono ?_
      rintro e w6 ⟨v6, rfl, hr6, hb6⟩
      obtain ⟨A6, c6, rfl⟩ := hr6.slice_ (ml_length _ _)
      obtain ⟨r0, r1⟩ := keep2 hb6 q0 q1
      obtain ⟨s0, s1⟩ := keep2 hb6 h0 h1
      replace hi3 := hi3.below hb6
      replace hb6 := hb5.trans (hb6.mono hb5.size)
      clear q0 q1 h0 h1 hb5
      have hdr : Below w6.heap.size w6 w6.drew := (Below.refl _ _).drew
      have hTR := Lib.hid (HTR.out _ _ _ _ (hr6.below hdr))
      have l9 := cell_some_lt r0
      go_wp2_with fail
      refine wp_region_reads 5 (by kernel_rfl) (by kernel_rfl) (fun _ _ _ _ _ h => h) (Same w6) (same_drew w6) ?_
      simp only [List.take_succ_cons, List.take_zero, List.drop_succ_cons, List.drop_zero]
      iterate 5
        refine loadsZ_cons ?_ (by rfl) (fun wz hSw => ?_) ?_
        rotate_left
        · obtain ⟨hs1, hs2⟩ := hSw
          go_simp
          try with_reducible rfl
        simp only [Act.put, List.setIfInBounds_toArray, List.set_cons_zero, List.set_cons_succ]
      change tailY _ _ _ _ _ _ w6.drew
      refine tailY_cons (same_drew w6) ?_
      go_wp2_with (go_at_call 26; refine hTR.out.mono ?_; rintro e w7 ⟨v7, rfl, hn7, hb7⟩; obtain ⟨neg7, A7, m7, c7, rfl, hi7⟩ := hn7.shape)
      replace hb7 := hdr.trans (hb7.mono hdr.size)
      refine tailY_cons (same_below hb7) ?_
      obtain ⟨t0, t1⟩ := keep2 hb7 s0 s1
      replace hi3 := hi3.below hb7
      go_wp2_with (go_at_call 24; refine (same_int hi3 hi7).mono ?_; rintro e w8 ⟨rfl, hb8⟩)
      replace hb8 := hb7.trans (hb8.mono hb7.size)
      obtain ⟨u0, u1⟩ := keep2 hb8 s0 s1
      refine tailY_cons (same_below hb8) ?_
      go_wp2_with fail
      refine tailY_cons (same_below hb8) ?_
      go_wp2_with fail
      refine tailY_nil (same_below hb8) ?_
      replace hb8 := hb6.trans (hb8.mono hb6.size)
      clear t0 t1 s0 s1 r0 r1 hb7 hi3 hi7 hb6 hn7
      go_wp2_with fail
      refine (rHas_is (H.out _ hb8) x HX.out).mono ?_
      rintro e w9 ⟨rfl, hb9⟩
      replace hb9 := hb8.trans (hb9.mono hb8.size)
      clear u0 u1 hb8
      go_wp2_with fail
      refine awake_any.mono ?_
      rintro e w10 ⟨rfl, hb10⟩
      go_wp2_with fail
      go_ret
      exact ⟨rfl, hb9.trans (hb10.mono hb9.size)⟩
  · have hxx : 0 ≤ x ∧ x < names.length := by have := hxb; unfold hasB at this; simpa using this
    obtain ⟨hx0, hx1⟩ := hxx
    obtain ⟨u, rfl⟩ := Int.eq_ofNat_of_zero_le hx0
    have hul : u < E.length := by have := HK.out.len; omega
    have HX := Lib.hid hxb
    have HWO := Lib.hid (fun w' hb => Walks_ok (H.out w' hb) HC.out HK.out hul (show n ≤ 100 by omega))
    have hui : (u : Int) < (E.length : Int) := by omega
    have hlw : lf (wn E u n) E.length = li (wm E n u) E.length := rfl
    have HLW := Lib.hid hlw
    clear hxb hlw HE hx1
    go_enter Tryd.func4, Tryd.ntmps4
    go_wp2_with fail
    rw [← HW.out, ← HG.out]
    refine (Light_any (H.out _ hbW)).mono ?_
    rintro e w1 ⟨b, rfl, hli, hb1⟩
    obtain ⟨d0, d1⟩ := keep2 hb1 c0 c1
    replace hb1 := hbW.trans (hb1.mono hbW.size)
    clear c0 c1
    cases b
    · clear hli
      go_wp2_with fail
      refine awake_any.mono ?_
      rintro e w2 ⟨rfl, hb2⟩
      go_wp2_with fail
      go_ret
      exact ⟨rfl, hb1.trans (hb2.mono hb1.size)⟩
    · have HS := Lib.hid (HSL.out (hli rfl))
      clear hli
      go_wp2_with (go_at_call 21; refine (Within_any HWI.out _).mono ?_; rintro e w' ⟨rfl, rfl⟩)
      refine (HWO.out _ hb1).mono ?_
      rintro e w2 ⟨A2, rfl, hp2, hb2⟩
      obtain ⟨e0, e1⟩ := keep2 hb2 d0 d1
      replace hb2 := hb1.trans (hb2.mono hb1.size)
      clear d0 d1 hb1
      go_wp2_with fail
      refine (HCL.out _ hb2 HS.out).mono ?_
      rintro e w3 ⟨v3, rfl, hn3, hb3⟩
      obtain ⟨neg3, A3, m3, c3, rfl, hi3⟩ := hn3.shape
      obtain ⟨f0, f1⟩ := keep2 hb3 e0 e1
      replace hp2 := hp2.below hb3
      replace hb3 := hb2.trans (hb3.mono hb2.size)
      clear e0 e1 hb2 hn3
      obtain ⟨w4, P, hw4, hP, hb4, p0, p1⟩ := ibox w3 (.bool neg3) (.slice A3 m3 c3)
      obtain ⟨g0, g1⟩ := keep2 hb4 f0 f1
      replace hi3 := hi3.below hb4
      replace hp2 := hp2.below hb4
      have k0 := g0
      have k1 := g1
      rw [hw4] at k0 k1
      have HW4 := Lib.hid hw4
      have HP := Lib.hid hP
      clear hw4 hP
      go_wp2_with fail
      replace hb4 := hb3.trans (hb4.mono hb3.size)
      rw [← HW4.out, ← HP.out]
      clear f0 f1 hb3 k0 k1
      refine (HR.out _ hb4).mono ?_
      rintro e w5 ⟨rfl, hb5⟩
      obtain ⟨q0, q1⟩ := keep2 hb5 p0 p1
      obtain ⟨h0, h1⟩ := keep2 hb5 g0 g1
      replace hi3 := hi3.below hb5
      replace hp2 := hp2.below hb5
      replace hb5 := hb4.trans (hb5.mono hb4.size)
      clear g0 g1 p0 p1 hb4
      go_wp2_with (go_at_call 21; refine (Within_any HWJ.out _).mono ?_; rintro e w' ⟨rfl, rfl⟩)
      refine (HPW.out _ hb5).mono ?_
      rintro e w6 ⟨v6, rfl, hr6, hb6⟩
      obtain ⟨A6, c6, rfl⟩ := hr6.slice_ (ml_length _ _)
      obtain ⟨r0, r1⟩ := keep2 hb6 q0 q1
      obtain ⟨s0, s1⟩ := keep2 hb6 h0 h1
      replace hi3 := hi3.below hb6
      replace hp2 := hp2.below hb6
      replace hb6 := hb5.trans (hb6.mono hb5.size)
      clear q0 q1 h0 h1 hb5
      have hdr : Below w6.heap.size w6 w6.drew := (Below.refl _ _).drew
      have hTR := Lib.hid (HTR.out _ _ _ _ (hr6.below hdr))
      have l9 := cell_some_lt r0
      go_wp2_with fail
      refine wp_region_reads 5 (by kernel_rfl) (by kernel_rfl) (fun _ _ _ _ _ h => h) (Same w6) (same_drew w6) ?_
      simp only [List.take_succ_cons, List.take_zero, List.drop_succ_cons, List.drop_zero]
      iterate 5
        refine loadsZ_cons ?_ (by rfl) (fun wz hSw => ?_) ?_
        rotate_left
        · obtain ⟨hs1, hs2⟩ := hSw
          go_simp
          try with_reducible rfl
        simp only [Act.put, List.setIfInBounds_toArray, List.set_cons_zero, List.set_cons_succ]
      change tailY _ _ _ _ _ _ w6.drew
      refine tailY_cons (same_drew w6) ?_
      go_wp2_with (go_at_call 26; refine hTR.out.mono ?_; rintro e w7 ⟨v7, rfl, hn7, hb7⟩; obtain ⟨neg7, A7, m7, c7, rfl, hi7⟩ := hn7.shape)
      replace hb7 := hdr.trans (hb7.mono hdr.size)
      refine tailY_cons (same_below hb7) ?_
      obtain ⟨t0, t1⟩ := keep2 hb7 s0 s1
      replace hi3 := hi3.below hb7
      go_wp2_with (go_at_call 24; refine (same_int hi3 hi7).mono ?_; rintro e w8 ⟨rfl, hb8⟩)
      replace hb8 := hb7.trans (hb8.mono hb7.size)
      obtain ⟨u0, u1⟩ := keep2 hb8 s0 s1
      refine tailY_cons (same_below hb8) ?_
      go_wp2_with fail
      refine tailY_cons (same_below hb8) ?_
      go_wp2_with fail
      refine tailY_nil (same_below hb8) ?_
      replace hp2 := hp2.below hb8
      replace hr6 := hr6.below hb8
      replace hb8 := hb6.trans (hb8.mono hb6.size)
      clear t0 t1 s0 s1 r0 r1 hb7 hi3 hi7 hb6 hn7
      go_wp2_with fail
      refine (rHas_is (H.out _ hb8) u HX.out).mono ?_
      rintro e w9 ⟨rfl, hb9⟩
      replace hp2 := hp2.below hb9
      replace hr6 := hr6.below hb9
      replace hb9 := hb8.trans (hb9.mono hb8.size)
      clear u0 u1 hb8
      obtain ⟨bm, om, um, rfl, hcm, hum⟩ := hr6.at (ml_get hul)
      obtain ⟨A9, c9, rfl, hp9⟩ := hum.pl
      rw [li_length] at hcm hp9
      have hr9 := hr6.room
      rw [ml_length] at hr9
      obtain ⟨hr90, hr91, hr92⟩ := hr9
      unfold maxLen at hr92
      have HP9 := Lib.hid hp9
      rw [HLW.out] at hp2
      have HP2 := Lib.hid hp2
      clear hum hr6 hp9 hp2 hr90
      go_wp2_with fail
      refine (SameInts_same HP2.out HP9.out).mono ?_
      rintro e w10 ⟨rfl, hb10⟩
      replace hb10 := hb9.trans (hb10.mono hb9.size)
      go_wp2_with fail
      refine awake_any.mono ?_
      rintro e w11 ⟨rfl, hb11⟩
      go_wp2_with fail
      go_ret
      exact ⟨rfl, hb10.trans (hb11.mono hb10.size)⟩

/-- GraphWalks returns true, whatever the graph and the numbers. -/
theorem GraphWalks_true {w : World} {v : Value} {names : List ByteArray} {E : List (List Int)} (h : GrV w v names E) (x y : Int) : Calls Tryd.prog 4 #[v, .int .i64 x, .int .i64 y] w (TrueR w) := by
  by_cases h1 : 11 ≤ y ∧ y ≤ 100
  · exact lawW_skip h x y h1
  · by_cases hc : chk names E = 0
    · obtain ⟨E', rfl, hk⟩ := ok_of_chk hc
      by_cases h2 : y < 0 ∨ 100 < y
      · exact lawW_range h x y hc h2
      · obtain ⟨n, rfl⟩ := Int.eq_ofNat_of_zero_le (show 0 ≤ y by omega)
        exact lawW_ok h x hc hk (by omega)
    · exact lawW_bad h x y hc
end Go.Proofs.YtpkjdnplmgfbbaaDoor
