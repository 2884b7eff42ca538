/- graph.Distances and graph.Diameter. -/
import Derived.Test.YtpkjdnplmgfbbaaDoorOk
namespace Go.Proofs.YtpkjdnplmgfbbaaDoor
open Go.RowKit

theorem GrV.at {w : World} {v : Value} {names : List ByteArray} {E : List (List Int)} (h : GrV w v names E) : ∀ w', Below w.heap.size w w' → GrV w' v names E := fun _ hb => h.below hb

set_option maxHeartbeats 1000000 in
theorem Distances_bad {w : World} {v : Value} {names : List ByteArray} {E : List (List Int)} (h : GrV w v names E) (x : Int) (hc : chk names E ≠ 0) :
    Calls Tryd.prog 14 #[v, .int .i64 x] w fun e w' => e = .returned (.tuple #[.slice none 0 0, .int .i64 (chk names E : Nat)]) ∧ Below w.heap.size w w' := by
  have HC := Lib.hid (fun w' hb => Check_any (h.at w' hb))
  generalize chk names E = q at *
  have hz : (((q : Nat) : Int) != 0) = true := by simp [hc]
  clear hc
  obtain ⟨A, c, A', c', rfl, hs, hg⟩ := h
  obtain ⟨W, G, hW, hG, hbW, c0, c1, hGl, hwG⟩ := gbox w (.slice A names.length c) (.slice A' E.length c')
  have HW := Lib.hid hW
  have HG := Lib.hid hG
  clear hW hG
  go_enter Tryd.func14, Tryd.ntmps14
  go_wp2_with (go_at_call 34; rw [← HW.out]; refine (HC.out _ hbW).mono ?_; rintro e w1 ⟨rfl, hb1⟩)
  go_ret2
  exact ⟨rfl, hbW.trans (hb1.mono hbW.size)⟩

set_option maxHeartbeats 1000000 in
theorem Distances_missing {w : World} {v : Value} {names : List ByteArray} {E : List (List Int)} (h : GrV w v names E) (x : Int) (hc : chk names E = 0) (hx : hasB names.length x = false) :
    Calls Tryd.prog 14 #[v, .int .i64 x] w fun e w' => e = .returned (.tuple #[.slice none 0 0, .int .i64 6]) ∧ Below w.heap.size w w' := by
  have HC := Lib.hid (fun w' hb => Check_any (h.at w' hb))
  rw [hc] at HC
  have HH := Lib.hid (fun w' hb => has_any (h.at w' hb) x)
  have HX := Lib.hid hx
  clear hc hx
  obtain ⟨A, c, A', c', rfl, hs, hg⟩ := h
  obtain ⟨W, G, hW, hG, hbW, c0, c1, hGl, hwG⟩ := gbox w (.slice A names.length c) (.slice A' E.length c')
  have HW := Lib.hid hW
  have HG := Lib.hid hG
  clear hW hG
  go_enter Tryd.func14, Tryd.ntmps14
  go_wp2_with (first
    | (go_at_call 34; rw [← HW.out, ← HG.out]; refine (HC.out _ hbW).mono ?_; rintro e w1 ⟨rfl, hb1⟩; have hb2 := hbW.trans (hb1.mono hbW.size); have d0 := ((bcell hb1).1 _ 0 hGl).trans c0; have d1 := ((bcell hb1).1 _ 1 hGl).trans c1)
    | (go_at_call 57; refine (HH.out _ hb2).mono ?_; rintro e w3 ⟨rfl, hb3⟩; rw [HX.out]))
  go_ret2
  exact ⟨rfl, hb2.trans (hb3.mono hb2.size)⟩

set_option maxHeartbeats 1000000 in
theorem Distances_ok {w : World} {v : Value} {names : List ByteArray} {E : List (List Nat)} (h : GrV w v names (toI E)) (x : Nat) (hc : chk names (toI E) = 0) (hk : Ok names E) (hx : x < E.length) :
    Calls Tryd.prog 14 #[v, .int .i64 (x : Nat)] w (fun e w' => ∃ u, e = .returned (.tuple #[u, .int .i64 0]) ∧ DistsAt w E x w' u ∧ Below w.heap.size w w') := by
  have HC := Lib.hid (fun w' hb => Check_any (h.at w' hb))
  rw [hc] at HC
  have HH := Lib.hid (fun w' hb => has_any (h.at w' hb) (x : Nat))
  have HX := Lib.hid (show hasB names.length ((x : Nat) : Int) = true by unfold hasB; simp; have := hk.len; omega)
  have hl := hk.len
  obtain ⟨A, c, A', c', rfl, hs, hg⟩ := h
  rw [toI_length] at *
  have HD := Lib.hid (fun w' (hb : Below w.heap.size w w') => distances_any hk.valid hk.small hx (hg.below hb))
  obtain ⟨W, G, hW, hG, hbW, c0, c1, hGl, hwG⟩ := gbox w (.slice A names.length c) (.slice A' E.length c')
  have HW := Lib.hid hW
  have HG := Lib.hid hG
  have HL := Lib.hid hl
  clear hW hG hc hk hl
  go_enter Tryd.func14, Tryd.ntmps14
  go_wp2_with (first
    | (go_at_call 34; rw [← HW.out, ← HG.out]; refine (HC.out _ hbW).mono ?_; rintro e w1 ⟨rfl, hb1⟩; have hb2 := hbW.trans (hb1.mono hbW.size); have d0 := ((bcell hb1).1 _ 0 hGl).trans c0; have d1 := ((bcell hb1).1 _ 1 hGl).trans c1; have hGl2 := Nat.lt_of_lt_of_le hGl hb1.size)
    | (go_at_call 57; refine (HH.out _ hb2).mono ?_; rintro e w3 ⟨rfl, hb3⟩; rw [HX.out]; have hb4 := hb2.trans (hb3.mono hb2.size); have d2 := ((bcell hb3).1 _ 1 hGl2).trans d1)
    | (go_at_call 58; refine (HD.out _ hb4).mono ?_; rintro e w5 ⟨v5, rfl, hv5, hb5⟩))
  go_ret2
  obtain ⟨G5, hg5, rfl, hn5⟩ := hv5
  exact ⟨_, rfl, ⟨G5, Nat.le_trans hb4.size hg5, rfl, hn5⟩, hb4.trans (hb5.mono hb4.size)⟩
end Go.Proofs.YtpkjdnplmgfbbaaDoor
