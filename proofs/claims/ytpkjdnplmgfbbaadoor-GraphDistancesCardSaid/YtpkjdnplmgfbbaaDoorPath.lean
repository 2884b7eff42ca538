/- graph.Path. -/
import Derived.Test.YtpkjdnplmgfbbaaDoorIdx
import Derived.Test.YtpkjdnplmgfbbaaDoorRws
namespace Go.Proofs.YtpkjdnplmgfbbaaDoor
open Go.RowKit

set_option maxHeartbeats 1000000 in
set_option maxRecDepth 100000 in
/-- The function that Path hands to IndexFunc. -/
theorem path1_any {W : World} {U B G n x y : Nat} {l : List Int} (hU : W.cell? ⟨U, 0, none⟩ = some (.slice (some ⟨G, 0, none⟩) n n)) (hB : W.cell? ⟨B, 0, none⟩ = some (.int .i64 (y : Nat))) (hG : NArr W G l) (hl : l.length = n)
    (hs : ∀ v, v < n → -1 ≤ l.getD v 0 ∧ l.getD v 0 ≤ 100000) (hx : x < n) (hy : y < n) :
    Calls Tryd.prog 68 #[.int .i64 (x : Nat), .pointer (some ⟨U, 0, none⟩), .pointer (some ⟨B, 0, none⟩)] W fun e W' => e = .returned (.bool (l.getD x 0 == l.getD y 0 - 1)) ∧ Below W.heap.size W W' := by
  have cx := hG.cell (i := x) (by omega)
  have cy := hG.cell (i := y) (by omega)
  have h1 := hs x hx
  have h2 := hs y hy
  have hxi : (x : Int) < (n : Int) := by omega
  have hyi : (y : Int) < (n : Int) := by omega
  generalize l.getD x 0 = u at *
  generalize l.getD y 0 = z at *
  clear hs hl hG
  have hw : IntKind.i64.wrap (z - 1) = z - 1 := IntWalk.i64_in _ (by omega)
  go_enter Tryd.func68, Tryd.ntmps68
  go_wp2_with fail
  go_quiet (fail)
  go_wp2_with fail
  go_ret
  exact ⟨rfl, below_drewN' (Below.refl _ _) _⟩

set_option maxHeartbeats 1000000 in
theorem Path_bad {w : World} {v : Value} {names : List ByteArray} {E : List (List Int)} (h : GrV w v names E) (x y : Int) (hc : chk names E ≠ 0) :
    Calls Tryd.prog 28 #[v, .int .i64 x, .int .i64 y] w fun e w' => e = .returned (.tuple #[.slice none 0 0, .int .i64 (chk names E : Nat)]) ∧ Below w.heap.size w w' := by
  have HC := Lib.hid (fun w' hb => Check_any (h.at w' hb))
  generalize chk names E = q at *
  have hz : (((q : Nat) : Int) != 0) = true := by simp [hc]
  clear hc
  obtain ⟨A, c, A', c', rfl, hs, hg⟩ := h
  obtain ⟨W, G, hW, hG, hbW, c0, c1, hGl, hwG⟩ := gbox w (.slice A names.length c) (.slice A' E.length c')
  have HW := Lib.hid hW
  have HG := Lib.hid hG
  clear hW hG
  go_enter Tryd.func28, Tryd.ntmps28
  go_wp2_with (go_at_call 34; rw [← HW.out]; refine (HC.out _ hbW).mono ?_; rintro e w1 ⟨rfl, hb1⟩)
  go_ret2
  exact ⟨rfl, hbW.trans (hb1.mono hbW.size)⟩

set_option maxHeartbeats 1000000 in
set_option maxRecDepth 100000 in
theorem Path_missing {w : World} {v : Value} {names : List ByteArray} {E : List (List Int)} (h : GrV w v names E) (x y : Int) (hc : chk names E = 0) (hx : hasB names.length x = false ∨ hasB names.length y = false) :
    Calls Tryd.prog 28 #[v, .int .i64 x, .int .i64 y] w fun e w' => e = .returned (.tuple #[.slice none 0 0, .int .i64 6]) ∧ Below w.heap.size w w' := by
  have HC := Lib.hid (fun w' hb => Check_any (h.at w' hb))
  rw [hc] at HC
  have HH := Lib.hid (fun w' hb z => has_any (h.at w' hb) z)
  have HX := Lib.hid hx
  clear hc hx
  obtain ⟨A, c, A', c', rfl, hs, hg⟩ := h
  obtain ⟨W, G, hW, hG, hbW, c0, c1, hGl, hwG⟩ := gbox w (.slice A names.length c) (.slice A' E.length c')
  have HW := Lib.hid hW
  have HG := Lib.hid hG
  clear hW hG
  cases hxb : hasB names.length x
  · have HXB := Lib.hid hxb
    clear hxb
    go_enter Tryd.func28, Tryd.ntmps28
    go_wp2_with (first
      | (go_at_call 34; rw [← HW.out, ← HG.out]; refine (HC.out _ hbW).mono ?_; rintro e w1 ⟨rfl, hb1⟩; have hb2 := hbW.trans (hb1.mono hbW.size); have d0 := ((bcell hb1).1 _ 0 hGl).trans c0; have d1 := ((bcell hb1).1 _ 1 hGl).trans c1)
      | (go_at_call 57; refine (HH.out _ hb2 _).mono ?_; rintro e w3 ⟨rfl, hb3⟩; rw [HXB.out]))
    go_ret2
    exact ⟨rfl, hb2.trans (hb3.mono hb2.size)⟩
  · have HXB := Lib.hid hxb
    have hyb : hasB names.length y = false := by
      rcases HX.out with h1 | h1
      · rw [hxb] at h1; cases h1
      · exact h1
    have HYB := Lib.hid hyb
    clear hxb hyb
    go_enter Tryd.func28, Tryd.ntmps28
    go_wp2_with (first | (go_at_call 34; rw [← HW.out, ← HG.out]; refine (HC.out _ hbW).mono ?_; rintro e w1 ⟨rfl, hb1⟩; have hb2 := hbW.trans (hb1.mono hbW.size); have d0 := ((bcell hb1).1 _ 0 hGl).trans c0; have d1 := ((bcell hb1).1 _ 1 hGl).trans c1; have hGl2 := Nat.lt_of_lt_of_le hGl hb1.size))
    refine (HH.out _ hb2 _).mono ?_
    rintro e w3 ⟨rfl, hb3⟩
    rw [HXB.out]
    have hb4 := hb2.trans (hb3.mono hb2.size)
    have e0 := ((bcell hb3).1 _ 0 hGl2).trans d0
    have e1 := ((bcell hb3).1 _ 1 hGl2).trans d1
    go_wp2_with fail
    refine (HH.out _ hb4 _).mono ?_
    rintro e w5 ⟨rfl, hb5⟩
    rw [HYB.out]
    go_wp2_with fail
    go_ret2
    exact ⟨rfl, hb4.trans (hb5.mono hb4.size)⟩
end Go.Proofs.YtpkjdnplmgfbbaaDoor
