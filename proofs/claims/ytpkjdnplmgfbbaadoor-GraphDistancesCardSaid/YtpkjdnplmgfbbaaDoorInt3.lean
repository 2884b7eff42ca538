/- Package integer: differences, comparisons, machine integers; package wide's small functions. -/
import Derived.Test.YtpkjdnplmgfbbaaDoorInt2
namespace Go.Proofs.YtpkjdnplmgfbbaaDoor
open Go.RowKit

theorem sg_not (neg : Bool) (m : Nat) : sg (!neg) m = - sg neg m := by unfold sg; cases neg <;> simp
theorem Held.self {R : Nat} {W : World} {u0 u1 : Value} (h : W.heap[R]? = some (.cells #[u0, u1] 46 (0, 0))) : Held R W W := ⟨Below.refl _ _, u0, u1, h⟩
theorem Wd.int {w : World} {D : Nat → Prop} {A : Option Addr} {n c : Nat} {l : List Nat} (h : Wd w D A n c l) (neg : Bool) : IntV w D (.agg #[.bool neg, .slice A n c]) (sg neg (val 4294967296 l)) := ⟨neg, A, n, c, l, rfl, h, rfl⟩
theorem IntV.t {w : World} {D : Nat → Prop} {v : Value} {x : Int} (h : IntV w D v x) : IntV w (fun _ => True) v x := h.mono fun _ _ _ => trivial

set_option maxHeartbeats 1000000 in
theorem Sub_any {D D' : Nat → Prop} {v v' : Value} {x y : Int} {w : World} (h : IntV w D v x) (h' : IntV w D' v' y) (hl : wl x.natAbs ≤ 1000000000000) (hl' : wl y.natAbs ≤ 1000000000000) :
    Calls Tryd.prog 85 #[v, v'] w (Gives w fun w' v => NIntV w' (w.heap.size ≤ ·) v (x - y)) := by
  replace h := h.t
  replace h' := h'.t
  obtain ⟨neg, A, n, c, l, rfl, h, rfl⟩ := h
  obtain ⟨neg', A', n', c', l', rfl, h', rfl⟩ := h'
  have HL := Lib.hid hl
  have HL' := Lib.hid hl'
  clear hl hl'
  go_enter Tryd.func85, Tryd.ntmps85
  go_wp2_with fail
  obtain ⟨W, P, R, hW, hP, hR, hbW, HR, c0, c1, d0, d1, hlt, hlt2⟩ := boxes2 w (.bool neg) (.slice A n c) (.bool neg') (.slice A' n' c')
  rw [← hW, ← hR, ← hP]
  clear hW hP hR
  go_region_held3 (fun w' => (∀ b o, b < R → w'.cell? ⟨b, o, none⟩ = W.cell? ⟨b, o, none⟩) ∧ Held R W w')
    (first | exact Held.init _ _ HR.out | (go_split_ands; exact Held.call (by assumption) (by assumption)) | (go_split_ands; exact Held.again (by assumption)) | (go_split_ands; exact Held.store (by assumption) _ _))
    (first
      | (go_at_call 119; go_split_ands; ((with_reducible refine (negative_any).mono ?_)); rintro e w3 ⟨rfl, hb3⟩)
      | (go_at_call 62; go_split_ands; ((with_reducible refine (Add_any (D := fun _ => True) (D' := fun _ => True) (x := sg neg (val 4294967296 l)) (y := sg (!neg') (val 4294967296 l')) ((h.below (Held.from (R := R) (W := W) (by assumption) hbW (by omega))).int neg) ((h'.below (Held.from (R := R) (W := W) (by assumption) hbW (by omega))).int (!neg')) HL.out (by rw [sg_natAbs]; have := HL'.out; rw [sg_natAbs] at this; exact this)).mono ?_)); rintro e w2 ⟨v2, rfl, ⟨A2, c2, rfl, hwd2⟩, hb2⟩; have hh := (Held.call hb2 (by assumption)).2; have hl2 := Held.call_lt (R := R) (W := W) hb2 (by assumption); obtain ⟨u0, u1, hr0, hr1, hf0, hf1⟩ := hh.cells))
  go_wp2_with fail
  refine bodyPost_ret (v := .agg #[.bool _, .slice A2 _ c2]) (by simp [results, Tryd.results85, go_sem, hr0, hr1]; exact ⟨rfl, rfl⟩) rfl ⟨_, rfl, ?_, hh.put hbW (by omega) _ _⟩
  rw [Int.sub_eq_add_neg, ← sg_not]
  exact nint_put hl2 hwd2 (by omega) _ _

/-- How two integers compare. -/
def cmpI (x y : Int) : Int := if x < y then -1 else if x = y then 0 else 1

theorem wl_zero : wl 0 = 0 := rfl
theorem wl_pos {m : Nat} (h : m ≠ 0) : wl m ≠ 0 := by
  unfold wl
  intro h0
  exact h ((dig_eq_nil (by omega)).1 (List.eq_nil_of_length_eq_zero h0))

set_option maxHeartbeats 1000000 in
theorem Cmp_any {D D' : Nat → Prop} {v v' : Value} {x y : Int} {w : World} (h : IntV w D v x) (h' : IntV w D' v' y) (hl : wl x.natAbs ≤ 1000000000000) (hl' : wl y.natAbs ≤ 1000000000000) :
    Calls Tryd.prog 41 #[v, v'] w fun e w' => e = .returned (.int .i64 (cmpI x y)) ∧ Below w.heap.size w w' := by
  obtain ⟨d, hd⟩ : ∃ d, d = x - y := ⟨_, rfl⟩
  have HD := Lib.hid hd
  have HX := Lib.hid (show cmpI x y = (if d = 0 then 0 else if d < 0 then -1 else 1) by unfold cmpI; split <;> (try split) <;> (try split) <;> (try split) <;> omega)
  clear hd
  have hsub := fun w' (hb : Below w.heap.size w w') => Sub_any (h.below hb) (h'.below hb) hl hl'
  rw [← HD.out] at hsub
  have HS := Lib.hid hsub
  clear hsub
  obtain ⟨neg, A, n, c, l, rfl, h, hx⟩ := h
  obtain ⟨neg', A', n', c', l', rfl, h', hy⟩ := h'
  clear hx hy hl hl'
  rcases Int.lt_trichotomy d 0 with h0 | h0 | h0
  · have t1 : ((wl d.natAbs : Int) == 0) = false := by
      have := wl_pos (m := d.natAbs) (by omega)
      simpa using this
    have t2 : decide (d < 0) = true := by simpa using h0
    have HE := Lib.hid (show cmpI x y = -1 by rw [HX.out, if_neg (by omega), if_pos h0])
    have H0 := Lib.hid h0
    clear h0
    go_enter Tryd.func41, Tryd.ntmps41
    go_wp2_with (go_at_call 85; go_must (refine (HS.out _ (((Below.refl _ _).alloc (Nat.le_refl _) _).alloc (by simp) _)).mono ?_); rintro e w1 ⟨v1, rfl, ⟨A1, c1, rfl, hwd⟩, hb1⟩)
    go_ret
    refine ⟨ret_int HE.out.symm, ?_⟩
    exact ((((Below.refl _ _).alloc (Nat.le_refl _) _).alloc (by simp) _).trans (hb1.mono (by simp; omega))).alloc (by have := hb1.size; simp at this; omega) _
  · have t1 : ((wl d.natAbs : Int) == 0) = true := by rw [h0]; rfl
    have HE := Lib.hid (show cmpI x y = 0 by rw [HX.out, if_pos h0])
    have H0 := Lib.hid h0
    clear h0
    go_enter Tryd.func41, Tryd.ntmps41
    go_wp2_with (go_at_call 85; go_must (refine (HS.out _ (((Below.refl _ _).alloc (Nat.le_refl _) _).alloc (by simp) _)).mono ?_); rintro e w1 ⟨v1, rfl, ⟨A1, c1, rfl, hwd⟩, hb1⟩)
    go_ret
    refine ⟨ret_int HE.out.symm, ?_⟩
    exact ((((Below.refl _ _).alloc (Nat.le_refl _) _).alloc (by simp) _).trans (hb1.mono (by simp; omega))).alloc (by have := hb1.size; simp at this; omega) _
  · have t1 : ((wl d.natAbs : Int) == 0) = false := by
      have := wl_pos (m := d.natAbs) (by omega)
      simpa using this
    have t2 : decide (d < 0) = false := by simp; omega
    have HE := Lib.hid (show cmpI x y = 1 by rw [HX.out, if_neg (by omega), if_neg (by omega)])
    have H0 := Lib.hid h0
    clear h0
    go_enter Tryd.func41, Tryd.ntmps41
    go_wp2_with (go_at_call 85; go_must (refine (HS.out _ (((Below.refl _ _).alloc (Nat.le_refl _) _).alloc (by simp) _)).mono ?_); rintro e w1 ⟨v1, rfl, ⟨A1, c1, rfl, hwd⟩, hb1⟩)
    go_ret
    refine ⟨ret_int HE.out.symm, ?_⟩
    exact ((((Below.refl _ _).alloc (Nat.le_refl _) _).alloc (by simp) _).trans (hb1.mono (by simp; omega))).alloc (by have := hb1.size; simp at this; omega) _

end Go.Proofs.YtpkjdnplmgfbbaaDoor
