/- base.SameInt, base.SameInts. -/
import Derived.Test.YtdmdagilopckgaaGreatRfi
import Derived.StillTailTactics
namespace Go.Proofs.YtdmdagilopckgaaGreat
open Go.RowKit

def SamR (w : World) (x y : Int) (e : Ending) (w' : World) : Prop := e = .returned (.bool (decide (x = y))) ∧ Below w.heap.size w w'
theorem samR {w w' : World} {x y : Int} {b : Bool} (h : decide (x = y) = b) (hb : Below w.heap.size w w') : SamR w x y (.returned (.bool b)) w' := ⟨by rw [h], hb⟩

/-- The boxes of two integers. -/
theorem sbox (w : World) (a0 a1 b0 b1 : Value) : ∃ W P Q, W = (w.alloc (.cells #[a0, a1] 63)).alloc (.cells #[b0, b1] 63) ∧ P = w.heap.size ∧ Q = w.heap.size + 1 ∧ Below w.heap.size w W ∧ W.cell? ⟨P, 0, none⟩ = some a0 ∧ W.cell? ⟨P, 1, none⟩ = some a1 ∧ W.cell? ⟨Q, 0, none⟩ = some b0 ∧ W.cell? ⟨Q, 1, none⟩ = some b1 :=
  ⟨_, _, _, rfl, rfl, rfl, ((Below.refl _ _).alloc (Nat.le_refl _) _).alloc (by simp) _, by go_simp, by go_simp, by go_simp, by go_simp⟩

theorem gw_get {l : List Nat} {j : Nat} (h : j < l.length) : l[j]? = some (gw l j) := gw_lt h

set_option maxHeartbeats 1000000 in
set_option maxRecDepth 100000 in
theorem SameInt_any {w : World} {D D' : Nat → Prop} {v v' : Value} {x y : Int} (h : NIntV w D v x) (h' : NIntV w D' v' y) : Calls Tryz.prog 53 #[v, v'] w (SamR w x y) := by
  have hxy : ∀ (n1 : decide (x < 0) = decide (y < 0)) (n2 : dig 4294967296 x.natAbs = dig 4294967296 y.natAbs), x = y := by
    intro n1 n2
    have h1 : x.natAbs = y.natAbs := by
      have e1 := val_dig (b := 4294967296) (by omega) x.natAbs
      have e2 := val_dig (b := 4294967296) (by omega) y.natAbs
      rw [← e1, n2, e2]
    rw [← sg_abs x, ← sg_abs y, n1, h1]
  have HXY := Lib.hid hxy
  clear hxy
  obtain ⟨A, c, rfl, hw⟩ := h
  obtain ⟨A', c', rfl, hw'⟩ := h'
  have hr := hw.room
  have hr' := hw'.room
  have hc := hw.cap
  have hc' := hw'.cap
  unfold maxLen at hr hr'
  obtain ⟨W, P, Q, hW, hP, hQ, hbW, p0, p1, q0, q1⟩ := sbox w (.bool (decide (x < 0))) (.slice A (wl x.natAbs) c) (.bool (decide (y < 0))) (.slice A' (wl y.natAbs) c')
  have HW := Lib.hid hW
  have HP := Lib.hid hP
  have HQ := Lib.hid hQ
  clear hW hP hQ
  replace hw := hw.below hbW
  replace hw' := hw'.below hbW
  by_cases hneg : decide (x < 0) = decide (y < 0)
  · obtain ⟨neg, hn⟩ : ∃ neg, neg = decide (y < 0) := ⟨_, rfl⟩
    have HN := Lib.hid (hneg.trans hn.symm)
    have HN' := Lib.hid hn
    rw [hneg] at p0 ⊢
    rw [hneg] at HW
    rw [← hn] at p0 q0 HW ⊢
    clear hneg hn
    have hbn : (neg != neg) = false := by simp
    by_cases hln : wl x.natAbs = wl y.natAbs
    · obtain ⟨n, hn⟩ : ∃ n, n = wl y.natAbs := ⟨_, rfl⟩
      rw [hln] at p1 HW hw hc ⊢
      rw [← hn] at p1 q1 HW hw hw' hc hc' ⊢
      have hll : ((n : Int) != (n : Int)) = false := by simp
      have hlx : (dig 4294967296 x.natAbs).length = n := hw.len
      have hly : (dig 4294967296 y.natAbs).length = n := hw'.len
      obtain ⟨l, hl⟩ : ∃ l, l = dig 4294967296 x.natAbs := ⟨_, rfl⟩
      obtain ⟨l', hl'⟩ : ∃ l, l = dig 4294967296 y.natAbs := ⟨_, rfl⟩
      rw [← hl] at hw hlx
      rw [← hl'] at hw' hly
      have HL := Lib.hid hl
      have HL' := Lib.hid hl'
      have HLX := Lib.hid hlx
      have HLY := Lib.hid hly
      clear hl hl' hln hn hlx hly
      go_enter Tryz.func53, Tryz.ntmps53
      go_wp2_with fail
      rw [← HW.out, ← HQ.out, ← HP.out]
      go_loopw [5] (fun i wr => ∃ (k q : Nat), k ≤ n ∧ i = .int .i64 (k : Nat) ∧ l.take k = l'.take k ∧ wr = W.drewN q) (fun i _ => n - (intOf i).toNat)
      case atStart => exact ⟨0, 0, Nat.zero_le _, rfl, rfl, rfl⟩
      case round =>
        obtain ⟨k, q, hk, rfl, ht, rfl⟩ := hrel
        have HT := Lib.hid ht
        clear ht
        by_cases hlt : k < n
        · obtain ⟨b, off, rfl, _, hcell⟩ := hw.cells (by omega)
          obtain ⟨b', off', rfl, _, hcell'⟩ := hw'.cells (by omega)
          have cx := hcell k hlt
          have cy := hcell' k hlt
          clear hcell hcell'
          have hx : l[k]? = some (gw l k) := gw_lt (by rw [HLX.out]; exact hlt)
          have hy : l'[k]? = some (gw l' k) := gw_lt (by rw [HLY.out]; exact hlt)
          generalize gw l k = a at *
          generalize gw l' k = b2 at *
          have hki : (k : Int) < (n : Int) := by omega
          have hk0 : (0 : Int) ≤ (k : Int) := by omega
          by_cases hab : a = b2
          · have hbx : ((a : Int) != (b2 : Int)) = false := by simp [hab]
            have ht2 : l.take (k + 1) = l'.take (k + 1) := by rw [List.take_add_one, List.take_add_one, hx, hy, HT.out, hab]
            have HT2 := Lib.hid ht2
            clear hx hy hab ht2
            go_wp2_with fail
            go_quiet (fail)
            go_wp2_with fail
            exact ⟨⟨k + 1, q + nq, by omega, by go_num, HT2.out, rfl⟩, by simp [intOf]; omega⟩
          · have hbx : ((a : Int) != (b2 : Int)) = true := by rw [bne_iff_ne]; omega
            have e : decide (x = y) = false := by
              simp only [decide_eq_false_iff_not]
              intro e
              have h1 := HL.out
              have h2 := HL'.out
              rw [e, ← h2] at h1
              rw [h1, hy] at hx
              injection hx with hx
              exact hab hx.symm
            have HE := Lib.hid e
            clear hx hy hab e
            go_wp2_with fail
            go_quiet (fail)
            go_wp2_with fail
            go_ret
            exact samR HE.out (below_drewN' (below_drewN' hbW _) _)
        · have e : decide (x = y) = true := by
            have h1 := HT.out
            rw [List.take_of_length_le (by rw [HLX.out]; omega), List.take_of_length_le (by rw [HLY.out]; omega)] at h1
            simp only [decide_eq_true_eq]
            refine HXY.out (HN.out.trans HN'.out) ?_
            rw [← HL.out, ← HL'.out, h1]
          have HE := Lib.hid e
          clear e
          go_wp2_with fail
          go_ret
          exact samR HE.out (below_drewN' hbW _)
    · have hll : ((wl x.natAbs : Int) != (wl y.natAbs : Int)) = true := by rw [bne_iff_ne]; omega
      have e : decide (x = y) = false := by simp only [decide_eq_false_iff_not]; intro e; exact hln (by rw [e])
      have HE := Lib.hid e
      clear e hln
      go_enter Tryz.func53, Tryz.ntmps53
      go_wp2_with fail
      rw [← HW.out]
      go_ret
      exact samR HE.out hbW
  · have e : decide (x = y) = false := by simp only [decide_eq_false_iff_not]; intro e; exact hneg (by rw [e])
    have HE := Lib.hid e
    have hbn : (decide (x < 0) != decide (y < 0)) = true := by rw [bne_iff_ne]; exact hneg
    clear e
    generalize decide (x < 0) = n1 at *
    generalize decide (y < 0) = n2 at *
    clear hneg
    obtain ⟨rfl, rfl⟩ | ⟨rfl, rfl⟩ : (n1 = true ∧ n2 = false) ∨ (n1 = false ∧ n2 = true) := by cases n1 <;> cases n2 <;> simp at hbn ⊢
    all_goals
      clear hbn
      go_enter Tryz.func53, Tryz.ntmps53
      go_wp2_with fail
      rw [← HW.out]
      go_ret
      exact samR HE.out hbW
def IntsR (w : World) (l m : List Int) (e : Ending) (w' : World) : Prop := e = .returned (.bool (decide (l = m))) ∧ Below w.heap.size w w'
theorem intsR {w w' : World} {l m : List Int} {b : Bool} (h : decide (l = m) = b) (hb : Below w.heap.size w w') : IntsR w l m (.returned (.bool b)) w' := ⟨by rw [h], hb⟩
set_option maxHeartbeats 2000000 in
set_option maxRecDepth 100000 in
theorem SameInts_any {w : World} {D D' : Nat → Prop} {A B : Option Addr} {n c n' c' : Nat} {l m : List Int} (h : Pl NI w D A n c l) (h' : Pl NI w D' B n' c' m) :
    Calls Tryz.prog 24 #[.slice A n c, .slice B n' c'] w (IntsR w l m) := by
  have hl := h.len
  have hl' := h'.len
  have hr := h.cap
  have hr0 := h.room
  have hr' := h'.cap
  have hr'0 := h'.room
  unfold maxLen at hr0 hr'0
  by_cases hn : n = n'
  · subst hn
    have hb : ((n : Int) != (n : Int)) = false := by simp
    have HL := Lib.hid hl
    have HL' := Lib.hid hl'
    clear hl hl'
    go_enter Tryz.func24, Tryz.ntmps24
    go_wp2_with fail
    go_loopw [5] (fun i wr => ∃ k : Nat, k ≤ n ∧ i = .int .i64 (k : Nat) ∧ (∀ j, j < k → gz l j = gz m j) ∧ Below w.heap.size w wr) (fun i _ => n - (intOf i).toNat)
    case atStart => exact ⟨0, Nat.zero_le _, rfl, fun j hj => by omega, Below.refl _ _⟩
    case round =>
      obtain ⟨k, hk, rfl, ht, hbr⟩ := hrel
      have HT := Lib.hid ht
      clear ht
      by_cases hlt : k < n
      · obtain ⟨b, off, rfl, _, hc⟩ := (h.below hbr).cells (by omega)
        obtain ⟨b', off', rfl, _, hc'⟩ := (h'.below hbr).cells (by omega)
        obtain ⟨neg, A1, m1, k1, x0, x1, x2⟩ := hc k hlt
        obtain ⟨neg', A2, m2, k2, y0, y1, y2⟩ := hc' k hlt
        have hki : (k : Int) < (n : Int) := by omega
        have hk0 : (0 : Int) ≤ (k : Int) := by omega
        clear hc hc'
        go_wp2_with fail
        go_still_tail 8, (by kernel_rfl)
        have x3 : NI wr.drew (.agg #[.bool neg, .slice A1 m1 k1]) (gz l k) := NI.below x2 ((Below.refl _ _).drew)
        have y3 : NI wr.drew (.agg #[.bool neg', .slice A2 m2 k2]) (gz m k) := NI.below y2 ((Below.refl _ _).drew)
        have hb3 : Below w.heap.size w wr.drew := hbr.drew
        change wpList _ _ _ _ _ wr.drew
        clear x0 x1 x2 y0 y1 y2 hbr
        generalize wr.drew = w3 at *
        by_cases hxy : gz l k = gz m k
        · have hd : decide (gz l k = gz m k) = true := by simp [hxy]
          have HXY := Lib.hid hxy
          have HS := Lib.hid (SameInt_any x3 y3)
          clear hxy
          go_wp2_with (go_at_call 53; refine HS.out.mono ?_; rintro e w4 ⟨rfl, hb4⟩; rw [hd])
          go_roundw
          case rel =>
            refine ⟨k + 1, by omega, by go_num, fun j hj => ?_, hb3.trans (hb4.mono hb3.size)⟩
            rcases Nat.lt_or_ge j k with h1 | h1
            · exact HT.out j h1
            · obtain rfl : j = k := by omega
              exact HXY.out
          case measure => simp [intOf]; omega
        · have hd : decide (gz l k = gz m k) = false := by simp [hxy]
          have e : decide (l = m) = false := by
            simp only [decide_eq_false_iff_not]
            intro e
            rw [e] at hxy
            exact hxy rfl
          have HE := Lib.hid e
          have HS := Lib.hid (SameInt_any x3 y3)
          clear e hxy
          go_wp2_with (go_at_call 53; refine HS.out.mono ?_; rintro e w4 ⟨rfl, hb4⟩; rw [hd])
          go_ret
          exact intsR HE.out (hb3.trans (hb4.mono hb3.size))
      · have e : l = m := gz_ext (by rw [HL.out, HL'.out]) fun j hj => HT.out j (by rw [HL.out] at hj; omega)
        have HE := Lib.hid e
        clear e
        go_wp2_with fail
        go_ret
        exact intsR (by rw [HE.out]; simp) hbr
  · have hb : ((n : Int) != (n' : Int)) = true := by simp; omega
    have e : decide (l = m) = false := by
      simp only [decide_eq_false_iff_not]
      intro e
      rw [e] at hl
      omega
    have HE := Lib.hid e
    clear e hn
    go_enter Tryz.func24, Tryz.ntmps24
    go_wp2_with fail
    go_ret
    exact intsR HE.out (Below.refl _ _)

end Go.Proofs.YtdmdagilopckgaaGreat
