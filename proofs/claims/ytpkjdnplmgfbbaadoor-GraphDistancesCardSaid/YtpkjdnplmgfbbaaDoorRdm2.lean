/- The reference's Diameter; the base's Ints. -/
import Derived.Test.YtpkjdnplmgfbbaaDoorRdi
namespace Go.Proofs.YtpkjdnplmgfbbaaDoor
open Go.RowKit

set_option maxHeartbeats 1000000 in
theorem rDiameter_ok {w : World} {v : Value} {names : List ByteArray} {E : List (List Nat)} (h : GrV w v names (toI E)) (hk : Ok names E) :
    Calls Tryd.prog 17 #[v] w (DiaR w E) := by
  have hsm := hk.small
  have HD := Lib.hid (fun w' (hb : Below w.heap.size w w') a (ha : a < E.length) => rDistances_ok (h.below hb) hk.valid hk.small ha)
  obtain ⟨A, c, A', c', rfl, hs, hg⟩ := h
  rw [toI_length] at *
  obtain ⟨W, G, hW, hG, hbW, c0, c1, hGl, hwG⟩ := gbox w (.slice A names.length c) (.slice A' E.length c')
  have HW := Lib.hid hW
  have HG := Lib.hid hG
  have HK := Lib.hid hk
  clear hW hG hk
  go_enter Tryd.func17, Tryd.ntmps17
  go_wp2_with fail
  rw [← HW.out, ← HG.out]
  go_loopw [4, 5] (fun m i wr => ∃ k : Nat, k ≤ E.length ∧ i = .int .i64 (k : Nat) ∧ m = .int .i64 (dm E k) ∧ dok E k ∧ Below W.heap.size W wr) (fun _ i _ => E.length - (intOf i).toNat)
  case atStart => exact ⟨0, Nat.zero_le _, rfl, rfl, fun i hi => by omega, Below.refl _ _⟩
  case round =>
    obtain ⟨k, hkl, rfl, rfl, hdo, hbr⟩ := hrel
    have HDO := Lib.hid hdo
    clear hdo
    have d0 := ((bcell hbr).1 _ 0 hGl).trans c0
    have d1 := ((bcell hbr).1 _ 1 hGl).trans c1
    have hb3 := hbW.trans (hbr.mono hbW.size)
    by_cases hlt : k < E.length
    · go_wp2_with (go_at_call 20; refine (HD.out _ hb3 k hlt).mono ?_; rintro e w5 ⟨v5, rfl, ⟨G5, hg5, rfl, hn5⟩, hb5⟩)
      have hdd := dd_is HK.out.valid hlt
      have hdl := hdd.1
      have HDL := Lib.hid hdl
      clear hdd hdl
      go_loop [4, 7] (fun m i => ∃ j : Nat, j ≤ E.length ∧ i = .int .i64 (j : Nat) ∧ m = .int .i64 (mx (dm E k) ((dd E k).take j)) ∧ ∀ x ∈ (dd E k).take j, ¬ x < 0) (fun _ i => E.length - (intOf i).toNat)
      case atStart => exact ⟨0, Nat.zero_le _, rfl, rfl, fun x hx => by simp at hx⟩
      case round =>
        obtain ⟨j, hjl, rfl, rfl, hno⟩ := hrel
        have HNO := Lib.hid hno
        clear hno
        by_cases hjt : j < E.length
        · obtain ⟨x, hx⟩ : ∃ x, (dd E k)[j]? = some x := ⟨_, List.getElem?_eq_getElem (by rw [HDL.out]; exact hjt)⟩
          have hcx := hn5.cell (i := j) (by rw [HDL.out]; exact hjt)
          rw [getD_some hx] at hcx
          have hmm := mx_take (m := dm E k) hx
          have hxs := dd_small HK.out.valid hlt (List.mem_of_getElem? hx)
          have HX := Lib.hid hx
          have HMM := Lib.hid hmm
          clear hx hmm
          by_cases hxn : x < 0
          · go_wp2_with fail
            go_ret2
            exact diaR_none hlt (List.mem_of_getElem? HX.out) hxn (hb3.trans (hb5.mono hb3.size))
          · go_wp2_with fail
            go_round
            case rel => exact ⟨j + 1, by omega, by go_num, by rw [HMM.out], no_neg_take HX.out HNO.out hxn⟩
            case measure => simp [intOf]; omega
        · obtain rfl : j = E.length := by omega
          rw [List.take_of_length_le (by rw [HDL.out]; exact Nat.le_refl _)] at HNO
          rw [List.take_of_length_le (by rw [HDL.out]; exact Nat.le_refl _)]
          go_wp2_with fail
          go_roundw
          case rel => exact ⟨k + 1, by omega, by go_num, rfl, dok_succ HDO.out HNO.out, hbr.trans (hb5.mono hbr.size)⟩
          case measure => simp [intOf]; omega
    · obtain rfl : k = E.length := by omega
      by_cases h0 : E.length = 0
      · have hz : ((E.length : Int) == 0) = true := by simp [h0]
        have H0 := Lib.hid h0
        clear h0
        go_wp2_with fail
        go_ret2
        exact diaR_empty H0.out hb3
      · have hz : ((E.length : Int) == 0) = false := beq_eq_false_iff_ne.2 (by omega)
        go_wp2_with fail
        go_ret2
        exact diaR_some h0 HDO.out hb3

/-- base.Ints: two lists are equal. -/
def IntsR (w : World) (l m : List Int) (e : Ending) (w' : World) : Prop := e = .returned (.bool (decide (l = m))) ∧ Below w.heap.size w w'
theorem intsR {w w' : World} {l m : List Int} {b : Bool} (h : decide (l = m) = b) (hb : Below w.heap.size w w') : IntsR w l m (.returned (.bool b)) w' := ⟨by rw [h], hb⟩
set_option maxHeartbeats 1000000 in
theorem Ints_any {w : World} {A B : Option Addr} {n c n' c' : Nat} {l m : List Int} (h : Il w A n c l) (h' : Il w B n' c' m) :
    Calls Tryd.prog 19 #[.slice A n c, .slice B n' c'] w (IntsR w l m) := by
  have hl := h.len
  have hl' := h'.len
  have hr := h.room
  have hr' := h'.room
  unfold maxLen at hr hr'
  by_cases hn : n = n'
  · subst hn
    have hb : ((n : Int) != (n : Int)) = false := by simp
    have HL := Lib.hid hl
    have HL' := Lib.hid hl'
    clear hl hl'
    go_enter Tryd.func19, Tryd.ntmps19
    go_wp2_with fail
    go_loopw [5] (fun i wr => ∃ (k q : Nat), k ≤ n ∧ i = .int .i64 (k : Nat) ∧ l.take k = m.take k ∧ wr = w.drewN q) (fun i _ => n - (intOf i).toNat)
    case atStart => exact ⟨0, 0, Nat.zero_le _, rfl, rfl, rfl⟩
    case round =>
      obtain ⟨k, q, hk, rfl, ht, rfl⟩ := hrel
      have HT := Lib.hid ht
      clear ht
      by_cases hlt : k < n
      · obtain ⟨b, off, rfl, hc⟩ := h.cell (by omega)
        obtain ⟨b', off', rfl, hc'⟩ := h'.cell (by omega)
        obtain ⟨x, hx⟩ : ∃ x, l[k]? = some x := ⟨_, List.getElem?_eq_getElem (by rw [HL.out]; exact hlt)⟩
        obtain ⟨y, hy⟩ : ∃ y, m[k]? = some y := ⟨_, List.getElem?_eq_getElem (by rw [HL'.out]; exact hlt)⟩
        have cx := hc k x hx
        have cy := hc' k y hy
        clear hc hc'
        have hki : (k : Int) < (n : Int) := by omega
        have hk0 : (0 : Int) ≤ (k : Int) := by omega
        by_cases hxy : x = y
        · have hbx : (x != y) = false := by simp [hxy]
          have ht2 : l.take (k + 1) = m.take (k + 1) := by rw [List.take_add_one, List.take_add_one, hx, hy, HT.out, hxy]
          have HT2 := Lib.hid ht2
          clear hx hy hxy ht2
          go_wp2_with fail
          go_quiet (fail)
          go_wp2_with fail
          exact ⟨⟨k + 1, q + nq, by omega, by go_num, HT2.out, rfl⟩, by simp [intOf]; omega⟩
        · have hbx : (x != y) = true := by simp [hxy]
          have e : decide (l = m) = false := by
            simp only [decide_eq_false_iff_not]
            intro e
            rw [e, hy] at hx
            injection hx with hx
            exact hxy hx.symm
          have HE := Lib.hid e
          clear hx hy hxy e
          go_wp2_with fail
          go_quiet (fail)
          go_wp2_with fail
          go_ret
          exact intsR HE.out (below_drewN' (below_drewN' (Below.refl _ _) _) _)
      · have e : l = m := by
          have := HT.out
          rwa [List.take_of_length_le (by rw [HL.out]; omega), List.take_of_length_le (by rw [HL'.out]; omega)] at this
        have HE := Lib.hid e
        clear e
        go_wp2_with fail
        go_ret
        exact intsR (by simp [HE.out]) (below_drewN' (Below.refl _ _) _)
  · have hb : ((n : Int) != (n' : Int)) = true := by simp; omega
    have e : decide (l = m) = false := by simp; intro e; rw [e] at hl; omega
    have HE := Lib.hid e
    clear e hl hl' hn
    go_enter Tryd.func19, Tryd.ntmps19
    go_wp2_with fail
    go_ret
    exact intsR HE.out (Below.refl _ _)
end Go.Proofs.YtpkjdnplmgfbbaaDoor
