/- The reference's CheckPath and Path. -/
import Derived.Test.YtpkjdnplmgfbbaaDoorCkq
namespace Go.Proofs.YtpkjdnplmgfbbaaDoor
open Go.RowKit

theorem lstC_six {n k : Nat} {l : List Int} {x : Int} (hx : l[k]? = some x) (hh : hasB n x = false) : lstC n l = 6 := by
  have := lt_of_some hx
  unfold lstC
  rw [if_neg (by omega), if_pos]
  exact List.any_eq_true.2 ⟨x, List.mem_of_getElem? hx, by rw [hh]; rfl⟩
theorem lstC_ok {n : Nat} {l : List Int} (h0 : 0 < l.length) (h : ∀ j x, j < l.length → l[j]? = some x → hasB n x = true) : lstC n l = 0 := by
  unfold lstC
  rw [if_neg (by omega), if_neg]
  intro ha
  obtain ⟨x, hx, h2⟩ := List.any_eq_true.1 ha
  obtain ⟨j, hj, hj2⟩ := mem_getElem hx
  rw [h j x hj hj2] at h2
  cases h2
theorem hasB_true {n : Nat} {x : Int} (h : hasB n x = true) : 0 ≤ x ∧ x < n := by unfold hasB at h; simpa using h
theorem contains_count {l : List Int} {x : Int} : l.contains x = decide (0 < l.count x) := by
  by_cases h : x ∈ l
  · rw [List.contains_iff_mem.2 h]; simp [List.count_pos_iff.2 h]
  · have h1 : l.count x = 0 := List.count_eq_zero.2 h
    rw [h1]
    simpa using h

set_option maxHeartbeats 2000000 in
set_option maxRecDepth 100000 in
theorem rCheckPath_ok {w : World} {v : Value} {names : List ByteArray} {E : List (List Nat)} (h : GrV w v names (toI E)) (hk : Ok names E) {A : Option Addr} {n c : Nat} {l : List Int} (hl : Il w A n c l) :
    Calls Tryd.prog 30 #[v, .slice A n c] w (ChkR w (ptC E l)) := by
  have HH := Lib.hid (fun w' (hb : Below w.heap.size w w') x {b : Bool} (hxb : hasB E.length x = b) => rHas_is (h.at w' hb) x (show hasB names.length x = b by rw [hk.len]; exact hxb))
  have HCNT := Lib.hid (fun w' (hb : Below w.heap.size w w') u (hu : u < E.length) y => rcount_any (h.at w' hb) hu y)
  have hln := hl.len
  have hr := hl.room
  unfold maxLen at hr
  obtain ⟨A1, c1, A', c', hv, hs, hg⟩ := h
  rw [toI_length] at hv hg
  subst hv
  obtain ⟨W, G, hW, hG, hbW, g0, g1, hGl, hwG⟩ := gbox w (.slice A1 names.length c1) (.slice A' E.length c')
  replace hl := hl.below hbW
  have HW := Lib.hid hW
  have HG := Lib.hid hG
  have HK := Lib.hid hk
  have HLN := Lib.hid hln
  clear hW hG hs hk hln hg
  by_cases h0 : n = 0
  · have hz : ((n : Int) == 0) = true := by simp [h0]
    have e : 9 = ptC E l := by
      have : lstC E.length l = 9 := by unfold lstC; rw [if_pos (by have := HLN.out; omega)]
      rw [ptC_list (by omega), this]
    have HE := Lib.hid e
    clear e h0
    go_enter Tryd.func30, Tryd.ntmps30
    go_wp2_with fail
    rw [← HW.out]
    go_ret
    exact chkR_of HE.out hbW
  · have hz : ((n : Int) == 0) = false := beq_eq_false_iff_ne.2 (by omega)
    obtain ⟨b, off, rfl, hcl⟩ := hl.cell (by omega)
    have HCELL := Lib.hid (fun w' (hb : Below W.heap.size W w') j x hx => ((bcell hb).1 _ _ (cell_some_lt (hcl j x hx))).trans (hcl j x hx))
    clear hcl
    go_enter Tryd.func30, Tryd.ntmps30
    go_wp2_with fail
    rw [← HW.out, ← HG.out]
    clear hz
    go_loopw [5] (fun i wr => ∃ k : Nat, k ≤ n ∧ i = .int .i64 (k : Nat) ∧ (∀ j x, j < k → l[j]? = some x → hasB E.length x = true) ∧ Below W.heap.size W wr) (fun i _ => n - (intOf i).toNat)
    case atStart => exact ⟨0, Nat.zero_le _, rfl, fun j x hj => by omega, Below.refl _ _⟩
    case round =>
      obtain ⟨k, hkl, rfl, hhas, hbr⟩ := hrel
      have HHAS := Lib.hid hhas
      clear hhas
      have hb3 := hbW.trans (hbr.mono hbW.size)
      by_cases hlt : k < n
      · obtain ⟨x, hx⟩ : ∃ x, l[k]? = some x := ⟨_, List.getElem?_eq_getElem (by rw [HLN.out]; exact hlt)⟩
        have cx := HCELL.out _ hbr k x hx
        obtain ⟨d0, d1⟩ := keep2 hbr g0 g1
        have HX := Lib.hid hx
        clear hx
        have hki : (k : Int) < (n : Int) := by omega
        have hk0 : (0 : Int) ≤ (k : Int) := by omega
        go_wp2_with fail
        go_still_tail 5, (by kernel_rfl)
        have hb4 : Below W.heap.size W wr.drew := hbr.drew
        have hb5 : Below w.heap.size w wr.drew := hb3.drew
        change wpList _ _ _ _ _ wr.drew
        clear hbr hb3 cx d0 d1
        generalize wr.drew = w5 at *
        cases hhx : hasB E.length x
        · have HHX := Lib.hid hhx
          clear hhx
          go_wp2_with (go_at_call 18; refine (HH.out _ hb5 x HHX.out).mono ?_; rintro e w6 ⟨rfl, hb6⟩)
          go_ret
          have e6 := lstC_six HX.out HHX.out
          exact chkR_of (by rw [ptC_list (by omega), e6]) (hb5.trans (hb6.mono hb5.size))
        · have HHX := Lib.hid hhx
          clear hhx
          go_wp2_with (go_at_call 18; refine (HH.out _ hb5 x HHX.out).mono ?_; rintro e w6 ⟨rfl, hb6⟩)
          go_roundw
          case rel =>
            refine ⟨k + 1, by omega, by go_num, fun j y hj hy => ?_, hb4.trans (hb6.mono hb4.size)⟩
            rcases Nat.lt_or_ge j k with h1 | h1
            · exact HHAS.out j y h1 hy
            · obtain rfl : j = k := by omega
              have := HX.out.symm.trans hy
              cases this
              exact HHX.out
          case measure => simp [intOf]; omega
      · have hlc : lstC E.length l = 0 := lstC_ok (by rw [HLN.out]; omega) (fun j x hj hx => HHAS.out j x (by rw [HLN.out] at hj; omega) hx)
        have HLC := Lib.hid hlc
        clear hlc
        go_wp2_with fail
        obtain ⟨wo, hwo⟩ : ∃ wo : World, wo = wr := ⟨_, rfl⟩
        rw [← hwo] at hbr hb3 ⊢
        clear hwo wr
        go_loopw [6] (fun i wr => ∃ k : Nat, 1 ≤ k ∧ k ≤ n ∧ i = .int .i64 (k : Nat) ∧ (∀ j, j + 1 < k → edgeB E l j = true) ∧ Below W.heap.size W wr) (fun i _ => n - (intOf i).toNat)
        case atStart => exact ⟨1, Nat.le_refl _, by omega, rfl, fun j hj => by omega, hbr⟩
        case round =>
          clear hbr hb3
          obtain ⟨k, hk1, hkl, rfl, hed, hbr⟩ := hrel
          have HED := Lib.hid hed
          clear hed
          have hb3 := hbW.trans (hbr.mono hbW.size)
          by_cases hlt : k < n
          · obtain ⟨i, rfl⟩ : ∃ i, k = i + 1 := ⟨k - 1, by omega⟩
            obtain ⟨x, hx⟩ : ∃ x, l[i]? = some x := ⟨_, List.getElem?_eq_getElem (by rw [HLN.out]; omega)⟩
            obtain ⟨y, hy⟩ : ∃ y, l[i + 1]? = some y := ⟨_, List.getElem?_eq_getElem (by rw [HLN.out]; exact hlt)⟩
            obtain ⟨hx0, hx1⟩ := hasB_true (HHAS.out i x (by omega) hx)
            obtain ⟨u, rfl⟩ := Int.eq_ofNat_of_zero_le hx0
            have hul : u < E.length := by omega
            have cx := HCELL.out _ hbr i _ hx
            have cy := HCELL.out _ hbr (i + 1) _ hy
            obtain ⟨d0, d1⟩ := keep2 hbr g0 g1
            have hedge : edgeB E l i = (gi E u).contains y := by unfold edgeB; rw [getD_some hx, getD_some hy, Int.toNat_natCast]
            have HEDGE := Lib.hid hedge
            clear hx hy hedge hx0 hx1
            have hki : (i : Int) + 1 < (n : Int) := by omega
            have hk0 : (0 : Int) ≤ (i : Int) + 1 := by omega
            have hi0 : (0 : Int) ≤ (i : Int) := by omega
            have hin : (i : Int) < (n : Int) := by omega
            have hii : ((i : Int) + 1).toNat = i + 1 := by omega
            have hw1 : IntKind.i64.wrap ((i : Int) + 1 - 1) = (i : Int) := by rw [show (i : Int) + 1 - 1 = (i : Int) by omega]; exact IntWalk.i64_in _ (by omega)
            have hw2 : IntKind.i64.wrap (i : Int) = (i : Int) := IntWalk.i64_in _ (by omega)
            go_wp2_with fail
            go_still_tail 10, (by kernel_rfl)
            clear hw1 hw2 hii
            have hb4 : Below W.heap.size W wr.drew := hbr.drew
            have hb5 : Below w.heap.size w wr.drew := hb3.drew
            change wpList _ _ _ _ _ wr.drew
            clear hbr hb3 cx cy d0 d1
            generalize wr.drew = w5 at *
            have hcc := contains_count (l := gi E u) (x := y)
            by_cases hct : (gi E u).count y = 0
            · have hz : (((gi E u).count y : Int) == 0) = true := by simp [hct]
              rw [hct] at hcc
              have HCC := Lib.hid hcc
              clear hcc hct
              go_wp2_with (go_at_call 71; refine (HCNT.out _ hb5 u hul y).mono ?_; rintro e w6 ⟨rfl, hb6⟩)
              go_ret
              exact chkR_of (by rw [ptC_no HLC.out (by rw [HLN.out]; exact hlt) (HEDGE.out.trans HCC.out)]) (hb5.trans (hb6.mono hb5.size))
            · have hz : (((gi E u).count y : Int) == 0) = false := beq_eq_false_iff_ne.2 (by omega)
              have hcp : 0 < (gi E u).count y := by omega
              rw [decide_eq_true hcp] at hcc
              have HCC := Lib.hid hcc
              clear hcc hct hcp
              go_wp2_with (go_at_call 71; refine (HCNT.out _ hb5 u hul y).mono ?_; rintro e w6 ⟨rfl, hb6⟩)
              go_roundw
              case rel =>
                refine ⟨i + 1 + 1, by omega, by omega, by go_num, fun j hj => ?_, hb4.trans (hb6.mono hb4.size)⟩
                rcases Nat.lt_or_ge j i with h1 | h1
                · exact HED.out j (by omega)
                · obtain rfl : j = i := by omega
                  exact HEDGE.out.trans HCC.out
              case measure => simp [intOf]; omega
          · have e : 0 = ptC E l := (ptC_ok HLC.out (fun i hi => HED.out i (by have := HLN.out; omega))).symm
            have HE := Lib.hid e
            clear e
            go_wp2_with fail
            go_ret
            exact chkR_of HE.out hb3
end Go.Proofs.YtpkjdnplmgfbbaaDoor
