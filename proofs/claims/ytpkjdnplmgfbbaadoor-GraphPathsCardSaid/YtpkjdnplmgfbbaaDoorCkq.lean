/- graph.CheckPath and the reference's CheckPath. -/
import Derived.Test.YtpkjdnplmgfbbaaDoorCkp
namespace Go.Proofs.YtpkjdnplmgfbbaaDoor
open Go.RowKit

set_option maxHeartbeats 1000000 in
theorem CheckPath_bad {w : World} {v : Value} {names : List ByteArray} {E : List (List Int)} (h : GrV w v names E) {A : Option Addr} {n c : Nat} (hc : chk names E ≠ 0) :
    Calls Tryd.prog 29 #[v, .slice A n c] w (ChkR w (chk names E)) := by
  have HC := Lib.hid (fun w' hb => Check_any (h.at w' hb))
  generalize chk names E = q at *
  have hz : (((q : Nat) : Int) != 0) = true := by simp [hc]
  clear hc
  obtain ⟨A1, c1, A', c', rfl, hs, hg⟩ := h
  obtain ⟨W, G, hW, hG, hbW, c0, c1', hGl, hwG⟩ := gbox w (.slice A1 names.length c1) (.slice A' E.length c')
  have HW := Lib.hid hW
  have HG := Lib.hid hG
  clear hW hG
  go_enter Tryd.func29, Tryd.ntmps29
  go_wp2_with (go_at_call 34; rw [← HW.out]; refine (HC.out _ hbW).mono ?_; rintro e w1 ⟨rfl, hb1⟩)
  go_ret
  exact chkR_of rfl (hbW.trans (hb1.mono hbW.size))

/-- The rest of a list. -/
theorem Il.tail {w : World} {A : Option Addr} {n c : Nat} {l : List Int} (h : Il w A n c l) {k : Nat} {x : Int} (hx : l[k]? = some x) : ∃ b off, A = some ⟨b, off, none⟩ ∧ w.cell? ⟨b, off + k, none⟩ = some (.int .i64 x) := by
  have := lt_of_some hx
  have hl := h.len
  obtain ⟨b, off, e, hc⟩ := h.cell (by omega)
  exact ⟨b, off, e, hc k x hx⟩

set_option maxHeartbeats 2000000 in
set_option maxRecDepth 100000 in
theorem CheckPath_ok {w : World} {v : Value} {names : List ByteArray} {E : List (List Nat)} (h : GrV w v names (toI E)) (hc : chk names (toI E) = 0) (hk : Ok names E) {A : Option Addr} {n c : Nat} {l : List Int} (hl : Il w A n c l) :
    Calls Tryd.prog 29 #[v, .slice A n c] w (ChkR w (ptC E l)) := by
  have HC := Lib.hid (fun w' hb => Check_any (h.at w' hb))
  rw [hc] at HC
  have HCL := Lib.hid (fun w' (hb : Below w.heap.size w w') => checkList_any (h.at w' hb) (hl.below hb))
  rw [hk.len] at HCL
  have hsm := hk.small
  have hln := hl.len
  have hr := hl.room
  unfold maxLen at hr
  obtain ⟨A1, c1, A', c', hv, hs, hg⟩ := h
  rw [toI_length] at hv hg
  subst hv
  obtain ⟨W, G, hW, hG, hbW, g0, g1, hGl, hwG⟩ := gbox w (.slice A1 names.length c1) (.slice A' E.length c')
  replace hg := hg.below hbW
  replace hl := hl.below hbW
  have hr' := hg.room
  unfold maxLen at hr'
  have HW := Lib.hid hW
  have HG := Lib.hid hG
  have HK := Lib.hid hk
  have HLN := Lib.hid hln
  clear hW hG hs hk hc hln
  by_cases hlc : lstC E.length l = 0
  · obtain ⟨hpos, hall⟩ := lstC_zero hlc
    rw [hlc] at HCL
    have HALL := Lib.hid hall
    have HLC := Lib.hid hlc
    clear hall hlc
    rw [HLN.out] at hpos
    obtain ⟨b, off, rfl, hcl⟩ := hl.cell (by omega)
    have HCELL := Lib.hid (fun w' (hb : Below W.heap.size W w') j x hx => ((bcell hb).1 _ _ (cell_some_lt (hcl j x hx))).trans (hcl j x hx))
    clear hcl
    obtain ⟨rfl, rfl⟩ | hc1 : (n = 1 ∧ c = 1) ∨ ¬ c = 1 := by omega
    · have e : 0 = ptC E l := (ptC_ok HLC.out (fun i hi => by have := HLN.out; omega)).symm
      have HE := Lib.hid e
      clear e
      go_enter Tryd.func29, Tryd.ntmps29
      go_wp2_with (first
        | (go_at_call 34; rw [← HW.out, ← HG.out]; refine (HC.out _ hbW).mono ?_; rintro e w1 ⟨rfl, hb1⟩; have hb2 := hbW.trans (hb1.mono hbW.size); obtain ⟨d0, d1⟩ := keep2 hb1 g0 g1)
        | (go_at_call 69; refine (HCL.out _ hb2).mono ?_; rintro e w3 ⟨rfl, hb3⟩; obtain ⟨e0, e1⟩ := keep2 hb3 d0 d1; have hb4 := hb2.trans (hb3.mono hb2.size); have hbW3 := hb1.trans (hb3.mono hb1.size)))
      clear d0 d1 e0 hb1 hb2 hb3 HC HCL
      go_loopw [23] (fun i wr => i = .int .i64 0 ∧ wr = w3) (fun _ _ => 0)
      case atStart => exact ⟨rfl, rfl⟩
      case round =>
        obtain ⟨rfl, rfl⟩ := hrel
        go_wp2_with fail
        go_ret
        exact chkR_of HE.out hb4
    · go_enter Tryd.func29, Tryd.ntmps29
      go_wp2_with (first
        | (go_at_call 34; rw [← HW.out, ← HG.out]; refine (HC.out _ hbW).mono ?_; rintro e w1 ⟨rfl, hb1⟩; have hb2 := hbW.trans (hb1.mono hbW.size); obtain ⟨d0, d1⟩ := keep2 hb1 g0 g1)
        | (go_at_call 69; refine (HCL.out _ hb2).mono ?_; rintro e w3 ⟨rfl, hb3⟩; obtain ⟨e0, e1⟩ := keep2 hb3 d0 d1; have hb4 := hb2.trans (hb3.mono hb2.size); have hbW3 := hb1.trans (hb3.mono hb1.size)))
      clear d0 d1 e0 hb1 hb2 hb3 HC HCL
      replace hg := hg.below hbW3
      go_loopw [23] (fun i wr => ∃ k : Nat, k ≤ n - 1 ∧ i = .int .i64 (k : Nat) ∧ (∀ j, j < k → edgeB E l j = true) ∧ Below w3.heap.size w3 wr) (fun i _ => n - (intOf i).toNat)
      case atStart => exact ⟨0, Nat.zero_le _, rfl, fun j hj => by omega, Below.refl _ _⟩
      case round =>
        obtain ⟨k, hkl, rfl, hed, hbr⟩ := hrel
        have HED := Lib.hid hed
        clear hed
        by_cases hlt : k < n - 1
        · have hkn : k + 1 < l.length := by rw [HLN.out]; omega
          obtain ⟨x, hx⟩ : ∃ x, l[k]? = some x := ⟨_, List.getElem?_eq_getElem (by omega)⟩
          obtain ⟨y, hy⟩ : ∃ y, l[k + 1]? = some y := ⟨_, List.getElem?_eq_getElem hkn⟩
          obtain ⟨hx0, hx1⟩ := HALL.out x (List.mem_of_getElem? hx)
          obtain ⟨u, rfl⟩ := Int.eq_ofNat_of_zero_le hx0
          have hul : u < E.length := by omega
          have hbWr := hbW3.trans (hbr.mono hbW3.size)
          have cx := HCELL.out _ hbWr k _ hx
          have cy := HCELL.out _ hbWr (k + 1) _ hy
          have cy2 : wr.cell? ⟨b, off + 1 + k, none⟩ = some (.int .i64 y) := by rw [← cy]; congr 2; omega
          have hedge : edgeB E l k = (gi E u).contains y := by unfold edgeB; rw [getD_some hx, getD_some hy, Int.toNat_natCast]
          have HEDGE := Lib.hid hedge
          obtain ⟨b2, off2, A2, c2, rfl, hrow', hr1, hr2, hil'⟩ := hg.row hul
          have hrow := ((bcell hbr).1 _ _ (cell_some_lt hrow')).trans hrow'
          have hil := hil'.below hbr
          have f1 := (hbr.cell (p := ⟨G, 1, none⟩) (cell_some_lt e1)).trans e1
          have hui : (u : Int) < (E.length : Int) := by omega
          have hu0 : (0 : Int) ≤ (u : Int) := by omega
          have hki : (k : Int) < ((n - 1 : Nat) : Int) := by omega
          have hkj : (k : Int) < (n : Int) := by omega
          have hk0 : (0 : Int) ≤ (k : Int) := by omega
          clear hx hy hedge cy hil' hrow' hx0 hx1
          go_wp2_with fail
          go_still_tail 9, (by kernel_rfl)
          have hil2 : Il wr.drew A2 (gr E u).length c2 (gi E u) := hil.below ((Below.refl _ _).drew)
          have hb5 : Below w3.heap.size w3 wr.drew := hbr.drew
          change wpList _ _ _ _ _ wr.drew
          clear hil hbr cx cy2 hrow f1 hbWr
          generalize wr.drew = w5 at *
          cases hct : (gi E u).contains y
          · have HCT := Lib.hid hct
            clear hct
            go_wp2_with (go_at_call 70; refine (Contains_any hil2 y).mono ?_; rintro e w6 ⟨rfl, rfl⟩; rw [HCT.out])
            go_ret
            exact chkR_of (by rw [ptC_no HLC.out hkn (HEDGE.out.trans HCT.out)]) (hb4.trans (hb5.mono hb4.size))
          · have HCT := Lib.hid hct
            clear hct
            go_wp2_with (go_at_call 70; refine (Contains_any hil2 y).mono ?_; rintro e w6 ⟨rfl, rfl⟩; rw [HCT.out])
            go_roundw
            case rel =>
              refine ⟨k + 1, by omega, by go_num, fun j hj => ?_, hb5⟩
              rcases Nat.lt_or_ge j k with h1 | h1
              · exact HED.out j h1
              · obtain rfl : j = k := by omega
                exact HEDGE.out.trans HCT.out
            case measure => simp [intOf]; omega
        · have e : 0 = ptC E l := (ptC_ok HLC.out (fun i hi => HED.out i (by have := HLN.out; omega))).symm
          have HE := Lib.hid e
          clear e
          go_wp2_with fail
          go_ret
          exact chkR_of HE.out (hb4.trans (hbr.mono hb4.size))
  · have e : lstC E.length l = ptC E l := (ptC_list hlc).symm
    have HE := Lib.hid e
    clear e
    generalize lstC E.length l = q at *
    have hz : (((q : Nat) : Int) != 0) = true := by simp [hlc]
    clear hlc
    go_enter Tryd.func29, Tryd.ntmps29
    go_wp2_with (first
      | (go_at_call 34; rw [← HW.out, ← HG.out]; refine (HC.out _ hbW).mono ?_; rintro e w1 ⟨rfl, hb1⟩; have hb2 := hbW.trans (hb1.mono hbW.size); obtain ⟨d0, d1⟩ := keep2 hb1 g0 g1)
      | (go_at_call 69; refine (HCL.out _ hb2).mono ?_; rintro e w3 ⟨rfl, hb3⟩))
    go_ret
    exact chkR_of HE.out (hb2.trans (hb3.mono hb2.size))
end Go.Proofs.YtpkjdnplmgfbbaaDoor
