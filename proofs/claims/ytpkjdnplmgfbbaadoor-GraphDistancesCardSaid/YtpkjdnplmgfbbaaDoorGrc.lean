/- The reference's Check. -/
import Derived.Test.YtpkjdnplmgfbbaaDoorGa
import Derived.IntWalk
namespace Go.Proofs.YtpkjdnplmgfbbaaDoor
open Go.RowKit

theorem getD_some {α : Type} {l : List α} {i : Nat} {x d : α} (h : l[i]? = some x) : l.getD i d = x := by simp [List.getD, h]
theorem lt_of_some {α : Type} {l : List α} {i : Nat} {x : α} (h : l[i]? = some x) : i < l.length := by
  rcases Nat.lt_or_ge i l.length with h1 | h1
  · exact h1
  · rw [List.getElem?_eq_none h1] at h; cases h
theorem mem_take {α : Type} {l : List α} {k : Nat} {x : α} : x ∈ l.take k ↔ ∃ j, j < k ∧ l[j]? = some x := by
  constructor
  · intro h
    obtain ⟨j, hj⟩ := List.getElem?_of_mem h
    have hl := lt_of_some hj
    rw [List.length_take] at hl
    rw [List.getElem?_take, if_pos (by omega)] at hj
    exact ⟨j, by omega, hj⟩
  · rintro ⟨j, hj, h⟩
    exact List.mem_of_getElem? (i := j) (by rw [List.getElem?_take, if_pos hj]; exact h)
theorem bytes_eq {a b : ByteArray} (h : a = b) : (a.toList == b.toList) = true := by simp [h]
theorem bytes_ne {a b : ByteArray} (h : a ≠ b) : (a.toList == b.toList) = false := by
  rw [beq_eq_false_iff_ne, Lib.toList_data, Lib.toList_data]
  intro e
  apply h
  cases a; cases b
  congr
  exact Array.toList_inj.1 e

theorem atC_name {names : List ByteArray} {E : List (List Int)} {i : Nat} {x : ByteArray} (hx : names[i]? = some x) (h : nameB x = false) : atC names E i = 4 := by unfold atC; rw [getD_some hx, if_pos h]
theorem atC_exists {names : List ByteArray} {E : List (List Int)} {i j : Nat} {x : ByteArray} (hx : names[i]? = some x) (h : nameB x = true) (hj : j < i) (hy : names[j]? = some x) : atC names E i = 5 := by
  unfold atC; rw [getD_some hx, if_neg (by rw [h]; simp), if_pos (mem_take.2 ⟨j, hj, hy⟩)]
theorem atC_row {names : List ByteArray} {E : List (List Int)} {i : Nat} {x : ByteArray} {l : List Int} (hx : names[i]? = some x) (h : nameB x = true) (hl : E[i]? = some l) (hno : ∀ j, j < i → names[j]? ≠ some x) : atC names E i = rowC names.length l := by
  unfold atC; rw [getD_some hx, if_neg (by rw [h]; simp), if_neg (fun hm => by obtain ⟨j, hj, h2⟩ := mem_take.1 hm; exact hno j hj h2), getD_some hl]
theorem chk_hit {names : List ByteArray} {E : List (List Int)} {k : Nat} (h1 : names.length = E.length) (h2 : names.length ≤ 2500) (hk : k < names.length) (hz : ∀ i, i < k → atC names E i = 0) (hf : atC names E k ≠ 0) : chk names E = atC names E k := by
  unfold chk; rw [if_neg (by omega), if_neg (by omega)]; exact fnz_hit hz hk hf
theorem chk_ok {names : List ByteArray} {E : List (List Int)} (h1 : names.length = E.length) (h2 : names.length ≤ 2500) (hz : ∀ i, i < names.length → atC names E i = 0) : chk names E = 0 := by
  unfold chk; rw [if_neg (by omega), if_neg (by omega)]; exact fnz_none hz
theorem rowC_hit {n k : Nat} {l : List Int} (h : l.length ≤ 400) (hk : k < l.length) (hz : ∀ i, i < k → rowAt n l i = 0) (hf : rowAt n l k ≠ 0) : rowC n l = rowAt n l k := by
  unfold rowC; rw [if_neg (by omega)]; exact fnz_hit hz hk hf
theorem rowC_ok {n : Nat} {l : List Int} (h : l.length ≤ 400) (hz : ∀ i, i < l.length → rowAt n l i = 0) : rowC n l = 0 := by
  unfold rowC; rw [if_neg (by omega)]; exact fnz_none hz

def ChkR (w : World) (c : Nat) (e : Ending) (w' : World) : Prop := e = .returned (.int .i64 (c : Nat)) ∧ Below w.heap.size w w'
theorem chkR_of {w w' : World} {c d : Nat} (h : d = c) (hb : Below w.heap.size w w') : ChkR w c (.returned (.int .i64 (d : Nat))) w' := ⟨by rw [h], hb⟩

set_option maxHeartbeats 2000000 in
set_option maxRecDepth 100000 in
theorem rCheck_any {w : World} {v : Value} {names : List ByteArray} {E : List (List Int)} (h : GrV w v names E) :
    Calls Tryd.prog 16 #[v] w (ChkR w (chk names E)) := by
  obtain ⟨A, c, A', c', rfl, hs, hg⟩ := h
  obtain ⟨hr1, hr2⟩ := hs.room
  obtain ⟨hr3, hr4⟩ := hg.room
  unfold maxLen at hr2 hr4
  by_cases hne : names.length = E.length
  · by_cases hlg : 2500 < names.length
    · have e : chk names E = 8 := by unfold chk; rw [if_neg (by omega), if_pos hlg]
      rw [e]
      have hb : ((names.length : Int) != (E.length : Int)) = false := by simp [hne]
      clear hne e
      go_enter Tryd.func16, Tryd.ntmps16
      go_wp2
      go_ret
      exact chkR_of rfl ((Below.refl _ _).alloc (Nat.le_refl _) _)
    · have hb : ((names.length : Int) != (E.length : Int)) = false := by simp [hne]
      have HNE := Lib.hid hne
      clear hne
      obtain ⟨W, G, hW, hG, hbW, c0, c1, hGl, hwG⟩ := gbox w (.slice A names.length c) (.slice A' E.length c')
      have HW := Lib.hid hW
      have HG := Lib.hid hG
      clear hW hG
      replace hs := hs.below hbW
      replace hg := hg.below hbW
      go_enter Tryd.func16, Tryd.ntmps16
      go_wp2
      rw [← HW.out, ← HG.out]
      clear hb
      go_loopw [3] (fun i wr => ∃ k : Nat, k ≤ names.length ∧ i = .int .i64 k ∧ (∀ j, j < k → atC names E j = 0) ∧ Below W.heap.size W wr) (fun i _ => names.length - (intOf i).toNat)
      case atStart => exact ⟨0, Nat.zero_le _, rfl, fun j hj => by omega, Below.refl _ _⟩
      case round =>
        obtain ⟨k, hk, rfl, hno, hbr⟩ := hrel
        have HN := Lib.hid hno; clear hno
        obtain ⟨hc, hf⟩ := bcell hbr
        have d0 := (hc _ 0 hGl).trans c0
        have d1 := (hc _ 1 hGl).trans c1
        clear hc hf
        by_cases hlt : k < names.length
        · have hs2 := hs.below hbr
          have hg2 := hg.below hbr
          obtain ⟨b, off, rfl, hcell⟩ := hs2.cell (by omega)
          obtain ⟨x, hx⟩ : ∃ x, names[k]? = some x := ⟨_, List.getElem?_eq_getElem hlt⟩
          have hcx := hcell k x hx
          have hxm := hs.2 x (List.mem_of_getElem? hx)
          have HX := Lib.hid hx
          have HC := Lib.hid hcell
          clear hx hcell
          cases hnb : nameB x
          · have HB := Lib.hid hnb; clear hnb
            go_wp2_with (go_at_call 59; refine (isName_any hxm).mono ?_; rintro e w' ⟨rfl, rfl⟩; rw [HB.out])
            go_ret
            exact chkR_of (by rw [chk_hit HNE.out (by omega) hlt HN.out (by rw [atC_name HX.out HB.out]; decide), atC_name HX.out HB.out]) (hbW.trans (hbr.mono hbW.size))
          · have HB := Lib.hid hnb; clear hnb
            go_wp2_with (go_at_call 59; refine (isName_any hxm).mono ?_; rintro e w' ⟨rfl, rfl⟩; rw [HB.out])
            obtain ⟨wo, rfl⟩ : ∃ wo : World, wo = wr := ⟨_, rfl⟩
            go_loopw [4] (fun i wr => ∃ q : Nat, q ≤ k ∧ i = .int .i64 q ∧ (∀ j, j < q → names[j]? ≠ some x) ∧ ∃ m, wr = wo.drewN m) (fun i _ => k - (intOf i).toNat)
            case atStart => exact ⟨0, Nat.zero_le _, rfl, fun j hj => by omega, 0, rfl⟩
            case round =>
              obtain ⟨q, hq, rfl, hnq, m, rfl⟩ := hrel
              have HQ := Lib.hid hnq; clear hnq
              by_cases hqk : q < k
              · obtain ⟨y, hy⟩ : ∃ y, names[q]? = some y := ⟨_, List.getElem?_eq_getElem (by omega)⟩
                have hcy := HC.out q y hy
                have HY := Lib.hid hy; clear hy
                have i1 : (q : Int) < (names.length : Int) := by omega
                have i2 : (k : Int) < (names.length : Int) := by omega
                by_cases hyx : y = x
                · have hbq := bytes_eq hyx
                  have HYX := Lib.hid hyx; clear hyx
                  go_wp2_with fail
                  go_quiet (fail)
                  go_wp2_with fail
                  go_ret
                  have ea := atC_exists (E := E) HX.out HB.out hqk (by rw [HY.out, HYX.out])
                  exact chkR_of (by rw [chk_hit HNE.out (by omega) hlt HN.out (by rw [ea]; decide), ea]) (below_drewN' (below_drewN' (hbW.trans (hbr.mono hbW.size)) _) _)
                · have hbq := bytes_ne hyx
                  have HYX := Lib.hid hyx; clear hyx
                  go_wp2_with fail
                  go_quiet (fail)
                  go_wp2_with fail
                  go_roundw
                  case rel =>
                    refine ⟨q + 1, by omega, by go_num, fun j hj => ?_, _, rfl⟩
                    rcases Nat.lt_or_ge j q with h2 | h2
                    · exact HQ.out j h2
                    · obtain rfl : j = q := by omega
                      rw [HY.out]; intro e; injection e with e; exact HYX.out e
                  case measure => simp [intOf]; omega
              · obtain rfl : q = k := by omega
                obtain ⟨b2, off2, rfl, hcell2⟩ := hg2.cell (by have := HNE.out; omega)
                obtain ⟨l, hl⟩ : ∃ l, E[q]? = some l := ⟨_, List.getElem?_eq_getElem (by have := HNE.out; omega)⟩
                obtain ⟨B, d, hcl, hil⟩ := hcell2 q l hl
                have hrow := atC_row (E := E) HX.out HB.out hl HQ.out
                have HROW := Lib.hid hrow
                have HL := Lib.hid hl
                obtain ⟨hd1, hd2⟩ := hil.room
                unfold maxLen at hd2
                have hqE : q < E.length := by have := HNE.out; omega
                clear hl hcell2 hrow HQ HC
                by_cases h400 : 400 < l.length
                · go_wp2_with fail
                  go_ret
                  have ea : atC names E q = 8 := by rw [HROW.out]; unfold rowC; rw [if_pos h400]
                  exact chkR_of (by rw [chk_hit HNE.out (by omega) hlt HN.out (by rw [ea]; decide), ea]) (below_drewN' (hbW.trans (hbr.mono hbW.size)) _)
                · go_wp2_with fail
                  have hil2 : Il (wo.drewN m) B l.length d l := hil.below (below_drewN' (Below.refl _ _) m)
                  have hbr2 : Below W.heap.size W (wo.drewN m) := below_drewN' hbr m
                  have d0' : (wo.drewN m).cell? ⟨G, 0, none⟩ = _ := d0
                  have d1' : (wo.drewN m).cell? ⟨G, 1, none⟩ = _ := d1
                  clear hil hbr d0 d1 hcx hcl
                  generalize wo.drewN m = w2 at *
                  have hgv : GrV w2 (.agg #[.slice (some ⟨b, off, none⟩) names.length c, .slice (some ⟨b2, off2, none⟩) E.length c']) names E := ⟨_, _, _, _, rfl, hs.below hbr2, hg.below hbr2⟩
                  have hGl2 : G < w2.heap.size := Nat.lt_of_lt_of_le hGl hbr2.size
                  go_loopw [6] (fun i wr => ∃ t : Nat, t ≤ l.length ∧ i = .int .i64 t ∧ (∀ j, j < t → rowAt names.length l j = 0) ∧ Below w2.heap.size w2 wr) (fun i _ => l.length - (intOf i).toNat)
                  case atStart => exact ⟨0, Nat.zero_le _, rfl, fun j hj => by omega, Below.refl _ _⟩
                  case round =>
                    obtain ⟨t, ht, rfl, hnt, hbt⟩ := hrel
                    have HT := Lib.hid hnt; clear hnt
                    obtain ⟨hc, hf⟩ := bcell hbt
                    have e0 := (hc _ 0 hGl2).trans d0'
                    have e1 := (hc _ 1 hGl2).trans d1'
                    clear hc hf
                    by_cases htl : t < l.length
                    · obtain ⟨b3, off3, rfl, hcell3⟩ := (hil2.below hbt).cell (by omega)
                      obtain ⟨y, hy⟩ : ∃ y, l[t]? = some y := ⟨_, List.getElem?_eq_getElem htl⟩
                      have hcy := hcell3 t y hy
                      have HC3 := Lib.hid hcell3
                      have HY := Lib.hid hy
                      have hyr := hil2.2 y (List.mem_of_getElem? hy)
                      have i1 : (t : Int) < (l.length : Int) := by omega
                      have i2 : 0 ≤ (t : Int) := by omega
                      clear hcell3 hy
                      go_wp2_with fail
                      go_still_tail 5, (by kernel_rfl)
                      have hbt2 : Below w2.heap.size w2 wr.drew := hbt.drew
                      have hgv2 := hgv.below hbt2
                      have hbw2 : Below w.heap.size w wr.drew := (hbW.trans (hbr2.mono hbW.size)).trans (hbt2.mono (Nat.le_trans hbW.size hbr2.size))
                      change wpList _ _ _ _ _ wr.drew
                      have g0 : wr.drew.cell? ⟨b3, off3 + t, none⟩ = _ := hcy
                      have g3 : ∀ j x, l[j]? = some x → wr.drew.cell? ⟨b3, off3 + j, none⟩ = _ := HC3.out
                      have HC4 := Lib.hid g3
                      clear hcy HC3 e0 e1 hbt g3
                      generalize wr.drew = w3 at *
                      cases hh : hasB names.length y
                      · have HH := Lib.hid hh; clear hh
                        go_wp2_with (go_at_call 18; refine (rHas_any hgv2 y).mono ?_; rintro e w4 ⟨rfl, hb4⟩; rw [HH.out])
                        go_ret
                        have er : rowAt names.length l t = 6 := by unfold rowAt; rw [getD_some HY.out, if_pos (by have := HH.out; unfold hasB at this; simpa using this)]
                        have ea : atC names E q = 6 := by rw [HROW.out, rowC_hit (by omega) htl HT.out (by rw [er]; decide), er]
                        exact chkR_of (by rw [chk_hit HNE.out (by omega) hlt HN.out (by rw [ea]; decide), ea]) (hbw2.trans (hb4.mono hbw2.size))
                      · have HH := Lib.hid hh; clear hh
                        have hyn : 0 ≤ y ∧ y < names.length := by have := HH.out; unfold hasB at this; simpa using this
                        go_wp2_with (go_at_call 18; refine (rHas_any hgv2 y).mono ?_; rintro e w4 ⟨rfl, hb4⟩; rw [HH.out])
                        obtain ⟨hc4, hf4⟩ := bcell hb4
                        have f0 := (hc4 _ (off3 + t) (cell_some_lt g0)).trans g0
                        by_cases ht0 : t = 0
                        · have hd0 : decide (0 < t) = false := by simp; omega
                          have HT0 := Lib.hid ht0; clear ht0 hc4 hf4
                          go_quiet (fail)
                          go_wp2_with fail
                          go_roundw
                          case rel =>
                            refine ⟨t + 1, by omega, by go_num, fun j hj => ?_, below_drewN' (hbt2.trans (hb4.mono hbt2.size)) _⟩
                            rcases Nat.lt_or_ge j t with h2 | h2
                            · exact HT.out j h2
                            · obtain rfl : j = t := by omega
                              unfold rowAt; rw [getD_some HY.out, if_neg (by simpa using hyn), if_neg (by have := HT0.out; omega)]
                          case measure => simp [intOf]; omega
                        · obtain ⟨z, hz⟩ : ∃ z, l[t - 1]? = some z := ⟨_, List.getElem?_eq_getElem (by omega)⟩
                          have f1 := (hc4 _ (off3 + (t - 1)) (cell_some_lt (HC4.out _ _ hz))).trans (HC4.out _ _ hz)
                          have hzr := hil2.2 z (List.mem_of_getElem? hz)
                          have HZ := Lib.hid hz
                          have ht1 : 0 < t := by omega
                          have ht2 : (0 : Int) < (t : Int) := by omega
                          have ht3 : 0 ≤ (t : Int) - 1 := by omega
                          have ht4 : (t : Int) - 1 < (l.length : Int) := by omega
                          have ht5 : 1 ≤ (t : Int) := by omega
                          have ht6 : IntKind.i64.wrap ((t : Int) - 1) = (t : Int) - 1 := IntWalk.i64_in _ (by omega)
                          have ht7 : ((t : Int) - 1).toNat = t - 1 := by omega
                          clear ht0 hz hc4 hf4
                          by_cases hyz : y < z
                          · go_quiet (fail)
                            clear ht6 ht7
                            go_wp2_with fail
                            go_ret
                            have er : rowAt names.length l t = 14 := by unfold rowAt; rw [getD_some HY.out, getD_some HZ.out, if_neg (by simpa using hyn), if_pos ⟨ht1, hyz⟩]
                            have ea : atC names E q = 14 := by rw [HROW.out, rowC_hit (by omega) htl HT.out (by rw [er]; decide), er]
                            exact chkR_of (by rw [chk_hit HNE.out (by omega) hlt HN.out (by rw [ea]; decide), ea]) (below_drewN' (hbw2.trans (hb4.mono hbw2.size)) _)
                          · go_quiet (fail)
                            clear ht6 ht7
                            go_wp2_with fail
                            go_roundw
                            case rel =>
                              refine ⟨t + 1, by omega, by go_num, fun j hj => ?_, below_drewN' (hbt2.trans (hb4.mono hbt2.size)) _⟩
                              rcases Nat.lt_or_ge j t with h2 | h2
                              · exact HT.out j h2
                              · obtain rfl : j = t := by omega
                                unfold rowAt; rw [getD_some HY.out, getD_some HZ.out, if_neg (by simpa using hyn), if_neg (fun h => hyz h.2)]
                            case measure => simp [intOf]; omega
                    · obtain rfl : t = l.length := by omega
                      have ea : atC names E q = 0 := by rw [HROW.out, rowC_ok (by omega) HT.out]
                      have HEA := Lib.hid ea; clear ea
                      have hbt2 := hbr2.trans (hbt.mono hbr2.size)
                      go_wp2_with fail
                      go_roundw
                      case rel =>
                        refine ⟨q + 1, by omega, by go_num, fun j hj => ?_, hbt2⟩
                        rcases Nat.lt_or_ge j q with h2 | h2
                        · exact HN.out j h2
                        · obtain rfl : j = q := by omega
                          exact HEA.out
                      case measure => simp [intOf]; omega
        · go_wp2
          go_ret
          exact chkR_of (by rw [chk_ok HNE.out (by omega) (fun i hi => HN.out i (by omega))]) (hbW.trans (hbr.mono hbW.size))
  · have e : chk names E = 9 := by unfold chk; rw [if_pos hne]
    rw [e]
    have hb : ((names.length : Int) != (E.length : Int)) = true := by simp; omega
    clear hne e
    go_enter Tryd.func16, Tryd.ntmps16
    go_wp2
    go_ret
    exact chkR_of rfl ((Below.refl _ _).alloc (Nat.le_refl _) _)
end Go.Proofs.YtpkjdnplmgfbbaaDoor
