/- The reference's Degree and Undirected. The law GraphChecks: its walk. -/
import Derived.Test.YtpkjdnplmgfbbaaDoorChw
import Derived.Deep.RegionHeld3
namespace Go.Proofs.YtpkjdnplmgfbbaaDoor
open Go.RowKit

theorem degP_small {names : List ByteArray} {E : List (List Nat)} (hk : Ok names E) : (degP E).1 ≤ 400 ∧ (degP E).2 ≤ 12 := by
  unfold degP
  split
  · simp
  · split
    · simp
    · exact ⟨hk.deg 0, Nat.zero_le _⟩

set_option maxHeartbeats 1000000 in
set_option maxRecDepth 100000 in
theorem rDegree_ok {w : World} {v : Value} {names : List ByteArray} {E : List (List Nat)} (h : GrV w v names (toI E)) (hk : Ok names E) :
    Calls Tryd.prog 35 #[v] w (TwoR w (degP E).1 (degP E).2) := by
  have hsm := hk.small
  obtain ⟨A1, c1, A', c', rfl, hs, hg⟩ := h
  rw [toI_length] at *
  have hr := hg.room
  unfold maxLen at hr
  obtain ⟨W, G, hW, hG, hbW, c0, c1', hGl, hwG⟩ := gbox w (.slice A1 names.length c1) (.slice A' E.length c')
  replace hg := hg.below hbW
  have HW := Lib.hid hW
  have HG := Lib.hid hG
  clear hW hG hs hk c0
  go_enter Tryd.func35, Tryd.ntmps35
  go_wp2_with fail
  rw [← HW.out, ← HG.out]
  go_loopw [4] (fun i wr => ∃ k q : Nat, k ≤ E.length ∧ i = .int .i64 (k : Nat) ∧ (∀ j, j < k → (gr E j).length = (gr E 0).length) ∧ wr = W.drewN q) (fun i _ => E.length - (intOf i).toNat)
  case atStart => exact ⟨0, 0, Nat.zero_le _, rfl, fun j hj => by omega, rfl⟩
  case round =>
    obtain ⟨k, q, hkl, rfl, hall, rfl⟩ := hrel
    have HALL := Lib.hid hall
    clear hall
    by_cases hlt : k < E.length
    · obtain ⟨b, off, A2, c2, hA, hrow, hr1, hr2, _⟩ := hg.row hlt
      obtain ⟨b', off', A3, c3, hA', hrow', hr3, hr4, _⟩ := hg.row (show 0 < E.length by omega)
      subst hA
      injection hA' with hA'
      injection hA' with hb1 ho1
      subst hb1 ho1
      have hrow0 : W.cell? ⟨b, off, none⟩ = some (.slice A3 (gr E 0).length c3) := by simpa using hrow'
      have hki : (k : Int) < (E.length : Int) := by omega
      have hk0 : (0 : Int) ≤ (k : Int) := by omega
      have h0i : (0 : Int) < (E.length : Int) := by omega
      have h00 : (0 : Int) ≤ (0 : Int) := by omega
      clear hrow'
      by_cases he : (gr E k).length = (gr E 0).length
      · have hb : (((gr E k).length : Int) != ((gr E 0).length : Int)) = false := by simp [he]
        have HE := Lib.hid he
        clear he
        go_wp2_with fail
        go_quiet (fail)
        go_wp2_with fail
        go_roundw
        case rel =>
          refine ⟨k + 1, _, by omega, by go_num, fun j hj => ?_, rfl⟩
          rcases Nat.lt_or_ge j k with h1 | h1
          · exact HALL.out j h1
          · obtain rfl : j = k := by omega
            exact HE.out
        case measure => simp [intOf]; omega
      · have hb : (((gr E k).length : Int) != ((gr E 0).length : Int)) = true := by
          have : ¬ ((gr E k).length : Int) = ((gr E 0).length : Int) := by omega
          simp [this]
        have hd := degP_no (List.any_eq_true.2 ⟨gr E k, List.mem_of_getElem? (gr_lt hlt), by simpa using he⟩)
        have HD := Lib.hid hd
        clear he hd
        go_wp2_with fail
        go_quiet (fail)
        go_wp2_with fail
        go_ret2
        exact twoR_of HD.out (below_drewN' (below_drewN' hbW _) _)
    · obtain rfl : k = E.length := by omega
      have c2' : (W.drewN q).cell? ⟨G, 1, none⟩ = _ := c1'
      by_cases h0 : E.length = 0
      · have hz : ((E.length : Int) == 0) = true := by simp [h0]
        have hd := degP_nil h0
        have HD := Lib.hid hd
        clear hd h0
        go_wp2_with fail
        go_ret2
        exact twoR_of HD.out (below_drewN' hbW _)
      · have hz : ((E.length : Int) == 0) = false := beq_eq_false_iff_ne.2 (by omega)
        obtain ⟨b, off, A2, c2, rfl, hrow, hr1, hr2, _⟩ := hg.row (show 0 < E.length by omega)
        have hrow0 : (W.drewN q).cell? ⟨b, off, none⟩ = some (.slice A2 (gr E 0).length c2) := by simpa using hrow
        have h0i : (0 : Int) < (E.length : Int) := by omega
        have hany : (E.any fun l => decide (l.length ≠ (gr E 0).length)) = false := by
          rw [List.any_eq_false]
          intro l hl
          obtain ⟨j, hj, hjl⟩ := mem_getElem hl
          have h1 := HALL.out j hj
          have h2 : gr E j = l := by unfold gr; exact getD_some hjl
          rw [h2] at h1
          simpa using h1
        have hd := degP_yes h0 hany
        have HD := Lib.hid hd
        clear hd h0 hany hrow
        go_wp2_with fail
        go_ret2
        exact twoR_of HD.out (below_drewN' hbW _)

theorem same_step {wr wx wy : World} (hs : ∀ b o, b < wr.heap.size → wx.cell? ⟨b, o, none⟩ = wr.cell? ⟨b, o, none⟩) (hz : wr.heap.size ≤ wx.heap.size) (hb : Below wx.heap.size wx wy) :
    (∀ b o, b < wr.heap.size → wy.cell? ⟨b, o, none⟩ = wr.cell? ⟨b, o, none⟩) ∧ wr.heap.size ≤ wy.heap.size :=
  ⟨fun b o h1 => (hb.cell (p := ⟨b, o, none⟩) (Nat.lt_of_lt_of_le h1 hz)).trans (hs b o h1), Nat.le_trans hz hb.size⟩

theorem und_of {E : List (List Nat)} (h : ∀ i, i < E.length → ∀ k, k < i → (gr E i).count k = (gr E k).count i) : Und E := by
  intro u v hu hv
  rcases Nat.lt_trichotomy u v with h1 | h1 | h1
  · exact (h v hv u h1).symm
  · rw [h1]
  · exact h u hu v h1
theorem gi_count {E : List (List Nat)} (u v : Nat) : (gi E u).count (v : Int) = (gr E u).count v := by
  unfold gi
  induction gr E u with
  | nil => rfl
  | cons x r ih =>
    rw [List.map_cons, List.count_cons, List.count_cons, ih]
    by_cases e : x = v
    · subst e; simp
    · have : ¬ (x : Int) = (v : Int) := by omega
      simp [e, this]

set_option maxHeartbeats 1000000 in
set_option maxRecDepth 100000 in
theorem rUndirected_ok {w : World} {v : Value} {names : List ByteArray} {E : List (List Nat)} (h : GrV w v names (toI E)) (hk : Ok names E) :
    Calls Tryd.prog 36 #[v] w (UndR w E) := by
  have hsm := hk.small
  have HCT := Lib.hid (fun w' (hb : Below w.heap.size w w') u (hu : u < E.length) x => rcount_any (h.at w' hb) hu x)
  obtain ⟨A1, c1, A', c', rfl, hs, hg⟩ := h
  rw [toI_length] at *
  have hr := hg.room
  unfold maxLen at hr
  obtain ⟨W, G, hW, hG, hbW, c0, c1', hGl, hwG⟩ := gbox w (.slice A1 names.length c1) (.slice A' E.length c')
  have HW := Lib.hid hW
  have HG := Lib.hid hG
  clear hW hG hs hk hg
  go_enter Tryd.func36, Tryd.ntmps36
  go_wp2_with fail
  rw [← HW.out, ← HG.out]
  go_loopw [3] (fun i wr => ∃ k : Nat, k ≤ E.length ∧ i = .int .i64 (k : Nat) ∧ (∀ a, a < k → ∀ b, b < a → (gr E a).count b = (gr E b).count a) ∧ Below W.heap.size W wr) (fun i _ => E.length - (intOf i).toNat)
  case atStart => exact ⟨0, Nat.zero_le _, rfl, fun j hj => by omega, Below.refl _ _⟩
  case round =>
    obtain ⟨k, hkl, rfl, hall, hbr⟩ := hrel
    have HALL := Lib.hid hall
    obtain ⟨d0, d1⟩ := keep2 hbr c0 c1'
    clear hall
    by_cases hlt : k < E.length
    · go_wp2_with fail
      clear d0 d1
      go_loopw [4] (fun i wr => ∃ t : Nat, t ≤ k ∧ i = .int .i64 (t : Nat) ∧ (∀ b, b < t → (gr E k).count b = (gr E b).count k) ∧ Below W.heap.size W wr) (fun i _ => k - (intOf i).toNat)
      case atStart => exact ⟨0, Nat.zero_le _, rfl, fun j hj => by omega, hbr⟩
      case round =>
        clear hbr
        obtain ⟨t, htl, rfl, hin, hbr⟩ := hrel
        have HIN := Lib.hid hin
        clear hin
        by_cases htk : t < k
        · obtain ⟨e0, e1⟩ := keep2 hbr c0 c1'
          have hGr : G < wr.heap.size := Nat.lt_of_lt_of_le hGl hbr.size
          have hdr : Below wr.heap.size wr wr.drew := (Below.refl _ _).drew
          have hbw := hbW.trans (hbr.mono hbW.size)
          have HC1 := Lib.hid (fun w' (hb : Below wr.heap.size wr w') => HCT.out w' (hbw.trans (hb.mono hbw.size)) k hlt (t : Int))
          have HC2 := Lib.hid (fun w' (hb : Below wr.heap.size wr w') => HCT.out w' (hbw.trans (hb.mono hbw.size)) t (by omega) (k : Int))
          rw [gi_count] at HC1 HC2
          have hbc := @bne_cast ((gr E k).count t) ((gr E t).count k)
          by_cases he : (gr E k).count t = (gr E t).count k
          · have HE := Lib.hid he
            rw [decide_eq_false (by simpa using he)] at hbc
            clear he
            go_wp2_with fail
            go_region_held3 (fun w' => (∀ b o, b < wr.heap.size → w'.cell? ⟨b, o, none⟩ = wr.cell? ⟨b, o, none⟩) ∧ wr.heap.size ≤ w'.heap.size)
              (first | exact ⟨fun _ _ _ => rfl, Nat.le_refl _⟩ | (go_split_ands; exact same_step (by assumption) (by assumption) (by assumption)))
              (first
                | (go_at_call 71; ((with_reducible refine (HC1.out _ hdr).mono ?_)); rintro e w5 ⟨rfl, hb6⟩; have hB6 := hdr.trans (hb6.mono hdr.size))
                | (go_at_call 71; ((with_reducible refine (HC2.out _ hB6).mono ?_)); rintro e w6 ⟨rfl, hb7⟩; have hB7 := hB6.trans (hb7.mono hB6.size)))
            go_wp2_with fail
            go_roundw
            case rel =>
              refine ⟨t + 1, by omega, by go_num, fun b hb => ?_, hbr.trans (hB7.mono hbr.size)⟩
              rcases Nat.lt_or_ge b t with h1 | h1
              · exact HIN.out b h1
              · obtain rfl : b = t := by omega
                exact HE.out
            case measure => simp [intOf]; omega
          · have hu : undB E = false := undB_false.2 fun hu => he (hu k t hlt (by omega))
            have HU := Lib.hid hu
            rw [decide_eq_true (by simpa using he)] at hbc
            clear he hu
            go_wp2_with fail
            go_region_held3 (fun w' => (∀ b o, b < wr.heap.size → w'.cell? ⟨b, o, none⟩ = wr.cell? ⟨b, o, none⟩) ∧ wr.heap.size ≤ w'.heap.size)
              (first | exact ⟨fun _ _ _ => rfl, Nat.le_refl _⟩ | (go_split_ands; exact same_step (by assumption) (by assumption) (by assumption)))
              (first
                | (go_at_call 71; ((with_reducible refine (HC1.out _ hdr).mono ?_)); rintro e w5 ⟨rfl, hb6⟩; have hB6 := hdr.trans (hb6.mono hdr.size))
                | (go_at_call 71; ((with_reducible refine (HC2.out _ hB6).mono ?_)); rintro e w6 ⟨rfl, hb7⟩; have hB7 := hB6.trans (hb7.mono hB6.size)))
            go_wp2_with fail
            go_ret
            exact undR_of HU.out (hbw.trans (hB7.mono hbw.size))
        · obtain rfl : t = k := by omega
          go_wp2_with fail
          go_roundw
          case rel =>
            refine ⟨t + 1, by omega, by go_num, fun a ha b hb => ?_, hbr⟩
            rcases Nat.lt_or_ge a t with h1 | h1
            · exact HALL.out a h1 b hb
            · obtain rfl : a = t := by omega
              exact HIN.out b hb
          case measure => simp [intOf]; omega
    · have hu : undB E = true := undB_true.2 (und_of fun i hi => HALL.out i (by omega))
      have HU := Lib.hid hu
      clear hu
      go_wp2_with fail
      go_ret
      exact undR_of HU.out (hbW.trans (hbr.mono hbW.size))

set_option maxHeartbeats 4000000 in
set_option maxRecDepth 100000 in
theorem lawC_bad {w : World} {v : Value} {names : List ByteArray} {E : List (List Int)} (h : GrV w v names E) (hc : chk names E ≠ 0) : Calls Tryd.prog 6 #[v] w (TrueR w) := by
  have H := Lib.hid (fun w' hb => h.at w' hb)
  have hz : (((chk names E : Nat) : Int) != 0) = true := by simp [hc]
  have hz2 : (((chk names E : Nat) : Int) == ((chk names E : Nat) : Int)) = true := by simp
  have hz3 : (((chk names E : Nat) : Int) != ((chk names E : Nat) : Int)) = false := by simp
  have HD := Lib.hid (fun w' hb => Undirected_bad (h.at w' hb) hc)
  have HM := Lib.hid (fun w' hb => Degree_bad (h.at w' hb) hc)
  have HR := Lib.hid (fun w' hb => rCheck_any (h.at w' hb))
  have HK := Lib.hid (fun w' hb => Check_any (h.at w' hb))
  generalize chk names E = q at *
  clear hc
  obtain ⟨A, c, A', c', rfl, hs, hg⟩ := h
  obtain ⟨W, G, hW, hG, hbW, c0, c1, hGl, hwG⟩ := gbox w (.slice A names.length c) (.slice A' E.length c')
  have HW := Lib.hid hW
  have HG := Lib.hid hG
  clear hW hG hs hg
  go_enter Tryd.func6, Tryd.ntmps6
  go_wp2_with fail
  rw [← HW.out, ← HG.out]
  refine (Light_any (H.out _ hbW)).mono ?_
  rintro e w1 ⟨b, rfl, _, hb1⟩
  obtain ⟨d0, d1⟩ := keep2 hb1 c0 c1
  replace hb1 := hbW.trans (hb1.mono hbW.size)
  clear c0 c1
  cases b
  · go_wp2_with fail
    refine awake_any.mono ?_
    rintro e w2 ⟨rfl, hb2⟩
    go_wp2_with fail
    go_ret
    exact ⟨rfl, hb1.trans (hb2.mono hb1.size)⟩
  · go_wp2_with fail
    refine (HD.out _ hb1).mono ?_
    rintro e w2 ⟨rfl, hb2⟩
    obtain ⟨e0, e1⟩ := keep2 hb2 d0 d1
    replace hb2 := hb1.trans (hb2.mono hb1.size)
    clear d0 d1 hb1
    go_wp2_with fail
    refine (HM.out _ hb2).mono ?_
    rintro e w3 ⟨rfl, hb3⟩
    obtain ⟨f0, f1⟩ := keep2 hb3 e0 e1
    replace hb3 := hb2.trans (hb3.mono hb2.size)
    clear e0 e1 hb2
    go_wp2_with fail
    refine (HR.out _ hb3).mono ?_
    rintro e w4 ⟨rfl, hb4⟩
    obtain ⟨g0, g1⟩ := keep2 hb4 f0 f1
    replace hb4 := hb3.trans (hb4.mono hb3.size)
    clear f0 f1 hb3
    go_wp2_with fail
    refine (HK.out _ hb4).mono ?_
    rintro e w5 ⟨rfl, hb5⟩
    replace hb5 := hb4.trans (hb5.mono hb4.size)
    clear g0 g1 hb4
    go_wp2_with fail
    refine awake_any.mono ?_
    rintro e w6 ⟨rfl, hb6⟩
    go_wp2_with fail
    go_ret
    exact ⟨rfl, hb5.trans (hb6.mono hb5.size)⟩

set_option maxHeartbeats 4000000 in
set_option maxRecDepth 100000 in
theorem lawC_ok {w : World} {v : Value} {names : List ByteArray} {E : List (List Nat)} (h : GrV w v names (toI E)) (hc : chk names (toI E) = 0) (hk : Ok names E) : Calls Tryd.prog 6 #[v] w (TrueR w) := by
  have H := Lib.hid (fun w' hb => h.at w' hb)
  have HD := Lib.hid (fun w' hb => Undirected_ok (h.at w' hb) hc hk)
  have HM := Lib.hid (fun w' hb => Degree_ok (h.at w' hb) hc hk)
  have HR := Lib.hid (fun w' hb => rCheck_any (h.at w' hb))
  have HK := Lib.hid (fun w' hb => Check_any (h.at w' hb))
  rw [hc] at HR HK
  have HRD := Lib.hid (fun w' hb => rDegree_ok (h.at w' hb) hk)
  have HRU := Lib.hid (fun w' hb => rUndirected_ok (h.at w' hb) hk)
  obtain ⟨p, hp⟩ : ∃ p, p = (degP E).1 := ⟨_, rfl⟩
  obtain ⟨q, hq⟩ : ∃ q, q = (degP E).2 := ⟨_, rfl⟩
  obtain ⟨u, hu⟩ : ∃ u, u = undB E := ⟨_, rfl⟩
  rw [← hp, ← hq] at HM HRD
  rw [← hu] at HD
  have hu2 : ∀ w e w', UndR w E e w' → e = .returned (.bool u) ∧ Below w.heap.size w w' := fun w e w' h => by rw [hu]; exact h
  have HU2 := Lib.hid hu2
  have hp1 : ((p : Int) == (p : Int)) = true := by simp
  have hq1 : ((q : Int) == (q : Int)) = true := by simp
  have hu1 : (u == u) = true := by simp
  clear hp hq hu hc hk hu2
  obtain ⟨A, c, A', c', rfl, hs, hg⟩ := h
  obtain ⟨W, G, hW, hG, hbW, c0, c1, hGl, hwG⟩ := gbox w (.slice A names.length c) (.slice A' (toI E).length c')
  have HW := Lib.hid hW
  have HG := Lib.hid hG
  clear hW hG hs hg
  go_enter Tryd.func6, Tryd.ntmps6
  go_wp2_with fail
  rw [← HW.out, ← HG.out]
  refine (Light_any (H.out _ hbW)).mono ?_
  rintro e w1 ⟨b, rfl, _, hb1⟩
  obtain ⟨d0, d1⟩ := keep2 hb1 c0 c1
  replace hb1 := hbW.trans (hb1.mono hbW.size)
  clear c0 c1
  cases b
  · go_wp2_with fail
    refine awake_any.mono ?_
    rintro e w2 ⟨rfl, hb2⟩
    go_wp2_with fail
    go_ret
    exact ⟨rfl, hb1.trans (hb2.mono hb1.size)⟩
  · go_wp2_with fail
    refine (HD.out _ hb1).mono ?_
    rintro e w2 ⟨rfl, hb2⟩
    obtain ⟨e0, e1⟩ := keep2 hb2 d0 d1
    replace hb2 := hb1.trans (hb2.mono hb1.size)
    clear d0 d1 hb1
    go_wp2_with fail
    refine (HM.out _ hb2).mono ?_
    rintro e w3 ⟨rfl, hb3⟩
    obtain ⟨f0, f1⟩ := keep2 hb3 e0 e1
    replace hb3 := hb2.trans (hb3.mono hb2.size)
    clear e0 e1 hb2
    go_wp2_with fail
    refine (HR.out _ hb3).mono ?_
    rintro e w4 ⟨rfl, hb4⟩
    obtain ⟨g0, g1⟩ := keep2 hb4 f0 f1
    replace hb4 := hb3.trans (hb4.mono hb3.size)
    clear f0 f1 hb3
    go_wp2_with fail
    refine (HK.out _ hb4).mono ?_
    rintro e w5 ⟨rfl, hb5⟩
    obtain ⟨h0, h1⟩ := keep2 hb5 g0 g1
    replace hb5 := hb4.trans (hb5.mono hb4.size)
    clear g0 g1 hb4
    go_wp2_with fail
    refine (HRD.out _ hb5).mono ?_
    rintro e w6 ⟨rfl, hb6⟩
    obtain ⟨i0, i1⟩ := keep2 hb6 h0 h1
    replace hb6 := hb5.trans (hb6.mono hb5.size)
    clear h0 h1 hb5
    go_wp2_with fail
    refine (HRU.out _ hb6).mono ?_
    intro e w7 hur
    obtain ⟨rfl, hb7⟩ := HU2.out _ _ _ hur
    replace hb7 := hb6.trans (hb7.mono hb6.size)
    clear i0 i1 hb6 hur
    go_wp2_with fail
    refine awake_any.mono ?_
    rintro e w8 ⟨rfl, hb8⟩
    go_wp2_with fail
    go_ret
    exact ⟨rfl, hb7.trans (hb8.mono hb7.size)⟩

/-- GraphChecks returns true, whatever the graph. -/
theorem GraphChecks_true {w : World} {v : Value} {names : List ByteArray} {E : List (List Int)} (h : GrV w v names E) : Calls Tryd.prog 6 #[v] w (TrueR w) := by
  by_cases hc : chk names E = 0
  · obtain ⟨E', rfl, hk⟩ := ok_of_chk hc
    exact lawC_ok h hc hk
  · exact lawC_bad h hc
end Go.Proofs.YtpkjdnplmgfbbaaDoor
