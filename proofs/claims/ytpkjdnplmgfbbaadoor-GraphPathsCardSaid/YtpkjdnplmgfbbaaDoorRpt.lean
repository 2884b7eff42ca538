/- The reference's Path. -/
import Derived.Test.YtpkjdnplmgfbbaaDoorCkr
namespace Go.Proofs.YtpkjdnplmgfbbaaDoor
open Go.RowKit

theorem far_dd {E : List (List Nat)} (hE : Valid E) {t u : Nat} (ht : t < E.length) (hu : u < E.length) : (dd E u).getD t 0 = far E t u := ((dd_is hE hu).2 t ht).unique (far_to hE ht u hu)

theorem own_one (w5 : World) (a : Nat) : OwnN (w5.alloc (.cells #[.int .i64 (a : Nat)] 3)) w5.heap.size (.slice (some ⟨w5.heap.size, 0, none⟩) 1 1) [a] ∧ Below w5.heap.size w5 (w5.alloc (.cells #[.int .i64 (a : Nat)] 3)) :=
  ⟨⟨rfl, .inr ⟨_, 1, #[.int .i64 (a : Nat)], rfl, Nat.le_refl _, heap_alloc_new w5 _, Nat.le_refl _, by unfold maxLen; omega, rfl, rfl⟩⟩, (Below.refl _ _).alloc (Nat.le_refl _) _⟩
theorem pth_last {E : List (List Nat)} {D : Nat → Int} {a k : Nat} : (nc (pth E D a k))[k]? = some (.int .i64 (it E D a k : Nat)) := by
  unfold nc pth
  simp

set_option maxHeartbeats 4000000 in
set_option maxRecDepth 100000 in
theorem rPath_ok {w : World} {v : Value} {names : List ByteArray} {E : List (List Nat)} (h : GrV w v names (toI E)) (hk : Ok names E) {a t : Nat} (ha : a < E.length) (ht : t < E.length) :
    Calls Tryd.prog 31 #[v, .int .i64 (a : Nat), .int .i64 (t : Nat)] w (PathR w E a t) := by
  have HRD := Lib.hid (fun w' hb u (hu : u < E.length) => rDistances_ok (h.at w' hb) hk.valid hk.small hu)
  have HCNT := Lib.hid (fun w' hb u (hu : u < E.length) y => rcount_any (h.at w' hb) hu y)
  have hsm := hk.small
  obtain ⟨A, c, A', c', hv, hs, hg⟩ := h
  rw [toI_length] at hv hg
  subst hv
  have hr := hg.room
  unfold maxLen at hr
  obtain ⟨W, G, hW, hG, hbW, g0, g1, hGl, hwG⟩ := gbox w (.slice A names.length c) (.slice A' E.length c')
  have HW := Lib.hid hW
  have HG := Lib.hid hG
  have HK := Lib.hid hk
  clear hW hG hs hk hg
  have hti : (t : Int) < (E.length : Int) := by omega
  have HDL := Lib.hid (fun u (hu : u < E.length) => (dd_is HK.out.valid hu).1)
  have HFD := Lib.hid (fun u (hu : u < E.length) => far_dd HK.out.valid ht hu)
  have hfa := far_small HK.out.valid ht ha
  obtain ⟨d, hd⟩ : ∃ d, d = far E t a := ⟨_, rfl⟩
  rw [← hd] at hfa
  have HD := Lib.hid hd
  clear hd
  go_enter Tryd.func31, Tryd.ntmps31
  go_wp2_with (go_at_call 20; rw [← HW.out, ← HG.out]; refine (HRD.out _ hbW a ha).mono ?_; rintro e w5 ⟨v5, rfl, ⟨G5, hg5, rfl, hn5⟩, hb5⟩; have hca := hn5.cell (i := t) (by rw [HDL.out a ha]; exact ht); rw [HFD.out a ha, ← HD.out] at hca; obtain ⟨d0, d1⟩ := keep2 hb5 g0 g1; have hb6 := hbW.trans (hb5.mono hbW.size))
  · rename_i hneg _
    go_ret2
    exact ⟨.inl ⟨by rw [← HD.out]; omega, rfl⟩, hb6⟩
  · obtain ⟨m, rfl⟩ := Int.eq_ofNat_of_zero_le (show 0 ≤ d by omega)
    obtain ⟨hown8, hb8⟩ := own_one w5 a
    have hto := far_to HK.out.valid ht
    have HIT := Lib.hid (hto.it HK.out.valid ha HD.out.symm)
    have HNX := Lib.hid (fun v (hv : v < E.length) hp => hto.nx HK.out.valid hv hp)
    have HFS := Lib.hid (fun v (hv : v < E.length) => far_small HK.out.valid ht hv)
    obtain ⟨Bd, hBd⟩ : ∃ Bd, Bd = w5.heap.size := ⟨_, rfl⟩
    rw [← hBd] at hown8 hb8 ⊢
    have HBd := Lib.hid hBd
    clear hto hBd hn5 hca hb5 g0 g1
    generalize w5.alloc (.cells #[.int .i64 (a : Nat)] 3) = w6 at *
    go_loopw [9] (fun o wr => ∃ k : Nat, k ≤ m ∧ OwnN wr Bd o (pth E (far E t) a k) ∧ Below Bd w5 wr) (fun o _ => m + 1 - slLen o)
    case atStart => exact ⟨0, Nat.zero_le _, hown8, hb8⟩
    case round =>
      clear hown8 hb8
      obtain ⟨k, hkm, hown, hbr⟩ := hrel
      have hpl := pth_length E (far E t) a k
      have HPL := Lib.hid hpl
      obtain ⟨hyl, hyd⟩ := HIT.out k hkm
      obtain ⟨g, cap, rfl, hbg, hcap, hcm, hfz, hcells⟩ := own_cells hown (by omega)
      rw [hpl] at hcap
      unfold maxLen at hcm
      have hcy := hcells k _ pth_last
      obtain ⟨y, hy⟩ : ∃ y, it E (far E t) a k = y := ⟨_, rfl⟩
      rw [hy] at hcy hyl hyd
      rw [hpl]
      rw [hpl] at hown
      have HY := Lib.hid hy
      have HYD := Lib.hid hyd
      clear hy hyd hpl hcells hfz
      have hb7 : Below w.heap.size w wr := hb6.trans (hbr.mono (by rw [HBd.out]; exact hb6.size))
      by_cases hkt : k < m
      · have hle : decide ((k : Int) + 1 ≤ (m : Int)) = true := by simp; omega
        obtain ⟨hn1, hn2, hn3, hn4⟩ := HNX.out y hyl (by rw [HYD.out]; omega)
        obtain ⟨z, hz⟩ : ∃ z, nx E (far E t) y = z := ⟨_, rfl⟩
        rw [hz] at hn1 hn2 hn3 hn4
        have hitz : it E (far E t) a (k + 1) = z := by rw [← hz, ← HY.out]; rfl
        have hleast := find_least (HK.out.asc y) hn1
        have HLEAST := Lib.hid hleast
        have HITZ := Lib.hid hitz
        have HN4 := Lib.hid hn4
        have HN2 := Lib.hid hn2
        clear hz hitz hn1 hn4 hn2 hleast
        go_wp2_with fail
        obtain ⟨wo, hwo⟩ : ∃ wo : World, wo = wr := ⟨_, rfl⟩
        rw [← hwo] at hown hbr hcy hb7 ⊢
        clear hwo wr
        go_loopw [9, 11] (fun o i wr => ∃ u : Nat, u ≤ z ∧ o = .slice (some ⟨g, 0, none⟩) (k + 1) cap ∧ i = .int .i64 (u : Nat) ∧ Below wo.heap.size wo wr) (fun _ i _ => z + 1 - (intOf i).toNat)
        case atStart => exact ⟨0, Nat.zero_le _, rfl, rfl, Below.refl _ _⟩
        case round =>
          obtain ⟨u, huz, rfl, rfl, hbi⟩ := hrel
          have hul : u < E.length := by omega
          have hb8 := hb7.trans (hbi.mono hb7.size)
          have hbr2 : Below Bd w5 wr := hbr.trans (hbi.mono (by rw [HBd.out]; exact hbr.size))
          have f0 := (hbr2.cell (p := ⟨G, 0, none⟩) (by rw [HBd.out]; exact cell_some_lt d0)).trans d0
          have f1 := (hbr2.cell (p := ⟨G, 1, none⟩) (by rw [HBd.out]; exact cell_some_lt d1)).trans d1
          have hui : (u : Int) < (E.length : Int) := by omega
          have hGr := cell_some_lt f0
          by_cases hmem : u ∈ gr E y
          · have hcp : 0 < (gi E y).count (u : Int) := List.count_pos_iff.2 (gi_mem.2 hmem)
            have hcpi : (0 : Int) < ((gi E y).count (u : Int) : Int) := by omega
            have hfu := HFS.out u hul
            have hps := pth_succ E (far E t) a k
            rw [HITZ.out] at hps
            have HPS := Lib.hid hps
            clear hps
            by_cases huz2 : u = z
            · have hfe : far E t u = (m : Int) - ((k : Int) + 1) := by rw [huz2, HN4.out, HYD.out]; omega
              obtain ⟨fu, hfq⟩ : ∃ fu, fu = far E t u := ⟨_, rfl⟩
              rw [← hfq] at hfe hfu
              have hq : (fu == (m : Int) - ((k : Int) + 1)) = true := by simp [hfe]
              have hq2 : (fu == (m : Int) - ((k + 1 : Nat) : Int)) = true := by simp [hfe]
              have HFQ := Lib.hid hfq
              have HUZ := Lib.hid huz2
              clear hfq hfe huz2 hmem
              go_wp2_with (first
                | (go_at_call 71; refine (HCNT.out _ hb8 y hyl _).mono ?_; rintro e w9 ⟨rfl, hb9⟩; obtain ⟨k0, k1⟩ := keep2 hb9 f0 f1; have hb10 := hb8.trans (hb9.mono hb8.size))
                | (go_at_call 20; refine (HRD.out _ hb10 u hul).mono ?_; rintro e w11 ⟨v11, rfl, ⟨G11, hg11, rfl, hn11⟩, hb11⟩; have hct := hn11.cell (i := t) (by rw [HDL.out u hul]; exact ht); rw [HFD.out u hul, ← HFQ.out] at hct; have hb12 := hbi.trans ((hb9.mono hbi.size).trans (hb11.mono (Nat.le_trans hbi.size hb9.size))); have hown12 := hown.below hb12)
                | (at_builtin; go_must (refine wpList_pushN _ (by rfl) _ _ (by rfl) Bd _ (pth E (far E t) a k) (by rfl) hown12 z _ (by rw [← HUZ.out]) (by rfl) (by rw [HPL.out]; omega) (by rw [HBd.out]; exact Nat.le_trans (Nat.le_trans hbr.size hb12.size) (Nat.le_refl _)) ?_); intro A8 c8 w13 hown13 hg13 hob13))
              have hb14 : Below Bd w5 w13 := (hbr.trans (hb12.mono (by rw [HBd.out]; exact hbr.size))).grown hg13 (by rw [HBd.out]; exact Nat.le_trans hbr.size hb12.size) (fun q hq => (hown12.lt q hq).1)
              go_roundw
              case rel => exact ⟨k + 1, by omega, by rw [HPS.out]; exact hown13, hb14⟩
              case measure =>
                have := HPL.out
                simp only [slLen]
                omega
            · have hfe : far E t u ≠ (m : Int) - ((k : Int) + 1) := fun he => by
                have h1 := HLEAST.out u hmem (by simp only [beq_iff_eq]; rw [he, HYD.out]; omega)
                omega
              obtain ⟨fu, hfq⟩ : ∃ fu, fu = far E t u := ⟨_, rfl⟩
              rw [← hfq] at hfe hfu
              have hq : (fu == (m : Int) - ((k : Int) + 1)) = false := beq_eq_false_iff_ne.2 hfe
              have hq2 : (fu == (m : Int) - ((k + 1 : Nat) : Int)) = false := beq_eq_false_iff_ne.2 (by omega)
              have HFQ := Lib.hid hfq
              clear hfq hfe hmem
              go_wp2_with (first
                | (go_at_call 71; refine (HCNT.out _ hb8 y hyl _).mono ?_; rintro e w9 ⟨rfl, hb9⟩; obtain ⟨k0, k1⟩ := keep2 hb9 f0 f1; have hb10 := hb8.trans (hb9.mono hb8.size))
                | (go_at_call 20; refine (HRD.out _ hb10 u hul).mono ?_; rintro e w11 ⟨v11, rfl, ⟨G11, hg11, rfl, hn11⟩, hb11⟩; have hct := hn11.cell (i := t) (by rw [HDL.out u hul]; exact ht); rw [HFD.out u hul, ← HFQ.out] at hct; have hb12 := hbi.trans ((hb9.mono hbi.size).trans (hb11.mono (Nat.le_trans hbi.size hb9.size)))))
              go_roundw
              case rel => first | exact ⟨u + 1, by omega, rfl, by go_num, hb12⟩ | ((repeat apply Exists.intro); exact ⟨⟨u + 1, by omega, rfl, by go_num, hb12⟩, rfl⟩)
              case measure => simp [intOf]; omega
          · have hc0 : (gi E y).count (u : Int) = 0 := List.count_eq_zero.2 (fun hm => hmem (gi_mem.1 hm))
            have huz2 : u < z := by
              rcases Nat.lt_or_ge u z with h1 | h1
              · exact h1
              · obtain rfl : u = z := by omega
                exact absurd HN2.out hmem
            have HC0 := Lib.hid hc0
            clear hc0 hmem
            go_wp2_with (go_at_call 71; refine (HCNT.out _ hb8 y hyl _).mono ?_; rintro e w9 ⟨rfl, hb9⟩; rw [HC0.out])
            go_roundw
            case rel => first | exact ⟨u + 1, by omega, rfl, by go_num, hbi.trans (hb9.mono hbi.size)⟩ | ((repeat apply Exists.intro); exact ⟨⟨u + 1, by omega, rfl, by go_num, hbi.trans (hb9.mono hbi.size)⟩, rfl⟩)
            case measure => simp [intOf]; omega
      · obtain rfl : k = m := by omega
        have hle : ¬ ((k + 1 : Nat) : Int) ≤ (k : Int) := by omega
        have hle2 : decide (((k + 1 : Nat) : Int) ≤ (k : Int)) = false := by simpa using hle
        go_wp2_with fail
        go_ret2
        obtain ⟨A7, c7, e7, hil7⟩ := hown.il (fun x hx => by
          obtain ⟨q, hq, rfl⟩ := List.mem_map.1 hx
          have h1 : q ≤ k := by have := List.mem_range.1 hq; omega
          have := (HIT.out q (by omega)).1
          omega)
        rw [HPL.out] at e7 hil7
        refine ⟨.inr ⟨by rw [← HD.out]; omega, A7, c7, ?_, ?_⟩, hb7⟩
        · rw [← HD.out, Int.toNat_natCast, ← e7]; rfl
        · rw [← HD.out, Int.toNat_natCast]; exact hil7
end Go.Proofs.YtpkjdnplmgfbbaaDoor
