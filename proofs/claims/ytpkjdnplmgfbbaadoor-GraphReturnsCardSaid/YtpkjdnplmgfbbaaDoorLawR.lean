/- The law GraphReturns: its walk. -/
import Derived.Test.YtpkjdnplmgfbbaaDoorRtn
import Derived.Test.YtpkjdnplmgfbbaaDoorLawW
import Derived.Test.YtpkjdnplmgfbbaaDoorZv
namespace Go.Proofs.YtpkjdnplmgfbbaaDoor
open Go.RowKit

/-- The rows of a matrix of ints, cell by cell. -/
def ARows (w : World) (A : Option Addr) (n : Nat) (D : Nat → Nat → Int) : Prop := ∀ i, i < n → ∃ b off b2 o2 c2, A = some ⟨b, off, none⟩ ∧ w.cell? ⟨b, off + i, none⟩ = some (.slice (some ⟨b2, o2, none⟩) n c2) ∧ n ≤ c2 ∧ c2 ≤ 9223372036854775807 ∧ ∀ k, k < n → w.cell? ⟨b2, o2 + k, none⟩ = some (.int .i64 (D i k))
theorem ARows.below {w w' : World} {A : Option Addr} {n : Nat} {D : Nat → Nat → Int} (h : ARows w A n D) (hb : Below w.heap.size w w') : ARows w' A n D := fun i hi => by
  obtain ⟨b, off, b2, o2, c2, e, h1, h2, h3, h4⟩ := h i hi
  exact ⟨b, off, b2, o2, c2, e, (hb.cell (cell_some_lt h1)).trans h1, h2, h3, fun k hk => (hb.cell (cell_some_lt (h4 k hk))).trans (h4 k hk)⟩
theorem arows_of {w : World} {D : Nat → Prop} {A : Option Addr} {n c : Nat} {f : Nat → Nat → Int} (h : RowsD IlD w D (.slice A n c) (ml f n)) : ARows w A n f := fun i hi => by
  obtain ⟨b, off, u, e, hu, A2, c2, rfl, hil, _⟩ := h.at (i := i) (ml_get hi)
  have hl : (li (f i) n).length = n := li_length _ _
  rw [hl] at hu hil
  obtain ⟨b2, o2, rfl, hc⟩ := hil.cell (by omega)
  have hr := hil.room
  unfold maxLen at hr
  exact ⟨b, off, b2, o2, c2, e, hu, hr.1, hr.2, fun k hk => hc k _ (li_get hk)⟩
theorem degP_all {E : List (List Nat)} {d : Nat} (h : degP E = (d, 0)) : 0 < E.length ∧ ∀ i, i < E.length → (gr E i).length = d := by
  unfold degP at h
  by_cases h0 : E.length = 0
  · rw [if_pos h0] at h; injection h with _ h2; cases h2
  · rw [if_neg h0] at h
    split at h
    · injection h with _ h2; cases h2
    · rename_i hn
      injection h with h1 _
      refine ⟨by omega, fun i hi => ?_⟩
      have h3 := (List.any_eq_false.1 (Bool.eq_false_iff.2 hn)) (gr E i) (List.mem_of_getElem? (gr_lt hi))
      have h4 : (gr E i).length = (gr E 0).length := by simpa using h3
      omega
theorem simple_of {E : List (List Nat)} (hE : Valid E) (hu : Und E) {d : Nat} (hd : ∀ i, i < E.length → (gr E i).length = d) (hf : ∀ i k, i < E.length → k < E.length → ma E i k ≤ 1) : Simple E d :=
  ⟨hE, hd, fun i k hi hk => by unfold ma; rw [hu i k hi hk], fun i k hi hk => by
    have h1 := hf i k hi hk
    have h2 : 0 ≤ ma E i k := by unfold ma; omega
    omega⟩
theorem LightP.nineR {names : List ByteArray} {E : List (List Int)} (h : LightP names E) (hn : names.length ≤ 2500) : names.length ≤ 9 := by
  rcases h.1 with h1 | h1 <;> omega

set_option maxHeartbeats 4000000 in
set_option maxRecDepth 100000 in
theorem lawR_bad {w : World} {v : Value} {names : List ByteArray} {E : List (List Int)} (h : GrV w v names E) (x : Int) (hc : chk names E ≠ 0) : Calls Tryd.prog 9 #[v, .int .i64 x] w (TrueR w) := by
  have H := Lib.hid (fun w' hb => h.at w' hb)
  have hz : (((chk names E : Nat) : Int) != 0) = true := by simp [hc]
  have HR := Lib.hid (fun w' hb => rCheck_any (h.at w' hb))
  generalize chk names E = q at *
  clear hc
  obtain ⟨A, c, A', c', rfl, hs, hg⟩ := h
  obtain ⟨W, G, hW, hG, hbW, c0, c1, hGl, hwG⟩ := gbox w (.slice A names.length c) (.slice A' E.length c')
  have HW := Lib.hid hW
  have HG := Lib.hid hG
  clear hW hG hs hg
  go_enter Tryd.func9, Tryd.ntmps9
  go_wp2_with fail
  rw [← HW.out, ← HG.out]
  refine (Light_any (H.out _ hbW)).mono ?_
  rintro e w1 ⟨b, rfl, _, hb1⟩
  obtain ⟨d0, d1⟩ := keep2 hb1 c0 c1
  replace hb1 := hbW.trans (hb1.mono hbW.size)
  clear c0 c1
  cases b
  · go_wp2_with fail
    refine awake_any.mono ?_
    rintro e w9 ⟨rfl, hb9⟩
    go_wp2_with fail
    go_ret
    exact ⟨rfl, hb1.trans (hb9.mono hb1.size)⟩
  · go_wp2_with fail
    refine (HR.out _ hb1).mono ?_
    rintro e w2 ⟨rfl, hb2⟩
    replace hb2 := hb1.trans (hb2.mono hb1.size)
    go_wp2_with fail
    refine awake_any.mono ?_
    rintro e w9 ⟨rfl, hb9⟩
    go_wp2_with fail
    go_ret
    exact ⟨rfl, hb2.trans (hb9.mono hb2.size)⟩

set_option maxHeartbeats 4000000 in
set_option maxRecDepth 100000 in
theorem lawR_ok {w : World} {v : Value} {names : List ByteArray} {E : List (List Nat)} (h : GrV w v names (toI E)) (x : Int) (hc : chk names (toI E) = 0) (hk : Ok names E) : Calls Tryd.prog 9 #[v, .int .i64 x] w (TrueR w) := by
  have H := Lib.hid (fun w' hb => h.at w' hb)
  have hsm := hk.small
  have hnl : names.length ≤ 2500 := by have := hk.len; omega
  have HR := Lib.hid (fun w' hb => rCheck_any (h.at w' hb))
  rw [hc] at HR
  have HU := Lib.hid (fun w' hb => rUndirected_ok (h.at w' hb) hk)
  have HDG := Lib.hid (fun w' hb => rDegree_ok (h.at w' hb) hk)
  have HAD := Lib.hid (fun w' hb => rAdjacency_any (h.at w' hb) hk)
  have HSML : Hid (names.length ≤ 9 → sml names (toI E) = 0) := Lib.hid (fun hn => by unfold sml; rw [if_neg (by rw [hc]; simp), if_neg (by omega)])
  have HIR := Lib.hid (fun (hn : names.length ≤ 9) w' (hb : Below w.heap.size w w') d (hd : degP E = (d, 0)) m (hm : m ≤ 20) => Irreducible_ok (h.at w' hb) hc (HSML.out hn) hk hd (n := m) hm)
  have HRT := Lib.hid (fun (hd : ∀ v, (gr E v).length ≤ 4) tg m (l : List Nat) w' (hb : Below w.heap.size w w') A c q (h1 : m ≤ 5) h2 h3 h4 h5 => returns_any hk hd tg m l w' v A c q h1 h2 h3 h4 (h.at w' hb) h5)
  have HK := Lib.hid hk
  obtain ⟨p, hp⟩ : ∃ p, p = (degP E).1 := ⟨_, rfl⟩
  obtain ⟨q, hq⟩ : ∃ q, q = (degP E).2 := ⟨_, rfl⟩
  rw [← hp, ← hq] at HDG
  have HPQ := Lib.hid (show degP E = (p, q) by rw [hp, hq])
  obtain ⟨u, hu⟩ : ∃ u, u = undB E := ⟨_, rfl⟩
  have HUB := Lib.hid hu
  have hu2 : ∀ w e w', UndR w E e w' → e = .returned (.bool u) ∧ Below w.heap.size w w' := fun w e w' h => by rw [hu]; exact h
  have HU2 := Lib.hid hu2
  obtain ⟨wb, hwi⟩ : ∃ wb, decide (0 ≤ x ∧ x ≤ 5) = wb := ⟨_, rfl⟩
  have HWI := Lib.hid hwi
  have hqz : q = 0 ∨ ((q : Int) != 0) = true := by
    by_cases e : q = 0
    · exact .inl e
    · exact .inr (bne_iff_ne.2 (by omega))
  clear hp hq hu hu2 hwi hc hk HSML
  obtain ⟨A, c, A', c', hv, hs, hg⟩ := h
  rw [toI_length] at hv
  subst hv
  obtain ⟨W, G, hW, hG, hbW, c0, c1, hGl, hwG⟩ := gbox w (.slice A names.length c) (.slice A' E.length c')
  have HW := Lib.hid hW
  have HG := Lib.hid hG
  clear hW hG hs hg
  go_enter Tryd.func9, Tryd.ntmps9
  go_wp2_with fail
  rw [← HW.out, ← HG.out]
  refine (Light_any (H.out _ hbW)).mono ?_
  rintro e w1 ⟨b, rfl, hlp, hb1⟩
  obtain ⟨d0, d1⟩ := keep2 hb1 c0 c1
  replace hb1 := hbW.trans (hb1.mono hbW.size)
  clear c0 c1
  cases b
  · clear hlp
    go_wp2_with fail
    refine awake_any.mono ?_
    rintro e w9 ⟨rfl, hb9⟩
    go_wp2_with fail
    go_ret
    exact ⟨rfl, hb1.trans (hb9.mono hb1.size)⟩
  · have hn9 := (hlp rfl).nineR (by omega)
    clear hlp
    go_wp2_with fail
    refine (HR.out _ hb1).mono ?_
    rintro e w2 ⟨rfl, hb2⟩
    obtain ⟨e0, e1⟩ := keep2 hb2 d0 d1
    replace hb2 := hb1.trans (hb2.mono hb1.size)
    clear d0 d1 hb1
    go_wp2_with fail
    refine (HU.out _ hb2).mono ?_
    intro e w3 hur
    obtain ⟨rfl, hb3⟩ := HU2.out _ _ _ hur
    obtain ⟨f0, f1⟩ := keep2 hb3 e0 e1
    replace hb3 := hb2.trans (hb3.mono hb2.size)
    clear e0 e1 hb2 hur
    cases u
    · go_wp2_with fail
      refine awake_any.mono ?_
      rintro e w9 ⟨rfl, hb9⟩
      go_wp2_with fail
      go_ret
      exact ⟨rfl, hb3.trans (hb9.mono hb3.size)⟩
    · cases wb
      · go_wp2_with (go_at_call 21; refine (Within_any HWI.out _).mono ?_; rintro e w' ⟨rfl, rfl⟩)
        refine awake_any.mono ?_
        rintro e w9 ⟨rfl, hb9⟩
        go_wp2_with fail
        go_ret
        exact ⟨rfl, hb3.trans (hb9.mono hb3.size)⟩
      · go_wp2_with (go_at_call 21; refine (Within_any HWI.out _).mono ?_; rintro e w' ⟨rfl, rfl⟩)
        refine (HDG.out _ hb3).mono ?_
        rintro e w4 ⟨rfl, hb4⟩
        obtain ⟨g0, g1⟩ := keep2 hb4 f0 f1
        replace hb4 := hb3.trans (hb4.mono hb3.size)
        clear f0 f1 hb3
        rcases hqz with rfl | hqz
        · by_cases hp4 : p ≤ 4
          · have hp4i : decide ((4 : Int) < (p : Int)) = false := decide_eq_false (by omega)
            go_wp2_with fail
            refine (HAD.out _ hb4).mono ?_
            rintro e w5 ⟨v5, rfl, had, hb5⟩
            obtain ⟨A5, c5, rfl⟩ := had.slice_ (n := E.length) (ml_length _ _)
            have har := arows_of had
            have hr5 := had.room.2
            unfold maxLen at hr5
            obtain ⟨i0, i1⟩ := keep2 hb5 g0 g1
            replace hb5 := hb4.trans (hb5.mono hb4.size)
            have HAR := Lib.hid har
            have hall := degP_all HPQ.out
            have HALL := Lib.hid hall
            have hx05 : 0 ≤ x ∧ x ≤ 5 := of_decide_eq_true HWI.out
            obtain ⟨N, hN⟩ : ∃ N : Nat, x = (N : Int) := ⟨x.toNat, by omega⟩
            have hN5 : N ≤ 5 := by omega
            have hund : Und E := undB_true.1 HUB.out.symm
            have HUND := Lib.hid hund
            subst hN
            have lG5 := cell_some_lt i0
            clear g0 g1 hb4 had har hall hund hx05 hwG hGl
            go_wp2_with fail
            go_loopw [8] (fun iv wr => ∃ (i : Nat), i ≤ E.length ∧ iv = .int .i64 (i : Nat) ∧ Hid (∀ a, a < i → ∀ b, b < E.length → ma E a b ≤ 1) ∧ wr = w5) (fun iv _ => E.length - (intOf iv).toNat)
            case atStart => exact ⟨0, Nat.zero_le _, rfl, Lib.hid (fun a ha => absurd ha (by omega)), rfl⟩
            case round =>
              obtain ⟨i, hil, rfl, hfew, rfl⟩ := hrel
              by_cases hit : i < E.length
              · have hii : (i : Int) < (E.length : Int) := by omega
                have hi0 : (0 : Int) ≤ (i : Int) := by omega
                go_wp2_with fail
                go_loopw [9] (fun iv wq => ∃ (k : Nat), k ≤ E.length ∧ iv = .int .i64 (k : Nat) ∧ Hid (∀ b, b < k → ma E i b ≤ 1) ∧ wq = wr) (fun iv _ => E.length - (intOf iv).toNat)
                case atStart => exact ⟨0, Nat.zero_le _, rfl, Lib.hid (fun a ha => absurd ha (by omega)), rfl⟩
                case round =>
                  obtain ⟨k, hkl, rfl, hfk, rfl⟩ := hrel
                  by_cases hkt : k < E.length
                  · have hki : (k : Int) < (E.length : Int) := by omega
                    have hk0 : (0 : Int) ≤ (k : Int) := by omega
                    obtain ⟨b6, f6, g6, o6, c6, hA6, h61, h62, h63, h64⟩ := HAR.out i hit
                    subst hA6
                    have hy := h64 k hkt
                    obtain ⟨y, hyy⟩ : ∃ y, y = ma E i k := ⟨_, rfl⟩
                    rw [← hyy] at hy
                    have HY := Lib.hid hyy
                    clear hyy h64
                    by_cases hy1 : 1 < y
                    · have hd1 : decide (1 < y) = true := decide_eq_true hy1
                      go_wp2_with fail
                      refine awake_any.mono ?_
                      rintro e w9 ⟨rfl, hb9⟩
                      go_wp2_with fail
                      go_ret
                      exact ⟨rfl, hb5.trans (hb9.mono hb5.size)⟩
                    · have hd1 : decide (1 < y) = false := decide_eq_false hy1
                      have HY1 := Lib.hid hy1
                      clear hy1
                      by_cases hik : i = k
                      · have hik1 : ((i : Int) == (k : Int)) = true := by simp [hik]
                        by_cases hy0 : 0 < y
                        · have hd2 : decide (0 < y) = true := decide_eq_true hy0
                          clear hik
                          go_wp2_with fail
                          refine awake_any.mono ?_
                          rintro e w9 ⟨rfl, hb9⟩
                          go_wp2_with fail
                          go_ret
                          exact ⟨rfl, hb5.trans (hb9.mono hb5.size)⟩
                        · have hd2 : decide (0 < y) = false := decide_eq_false hy0
                          clear hik
                          go_wp2_with fail
                          go_roundw
                          case rel => exact ⟨k + 1, by omega, by go_num, Lib.hid (fun b hb => by
                            rcases Nat.lt_or_ge b k with h1 | h1
                            · exact hfk.out b h1
                            · obtain rfl : b = k := by omega
                              have := HY1.out
                              rw [HY.out] at this
                              omega), (by trivial)⟩
                          case measure => simp [intOf]; omega
                      · have hik1 : ((i : Int) == (k : Int)) = false := beq_eq_false_iff_ne.2 (by omega)
                        clear hik
                        go_wp2_with fail
                        go_roundw
                        case rel => exact ⟨k + 1, by omega, by go_num, Lib.hid (fun b hb => by
                          rcases Nat.lt_or_ge b k with h1 | h1
                          · exact hfk.out b h1
                          · obtain rfl : b = k := by omega
                            have := HY1.out
                            rw [HY.out] at this
                            omega), (by trivial)⟩
                        case measure => simp [intOf]; omega
                  · obtain rfl : k = E.length := by omega
                    go_wp2_with fail
                    go_roundw
                    case rel => exact ⟨i + 1, by omega, by go_num, Lib.hid (fun a ha b hb => by
                      rcases Nat.lt_or_ge a i with h1 | h1
                      · exact hfew.out a h1 b hb
                      · obtain rfl : a = i := by omega
                        exact hfk.out b hb), (by trivial)⟩
                    case measure => simp [intOf]; omega
              · obtain rfl : i = E.length := by omega
                have hsim : Simple E p := simple_of HK.out.valid HUND.out HALL.out.2 (fun a b ha hb => hfew.out a ha b hb)
                have HSIM := Lib.hid hsim
                have hd4 : ∀ v, (gr E v).length ≤ 4 := fun v => by
                  rcases Nat.lt_or_ge v E.length with h1 | h1
                  · rw [HALL.out.2 v h1]; exact hp4
                  · rw [gr_ge h1]; simp
                have HD4 := Lib.hid hd4
                clear hsim hd4
                go_wp2_with fail
                refine (HIR.out hn9 _ hb5 p HPQ.out N (by omega)).mono ?_
                rintro e w6 ⟨A6, c6, rfl, hir, hb6⟩
                have hr6 := hir.room.2
                unfold maxLen at hr6
                obtain ⟨j0, j1⟩ := keep2 hb6 i0 i1
                have hb6w := hb5.trans (hb6.mono hb5.size)
                have HIRR := Lib.hid hir
                have lG6 := cell_some_lt j0
                have hnn : ((E.length : Int) != (E.length : Int)) = false := by simp
                clear i0 i1 hir
                go_wp2_with fail
                go_loopw [12] (fun iv wr => ∃ (i : Nat), i ≤ E.length ∧ iv = .int .i64 (i : Nat) ∧ Below w6.heap.size w6 wr) (fun iv _ => E.length - (intOf iv).toNat)
                case atStart => exact ⟨0, Nat.zero_le _, rfl, Below.refl _ _⟩
                case round =>
                  obtain ⟨i, hil, rfl, hbr⟩ := hrel
                  by_cases hit : i < E.length
                  · have hii : (i : Int) < (E.length : Int) := by omega
                    have hi0 : (0 : Int) ≤ (i : Int) := by omega
                    obtain ⟨b7, o7, u7, rfl, hu7, A7, c7, rfl, hpl⟩ := HIRR.out.at (i := i) (ml_get hit)
                    have hl7 : (li (irr E p N i) E.length).length = E.length := li_length _ _
                    rw [hl7] at hu7 hpl
                    have hp1 := hpl.cap
                    have hp2 := hpl.room
                    unfold maxLen at hp2
                    have HPL := Lib.hid hpl
                    have HU7 := Lib.hid hu7
                    have hu7r := (hbr.cell (cell_some_lt hu7)).trans hu7
                    clear hu7 hpl hl7
                    go_wp2_with fail
                    clear hu7r
                    obtain ⟨wo, rfl⟩ : ∃ wo : World, wo = wr := ⟨_, rfl⟩
                    go_loopw [13] (fun iv wr => ∃ (k : Nat), k ≤ E.length ∧ iv = .int .i64 (k : Nat) ∧ Below w6.heap.size w6 wr) (fun iv _ => E.length - (intOf iv).toNat)
                    case atStart => exact ⟨0, Nat.zero_le _, rfl, hbr⟩
                    case round =>
                      clear hbr
                      obtain ⟨k, hkl, rfl, hbr⟩ := hrel
                      by_cases hkt : k < E.length
                      · have hki : (k : Int) < (E.length : Int) := by omega
                        have hk0 : (0 : Int) ≤ (k : Int) := by omega
                        obtain ⟨b8, o8, rfl, _, hcell⟩ := HPL.out.cells (by omega)
                        obtain ⟨neg, B, m, r, k0, k1, hni⟩ := hcell k hkt
                        rw [li_gz hkt] at hni
                        have hrt := rt_irr HSIM.out k hkt N i hit
                        rw [hrt] at hni
                        have hrb := rt_le HD4.out k N none i
                        have hrb2 : (4 : Int) ^ N ≤ 1024 := by
                          have h2 := Nat.pow_le_pow_right (n := 4) (by omega) hN5
                          have h3 : (4 : Int) ^ N ≤ 4 ^ 5 := by exact_mod_cast h2
                          omega
                        have HRTN := Lib.hid (fun (w' : World) (hb : Below wr.heap.size wr w') (Y : Nat) (hY : Il w' (some ⟨Y, 0, none⟩) 1 1 [(i : Int)]) => HRT.out HD4.out k N [i] w' (hb6w.trans ((hbr.trans (hb.mono hbr.size)).mono hb6w.size)) (some ⟨Y, 0, none⟩) 1 0 hN5 rfl (by omega) (by simp; exact hit) hY)
                        obtain ⟨rv, hrv⟩ : ∃ rv, rv = rt E k N none i := ⟨_, rfl⟩
                        rw [← hrv] at hrb hni
                        have hnr : NIntV wr (fun _ => True) (.agg #[.bool neg, .slice B m r]) rv := (NIntV.below hni hbr).mono fun _ _ _ => trivial
                        have HRV := Lib.hid (show rt E k N (prevO [i]) (lastN [i]) = rv by rw [hrv]; rfl)
                        have x0 := (hbr.cell (cell_some_lt k0)).trans k0
                        have x1 := (hbr.cell (cell_some_lt k1)).trans k1
                        have lx := cell_some_lt x0
                        have hu7r := (hbr.cell (cell_some_lt HU7.out)).trans HU7.out
                        have l7 := cell_some_lt hu7r
                        have q0 := (hbr.cell (p := ⟨G, 0, none⟩) lG6).trans j0
                        have q1 := (hbr.cell (p := ⟨G, 1, none⟩) lG6).trans j1
                        have hGr : G < wr.heap.size := Nat.lt_of_lt_of_le lG6 hbr.size
                        have hs0 := same_drew wr
                        have hdr : Below wr.heap.size wr wr.drew := (Below.refl _ _).drew
                        have HNR := Lib.hid hnr
                        clear hcell k0 k1 hni hrt hrv hnr
                        go_wp2_with fail
                        refine wp_region_jdx [(0, true), (1, true), (2, true), (3, true), (4, true), (5, true), (6, true), (7, true), (8, true), (10, true), (11, true), (9, false), (12, false), (13, false), (14, false), (15, false)] (by kernel_rfl) (by rfl) (by kernel_rfl) (by kernel_rfl) (fun _ _ _ _ _ h => h) (Same wr) ?_
                        change goJ _ _ _ _ _ _ wr.drew
                        iterate 11
                          refine goJ_read hs0 (by rfl) ?_ (by rfl) (fun wz hSw => ?_) ?_
                          rotate_left
                          · (try obtain ⟨hs1, hs2⟩ := hSw)
                            go_simp
                            try with_reducible rfl
                          simp only [Act.put, List.setIfInBounds_toArray]
                        refine goJ_step hs0 (by rfl) ?_
                        go_wp2_with fail
                        obtain ⟨w7, hw7⟩ : ∃ w7, w7 = (wr.alloc (.cells #[.int .i64 (i : Nat)] 3)).drew := ⟨_, rfl⟩
                        rw [← hw7]
                        have hb7 : Below wr.heap.size wr w7 := by rw [hw7]; exact (below_allocR (Below.refl _ _) _).drew
                        have hY7 : w7.cell? ⟨wr.heap.size, 0, none⟩ = some (.int .i64 (i : Nat)) := by rw [hw7]; show (wr.alloc _).cell? _ = _; go_simp
                        have hil7 : Il w7 (some ⟨wr.heap.size, 0, none⟩) 1 1 [(i : Int)] := ⟨⟨rfl, Nat.le_refl _, by unfold maxLen; omega, fun _ => ⟨wr.heap.size, 0, rfl, fun j u hu => by
                          cases j with
                          | zero => injection hu with hu; subst hu; exact hY7
                          | succ j => simp at hu⟩⟩, fun y hy => by simp at hy; omega⟩
                        clear hw7 hY7
                        refine goJ_step (same_below hb7) (by rfl) ?_
                        go_wp2_with (go_at_call 46; refine (HRTN.out w7 hb7 _ hil7).mono ?_; intro e w8 hr8; obtain ⟨rfl, hb8⟩ := rtnR_use HRV.out hr8)
                        have hB8 := hb7.trans (hb8.mono hb7.size)
                        refine goJ_step (same_below hB8) (by rfl) ?_
                        go_wp2_with (go_at_call 45; refine (rOf_any rv _ (by omega) (by omega)).mono ?_; rintro e w10 ⟨v10, rfl, hn10, hb10⟩)
                        have hB10 := hB8.trans (hb10.mono hB8.size)
                        have hsame := same_int (HNR.out.below hB10) hn10
                        have HSAME := Lib.hid hsame
                        clear hsame hn10
                        refine goJ_step (same_below hB10) (by rfl) ?_
                        go_wp2_with (go_at_call 24; refine HSAME.out.mono ?_; rintro e w11 ⟨rfl, hb11⟩)
                        have hB11 := hB10.trans (hb11.mono hB10.size)
                        refine goJ_step (same_below hB11) (by rfl) ?_
                        go_wp2_with fail
                        refine goJ_nil (same_below hB11) ?_
                        go_wp2_with fail
                        go_roundw
                        case rel => exact ⟨k + 1, by omega, by go_num, hbr.trans (hB11.mono hbr.size)⟩
                        case measure => simp [intOf]; omega
                      · obtain rfl : k = E.length := by omega
                        go_wp2_with fail
                        go_roundw
                        case rel => exact ⟨i + 1, by omega, by go_num, hbr⟩
                        case measure => simp [intOf]; omega
                  · obtain rfl : i = E.length := by omega
                    have hbwr := hb6w.trans (hbr.mono hb6w.size)
                    go_wp2_with fail
                    refine awake_any.mono ?_
                    rintro e w9 ⟨rfl, hb9⟩
                    go_wp2_with fail
                    go_ret
                    exact ⟨rfl, hbwr.trans (hb9.mono hbwr.size)⟩
          · have hp4i : decide ((4 : Int) < (p : Int)) = true := decide_eq_true (by omega)
            go_wp2_with fail
            refine awake_any.mono ?_
            rintro e w9 ⟨rfl, hb9⟩
            go_wp2_with fail
            go_ret
            exact ⟨rfl, hb4.trans (hb9.mono hb4.size)⟩
        · go_wp2_with fail
          refine awake_any.mono ?_
          rintro e w9 ⟨rfl, hb9⟩
          go_wp2_with fail
          go_ret
          exact ⟨rfl, hb4.trans (hb9.mono hb4.size)⟩

/-- GraphReturns returns true, whatever the graph and the number. -/
theorem GraphReturns_true {w : World} {v : Value} {names : List ByteArray} {E : List (List Int)} (h : GrV w v names E) (x : Int) : Calls Tryd.prog 9 #[v, .int .i64 x] w (TrueR w) := by
  by_cases hc : chk names E = 0
  · obtain ⟨E', rfl, hk⟩ := ok_of_chk hc
    exact lawR_ok h x hc hk
  · exact lawR_bad h x hc
end Go.Proofs.YtpkjdnplmgfbbaaDoor
