/- The law GraphPaths: its walk. -/
import Derived.Test.YtpkjdnplmgfbbaaDoorRpt
namespace Go.Proofs.YtpkjdnplmgfbbaaDoor
open Go.RowKit

/-- A shortest walk is a walk. -/
theorem pth_ptC {E : List (List Nat)} (hE : Valid E) {t : Nat} {D : Nat → Int} (h : To E t D) {a : Nat} (ha : a < E.length) {d : Nat} (hd : D a = d) : ptC E ((pth E D a d).map fun x : Nat => (x : Int)) = 0 := by
  have hlen : ((pth E D a d).map fun x : Nat => (x : Int)).length = d + 1 := by rw [List.length_map, pth_length]
  have hget : ∀ k, k ≤ d → ((pth E D a d).map fun x : Nat => (x : Int))[k]? = some (it E D a k : Int) := by
    intro k hk
    rw [List.getElem?_map]
    unfold pth
    rw [List.getElem?_map, List.getElem?_range (by omega)]
    rfl
  refine ptC_ok (lstC_ok (by omega) fun j x hj hx => ?_) fun i hi => ?_
  · rw [hget j (by omega)] at hx
    injection hx with hx
    have := (h.it hE ha hd j (by omega)).1
    unfold hasB
    simp only [decide_eq_true_eq]
    omega
  · unfold edgeB
    rw [getD_some (hget i (by omega)), getD_some (hget (i + 1) (by omega)), Int.toNat_natCast]
    have h1 := h.it hE ha hd i (by omega)
    have h2 := (h.nx hE h1.1 (by rw [h1.2]; omega)).2.1
    exact List.contains_iff_mem.2 (gi_mem.2 h2)

theorem Il.nil (w : World) (A : Option Addr) (c : Nat) (hc : c ≤ maxLen) : Il w A 0 c [] := ⟨⟨rfl, Nat.zero_le _, hc, fun hn => by omega⟩, fun x hx => by cases hx⟩

/-- The boxes of a graph and of two numbers. -/
theorem gbox2 (w : World) (s t x y : Value) : ∃ W G B, W = (w.alloc (.cells #[s, t] 25)).alloc (.cells #[x, y] 55) ∧ G = w.heap.size ∧ B = w.heap.size + 1 ∧ Below w.heap.size w W ∧ W.cell? ⟨G, 0, none⟩ = some s ∧ W.cell? ⟨G, 1, none⟩ = some t ∧ W.cell? ⟨B, 0, none⟩ = some x ∧ W.cell? ⟨B, 1, none⟩ = some y :=
  ⟨_, _, _, rfl, rfl, rfl, ((Below.refl _ _).alloc (Nat.le_refl _) _).alloc (by simp) _, by go_simp, by go_simp, by go_simp, by go_simp⟩

set_option maxHeartbeats 4000000 in
set_option maxRecDepth 100000 in
theorem lawP_bad {w : World} {v : Value} {names : List ByteArray} {E : List (List Int)} (h : GrV w v names E) (x y : Int) {A3 : Option Addr} {n3 c3 : Nat} {l : List Int} (hl : Il w A3 n3 c3 l) (hc : chk names E ≠ 0) : Calls Tryd.prog 5 #[v, .agg #[.int .i64 x, .int .i64 y], .slice A3 n3 c3] w (TrueR w) := by
  have H := Lib.hid (fun w' hb => h.at w' hb)
  have hz : (((chk names E : Nat) : Int) != 0) = true := by simp [hc]
  have hz2 : (((chk names E : Nat) : Int) == ((chk names E : Nat) : Int)) = true := by simp
  have HD := Lib.hid (fun w' hb => Path_bad (h.at w' hb) x y hc)
  have HM := Lib.hid (fun w' hb => CheckPath_bad (h.at w' hb) (A := A3) (n := n3) (c := c3) hc)
  have HR := Lib.hid (fun w' hb => rCheck_any (h.at w' hb))
  have hr3 := hl.room
  unfold maxLen at hr3
  generalize chk names E = q at *
  clear hc hl
  obtain ⟨A, c, A', c', rfl, hs, hg⟩ := h
  obtain ⟨W, G, B, hW, hG, hB, hbW, g0, g1, b0, b1⟩ := gbox2 w (.slice A names.length c) (.slice A' E.length c') (.int .i64 x) (.int .i64 y)
  have HW := Lib.hid hW
  have HG := Lib.hid hG
  have HB := Lib.hid hB
  clear hW hG hB hs hg
  by_cases h30 : 30 < n3
  · have hd30 : decide ((30 : Int) < (n3 : Int)) = true := by simp; omega
    go_enter Tryd.func5, Tryd.ntmps5
    go_wp2_with fail
    rw [← HW.out, ← HB.out, ← HG.out]
    refine (Light_any (H.out _ hbW)).mono ?_
    rintro e w1 ⟨b, rfl, _, hb1⟩
    replace hb1 := hbW.trans (hb1.mono hbW.size)
    cases b
    all_goals
      go_wp2_with fail
      refine awake_any.mono ?_
      rintro e w2 ⟨rfl, hb2⟩
      go_wp2_with fail
      go_ret
      exact ⟨rfl, hb1.trans (hb2.mono hb1.size)⟩
  · have hd30 : decide ((30 : Int) < (n3 : Int)) = false := by simp; omega
    go_enter Tryd.func5, Tryd.ntmps5
    go_wp2_with fail
    rw [← HW.out, ← HB.out, ← HG.out]
    refine (Light_any (H.out _ hbW)).mono ?_
    rintro e w1 ⟨b, rfl, _, hb1⟩
    obtain ⟨d0, d1⟩ := keep2 hb1 g0 g1
    obtain ⟨x0, x1⟩ := keep2 hb1 b0 b1
    replace hb1 := hbW.trans (hb1.mono hbW.size)
    clear g0 g1 b0 b1
    cases b
    · go_wp2_with fail
      refine awake_any.mono ?_
      rintro e w2 ⟨rfl, hb2⟩
      go_wp2_with fail
      go_ret
      exact ⟨rfl, hb1.trans (hb2.mono hb1.size)⟩
    · go_wp2_with fail
      refine (HD.out _ hb1).mono ?_
      rintro e w2 ⟨rfl, hb2⟩
      obtain ⟨e0, e1⟩ := keep2 hb2 d0 d1
      replace hb2 := hb1.trans (hb2.mono hb1.size)
      clear d0 d1 hb1 x0 x1
      go_wp2_with fail
      refine (HM.out _ hb2).mono ?_
      rintro e w3 ⟨rfl, hb3⟩
      obtain ⟨f0, f1⟩ := keep2 hb3 e0 e1
      replace hb3 := hb2.trans (hb3.mono hb2.size)
      clear e0 e1 hb2
      go_wp2_with fail
      refine (HR.out _ hb3).mono ?_
      rintro e w4 ⟨rfl, hb4⟩
      replace hb4 := hb3.trans (hb4.mono hb3.size)
      clear f0 f1 hb3
      go_wp2_with fail
      refine awake_any.mono ?_
      rintro e w5 ⟨rfl, hb5⟩
      go_wp2_with fail
      go_ret
      exact ⟨rfl, hb4.trans (hb5.mono hb4.size)⟩

/-- Two paths that Path and the reference give are equal. -/
def BothR (w : World) (E : List (List Nat)) (a t : Nat) (A : Option Addr) (n c : Nat) (q : Int) (w' : World) : Prop :=
  (far E t a < 0 ∧ A = none ∧ n = 0 ∧ c = 0 ∧ q = 12 ∧ Below w.heap.size w w') ∨ (0 ≤ far E t a ∧ n = (far E t a).toNat + 1 ∧ q = 0 ∧ Il w' A n c ((pth E (far E t) a (far E t a).toNat).map fun x : Nat => (x : Int)) ∧ Below w.heap.size w w')
theorem PathR.open_ {w w' : World} {E : List (List Nat)} {a t : Nat} {e : Ending} (h : PathR w E a t e w') : ∃ A n c q, e = .returned (.tuple #[.slice A n c, .int .i64 q]) ∧ BothR w E a t A n c q w' := by
  obtain ⟨⟨h1, rfl⟩ | ⟨h1, A, c, rfl, h2⟩, hb⟩ := h
  · exact ⟨none, 0, 0, 12, rfl, .inl ⟨h1, rfl, rfl, rfl, rfl, hb⟩⟩
  · exact ⟨A, _, c, 0, rfl, .inr ⟨h1, rfl, rfl, h2, hb⟩⟩
theorem BothR.il {w w' : World} {E : List (List Nat)} {a t : Nat} {A : Option Addr} {n c : Nat} {q : Int} (h : BothR w E a t A n c q w') : Il w' A n c (if far E t a < 0 then [] else (pth E (far E t) a (far E t a).toNat).map fun x : Nat => (x : Int)) := by
  rcases h with ⟨h1, rfl, rfl, rfl, _, _⟩ | ⟨h1, _, _, h2, _⟩
  · rw [if_pos h1]; exact Il.nil _ _ _ (Nat.zero_le _)
  · rw [if_neg (by omega)]; exact h2
theorem BothR.below {w w' : World} {E : List (List Nat)} {a t : Nat} {A : Option Addr} {n c : Nat} {q : Int} (h : BothR w E a t A n c q w') : Below w.heap.size w w' := by
  rcases h with ⟨_, _, _, _, _, h⟩ | ⟨_, _, _, _, h⟩ <;> exact h
theorem BothR.q_eq {w w' w2 w3 : World} {E : List (List Nat)} {a t : Nat} {A B : Option Addr} {n c n' c' : Nat} {q q' : Int} (h : BothR w E a t A n c q w') (k : BothR w2 E a t B n' c' q' w3) : q = q' := by
  rcases h with ⟨h1, _, _, _, h2, _⟩ | ⟨h1, _, h2, _, _⟩ <;> rcases k with ⟨k1, _, _, _, k2, _⟩ | ⟨k1, _, k2, _, _⟩ <;> omega

set_option maxHeartbeats 4000000 in
set_option maxRecDepth 100000 in
theorem lawP_ok {w : World} {v : Value} {names : List ByteArray} {E : List (List Nat)} (h : GrV w v names (toI E)) (x y : Int) {A3 : Option Addr} {n3 c3 : Nat} {l : List Int} (hl : Il w A3 n3 c3 l) (hc : chk names (toI E) = 0) (hk : Ok names E) : Calls Tryd.prog 5 #[v, .agg #[.int .i64 x, .int .i64 y], .slice A3 n3 c3] w (TrueR w) := by
  have H := Lib.hid (fun w' hb => h.at w' hb)
  have HM := Lib.hid (fun w' (hb : Below w.heap.size w w') => CheckPath_ok (h.at w' hb) hc hk (hl.below hb))
  have HRM := Lib.hid (fun w' (hb : Below w.heap.size w w') => rCheckPath_ok (h.at w' hb) hk (hl.below hb))
  have HR := Lib.hid (fun w' hb => rCheck_any (h.at w' hb))
  rw [hc] at HR
  have HC := Lib.hid hc
  have HK := Lib.hid hk
  have hr3 := hl.room
  unfold maxLen at hr3
  obtain ⟨p, hp⟩ : ∃ p, p = ptC E l := ⟨_, rfl⟩
  rw [← hp] at HM HRM
  have hq1 : ((p : Int) != (p : Int)) = false := by simp
  clear hp hc hk hl
  obtain ⟨A, c, A', c', hv, hs, hg⟩ := h
  rw [toI_length] at hv
  subst hv
  obtain ⟨W, G, B, hW, hG, hB, hbW, g0, g1, b0, b1⟩ := gbox2 w (.slice A names.length c) (.slice A' E.length c') (.int .i64 x) (.int .i64 y)
  have HW := Lib.hid hW
  have HG := Lib.hid hG
  have HB := Lib.hid hB
  clear hW hG hB hs hg
  by_cases h30 : 30 < n3
  · have hd30 : decide ((30 : Int) < (n3 : Int)) = true := by simp; omega
    go_enter Tryd.func5, Tryd.ntmps5
    go_wp2_with fail
    rw [← HW.out, ← HB.out, ← HG.out]
    refine (Light_any (H.out _ hbW)).mono ?_
    rintro e w1 ⟨b, rfl, _, hb1⟩
    replace hb1 := hbW.trans (hb1.mono hbW.size)
    cases b
    all_goals
      go_wp2_with fail
      refine awake_any.mono ?_
      rintro e w2 ⟨rfl, hb2⟩
      go_wp2_with fail
      go_ret
      exact ⟨rfl, hb1.trans (hb2.mono hb1.size)⟩
  · have hd30 : decide ((30 : Int) < (n3 : Int)) = false := by simp; omega
    go_enter Tryd.func5, Tryd.ntmps5
    go_wp2_with fail
    rw [← HW.out, ← HB.out, ← HG.out]
    refine (Light_any (H.out _ hbW)).mono ?_
    rintro e w1 ⟨b, rfl, _, hb1⟩
    obtain ⟨d0, d1⟩ := keep2 hb1 g0 g1
    obtain ⟨x0, x1⟩ := keep2 hb1 b0 b1
    replace hb1 := hbW.trans (hb1.mono hbW.size)
    clear g0 g1 b0 b1
    cases b
    · go_wp2_with fail
      refine awake_any.mono ?_
      rintro e w2 ⟨rfl, hb2⟩
      go_wp2_with fail
      go_ret
      exact ⟨rfl, hb1.trans (hb2.mono hb1.size)⟩
    · by_cases hmiss : hasB names.length x = false ∨ hasB names.length y = false
      · have HMISS := Lib.hid hmiss
        clear hmiss
        go_wp2_with fail
        refine (Path_missing (H.out _ hb1) x y HC.out HMISS.out).mono ?_
        rintro e w2 ⟨rfl, hb2⟩
        obtain ⟨e0, e1⟩ := keep2 hb2 d0 d1
        obtain ⟨y0, y1⟩ := keep2 hb2 x0 x1
        replace hb2 := hb1.trans (hb2.mono hb1.size)
        clear d0 d1 hb1 x0 x1
        go_wp2_with fail
        refine (HM.out _ hb2).mono ?_
        rintro e w3 ⟨rfl, hb3⟩
        obtain ⟨f0, f1⟩ := keep2 hb3 e0 e1
        obtain ⟨z0, z1⟩ := keep2 hb3 y0 y1
        replace hb3 := hb2.trans (hb3.mono hb2.size)
        clear e0 e1 hb2 y0 y1
        go_wp2_with fail
        refine (HR.out _ hb3).mono ?_
        rintro e w4 ⟨rfl, hb4⟩
        obtain ⟨h0, h1⟩ := keep2 hb4 f0 f1
        obtain ⟨t0, t1⟩ := keep2 hb4 z0 z1
        replace hb4 := hb3.trans (hb4.mono hb3.size)
        clear f0 f1 hb3 z0 z1
        go_wp2_with fail
        refine (HRM.out _ hb4).mono ?_
        rintro e w5 ⟨rfl, hb5⟩
        obtain ⟨i0, i1⟩ := keep2 hb5 h0 h1
        obtain ⟨u0, u1⟩ := keep2 hb5 t0 t1
        replace hb5 := hb4.trans (hb5.mono hb4.size)
        clear h0 h1 hb4 t0 t1
        cases hxb : hasB names.length x
        · have HXB := Lib.hid hxb
          clear hxb
          go_wp2_with fail
          refine (rHas_is (H.out _ hb5) x HXB.out).mono ?_
          rintro e w6 ⟨rfl, hb6⟩
          replace hb6 := hb5.trans (hb6.mono hb5.size)
          go_wp2_with fail
          refine awake_any.mono ?_
          rintro e w7 ⟨rfl, hb7⟩
          go_wp2_with fail
          go_ret
          exact ⟨rfl, hb6.trans (hb7.mono hb6.size)⟩
        · have HXB := Lib.hid hxb
          have hyb : hasB names.length y = false := by
            rcases HMISS.out with h1 | h1
            · rw [hxb] at h1; cases h1
            · exact h1
          have HYB := Lib.hid hyb
          clear hxb hyb
          go_wp2_with fail
          refine (rHas_is (H.out _ hb5) x HXB.out).mono ?_
          rintro e w6 ⟨rfl, hb6⟩
          obtain ⟨j0, j1⟩ := keep2 hb6 i0 i1
          obtain ⟨s0, s1⟩ := keep2 hb6 u0 u1
          replace hb6 := hb5.trans (hb6.mono hb5.size)
          clear i0 i1 u0 u1
          go_wp2_with fail
          refine (rHas_is (H.out _ hb6) y HYB.out).mono ?_
          rintro e w8 ⟨rfl, hb8⟩
          replace hb8 := hb6.trans (hb8.mono hb6.size)
          go_wp2_with fail
          refine awake_any.mono ?_
          rintro e w7 ⟨rfl, hb7⟩
          go_wp2_with fail
          go_ret
          exact ⟨rfl, hb8.trans (hb7.mono hb8.size)⟩
      · have hxb : hasB names.length x = true := by cases hq : hasB names.length x with
          | true => rfl
          | false => exact absurd (.inl hq) hmiss
        have hyb : hasB names.length y = true := by cases hq : hasB names.length y with
          | true => rfl
          | false => exact absurd (.inr hq) hmiss
        clear hmiss
        obtain ⟨hx0, hx1⟩ := hasB_true hxb
        obtain ⟨hy0, hy1⟩ := hasB_true hyb
        obtain ⟨a, rfl⟩ := Int.eq_ofNat_of_zero_le hx0
        obtain ⟨t, rfl⟩ := Int.eq_ofNat_of_zero_le hy0
        have hal : a < E.length := by have := HK.out.len; omega
        have htl : t < E.length := by have := HK.out.len; omega
        have HXB := Lib.hid hxb
        have HYB := Lib.hid hyb
        clear hxb hyb hx0 hx1 hy0 hy1
        go_wp2_with fail
        refine (Path_ok (H.out _ hb1) HC.out HK.out hal htl).mono ?_
        intro e w2 hpr
        obtain ⟨P2, n2, c2, q2, rfl, hbo⟩ := hpr.open_
        have hb2 := hbo.below
        have hil2 := hbo.il
        obtain ⟨e0, e1⟩ := keep2 hb2 d0 d1
        obtain ⟨y0, y1⟩ := keep2 hb2 x0 x1
        replace hb2 := hb1.trans (hb2.mono hb1.size)
        clear d0 d1 hb1 x0 x1 hpr
        go_wp2_with fail
        refine (HM.out _ hb2).mono ?_
        rintro e w3 ⟨rfl, hb3⟩
        obtain ⟨f0, f1⟩ := keep2 hb3 e0 e1
        obtain ⟨z0, z1⟩ := keep2 hb3 y0 y1
        replace hil2 := hil2.below hb3
        replace hb3 := hb2.trans (hb3.mono hb2.size)
        clear e0 e1 hb2 y0 y1
        go_wp2_with fail
        refine (HR.out _ hb3).mono ?_
        rintro e w4 ⟨rfl, hb4⟩
        obtain ⟨h0, h1⟩ := keep2 hb4 f0 f1
        obtain ⟨t0, t1⟩ := keep2 hb4 z0 z1
        replace hil2 := hil2.below hb4
        replace hb4 := hb3.trans (hb4.mono hb3.size)
        clear f0 f1 hb3 z0 z1
        go_wp2_with fail
        refine (HRM.out _ hb4).mono ?_
        rintro e w5 ⟨rfl, hb5⟩
        obtain ⟨i0, i1⟩ := keep2 hb5 h0 h1
        obtain ⟨u0, u1⟩ := keep2 hb5 t0 t1
        replace hil2 := hil2.below hb5
        replace hb5 := hb4.trans (hb5.mono hb4.size)
        clear h0 h1 hb4 t0 t1
        go_wp2_with fail
        refine (rHas_is (H.out _ hb5) _ HXB.out).mono ?_
        rintro e w6 ⟨rfl, hb6⟩
        obtain ⟨j0, j1⟩ := keep2 hb6 i0 i1
        obtain ⟨s0, s1⟩ := keep2 hb6 u0 u1
        replace hil2 := hil2.below hb6
        replace hb6 := hb5.trans (hb6.mono hb5.size)
        clear i0 i1 u0 u1 hb5
        go_wp2_with fail
        refine (rHas_is (H.out _ hb6) _ HYB.out).mono ?_
        rintro e w8 ⟨rfl, hb8⟩
        obtain ⟨l0, l1⟩ := keep2 hb8 j0 j1
        obtain ⟨r0, r1⟩ := keep2 hb8 s0 s1
        replace hil2 := hil2.below hb8
        replace hb8 := hb6.trans (hb8.mono hb6.size)
        clear j0 j1 s0 s1 hb6
        go_wp2_with fail
        refine (rPath_ok (H.out _ hb8) HK.out hal htl).mono ?_
        intro e w9 hpr
        obtain ⟨P9, n9, c9, q9, rfl, hbo9⟩ := hpr.open_
        have hb9 := hbo9.below
        have hil9 := hbo9.il
        have hqq := hbo.q_eq hbo9
        subst hqq
        obtain ⟨m0, m1⟩ := keep2 hb9 l0 l1
        replace hil2 := hil2.below hb9
        replace hb9 := hb8.trans (hb9.mono hb8.size)
        clear l0 l1 r0 r1 hb8 hpr
        rcases hbo with ⟨k1, rfl, rfl, rfl, rfl, hbx⟩ | ⟨k1, hne, rfl, hix, hbx⟩
        · clear hbo9 hbx
          go_wp2_with fail
          refine (Ints_same hil2 hil9).mono ?_
          rintro e w10 ⟨rfl, hb10⟩
          replace hb10 := hb9.trans (hb10.mono hb9.size)
          go_wp2_with fail
          refine awake_any.mono ?_
          rintro e w7 ⟨rfl, hb7⟩
          go_wp2_with fail
          go_ret
          exact ⟨rfl, hb10.trans (hb7.mono hb10.size)⟩
        · clear hbo9 hne hix hbx
          have hpc : ptC E (if far E t a < 0 then [] else (pth E (far E t) a (far E t a).toNat).map fun x : Nat => (x : Int)) = 0 := by
            rw [if_neg (by omega)]
            exact pth_ptC HK.out.valid (far_to HK.out.valid htl) hal (by omega)
          have HPC := Lib.hid hpc
          clear hpc
          go_wp2_with fail
          refine (Ints_same hil2 hil9).mono ?_
          rintro e w10 ⟨rfl, hb10⟩
          obtain ⟨v0, v1⟩ := keep2 hb10 m0 m1
          replace hil2 := hil2.below hb10
          replace hb10 := hb9.trans (hb10.mono hb9.size)
          clear m0 m1
          go_wp2_with fail
          refine (CheckPath_ok (H.out _ hb10) HC.out HK.out hil2).mono ?_
          rintro e w11 ⟨rfl, hb11⟩
          rw [HPC.out]
          replace hb11 := hb10.trans (hb11.mono hb10.size)
          go_wp2_with fail
          refine awake_any.mono ?_
          rintro e w7 ⟨rfl, hb7⟩
          go_wp2_with fail
          go_ret
          exact ⟨rfl, hb11.trans (hb7.mono hb11.size)⟩

/-- GraphPaths returns true, whatever the graph, the ends and the list. -/
theorem GraphPaths_true {w : World} {v : Value} {names : List ByteArray} {E : List (List Int)} (h : GrV w v names E) (x y : Int) {A3 : Option Addr} {n3 c3 : Nat} {l : List Int} (hl : Il w A3 n3 c3 l) : Calls Tryd.prog 5 #[v, .agg #[.int .i64 x, .int .i64 y], .slice A3 n3 c3] w (TrueR w) := by
  by_cases hc : chk names E = 0
  · obtain ⟨E', rfl, hk⟩ := ok_of_chk hc
    exact lawP_ok h x y hl hc hk
  · exact lawP_bad h x y hl hc
end Go.Proofs.YtpkjdnplmgfbbaaDoor
