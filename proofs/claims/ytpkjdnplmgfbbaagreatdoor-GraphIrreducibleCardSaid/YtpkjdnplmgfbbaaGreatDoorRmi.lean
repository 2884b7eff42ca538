/- The reference's Minus and Irreducible. -/
import Derived.Test.YtpkjdnplmgfbbaaGreatDoorIrr
import Derived.Test.YtpkjdnplmgfbbaaGreatDoorZv
namespace Go.Proofs.YtpkjdnplmgfbbaaGreatDoor
open Go.RowKit

theorem below_alloc2 {w X : World} (h : Below w.heap.size w X) (o : Obj) : Below w.heap.size w (X.alloc o) := h.alloc h.size o

set_option maxHeartbeats 4000000 in
set_option maxRecDepth 100000 in
theorem rMinus_any {w : World} {D D' : Nat → Prop} {A B : Option Addr} {n c c' : Nat} {f g : Nat → Nat → Int} {M : Nat} (h : RowsD PvD w D (.slice A n c) (ml f n)) (h' : RowsD PvD w D' (.slice B n c') (ml g n)) (hn : n ≤ 4096)
    (hf : ∀ i k, i < n → k < n → (f i k).natAbs ≤ 2 ^ M) (hg : ∀ i k, i < n → k < n → (g i k).natAbs ≤ 2 ^ M) (hM : M ≤ 1000000) (y : Int) (hy : y.natAbs ≤ 1024) :
    Calls Tryz.prog 37 #[.slice A n c, .slice B n c', .int .i64 y] w (Gives w fun w' v' => RowsD PvD w' (w.heap.size ≤ ·) v' (ml (fun i k => f i k - g i k * y) n)) := by
  obtain ⟨hr1, hr2⟩ := h.room.2
  obtain ⟨hr3, hr4⟩ := h'.room.2
  unfold maxLen at hr2 hr4
  have HF := Lib.hid hf
  have HG := Lib.hid hg
  have H := Lib.hid h
  have H' := Lib.hid h'
  clear hf hg h h'
  go_enter Tryz.func37, Tryz.ntmps37
  go_wp2_with fail
  go_loopw [7, 8] (fun m i wr => ∃ k : Nat, k ≤ n ∧ i = .int .i64 (k : Nat) ∧ OwnL PvD 42 wr w.heap.size m ((List.range k).map fun i => li (fun k => f i k - g i k * y) n) ∧ Below w.heap.size w wr) (fun _ i _ => n - (intOf i).toNat)
  case atStart => exact ⟨0, Nat.zero_le _, rfl, OwnL.nil _ _, Below.refl _ _⟩
  case round =>
    obtain ⟨k, hkl, rfl, hown, hbr⟩ := hrel
    obtain ⟨A0, c0, rfl, hc0, hc1⟩ := hown.slice_ (n := k) (by simp)
    by_cases hlt : k < n
    · have hki : (k : Int) < (n : Int) := by omega
      have hk0 : (0 : Int) ≤ (k : Int) := by omega
      obtain ⟨wr0, hwr0⟩ : ∃ wr0 : World, wr0 = wr := ⟨_, rfl⟩
      subst hwr0
      obtain ⟨ba, oa, ua, hA, hcu, A2, c2, rfl, hpa⟩ := H.out.at (ml_get hlt)
      obtain ⟨bb, ob, ub, hB, hcv, B2, d2, rfl, hpb⟩ := H'.out.at (ml_get hlt)
      subst hA hB
      rw [li_length] at hcu hpa hcv hpb
      have hr5 := hpa.room
      have hr5' := hpa.cap
      have hr6 := hpb.room
      have hr6' := hpb.cap
      unfold maxLen at hr5 hr6
      have HPA := Lib.hid hpa
      have HPB := Lib.hid hpb
      clear hpa hpb
      go_wp2_with fail
      go_loopw [9, 10] (fun rv i wr => ∃ t : Nat, t ≤ n ∧ i = .int .i64 (t : Nat) ∧ OwnJ wr wr0.heap.size rv (li (fun j => f k j - g k j * y) t) ∧ Below wr0.heap.size wr0 wr) (fun _ i _ => n - (intOf i).toNat)
      case atStart => exact ⟨0, Nat.zero_le _, rfl, OwnJ.nil _ _, Below.refl _ _⟩
      case round =>
        obtain ⟨t, htl, rfl, hoj, hbt⟩ := hrel
        obtain ⟨A3, c3, rfl, hc3, hc4⟩ := hoj.slice_ (n := t) (li_length _ _)
        have hbw : Below w.heap.size w wr := hbr.trans (hbt.mono hbr.size)
        by_cases htt : t < n
        · have hti : (t : Int) < (n : Int) := by omega
          have ht0 : (0 : Int) ≤ (t : Int) := by omega
          obtain ⟨b7, o7, rfl, _, hcell7⟩ := HPA.out.cells (by omega)
          obtain ⟨neg7, B7, m7, q7, a0, a1, a2⟩ := hcell7 t htt
          obtain ⟨b8, o8, rfl, _, hcell8⟩ := HPB.out.cells (by omega)
          obtain ⟨neg8, B8, m8, q8, b0, b1, b2⟩ := hcell8 t htt
          rw [li_gz htt] at a2 b2
          have g0 := (hbr.cell (p := ⟨ba, oa + k, none⟩) (cell_some_lt hcu)).trans hcu
          have g1 := (hbr.cell (p := ⟨bb, ob + k, none⟩) (cell_some_lt hcv)).trans hcv
          have g2 := (hbr.cell (p := ⟨b7, o7 + t * 2, none⟩) (cell_some_lt a0)).trans a0
          have g3 := (hbr.cell (p := ⟨b7, o7 + t * 2 + 1, none⟩) (cell_some_lt a1)).trans a1
          have g4 := (hbr.cell (p := ⟨b8, o8 + t * 2, none⟩) (cell_some_lt b0)).trans b0
          have g5 := (hbr.cell (p := ⟨b8, o8 + t * 2 + 1, none⟩) (cell_some_lt b1)).trans b1
          have hwf : wl (f k t).natAbs ≤ 1000000000000 := by have := wl_pow (HF.out k t hlt htt); omega
          have hwg : wl (g k t).natAbs ≤ 1000000000000 := by have := wl_pow (HG.out k t hlt htt); omega
          have hwy : wl y.natAbs ≤ 1000000000000 := by have := wl_pow (x := y.natAbs) (M := 10) hy; omega
          have hwp : wl (g k t * y).natAbs ≤ 1000000000000 := by
            have h1 : (g k t * y).natAbs ≤ 2 ^ (M + 10) := by rw [Int.natAbs_mul, Nat.pow_add]; exact Nat.mul_le_mul (HG.out k t hlt htt) hy
            have := wl_pow h1; omega
          have HMU := Lib.hid (fun w' v' D (hb : Below wr.heap.size wr w') (hv : NIntV w' D v' y) => rMul_any ((NIntV.below b2 (hbw.trans (hb.mono hbw.size))).b hwg) (hv.b hwy))
          have HSU := Lib.hid (fun w' v' D (hb : Below wr.heap.size wr w') (hv : NIntV w' D v' (g k t * y)) => rSub_any ((NIntV.below a2 (hbw.trans (hb.mono hbw.size))).b hwf) (hv.b hwp))
          have l0 : ba < wr0.heap.size := cell_some_lt g0
          have l1 : bb < wr0.heap.size := cell_some_lt g1
          have l2 : b7 < wr0.heap.size := cell_some_lt g2
          have l3 : b8 < wr0.heap.size := cell_some_lt g4
          have hdr : Below wr.heap.size wr wr.drew := (Below.refl _ _).drew
          have hs0 : Same wr0 wr.drew := same_below hbt.drew
          have HOJ := Lib.hid hoj
          clear hcell7 hcell8 a0 a1 a2 b0 b1 b2 hwf hwg hwy hwp hoj
          go_wp2_with fail
          refine wp_region_mix [(16, true), (1, false), (1, false), (1, false), (1, false), (1, false), (1, false)] (by kernel_rfl) (by decide) (by kernel_rfl) (by kernel_rfl) (fun _ _ _ _ _ h => h) (Same wr0) ?_
          simp only [segs, List.take_succ_cons, List.take_zero, List.drop_succ_cons, List.drop_zero, List.take_nil]
          change goM _ _ _ _ _ _ wr.drew
          refine goM_reads hs0 ?_
          iterate 16
            refine loadsZ_cons ?_ (by rfl) (fun wz hSw => ?_) ?_
            rotate_left
            · (try obtain ⟨hs1, hs2⟩ := hSw)
              go_simp
              try with_reducible rfl
            simp only [Act.put, List.setIfInBounds_toArray]
          refine loadsZ_nil (goM_step hs0 ?_)
          go_wp2_with (go_at_call 12; refine (rOf_any y _ (by omega) (by omega)).mono ?_; rintro e w5 ⟨v5, rfl, hn5, hb5⟩)
          have hB5 := hdr.trans (hb5.mono hdr.size)
          refine goM_step (same_below (hbt.trans (hB5.mono hbt.size))) ?_
          go_wp2_with (go_at_call 13; refine (HMU.out w5 _ _ hB5 hn5).mono ?_; rintro e w6 ⟨v6, rfl, hn6, hb6⟩)
          have hB6 := hB5.trans (hb6.mono hB5.size)
          refine goM_step (same_below (hbt.trans (hB6.mono hbt.size))) ?_
          go_wp2_with (go_at_call 71; refine (HSU.out w6 _ _ hB6 hn6).mono ?_; rintro e w7 ⟨v7, rfl, ⟨A9, c9, rfl, hv7⟩, hb7⟩)
          have hB7 := hB6.trans (hb7.mono hB6.size)
          have hoj2 := HOJ.out.below hB7
          have hyy : NIntV w7 (fun b => wr0.heap.size ≤ b ∧ some b ≠ Value.ownBlock (.slice A3 t c3)) (.agg #[.bool _, .slice A9 _ c9]) (f k t - g k t * y) := ⟨A9, c9, rfl, hv7.mono fun b hb _ => by
            have h1 : w6.heap.size ≤ b := hb
            have h2 := hB6.size
            have h3 := hbt.size
            exact ⟨by omega, HOJ.out.fresh (by omega)⟩⟩
          refine goM_step (same_below (hbt.trans (hB7.mono hbt.size))) ?_
          go_wp2_with fail
          refine goM_step (same_below (below_alloc2 (hbt.trans (hB7.mono hbt.size)) _)) ?_
          go_wp2_with (at_builtin; (refine wpList_pushJ w7 (by rfl) _ _ _ _ (by rfl) wr0.heap.size Tryz.underlying42 Tryz.underlying42 _ (li (fun j => f k j - g k j * y) t) t (li_length _ _) (by rfl) hoj2 _ A9 _ c9 (f k t - g k t * y) (by rfl) hyy (by omega) (Nat.le_trans hbt.size hB7.size) ?_); intro A10 c10 w10 hoj10 hg10 hb10)
          have hB10 := (hbt.trans (hB7.mono hbt.size)).trans hb10
          refine goM_step (same_below hB10) ?_
          go_wp2_with fail
          refine goM_nil (same_below hB10) ?_
          go_wp2_with fail
          go_roundw
          case rel => exact ⟨t + 1, by omega, by go_num, by rw [li_succ]; exact hoj10, hB10⟩
          case measure => simp [intOf]; omega
        · obtain rfl : t = n := by omega
          have hown2 := hown.below hbt
          have hrow2 := hown.row hbr.size (Nat.le_refl _) hoj.pv
          clear hown hoj
          go_wp2_with (at_builtin; (refine wpList_pushL (R := PvD) (T := 42) wr (by rfl) _ _ 29 29 (.slice none 0 0) 24 (by rfl) Tryz.underlying29 Tryz.underlying29 info_Ints (by rfl) (by omega) w.heap.size _ _ k (by simp) (by rfl) hown2 _ (li (fun j => f k j - g k j * y) t) hrow2 (by rfl) (by omega) (Nat.le_trans hbr.size hbt.size) ?_); intro A9 c9 w9 hown9 hg9 hb9)
          go_roundw
          case rel => exact ⟨k + 1, by omega, by go_num, by rw [List.range_succ, List.map_append]; exact hown9, (hbr.trans (hbt.mono hbr.size)).trans hb9⟩
          case measure => simp [intOf]; omega
    · obtain rfl : k = n := by omega
      have hrw := hown.rows
      go_wp2_with fail
      go_ret
      exact ⟨_, rfl, hrw, hbr⟩

set_option maxHeartbeats 4000000 in
set_option maxRecDepth 100000 in
theorem rIrreducible_ok {w : World} {v : Value} {names : List ByteArray} {E : List (List Nat)} (h : GrV w v names (toI E)) (hk : Ok names E) (hn60 : E.length ≤ 60) {d : Nat} (hd : degP E = (d, 0)) {n : Nat} (hn : n ≤ 20) :
    Calls Tryz.prog 11 #[v, .int .i64 (n : Nat)] w (Gives w fun w' v' => RowsD PvD w' (w.heap.size ≤ ·) v' (ml (irr E d n) E.length)) := by
  have hsm := hk.small
  have hd4 : d ≤ 400 := by have := (degP_small hk).1; rw [hd] at this; exact this
  have HADJ := Lib.hid (fun w' hb => rAdjacency_any (h.at w' hb) hk)
  have HDG := Lib.hid (fun w' hb => rDegree_ok (h.at w' hb) hk)
  rw [hd] at HDG
  obtain ⟨A, c, A', c', hv, hs, hg⟩ := h
  rw [toI_length] at hv
  subst hv
  obtain ⟨W, G, hW, hG, hbW, c0, c1, hGl, hwG⟩ := gbox w (.slice A names.length c) (.slice A' E.length c')
  have HW := Lib.hid hW
  have HG := Lib.hid hG
  have HK := Lib.hid hk
  clear hW hG hs hg hk hd
  have hn0 : (0 : Int) ≤ (n : Int) := by omega
  by_cases h0 : n = 0
  · have hz : ((n : Int) == 0) = true := by simp [h0]
    have he : ml (mu 1) E.length = ml (irr E d n) E.length := by rw [h0]; rfl
    have HE := Lib.hid he
    clear he h0
    go_enter Tryz.func11, Tryz.ntmps11
    go_wp2_with (first
      | (go_at_call 10; rw [← HW.out, ← HG.out]; refine (HDG.out _ hbW).mono ?_; rintro e w0 ⟨rfl, hb0⟩; obtain ⟨d0, d1⟩ := keep2 hb0 c0 c1; have hB0 := hbW.trans (hb0.mono hbW.size))
      | (go_at_call 35; refine (HADJ.out _ hB0).mono ?_; rintro e w1 ⟨v1, rfl, hr1, hb1⟩; obtain ⟨A1, c1', rfl⟩ := hr1.slice_ (ml_length _ _); have hB1 := hB0.trans (hb1.mono hB0.size))
      | (go_at_call 34; refine (rWide_any hr1 (by omega) (fun l hl => by obtain ⟨i, _, rfl⟩ := List.mem_map.1 hl; rw [li_length]; omega)).mono ?_; rintro e w2 ⟨v2, rfl, hr2, hb2⟩; obtain ⟨A2, c2, rfl⟩ := hr2.slice_ (ml_length _ _); have hB2 := hB1.trans (hb2.mono hB1.size))
      | (go_at_call 36; refine (rUnit_any E.length (by omega) 1 (by omega) (by omega) _).mono ?_; rintro e w3 ⟨v3, rfl, hr3, hb3⟩; obtain ⟨A3, c3, rfl⟩ := hr3.slice_ (ml_length _ _); have hB3 := hB2.trans (hb3.mono hB2.size)))
    go_ret
    exact ⟨_, rfl, (hr3.cast HE.out).mono fun b hb _ => Nat.le_trans hB2.size hb, hB3⟩
  · have hz : ((n : Int) == 0) = false := beq_eq_false_iff_ne.2 (by omega)
    have hn1 : 1 ≤ n := by omega
    clear h0
    go_enter Tryz.func11, Tryz.ntmps11
    go_wp2_with (first
      | (go_at_call 10; rw [← HW.out, ← HG.out]; refine (HDG.out _ hbW).mono ?_; rintro e w0 ⟨rfl, hb0⟩; obtain ⟨d0, d1⟩ := keep2 hb0 c0 c1; have hB0 := hbW.trans (hb0.mono hbW.size))
      | (go_at_call 35; refine (HADJ.out _ hB0).mono ?_; rintro e w1 ⟨v1, rfl, hr1, hb1⟩; obtain ⟨A1, c1', rfl⟩ := hr1.slice_ (ml_length _ _); have hB1 := hB0.trans (hb1.mono hB0.size))
      | (go_at_call 34; refine (rWide_any hr1 (by omega) (fun l hl => by obtain ⟨i, _, rfl⟩ := List.mem_map.1 hl; rw [li_length]; omega)).mono ?_; rintro e w2 ⟨v2, rfl, hr2, hb2⟩; obtain ⟨A2, c2, rfl⟩ := hr2.slice_ (ml_length _ _); have hB2 := hB1.trans (hb2.mono hB1.size))
      | (go_at_call 36; refine (rUnit_any E.length (by omega) 1 (by omega) (by omega) _).mono ?_; rintro e w3 ⟨v3, rfl, hr3, hb3⟩; obtain ⟨A3, c3, rfl⟩ := hr3.slice_ (ml_length _ _); have hB3 := hB2.trans (hb3.mono hB2.size)))
    have hr2' := (hr2.below hb3).mono (D' := (w.heap.size ≤ ·)) fun b hb _ => Nat.le_trans hB1.size hb
    have hr3' := hr3.mono (D' := (w.heap.size ≤ ·)) fun b hb _ => Nat.le_trans hB2.size hb
    have HA := Lib.hid hr2'
    have H0 := Lib.hid (show RowsD PvD w3 (w.heap.size ≤ ·) (.slice A3 E.length c3) (ml (irr E d 0) E.length) from hr3')
    clear hr1 hr2 hr3 hb1 hb2 hb3 hB0 hB1 hB2 d0 d1 hb0 hr2' hr3'
    go_loopw [8, 9, 10] (fun p q iv wr => ∃ (i : Nat) (A5 : Option Addr) (c5 : Nat) (A6 : Option Addr) (c6 : Nat), 1 ≤ i ∧ i ≤ n ∧ iv = .int .i64 (i : Nat) ∧ p = .slice A5 E.length c5 ∧ q = .slice A6 E.length c6 ∧ RowsD PvD wr (w.heap.size ≤ ·) (.slice A5 E.length c5) (ml (irr E d (i - 1)) E.length) ∧ RowsD PvD wr (w.heap.size ≤ ·) (.slice A6 E.length c6) (ml (irr E d i) E.length) ∧ Below w3.heap.size w3 wr) (fun _ _ iv _ => n - (intOf iv).toNat)
    case atStart => exact ⟨1, _, _, _, _, by omega, hn1, rfl, rfl, rfl, H0.out, HA.out, Below.refl _ _⟩
    case round =>
      clear H0
      obtain ⟨i, A5, c5, A6, c6, hi1, hin, rfl, rfl, rfl, hp, hq, hbr⟩ := hrel
      have hbw := hB3.trans (hbr.mono hB3.size)
      by_cases hlt : i < n
      · have hii : (i : Int) < (n : Int) := by omega
        have hd0 : (0 : Int) ≤ (d : Int) := by omega
        have HT := Lib.hid (rTimes_any (M := 9) (N := bigM) (HA.out.below hbr) hq (by omega) (fun i j _ _ => ma_le HK.out i j) (fun a b ha hb => irr_big hd4 hn60 HK.out.deg (by omega) a b ha hb) (by unfold bigM; omega))
        have hst : ∀ y : Int, y = byI d (i - 1) → ml (fun a b => mm E.length (ma E) (irr E d i) a b - irr E d (i - 1) a b * y) E.length = ml (irr E d (i + 1)) E.length := fun y hy => by
          obtain ⟨m, rfl⟩ : ∃ m, i = m + 1 := ⟨i - 1, by omega⟩
          rw [hy]
          rfl
        have HST := Lib.hid hst
        clear hst
        by_cases h1 : i = 1
        · have hb1 : ((i : Int) == 1) = true := by simp [h1]
          have hby : (d : Int) = byI d (i - 1) := by rw [h1]; rfl
          have HBY := Lib.hid hby
          clear hby h1
          go_wp2_with (first
            | (go_at_call 38; refine HT.out.mono ?_; rintro e w5 ⟨v5, rfl, hr5, hb5⟩; obtain ⟨A7, c7, rfl⟩ := hr5.slice_ (ml_length _ _); have hb5w := hbw.trans (hb5.mono hbw.size))
            | (go_at_call 37; refine (rMinus_any (M := bigM + 60) hr5 (hp.below hb5) (by omega) (fun a b ha hb => mm_big hd4 hn60 HK.out.deg (by omega) a b ha hb) (fun a b ha hb => Nat.le_trans (irr_big hd4 hn60 HK.out.deg (by omega) a b ha hb) (Nat.pow_le_pow_right (by omega) (by omega))) (by unfold bigM; omega) (d : Int) (by omega)).mono ?_; rintro e w6 ⟨v6, rfl, hr6, hb6⟩; obtain ⟨A8, c8, rfl⟩ := hr6.slice_ (ml_length _ _)))
          go_roundw
          case rel => exact ⟨i + 1, _, _, _, _, by omega, by omega, by go_num, rfl, rfl, (hq.below hb5).below hb6, (hr6.cast (HST.out _ HBY.out)).mono fun b hb _ => Nat.le_trans hb5w.size hb, hbr.trans ((hb5.trans (hb6.mono hb5.size)).mono hbr.size)⟩
          case measure => simp [intOf]; omega
        · have hb1 : ((i : Int) == 1) = false := beq_eq_false_iff_ne.2 (by omega)
          have hby : (d : Int) - 1 = byI d (i - 1) := by unfold byI; rw [if_neg (by omega)]
          have HBY := Lib.hid hby
          clear hby h1
          go_wp2_with (first
            | (go_at_call 38; refine HT.out.mono ?_; rintro e w5 ⟨v5, rfl, hr5, hb5⟩; obtain ⟨A7, c7, rfl⟩ := hr5.slice_ (ml_length _ _); have hb5w := hbw.trans (hb5.mono hbw.size))
            | (go_at_call 37; refine (rMinus_any (M := bigM + 60) hr5 (hp.below hb5) (by omega) (fun a b ha hb => mm_big hd4 hn60 HK.out.deg (by omega) a b ha hb) (fun a b ha hb => Nat.le_trans (irr_big hd4 hn60 HK.out.deg (by omega) a b ha hb) (Nat.pow_le_pow_right (by omega) (by omega))) (by unfold bigM; omega) ((d : Int) - 1) (by omega)).mono ?_; rintro e w6 ⟨v6, rfl, hr6, hb6⟩; obtain ⟨A8, c8, rfl⟩ := hr6.slice_ (ml_length _ _)))
          go_roundw
          case rel => exact ⟨i + 1, _, _, _, _, by omega, by omega, by go_num, rfl, rfl, (hq.below hb5).below hb6, (hr6.cast (HST.out _ HBY.out)).mono fun b hb _ => Nat.le_trans hb5w.size hb, hbr.trans ((hb5.trans (hb6.mono hb5.size)).mono hbr.size)⟩
          case measure => simp [intOf]; omega
      · obtain rfl : i = n := by omega
        go_wp2_with fail
        go_ret
        exact ⟨_, rfl, hq, hbw⟩
end Go.Proofs.YtpkjdnplmgfbbaaGreatDoor
