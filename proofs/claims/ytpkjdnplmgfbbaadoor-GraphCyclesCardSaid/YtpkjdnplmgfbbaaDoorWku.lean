/- The reference's Unit, Power, Trace. -/
import Derived.Test.YtpkjdnplmgfbbaaDoorWkt
namespace Go.Proofs.YtpkjdnplmgfbbaaDoor
open Go.RowKit

theorem mu_set {x : Int} {i n : Nat} (hi : i < n) : (List.replicate n (0 : Int)).set i x = li (mu x i) n := by
  rw [li_zero, li_set hi]
  refine li_ext fun j _ => ?_
  unfold mu
  by_cases e : j = i
  · subst e; simp
  · rw [if_neg e, if_neg (fun h => e h.symm)]

set_option maxHeartbeats 2000000 in
set_option maxRecDepth 100000 in
theorem rUnit_any (n : Nat) (hn : n ≤ 4096) (x : Int) (hx1 : -9223372036854775808 ≤ x) (hx2 : x ≤ 9223372036854775807) (w : World) :
    Calls Tryd.prog 64 #[.int .i64 (n : Nat), .int .i64 x] w (Gives w fun w' v' => RowsD PvD w' (w.heap.size ≤ ·) v' (ml (mu x) n)) := by
  obtain ⟨S, hS⟩ : ∃ S, S = w.heap.size := ⟨_, rfl⟩
  have HS := Lib.hid hS
  have HX := Lib.hid (And.intro hx1 hx2)
  clear hS hx1 hx2
  go_enter Tryd.func64, Tryd.ntmps64
  go_wp2_with (refine wpList_make_arr _ rfl _ _ 23 rfl 28 (.slice none 0 0) 1 24 Tryd.underlying23 info_ints _ _ _ _ n rfl rfl rfl rfl (by omega) (by omega) ?_; rw [← HS.out]; intro w1 har hb1 hs1; have HAR := Lib.hid har; have HS1 := Lib.hid hs1; clear har hs1)
  have hl0 : ((madeCells (Value.slice none 0 0).cells (n * 1)).toList).length = n := by simp [size_madeCells]
  have HL0 := Lib.hid hl0
  clear hl0
  go_loopw [6] (fun i wr => ∃ (k : Nat) (vs : List Value), k ≤ n ∧ i = .int .i64 (k : Nat) ∧ Arr wr S 28 vs ∧ Hid (vs.length = n) ∧ Hid (∀ i v, i < k → vs[i]? = some v → IlD wr (S < ·) v (li (mu x i) n)) ∧ Below S w wr) (fun i _ => n - (intOf i).toNat)
  case atStart => exact ⟨0, _, Nat.zero_le _, rfl, HAR.out, HL0, Lib.hid (fun i v hi => by omega), hb1⟩
  case round =>
    clear HAR HS1 hb1 HL0 w1
    obtain ⟨k, vs, hkl, rfl, har, hvl, hrows, hbr⟩ := hrel
    by_cases hlt : k < n
    · have hki : (k : Int) < (n : Int) := by omega
      have hk0 : (0 : Int) ≤ (k : Int) := by omega
      obtain ⟨T, hT⟩ : ∃ T, T = wr.heap.size := ⟨_, rfl⟩
      have HT := Lib.hid hT
      have hST : S < T := by rw [hT]; exact har.lt
      clear hT
      obtain ⟨v0, hv0⟩ : ∃ v0, vs[k]? = some v0 := ⟨_, List.getElem?_eq_getElem (by rw [hvl.out]; exact hlt)⟩
      have HV0 := Lib.hid hv0
      clear hv0
      go_wp2_with (refine wpList_make_arr _ rfl _ _ 28 rfl 3 (.int .i64 0) 1 8 Tryd.underlying28 (by kernel_rfl) _ _ _ _ n rfl rfl rfl rfl (by omega) (by omega) ?_; rw [← HT.out]; intro w1 haT hbT hsT; have hna := NArr.made haT; have ha1 : Arr w1 S 28 vs := Arr.below har hbT hST; have cS := (ha1.cell k).trans HV0.out; have fS := ha1.frozen k; have hna2 : NArr (w1.setCell ⟨S, k, none⟩ (.slice (some ⟨T, 0, none⟩) n n)) T (List.replicate n 0) := Arr.far hna (show T ≠ S by omega) _; have y0 := hna2.cell (i := k) (by simpa using hlt); have y1 := hna2.frozen k; have HA1 := Lib.hid ha1; have HNA2 := Lib.hid hna2; clear haT hna ha1 hsT hna2)
      go_roundw
      case rel =>
        have hset := HA1.out.set_ k (.slice (some ⟨T, 0, none⟩) n n)
        have hset2 := hset.far (p := ⟨T, k, none⟩) (show S ≠ T by omega) (.int .i64 x)
        have hrow := HNA2.out.set_ k x
        have hld : IlD ((w1.setCell ⟨S, k, none⟩ (.slice (some ⟨T, 0, none⟩) n n)).setCell ⟨T, k, none⟩ (.int .i64 x)) (S < ·) (.slice (some ⟨T, 0, none⟩) n n) (li (mu x k) n) := by
          have h1 := (hrow.cast (mu_set hlt)).ild (D := (S < ·)) (fun y hy => by
            obtain ⟨j, _, rfl⟩ := List.mem_map.1 hy
            have := HX.out
            unfold mu
            split <;> omega) (by rw [li_length]; unfold maxLen; omega) (show S < T from hST)
          rw [li_length] at h1
          exact h1
        refine ⟨k + 1, _, by omega, by go_num, hset2, Lib.hid (by simp [hvl.out]), Lib.hid (fun i v hi hv => ?_), ?_⟩
        · rw [List.getElem?_set] at hv
          by_cases e : k = i
          · subst e
            rw [if_pos rfl, if_pos (by rw [hvl.out]; exact hlt)] at hv
            injection hv with hv
            rw [← hv]
            exact hld
          · rw [if_neg e] at hv
            have h1 := hrows.out i v (by omega) hv
            have h2 : IlD wr (fun b => S < b ∧ b < T) v (li (mu x i) n) := Foot.mono h1 fun b hb hl => ⟨hb, by rw [HT.out]; exact hl⟩
            refine Foot.mono (Foot.keep h2 fun b hb _ => ?_) fun b hb _ => hb.1
            rw [Below.heap_setCell _ _ _ _ (show b ≠ T by omega), Below.heap_setCell _ _ _ _ (show b ≠ S by omega)]
            exact hbT.block b hb.2
        · exact ((hbr.trans (hbT.mono (by omega))).setCell (p := ⟨S, k, none⟩) (Nat.le_refl _) _).setCell (p := ⟨T, k, none⟩) (Nat.le_of_lt hST) _
      case measure => simp [intOf]; omega
    · obtain rfl : k = n := by omega
      have hrw : RowsD IlD wr (S ≤ ·) (.slice (some ⟨S, 0, none⟩) k k) (ml (mu x) k) := by
        refine ⟨some ⟨S, 0, none⟩, k, vs, by rw [ml_length], by rw [ml_length]; exact Nat.le_refl _, by unfold maxLen; omega, by rw [ml_length]; exact hvl.out, fun _ => ⟨S, 0, rfl, Nat.le_refl _, fun j u hu => by rw [Nat.zero_add, har.cell]; exact hu⟩, fun i u y hu hy => ?_⟩
        have hil := lt_of_some hy
        rw [ml_length] at hil
        rw [ml_get hil] at hy
        injection hy with hy
        rw [← hy]
        exact Foot.mono (hrows.out i u hil hu) fun b (hb : S < b) _ => Nat.le_of_lt hb
      have HRW := Lib.hid (rWide_any hrw (by omega) (fun l hl => by
        obtain ⟨i, _, rfl⟩ := List.mem_map.1 hl
        rw [li_length]; omega))
      clear hrw hrows hvl
      go_wp2_with (go_at_call 63; refine HRW.out.mono ?_; rintro e w4 ⟨v4, rfl, hr4, hb4⟩)
      go_ret
      exact ⟨_, rfl, hr4.mono fun b hb _ => Nat.le_trans (by rw [← HS.out]; exact Nat.le_of_lt har.lt) hb, (hbr.mono (by rw [HS.out]; exact Nat.le_refl _)).trans (hb4.mono (by rw [← HS.out]; exact Nat.le_of_lt har.lt))⟩

/-- The numbers of walks as a matrix. -/
def wm (E : List (List Nat)) (m i k : Nat) : Int := (wn E i m k : Nat)
theorem wm_mm (E : List (List Nat)) (m : Nat) : ml (mm E.length (wm E m) (ma E)) E.length = ml (wm E (m + 1)) E.length := ml_ext fun i k _ _ => mm_wn E m i k
theorem wm_mu (E : List (List Nat)) : ml (mu 1) E.length = ml (wm E 0) E.length := ml_ext fun i k _ _ => mu_wn E i k
theorem ma_le {names : List ByteArray} {E : List (List Nat)} (hk : Ok names E) (i k : Nat) : (ma E i k).natAbs ≤ 2 ^ 9 := by
  unfold ma
  have := List.count_le_length (a := k) (l := gr E i)
  have := hk.deg i
  rw [Int.natAbs_natCast]; omega
theorem wm_le {names : List ByteArray} {E : List (List Nat)} (hk : Ok names E) (m i k : Nat) : (wm E m i k).natAbs ≤ 2 ^ (20 * m) := by
  unfold wm
  rw [Int.natAbs_natCast]
  exact wn_small hk i m k

set_option maxHeartbeats 2000000 in
set_option maxRecDepth 100000 in
theorem rPower_any {w : World} {v : Value} {names : List ByteArray} {E : List (List Nat)} (h : GrV w v names (toI E)) (hk : Ok names E) {n : Nat} (hn : n ≤ 100) :
    Calls Tryd.prog 25 #[v, .int .i64 (n : Nat)] w (Gives w fun w' v' => RowsD PvD w' (w.heap.size ≤ ·) v' (ml (wm E n) E.length)) := by
  have hsm := hk.small
  have HADJ := Lib.hid (fun w' hb => rAdjacency_any (h.at w' hb) hk)
  obtain ⟨A, c, A', c', rfl, hs, hg⟩ := h
  rw [toI_length] at *
  obtain ⟨W, G, hW, hG, hbW, c0, c1, hGl, hwG⟩ := gbox w (.slice A names.length c) (.slice A' E.length c')
  have HW := Lib.hid hW
  have HG := Lib.hid hG
  have HK := Lib.hid hk
  clear hW hG hs hg hk
  have hW0 := hbW.size
  go_enter Tryd.func25, Tryd.ntmps25
  go_wp2_with (first
    | (go_at_call 43; rw [← HW.out]; refine (HADJ.out _ hbW).mono ?_; rintro e w1 ⟨v1, rfl, hr1, hb1⟩; obtain ⟨A1, c1', rfl⟩ := hr1.slice_ (ml_length _ _))
    | (go_at_call 63; refine (rWide_any hr1 (by omega) (fun l hl => by obtain ⟨i, _, rfl⟩ := List.mem_map.1 hl; rw [li_length]; omega)).mono ?_; rintro e w2 ⟨v2, rfl, hr2, hb2⟩; obtain ⟨A2, c2, rfl⟩ := hr2.slice_ (ml_length _ _))
    | (go_at_call 64; refine (rUnit_any E.length (by omega) 1 (by omega) (by omega) _).mono ?_; rintro e w3 ⟨v3, rfl, hr3, hb3⟩; obtain ⟨A3, c3, rfl⟩ := hr3.slice_ (ml_length _ _)))
  have hb2' := hb1.trans (hb2.mono hb1.size)
  have hb3' := hb2'.trans (hb3.mono hb2'.size)
  have hr2' := hr2.below hb3
  rw [wm_mu] at hr3
  have hr3' := hr3.mono (D' := (W.heap.size ≤ ·)) fun b hb _ => Nat.le_trans hb2'.size hb
  clear hr1 hr2 hr3 hb1 hb2
  go_loopw [6, 7] (fun o i wr => ∃ (k : Nat) (A4 : Option Addr) (c4 : Nat), k ≤ n ∧ i = .int .i64 (k : Nat) ∧ o = .slice A4 E.length c4 ∧ RowsD PvD wr (W.heap.size ≤ ·) (.slice A4 E.length c4) (ml (wm E k) E.length) ∧ Below w3.heap.size w3 wr) (fun _ i _ => n - (intOf i).toNat)
  case atStart => exact ⟨0, _, _, Nat.zero_le _, rfl, rfl, hr3', Below.refl _ _⟩
  case round =>
    clear hr3'
    obtain ⟨k, A4, c4, hkl, rfl, rfl, hr4, hbr⟩ := hrel
    have hbW4 : Below W.heap.size W wr := hb3'.trans (hbr.mono hb3'.size)
    by_cases hlt : k < n
    · have HT := Lib.hid (rTimes_any hr4 (hr2'.below hbr) (by omega) (fun i j _ _ => wm_le HK.out k i j) (fun i j _ _ => ma_le HK.out i j) (by omega))
      rw [wm_mm] at HT
      go_wp2_with (go_at_call 65; refine HT.out.mono ?_; rintro e w5 ⟨v5, rfl, hr5, hb5⟩; obtain ⟨A5, c5, rfl⟩ := hr5.slice_ (ml_length _ _))
      go_roundw
      case rel => exact ⟨k + 1, A5, c5, by omega, by go_num, rfl, hr5.mono fun b hb _ => Nat.le_trans hbW4.size hb, hbr.trans (hb5.mono hbr.size)⟩
      case measure => simp [intOf]; omega
    · obtain rfl : k = n := by omega
      go_wp2_with fail
      go_ret
      exact ⟨_, rfl, hr4.mono fun b hb _ => Nat.le_trans hW0 hb, hbW.trans (hbW4.mono hbW.size)⟩

theorem tbox (w : World) : ∃ W R P, W = (w.alloc (.cells #[.bool false, .slice none 0 0] 46)).alloc (.cells #[.bool false, .slice none 0 0] 46) ∧ R = w.heap.size ∧ P = w.heap.size + 1 ∧ Below w.heap.size w W ∧ Arr W R 46 [.bool false, .slice none 0 0] ∧ IVar W P 0 ∧ R < P ∧ w.heap.size ≤ R := by
  have hs : (w.alloc (.cells #[.bool false, .slice none 0 0] 46)).heap.size = w.heap.size + 1 := by simp
  have h0 : Arr (w.alloc (.cells #[.bool false, .slice none 0 0] 46)) w.heap.size 46 [.bool false, .slice none 0 0] := heap_alloc_new w _
  have h1 := ivar_zero (w.alloc (.cells #[.bool false, .slice none 0 0] 46))
  rw [hs] at h1
  exact ⟨_, _, _, rfl, rfl, rfl, ((Below.refl _ _).alloc (Nat.le_refl _) _).alloc (by simp) _, h0.alloc _, h1, by omega, Nat.le_refl _⟩

set_option maxHeartbeats 2000000 in
set_option maxRecDepth 100000 in
theorem rTrace_any {w : World} {D : Nat → Prop} {A : Option Addr} {n c : Nat} {f : Nat → Nat → Int} {M : Nat} (h : RowsD PvD w D (.slice A n c) (ml f n)) (hn : n ≤ 4096) (hf : ∀ i, i < n → (f i i).natAbs ≤ 2 ^ M) (hM : M ≤ 1000000) :
    Calls Tryd.prog 26 #[.slice A n c] w (Gives w fun w' v => NIntV w' (w.heap.size ≤ ·) v (sm (fun i => f i i) n)) := by
  obtain ⟨hn0, hr1, hr2⟩ := h.room
  unfold maxLen at hr2
  have HS := Lib.hid (fun j (hj : j ≤ n) => show wl (sm (fun i => f i i) j).natAbs ≤ 1000000000000 by
    have h1 := sm_le (h := fun i => f i i) (B := 2 ^ M) j fun q hq => hf q (by omega)
    have h2 : j * 2 ^ M ≤ 2 ^ (M + 12) := by rw [Nat.pow_add, Nat.mul_comm]; exact Nat.mul_le_mul_left _ (by omega)
    have := wl_pow (Nat.le_trans h1 h2)
    omega)
  have HF := Lib.hid (fun i (hi : i < n) => show wl (f i i).natAbs ≤ 1000000000000 by have := wl_pow (hf i hi); omega)
  clear hn0 hf
  obtain ⟨W, R, P, hW, hR, hP, hbW, har, hiv, hRP, hwR⟩ := tbox w
  have h0 := h
  have HW := Lib.hid hW
  have HR := Lib.hid hR
  have HP := Lib.hid hP
  clear hW hR hP
  go_enter Tryd.func26, Tryd.ntmps26
  go_wp2_with fail
  rw [← HW.out, ← HP.out, ← HR.out]
  go_loopw [4] (fun i wr => ∃ k : Nat, k ≤ n ∧ i = .int .i64 (k : Nat) ∧ IVar wr P (sm (fun i => f i i) k) ∧ Fr (· = P) W wr) (fun i _ => n - (intOf i).toNat)
  case atStart => exact ⟨0, Nat.zero_le _, rfl, hiv, Fr.refl _ _⟩
  case round =>
    clear hiv
    obtain ⟨k, hkl, rfl, hiv, hfr⟩ := hrel
    have hPr := hiv.lt
    obtain ⟨neg, B6, m6, q6, harP, hnv⟩ := hiv
    obtain ⟨p0, p1, z0, z1⟩ := harP.two
    have hb5 : Below w.heap.size w wr := hbW.trans (hfr.below hbW.size (fun b hb => by rw [hb]; omega))
    by_cases hlt : k < n
    · have hki : (k : Int) < (n : Int) := by omega
      have hk0 : (0 : Int) ≤ (k : Int) := by omega
      obtain ⟨ba, oa, ua, hA, hcu0, hu⟩ := h0.at (ml_get hlt)
      obtain ⟨A2, c2, hua, hpa⟩ := hu.pl
      subst hA hua
      rw [li_length] at hcu0 hpa
      have hcu := (hbW.cell (p := ⟨ba, oa + k, none⟩) (cell_some_lt hcu0)).trans hcu0
      have hr5 := hpa.room
      have hr5' := hpa.cap
      unfold maxLen at hr5
      obtain ⟨b7, o7, hA2, _, hcell7⟩ := hpa.cells (by omega)
      subst hA2
      obtain ⟨neg7, B7, m7, q7, a00, a11, a2⟩ := hcell7 k hlt
      have a0 := (hbW.cell (p := ⟨b7, o7 + k * 2, none⟩) (cell_some_lt a00)).trans a00
      have a1 := (hbW.cell (p := ⟨b7, o7 + k * 2 + 1, none⟩) (cell_some_lt a11)).trans a11
      rw [li_gz hlt] at a2
      have g0 := (hfr.cell (cell_some_lt hcu) (show ¬ ba = P by have := cell_some_lt hcu0; omega)).trans hcu
      have g2 := (hfr.cell (cell_some_lt a0) (show ¬ b7 = P by have := cell_some_lt a00; omega)).trans a0
      have g3 := (hfr.cell (cell_some_lt a1) (show ¬ b7 = P by have := cell_some_lt a00; omega)).trans a1
      have l0 : ba < wr.heap.size := cell_some_lt g0
      have l2 : b7 < wr.heap.size := cell_some_lt g2
      have hdr : Below wr.heap.size wr wr.drew := (Below.refl _ _).drew
      have HAD := Lib.hid (fun w' (hb : Below wr.heap.size wr w') => rAdd_any ((hnv.below hb).b (HS.out k hkl)) ((NI.below a2 (hb5.trans (hb.mono hb5.size))).b (HF.out k hlt)))
      have HPP := Lib.hid harP
      clear hcell7 hcu0 a00 a11 hcu a0 a1 a2 hnv harP
      go_wp2_with fail
      refine wp_region_loads 8 (by kernel_rfl) (by kernel_rfl) (fun _ _ _ _ _ h => h) (Same wr) (same_drew wr) ?_
      simp only [List.take_succ_cons, List.take_zero, List.drop_succ_cons, List.drop_zero]
      iterate 8
        refine loadsZ_cons ?_ (by rfl) (fun wz hSw => ?_) ?_
        rotate_left
        · obtain ⟨hs1, hs2⟩ := hSw
          go_simp
          try with_reducible rfl
        simp only [Act.put, List.setIfInBounds_toArray, List.set_cons_zero, List.set_cons_succ]
      change tailZ _ _ _ _ _ _ wr.drew
      refine tailZ_cons (same_drew wr) ?_
      go_wp2_with (go_at_call 66; ((with_reducible refine (HAD.out _ hdr).mono ?_)); rintro e w4 ⟨v4, rfl, ⟨A9, c9, rfl, hv4⟩, hb7⟩)
      have hB4 := hdr.trans (hb7.mono hdr.size)
      have t0 := (hB4.cell (p := ⟨P, 0, none⟩) hPr).trans p0
      have t1 := (hB4.cell (p := ⟨P, 1, none⟩) hPr).trans p1
      have zz0 := (hB4.frozen (p := ⟨P, 0, none⟩) hPr).trans z0
      have zz1 := (hB4.frozen (p := ⟨P, 1, none⟩) hPr).trans z1
      refine tailZ_cons (same_below hB4) ?_
      go_wp2_with fail
      refine tailZ_nil ?_
      go_wp2_with fail
      go_roundw
      case rel =>
        have hn4 : NIntV w4 (P < ·) (.agg #[.bool _, .slice A9 _ c9]) (sm (fun i => f i i) k + f k k) := ⟨A9, c9, rfl, hv4.mono fun b hb _ => by have h1 : wr.drew.heap.size ≤ b := hb; have := hdr.size; omega⟩
        have hset := IVar.put (HPP.out.below' hB4) hn4
        exact ⟨k + 1, by omega, by go_num, hset, ((hfr.trans (Fr.of_below' hB4)).trans (Fr.setCell (O := (· = P)) (p := ⟨P, 0, none⟩) (fun _ => rfl) _)).trans (Fr.setCell (O := (· = P)) (p := ⟨P, 1, none⟩) (fun _ => rfl) _)⟩
      case measure => simp [intOf]; omega
    · obtain rfl : k = n := by omega
      obtain ⟨r0, r1, f0, f1⟩ := (hfr.arr har (show ¬ R = P by omega)).two
      go_wp2_with fail
      refine bodyPost_ret (v := .agg #[.bool neg, .slice B6 m6 q6]) (by simp [results, Tryd.results26, go_sem, r0, r1]) rfl ⟨_, rfl, ?_, ?_⟩
      · exact ((hnv.setCell (p := ⟨R, 0, none⟩) (by simp; omega) _).setCell (p := ⟨R, 1, none⟩) (by simp; omega) _).mono (fun b hb _ => by have h1 : P < b := hb; show w.heap.size ≤ b; omega)
      · exact (hb5.setCell (p := ⟨R, 0, none⟩) (by simp; omega) _).setCell (p := ⟨R, 1, none⟩) (by simp; omega) _
end Go.Proofs.YtpkjdnplmgfbbaaDoor
