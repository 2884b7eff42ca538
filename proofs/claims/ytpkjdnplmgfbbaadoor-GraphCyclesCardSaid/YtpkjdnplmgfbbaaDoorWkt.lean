/- The reference's Wide, Unit, Times, Power, Trace; base.SameInts. -/
import Derived.Test.YtpkjdnplmgfbbaaDoorWks
import Derived.Test.YtpkjdnplmgfbbaaDoorZr
namespace Go.Proofs.YtpkjdnplmgfbbaaDoor
open Go.RowKit

theorem NIntV.d {w : World} {D D' : Nat → Prop} {v : Value} {x : Int} (h : NIntV w D v x) (hd : ∀ b, D b → D' b) : NIntV w D' v x := h.mono fun b hb _ => hd b hb

set_option maxHeartbeats 2000000 in
set_option maxRecDepth 100000 in
theorem rWide_any {w : World} {D : Nat → Prop} {A : Option Addr} {n c : Nat} {L : List (List Int)} (h : RowsD IlD w D (.slice A n c) L) (hn : n ≤ 1000000) (hl : ∀ l ∈ L, l.length ≤ 1000000) :
    Calls Tryd.prog 63 #[.slice A n c] w (Gives w fun w' v' => RowsD PvD w' (w.heap.size ≤ ·) v' L) := by
  obtain ⟨hln, hr1, hr2⟩ := h.room
  unfold maxLen at hr2
  have HLN := Lib.hid hln
  have HL := Lib.hid hl
  have H := Lib.hid h
  clear hln hl h
  go_enter Tryd.func63, Tryd.ntmps63
  go_wp2_with fail
  go_loopw [3, 4] (fun m i wr => ∃ k : Nat, k ≤ n ∧ i = .int .i64 (k : Nat) ∧ OwnL PvD 41 wr w.heap.size m (L.take k) ∧ Below w.heap.size w wr) (fun _ i _ => n - (intOf i).toNat)
  case atStart => exact ⟨0, Nat.zero_le _, rfl, OwnL.nil _ _, Below.refl _ _⟩
  case round =>
    obtain ⟨k, hkl, rfl, hown, hbr⟩ := hrel
    have hlk : (L.take k).length = k := by rw [List.length_take, ← HLN.out]; omega
    obtain ⟨A0, c0, rfl, hc0, hc1⟩ := hown.slice_ hlk
    have HLK := Lib.hid hlk
    clear hlk
    by_cases hlt : k < n
    · obtain ⟨l, hl⟩ : ∃ l, L[k]? = some l := ⟨_, List.getElem?_eq_getElem (by rw [← HLN.out]; exact hlt)⟩
      have hll := HL.out l (List.mem_of_getElem? hl)
      have hki : (k : Int) < (n : Int) := by omega
      have htk : L.take (k + 1) = L.take k ++ [l] := by rw [List.take_add_one, hl]; rfl
      have HTK := Lib.hid htk
      obtain ⟨b, off, u, rfl, hcu, hu⟩ := H.out.at hl
      obtain ⟨A2, c2, rfl, hil⟩ := hu.il
      have hr3 := hil.room
      unfold maxLen at hr3
      clear hl htk
      obtain ⟨wr0, hwr0⟩ : ∃ wr0 : World, wr0 = wr := ⟨_, rfl⟩
      subst hwr0
      go_wp2_with fail
      go_loopw [5, 6] (fun rv i wr => ∃ t : Nat, t ≤ l.length ∧ i = .int .i64 (t : Nat) ∧ OwnJ wr wr0.heap.size rv (l.take t) ∧ Below wr0.heap.size wr0 wr) (fun _ i _ => l.length - (intOf i).toNat)
      case atStart => exact ⟨0, Nat.zero_le _, rfl, OwnJ.nil _ _, Below.refl _ _⟩
      case round =>
        obtain ⟨t, htl, rfl, hoj, hbt⟩ := hrel
        obtain ⟨A3, c3, rfl, hc3, hc4⟩ := hoj.slice_ (n := t) (by rw [List.length_take]; omega)
        have hbw : Below w.heap.size w wr := hbr.trans (hbt.mono hbr.size)
        have e1 := (hbw.cell (p := ⟨b, off + k, none⟩) (cell_some_lt hcu)).trans hcu
        by_cases htt : t < l.length
        · obtain ⟨x, hx⟩ : ∃ x, l[t]? = some x := ⟨_, List.getElem?_eq_getElem htt⟩
          obtain ⟨b3, off3, rfl, hcx⟩ := hil.elt hx
          have hxs := hil.2 x (List.mem_of_getElem? hx)
          have e2 := (hbw.cell (p := ⟨b3, off3 + t, none⟩) (cell_some_lt hcx)).trans hcx
          have hti : (t : Int) < (l.length : Int) := by omega
          have htx : l.take (t + 1) = l.take t ++ [x] := by rw [List.take_add_one, hx]; rfl
          have HTX := Lib.hid htx
          have hlt3 := Lib.hid (show (l.take t).length = t by rw [List.length_take]; omega)
          clear hx htx hcx
          go_wp2_with (first
            | (go_at_call 45; ((with_reducible refine (rOf_any x _ hxs.1 hxs.2).mono ?_)); rintro e w1 ⟨v1, rfl, ⟨A1, c1, rfl, hw1⟩, hb1⟩)
            | (at_builtin; go_must (refine wpList_pushJ w1 (by rfl) _ _ _ _ (by rfl) wr0.heap.size Tryd.underlying41 Tryd.underlying41 _ (l.take t) t hlt3.out (by rfl) (hoj.below hb1) _ A1 _ c1 x (by rfl) ⟨A1, c1, rfl, hw1.mono fun b hb _ => ⟨Nat.le_trans hbt.size hb, hoj.fresh hb⟩⟩ (by omega) (Nat.le_trans hbt.size hb1.size) ?_); intro A5 c5 w5 hoj5 hg5 hb5))
          go_roundw
          case rel => exact ⟨t + 1, by omega, by go_num, by rw [HTX.out]; exact hoj5, (hbt.trans (hb1.mono hbt.size)).trans hb5⟩
          case measure => simp [intOf]; omega
        · obtain rfl : t = l.length := by omega
          rw [List.take_length] at hoj
          have hown2 := hown.below hbt
          have hrow2 := hown.row hbr.size (Nat.le_refl _) hoj.pv
          clear hown hoj
          go_wp2_with (at_builtin; (refine wpList_pushL (R := PvD) (T := 41) wr (by rfl) _ _ 50 50 (.slice none 0 0) 24 (by rfl) Tryd.underlying50 Tryd.underlying50 info_Ints (by rfl) (by omega) w.heap.size _ _ k HLK.out (by rfl) hown2 _ l hrow2 (by rfl) (by omega) (Nat.le_trans hbr.size hbt.size) ?_); intro A9 c9 w9 hown9 hg9 hb9)
          go_roundw
          case rel => exact ⟨k + 1, by omega, by go_num, by rw [HTK.out]; exact hown9, (hbr.trans (hbt.mono hbr.size)).trans hb9⟩
          case measure => simp [intOf]; omega
    · obtain rfl : k = n := by omega
      rw [List.take_of_length_le (by rw [← HLN.out]; exact Nat.le_refl _)] at hown
      have hrw := hown.rows
      go_wp2_with fail
      go_ret
      exact ⟨_, rfl, hrw, hbr⟩

set_option maxHeartbeats 2000000 in
set_option maxRecDepth 100000 in
theorem SameInts_any {w : World} {D D' : Nat → Prop} {A B : Option Addr} {n c n' c' : Nat} {l m : List Int} (h : Pl NI w D A n c l) (h' : Pl NI w D' B n' c' m) :
    Calls Tryd.prog 27 #[.slice A n c, .slice B n' c'] w (IntsR w l m) := by
  have hl := h.len
  have hl' := h'.len
  have hr := h.cap
  have hr0 := h.room
  have hr' := h'.cap
  have hr'0 := h'.room
  unfold maxLen at hr0 hr'0
  by_cases hn : n = n'
  · subst hn
    have hb : ((n : Int) != (n : Int)) = false := by simp
    have HL := Lib.hid hl
    have HL' := Lib.hid hl'
    clear hl hl'
    go_enter Tryd.func27, Tryd.ntmps27
    go_wp2_with fail
    go_loopw [5] (fun i wr => ∃ k : Nat, k ≤ n ∧ i = .int .i64 (k : Nat) ∧ (∀ j, j < k → gz l j = gz m j) ∧ Below w.heap.size w wr) (fun i _ => n - (intOf i).toNat)
    case atStart => exact ⟨0, Nat.zero_le _, rfl, fun j hj => by omega, Below.refl _ _⟩
    case round =>
      obtain ⟨k, hk, rfl, ht, hbr⟩ := hrel
      have HT := Lib.hid ht
      clear ht
      by_cases hlt : k < n
      · obtain ⟨b, off, rfl, _, hc⟩ := (h.below hbr).cells (by omega)
        obtain ⟨b', off', rfl, _, hc'⟩ := (h'.below hbr).cells (by omega)
        obtain ⟨neg, A1, m1, k1, x0, x1, x2⟩ := hc k hlt
        obtain ⟨neg', A2, m2, k2, y0, y1, y2⟩ := hc' k hlt
        have hki : (k : Int) < (n : Int) := by omega
        have hk0 : (0 : Int) ≤ (k : Int) := by omega
        clear hc hc'
        go_wp2_with fail
        go_still_tail 8, (by kernel_rfl)
        have x3 : NI wr.drew (.agg #[.bool neg, .slice A1 m1 k1]) (gz l k) := NI.below x2 ((Below.refl _ _).drew)
        have y3 : NI wr.drew (.agg #[.bool neg', .slice A2 m2 k2]) (gz m k) := NI.below y2 ((Below.refl _ _).drew)
        have hb3 : Below w.heap.size w wr.drew := hbr.drew
        change wpList _ _ _ _ _ wr.drew
        clear x0 x1 x2 y0 y1 y2 hbr
        generalize wr.drew = w3 at *
        by_cases hxy : gz l k = gz m k
        · have hd : decide (gz l k = gz m k) = true := by simp [hxy]
          have HXY := Lib.hid hxy
          have HS := Lib.hid (SameInt_any x3 y3)
          clear hxy
          go_wp2_with (go_at_call 24; refine HS.out.mono ?_; rintro e w4 ⟨rfl, hb4⟩; rw [hd])
          go_roundw
          case rel =>
            refine ⟨k + 1, by omega, by go_num, fun j hj => ?_, hb3.trans (hb4.mono hb3.size)⟩
            rcases Nat.lt_or_ge j k with h1 | h1
            · exact HT.out j h1
            · obtain rfl : j = k := by omega
              exact HXY.out
          case measure => simp [intOf]; omega
        · have hd : decide (gz l k = gz m k) = false := by simp [hxy]
          have e : decide (l = m) = false := by
            simp only [decide_eq_false_iff_not]
            intro e
            rw [e] at hxy
            exact hxy rfl
          have HE := Lib.hid e
          have HS := Lib.hid (SameInt_any x3 y3)
          clear e hxy
          go_wp2_with (go_at_call 24; refine HS.out.mono ?_; rintro e w4 ⟨rfl, hb4⟩; rw [hd])
          go_ret
          exact intsR HE.out (hb3.trans (hb4.mono hb3.size))
      · have e : l = m := gz_ext (by rw [HL.out, HL'.out]) fun j hj => HT.out j (by rw [HL.out] at hj; omega)
        have HE := Lib.hid e
        clear e
        go_wp2_with fail
        go_ret
        exact intsR (by rw [HE.out]; simp) hbr
  · have hb : ((n : Int) != (n' : Int)) = true := by simp; omega
    have e : decide (l = m) = false := by
      simp only [decide_eq_false_iff_not]
      intro e
      rw [e] at hl
      omega
    have HE := Lib.hid e
    clear e hn
    go_enter Tryd.func27, Tryd.ntmps27
    go_wp2_with fail
    go_ret
    exact intsR HE.out (Below.refl _ _)

/-- A variable that holds an integer: the block, and what is behind it. -/
theorem ivar_zero (w : World) : IVar (w.alloc (.cells #[.bool false, .slice none 0 0] 46)) w.heap.size 0 := ⟨false, none, 0, 0, heap_alloc_new w _, NIntV.zero _ _⟩

set_option maxHeartbeats 4000000 in
set_option maxRecDepth 100000 in
theorem rTimes_any {w : World} {D D' : Nat → Prop} {A B : Option Addr} {n c n' c' : Nat} {f g : Nat → Nat → Int} {M N : Nat} (h : RowsD PvD w D (.slice A n c) (ml f n)) (h' : RowsD PvD w D' (.slice B n' c') (ml g n)) (hn : n ≤ 4096)
    (hf : ∀ i k, i < n → k < n → (f i k).natAbs ≤ 2 ^ M) (hg : ∀ i k, i < n → k < n → (g i k).natAbs ≤ 2 ^ N) (hM : M + N ≤ 1000000) :
    Calls Tryd.prog 65 #[.slice A n c, .slice B n' c'] w (Gives w fun w' v' => RowsD PvD w' (w.heap.size ≤ ·) v' (ml (mm n f g) n)) := by
  obtain ⟨hn0, hr1, hr2⟩ := h.room
  obtain ⟨hn', hr3, hr4⟩ := h'.room
  rw [ml_length] at hn'
  subst hn'
  clear hn0
  unfold maxLen at hr2 hr4
  have HS := Lib.hid (mm_le (n := n') hn hf hg)
  have HF := Lib.hid hf
  have HG := Lib.hid hg
  have H := Lib.hid h
  have H' := Lib.hid h'
  clear hf hg h h'
  go_enter Tryd.func65, Tryd.ntmps65
  go_wp2_with fail
  go_loopw [5, 6] (fun m i wr => ∃ k : Nat, k ≤ n' ∧ i = .int .i64 (k : Nat) ∧ OwnL PvD 41 wr w.heap.size m ((List.range k).map fun i => li (mm n' f g i) n') ∧ Below w.heap.size w wr) (fun _ i _ => n' - (intOf i).toNat)
  case atStart => exact ⟨0, Nat.zero_le _, rfl, OwnL.nil _ _, Below.refl _ _⟩
  case round =>
    obtain ⟨k, hkl, rfl, hown, hbr⟩ := hrel
    obtain ⟨A0, c0, rfl, hc0, hc1⟩ := hown.slice_ (n := k) (by simp)
    by_cases hlt : k < n'
    · have hki : (k : Int) < (n' : Int) := by omega
      have hk0 : (0 : Int) ≤ (k : Int) := by omega
      obtain ⟨wr0, hwr0⟩ : ∃ wr0 : World, wr0 = wr := ⟨_, rfl⟩
      subst hwr0
      obtain ⟨ba, oa, ua, hA, hcu, hu⟩ := H.out.at (ml_get hlt)
      obtain ⟨A2, c2, hua, hpa⟩ := hu.pl
      subst hA hua
      rw [li_length] at hcu hpa
      have hr5 := hpa.room
      have hr5' := hpa.cap
      unfold maxLen at hr5
      have HPA := Lib.hid hpa
      clear hu hpa
      go_wp2_with fail
      go_loopw [7, 8] (fun rv i wr => ∃ t : Nat, t ≤ n' ∧ i = .int .i64 (t : Nat) ∧ OwnJ wr wr0.heap.size rv (li (mm n' f g k) t) ∧ Below wr0.heap.size wr0 wr) (fun _ i _ => n' - (intOf i).toNat)
      case atStart => exact ⟨0, Nat.zero_le _, rfl, OwnJ.nil _ _, Below.refl _ _⟩
      case round =>
        obtain ⟨t, htl, rfl, hoj, hbt⟩ := hrel
        obtain ⟨A3, c3, rfl, hc3, hc4⟩ := hoj.slice_ (n := t) (li_length _ _)
        have hbw : Below w.heap.size w wr := hbr.trans (hbt.mono hbr.size)
        by_cases htt : t < n'
        · have hti : (t : Int) < (n' : Int) := by omega
          have ht0 : (0 : Int) ≤ (t : Int) := by omega
          obtain ⟨wr1, hwr1⟩ : ∃ wr1 : World, wr1 = wr := ⟨_, rfl⟩
          subst hwr1
          go_wp2_with fail
          obtain ⟨W2, P, hW2, hP⟩ : ∃ W2 P, W2 = wr1.alloc (.cells #[.bool false, .slice none 0 0] 46) ∧ P = wr1.heap.size := ⟨_, _, rfl, rfl⟩
          have hiv : IVar W2 P (sm (fun j => f k j * g j t) 0) := by rw [hW2, hP]; exact ivar_zero _
          have hb2 : Below wr1.heap.size wr1 W2 := by rw [hW2]; exact (Below.refl _ _).alloc (Nat.le_refl _) _
          have hP0 : wr1.heap.size ≤ P := by omega
          rw [← hW2, ← hP]
          clear hW2 hP
          go_loopw [10] (fun i wr => ∃ j : Nat, j ≤ n' ∧ i = .int .i64 (j : Nat) ∧ IVar wr P (sm (fun j => f k j * g j t) j) ∧ Fr (· = P) W2 wr) (fun i _ => n' - (intOf i).toNat)
          case atStart => exact ⟨0, Nat.zero_le _, rfl, hiv, Fr.refl _ _⟩
          case round =>
            clear hiv
            obtain ⟨j, hjl, rfl, hiv, hfr⟩ := hrel
            have hPr := hiv.lt
            obtain ⟨neg, B6, m6, q6, harP, hnv⟩ := hiv
            obtain ⟨p0, p1, z0, z1⟩ := harP.two
            have hbj : Below wr1.heap.size wr1 wr := hb2.trans (hfr.below hb2.size (fun b hb => by rw [hb]; exact hP0))
            by_cases hjt : j < n'
            · have hbwj : Below w.heap.size w wr := hbw.trans (hbj.mono hbw.size)
              have hji : (j : Int) < (n' : Int) := by omega
              have hj0 : (0 : Int) ≤ (j : Int) := by omega
              obtain ⟨bb, ob, ub, hB, hcb, hub⟩ := H'.out.at (ml_get hjt)
              obtain ⟨A4, c4, hub2, hpb⟩ := hub.pl
              subst hB hub2
              rw [li_length] at hcb hpb
              have hr6 := hpb.room
              have hr6' := hpb.cap
              unfold maxLen at hr6
              obtain ⟨b7, o7, hA2, _, hcell7⟩ := HPA.out.cells (by omega)
              subst hA2
              obtain ⟨neg7, B7, m7, q7, a0, a1, a2⟩ := hcell7 j hjt
              obtain ⟨b8, o8, hA4, _, hcell8⟩ := hpb.cells (by omega)
              subst hA4
              obtain ⟨neg8, B8, m8, q8, b0, b1, b2⟩ := hcell8 t htt
              rw [li_gz hjt] at a2
              rw [li_gz htt] at b2
              have g0 := (hbwj.cell (p := ⟨ba, oa + k, none⟩) (cell_some_lt hcu)).trans hcu
              have g1 := (hbwj.cell (p := ⟨bb, ob + j, none⟩) (cell_some_lt hcb)).trans hcb
              have g2 := (hbwj.cell (p := ⟨b7, o7 + j * 2, none⟩) (cell_some_lt a0)).trans a0
              have g3 := (hbwj.cell (p := ⟨b7, o7 + j * 2 + 1, none⟩) (cell_some_lt a1)).trans a1
              have g4 := (hbwj.cell (p := ⟨b8, o8 + t * 2, none⟩) (cell_some_lt b0)).trans b0
              have g5 := (hbwj.cell (p := ⟨b8, o8 + t * 2 + 1, none⟩) (cell_some_lt b1)).trans b1
              have hwf : wl (f k j).natAbs ≤ 1000000000000 := by have := wl_pow (HF.out k j hlt hjt); omega
              have hwg : wl (g j t).natAbs ≤ 1000000000000 := by have := wl_pow (HG.out j t hjt htt); omega
              have hws : wl (sm (fun j => f k j * g j t) j).natAbs ≤ 1000000000000 := by have := wl_pow (HS.out k t j hlt htt hjl); omega
              have hwp : wl (f k j * g j t).natAbs ≤ 1000000000000 := by
                have h1 : (f k j * g j t).natAbs ≤ 2 ^ (M + N) := by rw [Int.natAbs_mul, Nat.pow_add]; exact Nat.mul_le_mul (HF.out k j hlt hjt) (HG.out j t hjt htt)
                have := wl_pow h1; omega
              have hdr : Below wr.heap.size wr wr.drew := (Below.refl _ _).drew
              have HMU := Lib.hid (fun w' (hb : Below wr.heap.size wr w') => rMul_any ((NI.below a2 (hbwj.trans (hb.mono hbwj.size))).b hwf) ((NI.below b2 (hbwj.trans (hb.mono hbwj.size))).b hwg))
              have HAD := Lib.hid (fun w' v' D (hb : Below wr.heap.size wr w') (hv : NIntV w' D v' (f k j * g j t)) => rAdd_any ((hnv.below hb).b hws) (hv.b hwp))
              have HPP := Lib.hid harP
              have l0 : ba < wr.heap.size := cell_some_lt g0
              have l1 : bb < wr.heap.size := cell_some_lt g1
              have l2 : b7 < wr.heap.size := cell_some_lt g2
              have l3 : b8 < wr.heap.size := cell_some_lt g4
              clear hcell7 hcell8 hcb hub hpb a0 a1 a2 b0 b1 b2 hwf hwg hws hwp hnv harP
              go_wp2_with fail
              refine wp_region_loads 15 (by kernel_rfl) (by kernel_rfl) (fun _ _ _ _ _ h => h) (Same wr) (same_drew wr) ?_
              simp only [List.take_succ_cons, List.take_zero, List.drop_succ_cons, List.drop_zero]
              iterate 15
                refine loadsZ_cons ?_ (by rfl) (fun wz hSw => ?_) ?_
                rotate_left
                · obtain ⟨hs1, hs2⟩ := hSw
                  go_simp
                  try with_reducible rfl
                simp only [Act.put, List.setIfInBounds_toArray, List.set_cons_zero, List.set_cons_succ]
              change tailZ _ _ _ _ _ _ wr.drew
              refine tailZ_cons (same_drew wr) ?_
              go_wp2_with (go_at_call 109; ((with_reducible refine (HMU.out _ hdr).mono ?_)); rintro e w5 ⟨v5, rfl, ⟨A5, c5, rfl, hv5⟩, hb6⟩)
              have hB6 := hdr.trans (hb6.mono hdr.size)
              refine tailZ_cons (same_below hB6) ?_
              have N5 := Lib.hid (show NIntV w5 (wr.drew.heap.size ≤ ·) (.agg #[.bool (decide (f k j * g j t < 0)), .slice A5 (wl (f k j * g j t).natAbs) c5]) (f k j * g j t) from ⟨A5, c5, rfl, hv5⟩)
              clear hv5
              go_wp2_with (go_at_call 66; ((with_reducible refine (HAD.out _ _ _ hB6 N5.out).mono ?_)); rintro e w4 ⟨v4, rfl, ⟨A9, c9, rfl, hv4⟩, hb7⟩)
              have hB4 := hB6.trans (hb7.mono hB6.size)
              have t0 := (hB4.cell (p := ⟨P, 0, none⟩) hPr).trans p0
              have t1 := (hB4.cell (p := ⟨P, 1, none⟩) hPr).trans p1
              have zz0 := (hB4.frozen (p := ⟨P, 0, none⟩) hPr).trans z0
              have zz1 := (hB4.frozen (p := ⟨P, 1, none⟩) hPr).trans z1
              refine tailZ_cons (same_below hB4) ?_
              go_wp2_with fail
              refine tailZ_nil ?_
              go_wp2_with fail
              go_roundw
              case rel =>
                have hn4 : NIntV w4 (P < ·) (.agg #[.bool _, .slice A9 _ c9]) (sm (fun j => f k j * g j t) j + f k j * g j t) := ⟨A9, c9, rfl, hv4.mono fun b hb _ => by have h1 : w5.heap.size ≤ b := hb; have := hB6.size; omega⟩
                have hset := IVar.put (HPP.out.below' hB4) hn4
                exact ⟨j + 1, by omega, by go_num, hset, ((hfr.trans (Fr.of_below' hB4)).trans (Fr.setCell (O := (· = P)) (p := ⟨P, 0, none⟩) (fun _ => rfl) _)).trans (Fr.setCell (O := (· = P)) (p := ⟨P, 1, none⟩) (fun _ => rfl) _)⟩
              case measure => simp [intOf]; omega
            · obtain rfl : j = n' := by omega
              have hoj2 := hoj.below hbj
              have hyy : NIntV wr (fun b => wr0.heap.size ≤ b ∧ some b ≠ Value.ownBlock (.slice A3 t c3)) (.agg #[.bool neg, .slice B6 m6 q6]) (mm j f g k t) := hnv.d fun b hb => ⟨by have h1 : P < b := hb; have := hbt.size; omega, hoj.fresh (by have h1 : P < b := hb; omega)⟩
              clear hoj hnv
              go_wp2_with (at_builtin; go_must (refine wpList_pushJ wr (by rfl) _ _ _ _ (by rfl) wr0.heap.size Tryd.underlying41 Tryd.underlying41 _ (li (mm j f g k) t) t (li_length _ _) (by rfl) hoj2 neg B6 m6 q6 (mm j f g k t) (by rfl) hyy (by omega) (Nat.le_trans hbt.size hbj.size) ?_); intro A5 c5 w5 hoj5 hg5 hb5)
              go_roundw
              case rel => exact ⟨t + 1, by omega, by go_num, by rw [li_succ]; exact hoj5, (hbt.trans (hbj.mono hbt.size)).trans hb5⟩
              case measure => simp [intOf]; omega
        · obtain rfl : t = n' := by omega
          have hown2 := hown.below hbt
          have hrow2 := hown.row hbr.size (Nat.le_refl _) hoj.pv
          clear hown hoj
          go_wp2_with (at_builtin; (refine wpList_pushL (R := PvD) (T := 41) wr (by rfl) _ _ 50 50 (.slice none 0 0) 24 (by rfl) Tryd.underlying50 Tryd.underlying50 info_Ints (by rfl) (by omega) w.heap.size _ _ k (by simp) (by rfl) hown2 _ (li (mm t f g k) t) hrow2 (by rfl) (by omega) (Nat.le_trans hbr.size hbt.size) ?_); intro A9 c9 w9 hown9 hg9 hb9)
          go_roundw
          case rel => exact ⟨k + 1, by omega, by go_num, by rw [rows_succ]; exact hown9, (hbr.trans (hbt.mono hbr.size)).trans hb9⟩
          case measure => simp [intOf]; omega
    · obtain rfl : k = n' := by omega
      have hrw := hown.rows
      go_wp2_with fail
      go_ret
      exact ⟨_, rfl, hrw, hbr⟩
end Go.Proofs.YtpkjdnplmgfbbaaDoor
