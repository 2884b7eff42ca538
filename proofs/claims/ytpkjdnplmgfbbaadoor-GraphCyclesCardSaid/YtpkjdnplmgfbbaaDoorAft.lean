/- (matrix).after: the matrix of the graph times a matrix. -/
import Derived.Test.YtpkjdnplmgfbbaaDoorMto
import Derived.Test.YtpkjdnplmgfbbaaDoorZt
import Derived.Test.YtpkjdnplmgfbbaaDoorRtp
import Derived.Test.YtpkjdnplmgfbbaaDoorLawC
namespace Go.Proofs.YtpkjdnplmgfbbaaDoor
open Go.RowKit

/-- The sum of some rows. -/
def la (f : Nat → Nat → Int) (l : List Nat) (k : Nat) : Int := ls (fun v => f v k) l
theorem la_full {E : List (List Nat)} (hE : Valid E) (f : Nat → Nat → Int) {i : Nat} (hi : i < E.length) (k : Nat) : la f (gr E i) k = mm E.length (ma E) f i k := by
  unfold la mm ma
  exact ls_sm (fun v => f v k) (gr E i) (hE i hi)
theorem la_take {f : Nat → Nat → Int} {l : List Nat} {t x : Nat} (hx : l[t]? = some x) (k : Nat) : la f (l.take (t + 1)) k = la f (l.take t) k + f x k := by
  unfold la
  rw [List.take_add_one, hx]
  exact ls_snoc _ _ _
theorem la_le {f : Nat → Nat → Int} {n B k : Nat} (hf : ∀ i, i < n → (f i k).natAbs ≤ B) : ∀ (l : List Nat), (∀ x ∈ l, x < n) → (la f l k).natAbs ≤ l.length * B
  | [], _ => by simp [la, ls]
  | v :: r, h => by
    have ih := la_le hf r fun x hx => h x (by simp [hx])
    have h1 := hf v (h v (by simp))
    have e : la f (v :: r) k = f v k + la f r k := rfl
    rw [e, List.length_cons, Nat.add_mul]
    omega
theorem li_zero' (n : Nat) : List.replicate n (0 : Int) = li (la (fun _ _ => 0) []) n := by rw [li_zero]; rfl

set_option maxHeartbeats 4000000 in
set_option maxRecDepth 100000 in
theorem after_any {w : World} {v : Value} {names : List ByteArray} {E : List (List Nat)} (h : GrV w v names (toI E)) (hk : Ok names E) {D0 : Nat → Prop} {A : Option Addr} {c : Nat} {f : Nat → Nat → Int} {M : Nat} (hm : RowsD PvD w D0 (.slice A E.length c) (ml f E.length)) (hf : ∀ i k, i < E.length → k < E.length → (f i k).natAbs ≤ 2 ^ M) (hM : M ≤ 1000000) :
    Calls Tryd.prog 88 #[.slice A E.length c, v] w fun e w' => ∃ u gs, e = .returned u ∧ MtO w' w.heap.size (· ∈ gs) u E.length gs (ml (mm E.length (ma E) f) E.length) ∧ Below w.heap.size w w' := by
  have hsm := hk.small
  obtain ⟨A1, c1, A', c', rfl, hs, hg⟩ := h
  rw [toI_length] at *
  have hr := hg.room
  have hr1 := hm.room.2
  unfold maxLen at hr hr1
  obtain ⟨W, G, hW, hG, hbW, c0, c1', hGl, hwG⟩ := gbox w (.slice A1 names.length c1) (.slice A' E.length c')
  have HW := Lib.hid hW
  have HG := Lib.hid hG
  have HK := Lib.hid hk
  have HF := Lib.hid hf
  have HM := Lib.hid hm
  have HGR := Lib.hid hg
  clear hW hG c0 hs hk hf hm hg
  go_enter Tryd.func88, Tryd.ntmps88
  go_wp2_with fail
  rw [← HW.out, ← HG.out]
  go_loopw [5, 16] (fun o i wr => ∃ (k : Nat) (gs : List Nat), k ≤ E.length ∧ i = .int .i64 (k : Nat) ∧ MtO wr w.heap.size (· ∈ gs) o E.length gs ((List.range k).map fun i => li (mm E.length (ma E) f i) E.length) ∧ Below w.heap.size w wr) (fun _ i _ => E.length - (intOf i).toNat)
  case atStart => exact ⟨0, [], Nat.zero_le _, rfl, MtO.nil _ _ _ _, hbW⟩
  case round =>
    clear hbW c1' hGl
    obtain ⟨k, gs, hkl, rfl, hmt, hbr⟩ := hrel
    obtain ⟨A4, c4, rfl, hf1, hf2⟩ := hmt.slice (q := k) (by simp)
    unfold maxLen at hf2
    by_cases hlt : k < E.length
    · obtain ⟨b, off, A2, c2, rfl, hrow', hr3, hr4, hil⟩ := HGR.out.row hlt
      have hrow := (hbr.cell (cell_some_lt hrow')).trans hrow'
      have hki : (k : Int) < (E.length : Int) := by omega
      have hk0 : (0 : Int) ≤ (k : Int) := by omega
      have HIL := Lib.hid hil
      have hgl : ∀ g ∈ gs, g < wr.heap.size := fun g hg => by
        obtain ⟨j, hj⟩ := List.getElem?_of_mem hg
        obtain ⟨l, hl⟩ : ∃ l, ((List.range k).map fun i => li (mm E.length (ma E) f i) E.length)[j]? = some l := ⟨_, List.getElem?_eq_getElem (by have := lt_of_some hj; have h2 := hmt.2.1; omega)⟩
        exact (hmt.2.2.2 j g l hj hl).2.2.2.2.lt
      have HGL := Lib.hid hgl
      obtain ⟨S, hS⟩ : ∃ S, S = wr.heap.size := ⟨_, rfl⟩
      have hSb : w.heap.size ≤ S := by rw [hS]; exact hbr.size
      have hmt1 := hmt.more (X' := (· ∈ gs ++ [S])) (fun b hb => by
        rcases List.mem_append.1 hb with h1 | h1
        · exact .inl h1
        · rw [List.mem_singleton] at h1; exact .inr (by rw [h1, hS]; exact Nat.le_refl _)) (fun g hg => List.mem_append_left _ hg)
      have hSv : some S ≠ (Value.slice A4 k c4).ownBlock := fun e => by have := (hmt.1.lt S e.symm).2; omega
      have HSV := Lib.hid (And.intro hSv (show S ∉ gs from fun hg => by have := hgl S hg; omega))
      have HMT := Lib.hid hmt1
      have HS := Lib.hid hS
      clear hrow' hil hgl hmt hmt1 hSv hS
      go_wp2_with (refine wpList_make_arr _ rfl _ _ 41 rfl 46 (.agg #[.bool false, .slice none 0 0]) 2 32 Tryd.underlying41 info_Int _ _ _ _ E.length rfl rfl rfl rfl (by omega) (by omega) ?_; rw [← HS.out]; intro w1 har hb1 hs1; have hrx := RwX.made (D := DgM w.heap.size (· ∈ gs ++ [S]) (.slice A4 k c4)) har; have HRX := Lib.hid hrx; have hmt2 := HMT.out.below (by rw [← HS.out]; exact hb1); have hbw1 := hbr.trans (hb1.mono hSb); clear har hrx hs1)
      have HMT2 := Lib.hid hmt2
      clear hmt2 HMT hrow hb1 hbr
      go_loopw [25] (fun i wr => ∃ t : Nat, t ≤ (gr E k).length ∧ i = .int .i64 (t : Nat) ∧ RwX wr (DgM w.heap.size (· ∈ gs ++ [S]) (.slice A4 k c4)) S (li (la f ((gr E k).take t)) E.length) ∧ Fr (· = S) w1 wr) (fun i _ => (gr E k).length - (intOf i).toNat)
      case atStart => exact ⟨0, Nat.zero_le _, rfl, HRX.out.cast (by rw [li_zero]; rfl), Fr.refl _ _⟩
      case round =>
        obtain ⟨t, htl, rfl, hrx, hfr⟩ := hrel
        have hbr : Below w.heap.size w wr := hbw1.trans (hfr.below hbw1.size (fun b hb => by rw [hb]; exact hSb))
        by_cases htt : t < (gr E k).length
        · obtain ⟨x, hx⟩ : ∃ x, (gr E k)[t]? = some x := ⟨_, List.getElem?_eq_getElem htt⟩
          have hxl : x < E.length := HK.out.valid k hlt x (List.mem_of_getElem? hx)
          obtain ⟨b3, off3, rfl, hcx⟩ := (HIL.out.below hbr).num hx
          obtain ⟨b5, off5, u5, rfl, hu5, A5, c5, rfl, hpl⟩ := HM.out.at (i := x) (ml_get hxl)
          have hl5 : (li (f x) E.length).length = E.length := li_length _ _
          rw [hl5] at hu5 hpl
          have hu := (hbr.cell (cell_some_lt hu5)).trans hu5
          have hxi : (x : Int) < (E.length : Int) := by omega
          have hx0 : (0 : Int) ≤ (x : Int) := by omega
          have hti : (t : Int) < ((gr E k).length : Int) := by omega
          have ht0 : (0 : Int) ≤ (t : Int) := by omega
          have hp1 := hpl.cap
          have hp2 := hpl.room
          unfold maxLen at hp2
          have HPL := Lib.hid hpl
          have HX := Lib.hid hx
          clear hu5 hpl hl5 hx
          go_wp2_with fail
          clear hcx hu
          go_loopw [34] (fun i wr => ∃ q : Nat, q ≤ E.length ∧ i = .int .i64 (q : Nat) ∧ RwX wr (DgM w.heap.size (· ∈ gs ++ [S]) (.slice A4 k c4)) S (li (fun j => la f ((gr E k).take t) j + if j < q then f x j else 0) E.length) ∧ Fr (· = S) w1 wr) (fun i _ => E.length - (intOf i).toNat)
          case atStart => exact ⟨0, Nat.zero_le _, rfl, hrx.cast (li_ext fun j _ => by rw [if_neg (by omega), Int.add_zero]), hfr⟩
          case round =>
            clear hrx hfr hbr
            obtain ⟨q, hql, rfl, hrx, hfr⟩ := hrel
            have hbr : Below w.heap.size w wr := hbw1.trans (hfr.below hbw1.size (fun b hb => by rw [hb]; exact hSb))
            by_cases hqt : q < E.length
            · obtain ⟨b6, off6, rfl, _, hcell⟩ := HPL.out.cells (by omega)
              obtain ⟨neg, B, m, r, e0', e1', e2⟩ := hcell q hqt
              rw [li_gz hqt] at e2
              have e0 := (hbr.cell (cell_some_lt e0')).trans e0'
              have e1 := (hbr.cell (cell_some_lt e1')).trans e1'
              have e3 := NIntV.below e2 hbr
              have hqi : (q : Int) < (E.length : Int) := by omega
              have hq0 : (0 : Int) ≤ (q : Int) := by omega
              obtain ⟨W2, N, hW2, hN⟩ : ∃ W2 N, W2 = wr.alloc (.cells #[.bool neg, .slice B m r] 46) ∧ N = wr.heap.size := ⟨_, _, rfl, rfl⟩
              have hb2 : Below wr.heap.size wr W2 := by rw [hW2]; exact (Below.refl _ _).alloc (Nat.le_refl _) _
              have x0 : W2.cell? ⟨N, 0, none⟩ = some (.bool neg) := by rw [hW2, hN]; go_simp
              have x1 : W2.cell? ⟨N, 1, none⟩ = some (.slice B m r) := by rw [hW2, hN]; go_simp
              have hrx2 := hrx.below hb2
              have hfr2 : Fr (· = S) w1 W2 := hfr.over (hb2.mono hfr.size)
              have hn2 := e3.below hb2
              have HW2 := Lib.hid hW2
              have HN := Lib.hid hN
              clear hcell e0' e1' e2 hW2 hN hrx hfr hb2 e3
              go_upto_region 12 with (fail)
              rw [← HW2.out, ← HN.out]
              clear HW2 HN e0 e1 hbr
              generalize W2 = w2 at *
              obtain ⟨neg3, B3, m3, q3, o0, o1, o2⟩ := hrx2.cells (j := q) (by rw [li_length]; exact hqt)
              rw [li_gz hqt, if_neg (by omega), Int.add_zero] at o2
              have z0 := hrx2.frozen (q * 2)
              have z1 := hrx2.frozen (q * 2 + 1)
              have hSr : S < w2.heap.size := hrx2.lt
              have hNr : N < w2.heap.size := cell_some_lt x0
              have h1 := la_le (f := f) (n := E.length) (B := 2 ^ M) (k := q) (fun i hi => HF.out i q hi hqt) ((gr E k).take t) (fun y hy => HK.out.valid k hlt y (List.mem_of_mem_take hy))
              have hwa : wl (la f ((gr E k).take t) q).natAbs ≤ 1000000000000 := by
                have h2 : (la f ((gr E k).take t) q).natAbs ≤ 2 ^ (M + 9) := by
                  refine Nat.le_trans h1 ?_
                  rw [Nat.pow_add, Nat.mul_comm]
                  refine Nat.mul_le_mul_left _ ?_
                  rw [List.length_take]
                  have := HK.out.deg k
                  omega
                have := wl_pow h2
                omega
              have hwf : wl (f x q).natAbs ≤ 1000000000000 := by have := wl_pow (HF.out x q hxl hqt); omega
              have HA := Lib.hid (fun w' (hb : Below w2.heap.size w2 w') => Add_any (o2.below hb).int (hn2.below hb).int hwa hwf)
              have HRX2 := Lib.hid hrx2
              have hnd : ∀ b, w2.drew.heap.size ≤ b → DgM w.heap.size (· ∈ gs ++ [S]) (.slice A4 k c4) b := fun b hb => by
                have hb' : w2.heap.size ≤ b := hb
                refine ⟨by omega, fun hg => ?_, fun e => ?_⟩
                · rcases List.mem_append.1 hg with h1 | h1
                  · have := HGL.out b h1; have := HS.out; omega
                  · rw [List.mem_singleton] at h1; omega
                · have := (HMT2.out.1.lt b e.symm).2
                  have := hfr2.size
                  omega
              have HND := Lib.hid hnd
              clear hnd
              have hs0 := same_drew w2
              have hdr : Below w2.heap.size w2 w2.drew := (Below.refl _ _).drew
              clear h1 hwa hwf hrx2 o2 hn2
              refine wp_region_idx 9 [(0, true), (1, true), (2, true), (3, true), (4, true), (5, true), (6, true), (7, false), (8, false), (9, false)] (by kernel_rfl) (by rfl) (by kernel_rfl) (by kernel_rfl) (by kernel_rfl) (fun _ _ _ _ _ h => h) (Same w2) ?_
              change goI _ _ _ _ _ _ w2.drew
              iterate 7
                refine goI_read hs0 (by rfl) ?_ (by rfl) (fun wz hSw => ?_) ?_
                rotate_left
                · (try obtain ⟨hs1, hs2⟩ := hSw)
                  go_simp
                  try with_reducible rfl
                simp only [Act.put, List.setIfInBounds_toArray]
              refine goI_step hs0 (by rfl) ?_
              go_wp2_with (go_at_call 62; ((with_reducible refine (HA.out _ hdr).mono ?_)); rintro e w4 ⟨v4, rfl, ⟨A6, c6, rfl, hv4⟩, hb4⟩)
              have hB4 := hdr.trans (hb4.mono hdr.size)
              have t0 := (hB4.cell (p := ⟨S, q * 2, none⟩) hSr).trans o0
              have t1 := (hB4.cell (p := ⟨S, q * 2 + 1, none⟩) hSr).trans o1
              have zz0 := (hB4.frozen (p := ⟨S, q * 2, none⟩) hSr).trans z0
              have zz1 := (hB4.frozen (p := ⟨S, q * 2 + 1, none⟩) hSr).trans z1
              refine goI_step (same_below hB4) (by rfl) ?_
              go_wp2_with fail
              refine goI_step (same_below hB4) (by rfl) ?_
              go_wp2_with fail
              refine goI_nil ?_
              go_wp2_with fail
              go_roundw
              case rel =>
                have hn4 : NIntV w4 (DgM w.heap.size (· ∈ gs ++ [S]) (.slice A4 k c4)) (.agg #[.bool _, .slice A6 _ c6]) (la f ((gr E k).take t) q + f x q) := ⟨A6, c6, rfl, hv4.mono fun b hb _ => HND.out b hb⟩
                have hset := (HRX2.out.below hB4).set (fun hd => hd.2.1 (List.mem_append_right _ (by simp))) (i := q) (by rw [li_length]; exact hqt) hn4
                refine ⟨q + 1, by omega, by go_num, hset.cast ?_, ?_⟩
                · rw [li_set hqt]
                  refine li_ext fun j _ => ?_
                  by_cases hj : j = q
                  · subst hj; rw [if_pos rfl, if_pos (by omega)]
                  · rw [if_neg hj]
                    by_cases h1 : j < q
                    · rw [if_pos h1, if_pos (by omega)]
                    · rw [if_neg h1, if_neg (by omega)]
                · exact ((hfr2.trans (Fr.of_below' hB4)).trans (Fr.setCell (O := (· = S)) (p := ⟨S, q * 2, none⟩) (fun _ => rfl) _)).trans (Fr.setCell (O := (· = S)) (p := ⟨S, q * 2 + 1, none⟩) (fun _ => rfl) _)
              case measure => simp [intOf]; omega
            · obtain rfl : q = E.length := by omega
              have hrx3 := hrx.cast (m := li (la f ((gr E k).take (t + 1))) E.length) (li_ext fun j hj => by rw [if_pos hj, la_take HX.out])
              clear hrx
              go_wp2_with fail
              go_roundw
              case rel => exact ⟨t + 1, by omega, by go_num, hrx3, hfr⟩
              case measure => simp [intOf]; omega
        · obtain rfl : t = (gr E k).length := by omega
          rw [List.take_length] at hrx
          have hrx3 := hrx.cast (m := li (mm E.length (ma E) f k) E.length) (li_ext fun j _ => la_full HK.out.valid f hlt j)
          have hmt3 : MtO wr w.heap.size (· ∈ gs ++ [S]) (.slice A4 k c4) E.length gs ((List.range k).map fun i => li (mm E.length (ma E) f i) E.length) := by
            refine HMT2.out.fr hfr (fun e => HSV.out.1 e) (fun hg => HSV.out.2 hg) (List.mem_append_right _ (by simp))
          clear hrx
          go_wp2_with (at_builtin; (refine wpList_pushM wr (by rfl) _ _ 111 111 (by rfl) Tryd.underlying111 Tryd.underlying111 w.heap.size _ k (by simp) (by rfl) hmt3 S _ (fun g' hg' e => HSV.out.2 (e ▸ hg')) hSb (List.mem_append_right _ (by simp)) HSV.out.1 (li_length _ _) hrx3 (by rfl) (by omega) hbr.size ?_); intro A9 c9 w9 hown9 hg9 hb9)
          go_roundw
          case rel => exact ⟨k + 1, gs ++ [S], by omega, by go_num, by rw [List.range_succ, List.map_append]; exact hown9, hbr.trans hb9⟩
          case measure => simp [intOf]; omega
    · obtain rfl : k = E.length := by omega
      go_wp2_with fail
      go_ret
      exact ⟨_, gs, rfl, hmt, hbr⟩
end Go.Proofs.YtpkjdnplmgfbbaaDoor
