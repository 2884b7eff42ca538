/- graph.stepped: the numbers of walks that are one step longer. -/
import Derived.Test.YtpkjdnplmgfbbaaDoorIar
import Derived.Test.YtpkjdnplmgfbbaaDoorRdm2
namespace Go.Proofs.YtpkjdnplmgfbbaaDoor
open Go.RowKit

/-- The first n values of f. -/
def lf (f : Nat → Nat) (n : Nat) : List Int := (List.range n).map fun i => (f i : Int)
theorem lf_length (f : Nat → Nat) (n : Nat) : (lf f n).length = n := by simp [lf]
theorem lf_get {f : Nat → Nat} {n i : Nat} (h : i < n) : gz (lf f n) i = (f i : Int) := by simp [gz, lf, List.getD, h]
theorem lf_ext {f g : Nat → Nat} {n : Nat} (h : ∀ i, i < n → f i = g i) : lf f n = lf g n := by
  unfold lf
  refine List.map_congr_left fun i hi => ?_
  rw [h i (List.mem_range.1 hi)]
theorem lf_set {f : Nat → Nat} {n i x : Nat} (hi : i < n) : (lf f n).set i (x : Int) = lf (fun j => if j = i then x else f j) n := by
  refine gz_ext (by simp [lf_length]) fun j hj => ?_
  rw [List.length_set, lf_length] at hj
  rw [gz_set (by rw [lf_length]; exact hi), lf_get hj, lf_get hj]
  by_cases h : i = j
  · subst h; simp
  · rw [if_neg h, if_neg (fun e => h e.symm)]
theorem lf_mem {f : Nat → Nat} {n : Nat} {x : Int} (h : x ∈ lf f n) : ∃ i, i < n ∧ x = (f i : Int) := by
  obtain ⟨i, hi, rfl⟩ := List.mem_map.1 h
  exact ⟨i, List.mem_range.1 hi, rfl⟩

/-- The sums in the midst of row i. -/
def po (E : List (List Nat)) (f : Nat → Nat) (i t v : Nat) : Nat := ps E f v i + f i * ((gr E i).take t).count v
theorem po_zero (E : List (List Nat)) (f : Nat → Nat) (i v : Nat) : po E f i 0 v = ps E f v i := by simp [po]
theorem po_full (E : List (List Nat)) (f : Nat → Nat) (i v : Nat) : po E f i (gr E i).length v = ps E f v (i + 1) := by simp [po, ps]
theorem po_succ {E : List (List Nat)} {f : Nat → Nat} {i t x : Nat} (hx : (gr E i)[t]? = some x) (v : Nat) : po E f i (t + 1) v = if v = x then po E f i t v + f i else po E f i t v := by
  unfold po
  rw [List.take_add_one, hx, List.count_append]
  by_cases h : v = x
  · subst h; simp [Nat.mul_add]; omega
  · rw [if_neg h]
    have : ([x] : List Nat).count v = 0 := List.count_eq_zero.2 (by simpa using h)
    simp [this]
theorem po_le {E : List (List Nat)} {f : Nat → Nat} {i t v B K : Nat} (hf : ∀ i, f i ≤ B) (hK : ∀ i, (gr E i).length ≤ K) : po E f i t v ≤ (i + 1) * (B * K) := by
  have h1 := ps_le (v := v) hf hK (i + 1)
  refine Nat.le_trans ?_ h1
  unfold po
  rw [ps]
  have h2 : ((gr E i).take t).count v ≤ (gr E i).count v := (List.take_sublist t (gr E i)).count_le v
  exact Nat.add_le_add_left (Nat.mul_le_mul_left _ h2) _
theorem wl_pow {x M : Nat} (h : x ≤ 2 ^ M) : wl x ≤ M + 1 := by
  refine dig_length_le (by omega) ?_
  have h1 : 2 ^ M ≤ 4294967296 ^ M := Nat.pow_le_pow_left (by omega) M
  have h2 : 4294967296 ^ M < 4294967296 ^ (M + 1) := Nat.pow_lt_pow_right (by omega) (by omega)
  omega

/-- What stepped leaves: an array of its own. -/
def IntsAt (w : World) (l : List Int) (w' : World) (v : Value) : Prop := ∃ S, w.heap.size ≤ S ∧ v = .slice (some ⟨S, 0, none⟩) l.length l.length ∧ IArr w' S l
theorem IArr.cast {w : World} {g : Nat} {l m : List Int} (h : IArr w g l) (e : l = m) : IArr w g m := e ▸ h

set_option maxHeartbeats 4000000 in
set_option maxRecDepth 100000 in
theorem stepped_any {w : World} {v : Value} {names : List ByteArray} {E : List (List Nat)} (h : GrV w v names (toI E)) (hk : Ok names E) {A : Option Addr} {c : Nat} {f : Nat → Nat} {M : Nat} (hl : Pl NI w (fun _ => True) A E.length c (lf f E.length)) (hf : ∀ i, f i ≤ 2 ^ M) (hM : M ≤ 1000000) :
    Calls Tryd.prog 104 #[v, .slice A E.length c] w (Gives w (IntsAt w (lf (fun v => ps E f v E.length) E.length))) := by
  have hsm := hk.small
  obtain ⟨A1, c1, A', c', rfl, hs, hg⟩ := h
  rw [toI_length] at *
  have hr := hg.room
  have hr1 := hl.room
  unfold maxLen at hr hr1
  have hr2 := hl.cap
  obtain ⟨W, G, hW, hG, hbW, c0, c1', hGl, hwG⟩ := gbox w (.slice A1 names.length c1) (.slice A' E.length c')
  replace hg := hg.below hbW
  replace hl := hl.below hbW
  have HW := Lib.hid hW
  have HG := Lib.hid hG
  have HK := Lib.hid hk
  have HF := Lib.hid hf
  clear hW hG c0 hs hk hf
  obtain ⟨S, hS⟩ : ∃ S, S = W.heap.size := ⟨_, rfl⟩
  have HS := Lib.hid hS
  have hSW : W.heap.size ≤ S := by omega
  have hGS : G < S := by omega
  clear hS
  go_enter Tryd.func104, Tryd.ntmps104
  go_wp2_with (refine wpList_make_arr _ rfl _ _ 41 rfl 46 (.agg #[.bool false, .slice none 0 0]) 2 32 Tryd.underlying41 info_Int _ _ _ _ E.length rfl rfl rfl rfl (by omega) (by omega) ?_; rw [← HW.out, ← HS.out]; intro w1 har hb1 hs1; have hna := IArr.made har; have HNA := Lib.hid hna; clear har hna hs1)
  rw [← HG.out]
  go_loopw [15] (fun i wr => ∃ k : Nat, k ≤ E.length ∧ i = .int .i64 (k : Nat) ∧ IArr wr S (lf (po E f k 0) E.length) ∧ Below S W wr) (fun i _ => E.length - (intOf i).toNat)
  case atStart => exact ⟨0, Nat.zero_le _, rfl, HNA.out.cast (by unfold lf; refine List.ext_getElem (by simp) fun i h1 h2 => by simp [po, ps]), hb1⟩
  case round =>
    clear HNA hb1 w1
    obtain ⟨k, hkl, rfl, hia, hbr⟩ := hrel
    have hbr' : Below W.heap.size W wr := by rw [← HS.out]; exact hbr
    by_cases hlt : k < E.length
    · obtain ⟨b, off, rfl, _, hcell⟩ := hl.cells (by omega)
      obtain ⟨neg, B, m, q, e0', e1', e2⟩ := hcell k hlt
      rw [lf_get hlt] at e2
      have e0 := ((bcell hbr').1 _ _ (cell_some_lt e0')).trans e0'
      have e1 := ((bcell hbr').1 _ _ (cell_some_lt e1')).trans e1'
      obtain ⟨b2, off2, A2, c2, rfl, hrow', hr3, hr4, hil⟩ := hg.row hlt
      have hrow := ((bcell hbr').1 _ _ (cell_some_lt hrow')).trans hrow'
      have d1 := ((bcell hbr').1 _ 1 hGl).trans c1'
      have hki : (k : Int) < (E.length : Int) := by omega
      have hbl := cell_some_lt e0
      have hGr : G < wr.heap.size := Nat.lt_of_lt_of_le hGl hbr'.size
      have hrl := cell_some_lt hrow
      have E2 := Lib.hid e2
      have HIL := Lib.hid hil
      clear hcell e0' e1' hrow' e2 hil
      go_wp2_with fail
      obtain ⟨W2, N, hW2, hN⟩ : ∃ W2 N, W2 = wr.alloc (.cells #[.bool neg, .slice B m q] 46) ∧ N = wr.heap.size := ⟨_, _, rfl, rfl⟩
      have x0 : W2.cell? ⟨N, 0, none⟩ = some (.bool neg) := by rw [hW2, hN]; go_simp
      have x1 : W2.cell? ⟨N, 1, none⟩ = some (.slice B m q) := by rw [hW2, hN]; go_simp
      have hia2 : IArr W2 S (lf (po E f k 0) E.length) := by rw [hW2]; exact hia.below ((Below.refl _ _).alloc (Nat.le_refl _) _)
      have hb2 : Below S W W2 := by rw [hW2]; exact hbr.alloc (by rw [HS.out]; exact hbr.size) _
      have hSN : S < N := by rw [hN]; exact hia.lt
      rw [← hW2, ← hN]
      clear hW2 hN hia hbr hbr' e0 e1 hrow d1 hbl hGr hrl
      go_loopw [26] (fun i wr => ∃ t : Nat, t ≤ (gr E k).length ∧ i = .int .i64 (t : Nat) ∧ IArr wr S (lf (po E f k t) E.length) ∧ Fr (· = S) W2 wr) (fun i _ => (gr E k).length - (intOf i).toNat)
      case atStart => exact ⟨0, Nat.zero_le _, rfl, hia2, Fr.refl _ _⟩
      case round =>
        clear hia2
        obtain ⟨t, htl, rfl, hia, hfr⟩ := hrel
        have hbr : Below S W wr := hb2.trans (hfr.below (by rw [HS.out]; exact hb2.size) (fun b hb => by rw [hb]; exact Nat.le_refl _))
        have hbr' : Below W.heap.size W wr := by rw [← HS.out]; exact hbr
        by_cases htt : t < (gr E k).length
        · obtain ⟨x, hx⟩ : ∃ x, (gr E k)[t]? = some x := ⟨_, List.getElem?_eq_getElem htt⟩
          have hxl : x < E.length := HK.out.valid k hlt x (List.mem_of_getElem? hx)
          obtain ⟨b3, off3, rfl, hcx⟩ := (HIL.out.below hbr').num hx
          obtain ⟨neg3, B3, m3, q3, o0, o1, o2⟩ := hia.cells (j := x) (by rw [lf_length]; exact hxl)
          rw [lf_get hxl] at o2
          have z0 := hia.frozen (x * 2)
          have z1 := hia.frozen (x * 2 + 1)
          have y0 := (hfr.cell (cell_some_lt x0) (show ¬ N = S by omega)).trans x0
          have y1 := (hfr.cell (cell_some_lt x1) (show ¬ N = S by omega)).trans x1
          have hwl : wl (po E f k t x) ≤ 2000000 := by
            have h1 := po_le (i := k) (t := t) (v := x) HF.out HK.out.deg
            have h2 : (k + 1) * (2 ^ M * 400) ≤ 2 ^ (M + 20) := by
              have h3 : (k + 1) * (2 ^ M * 400) = (k + 1) * 400 * 2 ^ M := by rw [Nat.mul_comm (2 ^ M) 400, Nat.mul_assoc]
              rw [h3, Nat.pow_add, Nat.mul_comm (2 ^ M)]
              exact Nat.mul_le_mul_right _ (by omega)
            have := wl_pow (Nat.le_trans h1 h2)
            omega
          have hwf : wl (f k) ≤ 2000000 := by have := wl_pow (HF.out k); omega
          have HA := Lib.hid (fun w' (hb : Below wr.heap.size wr w') => Add_any (o2.below hb).int ((NI.below E2.out (hbr'.trans (hb.mono hbr'.size)))).int (by rw [Int.natAbs_natCast]; omega) (by rw [Int.natAbs_natCast]; omega))
          have hSr : S < wr.heap.size := hia.lt
          have hxi : (x : Int) < (E.length : Int) := by omega
          have hx0 : (0 : Int) ≤ (x : Int) := by omega
          have et := po_succ (f := f) hx
          have ET := Lib.hid et
          have HIA := Lib.hid hia
          clear hx et hwl hwf hia o2
          have hdr : Below wr.heap.size wr wr.drew := (Below.refl _ _).drew
          go_wp2_with fail
          go_region_with (first
            | (go_at_call 62; ((with_reducible refine (HA.out _ hdr).mono ?_)); rintro e w4 ⟨v4, rfl, ⟨A4, c4, rfl, hv4⟩, hb4⟩; have hB4 := hdr.trans (hb4.mono hdr.size); have t0 := (hB4.cell (p := ⟨S, x * 2, none⟩) hSr).trans o0; have t1 := (hB4.cell (p := ⟨S, x * 2 + 1, none⟩) hSr).trans o1; have zz0 := (hB4.frozen (p := ⟨S, x * 2, none⟩) hSr).trans z0; have zz1 := (hB4.frozen (p := ⟨S, x * 2 + 1, none⟩) hSr).trans z1))
          all_goals
            go_wp2_with fail
            go_roundw
            case rel =>
              have hn4 : NIntV w4 (· ≠ S) (.agg #[.bool _, .slice A4 _ c4]) ((po E f k t x : Int) + (f k : Int)) := ⟨A4, c4, rfl, hv4.mono fun b hb _ => by have h1 : wr.heap.size ≤ b := hb; omega⟩
              have hset := (HIA.out.below hB4).set (i := x) (by rw [lf_length]; exact hxl) hn4
              refine ⟨t + 1, by omega, by go_num, hset.cast ?_, ?_⟩
              · rw [show (po E f k t x : Int) + (f k : Int) = ((po E f k t x + f k : Nat) : Int) by omega, lf_set hxl]
                refine lf_ext fun j _ => ?_
                rw [ET.out j]
                by_cases hj : j = x
                · subst hj; simp
                · simp [hj]
              · exact ((hfr.trans (Fr.of_below' hB4)).trans (Fr.setCell (O := (· = S)) (p := ⟨S, x * 2, none⟩) (fun _ => rfl) _)).trans (Fr.setCell (O := (· = S)) (p := ⟨S, x * 2 + 1, none⟩) (fun _ => rfl) _)
            case measure => simp [intOf]; omega
        · obtain rfl : t = (gr E k).length := by omega
          have hia3 : IArr wr S (lf (po E f (k + 1) 0) E.length) := hia.cast (lf_ext fun j _ => by rw [po_full, po_zero])
          clear hia
          go_wp2_with fail
          go_roundw
          case rel => exact ⟨k + 1, by omega, by go_num, hia3, hbr⟩
          case measure => simp [intOf]; omega
    · obtain rfl : k = E.length := by omega
      have hia3 : IArr wr S (lf (fun v => ps E f v E.length) E.length) := hia.cast (lf_ext fun j _ => by rw [po_zero])
      clear hia
      go_wp2_with fail
      go_ret
      exact ⟨_, rfl, ⟨S, Nat.le_trans hbW.size hSW, by rw [lf_length]; rfl, hia3⟩, hbW.trans (hbr.mono (by have := hbW.size; omega))⟩
end Go.Proofs.YtpkjdnplmgfbbaaDoor
