/- (matrix).less: a multiple of another matrix is taken away, in place. -/
import Derived.Test.YtpkjdnplmgfbbaaDoorAft
namespace Go.Proofs.YtpkjdnplmgfbbaaDoor
open Go.RowKit

theorem MtO.place {w : World} {base n q c : Nat} {X : Nat → Prop} {A : Option Addr} {gs : List Nat} {L : List (List Int)} (h : MtO w base X (.slice A q c) n gs L) {i : Nat} {l : List Int} (hl : L[i]? = some l) :
    ∃ B g, A = some ⟨B, 0, none⟩ ∧ B < w.heap.size ∧ w.cell? ⟨B, i, none⟩ = some (.slice (some ⟨g, 0, none⟩) n n) ∧ gs[i]? = some g ∧ g ≠ B ∧ l.length = n ∧ RwX w (DgM base X (.slice A q c)) g l := by
  obtain ⟨B, g, cap, e, h1, h2, h3, h4, h5, h6, h7, h8, h9⟩ := h.at hl
  injection e with e1 e2 e3
  exact ⟨B, g, e1, h2, h3, h4, h7, h8, h9⟩
theorem ml_set {f : Nat → Nat → Int} {n i k : Nat} {x : Int} (hi : i < n) (hk : k < n) : (ml f n).set i ((li (f i) n).set k x) = ml (fun a b => if a = i ∧ b = k then x else f a b) n := by
  refine List.ext_getElem? fun a => ?_
  rw [List.getElem?_set]
  by_cases e : i = a
  · subst e
    rw [if_pos rfl, if_pos (by rw [ml_length]; exact hi), ml_get hi, li_set hk]
    congr 1
    exact li_ext fun b _ => by
      by_cases hb : b = k
      · rw [if_pos hb, if_pos ⟨rfl, hb⟩]
      · rw [if_neg hb, if_neg (fun h => hb h.2)]
  · rw [if_neg e]
    by_cases ha : a < n
    · rw [ml_get ha, ml_get ha]
      congr 1
      exact li_ext fun b _ => by rw [if_neg (fun h => e h.1.symm)]
    · rw [List.getElem?_eq_none (by rw [ml_length]; omega), List.getElem?_eq_none (by rw [ml_length]; omega)]

/-- The first rows, and the first numbers of the next one, are done. -/
def lsm (f g : Nat → Nat → Int) (y : Int) (k t i j : Nat) : Int := if i < k ∨ (i = k ∧ j < t) then f i j - y * g i j else f i j
theorem lsm_next {f g : Nat → Nat → Int} {y : Int} {n k t : Nat} (hk : k < n) (ht : t < n) : (ml (lsm f g y k t) n).set k ((li (lsm f g y k t k) n).set t (f k t - y * g k t)) = ml (lsm f g y k (t + 1)) n := by
  rw [ml_set hk ht]
  refine ml_ext fun a b _ _ => ?_
  unfold lsm
  by_cases h : a = k ∧ b = t
  · obtain ⟨rfl, rfl⟩ := h
    rw [if_pos ⟨rfl, rfl⟩, if_pos (.inr ⟨rfl, by omega⟩)]
  · rw [if_neg h]
    by_cases h2 : a < k ∨ (a = k ∧ b < t)
    · rw [if_pos h2, if_pos (by omega)]
    · rw [if_neg h2, if_neg (by omega)]
theorem lsm_row {f g : Nat → Nat → Int} {y : Int} {n k : Nat} : ml (lsm f g y k n) n = ml (lsm f g y (k + 1) 0) n := ml_ext fun a b _ hb => by
  unfold lsm
  by_cases h : a < k ∨ (a = k ∧ b < n)
  · rw [if_pos h, if_pos (by omega)]
  · rw [if_neg h, if_neg (by omega)]
theorem lsm_zero {f g : Nat → Nat → Int} {y : Int} {n : Nat} : ml f n = ml (lsm f g y 0 0) n := ml_ext fun a b _ _ => by unfold lsm; rw [if_neg (by omega)]
theorem lsm_full {f g : Nat → Nat → Int} {y : Int} {n : Nat} : ml (lsm f g y n 0) n = ml (fun i k => f i k - y * g i k) n := ml_ext fun a b ha _ => by unfold lsm; rw [if_pos (.inl ha)]
theorem lsm_at {f g : Nat → Nat → Int} {y : Int} {k t : Nat} : lsm f g y k t k t = f k t := by unfold lsm; rw [if_neg (by omega)]

set_option maxHeartbeats 4000000 in
set_option maxRecDepth 100000 in
theorem less_any {w : World} {base n : Nat} {v : Value} {gs : List Nat} {f g : Nat → Nat → Int} (h : MtO w base (· ∈ gs) v n gs (ml f n)) {D0 : Nat → Prop} {A : Option Addr} {c M : Nat} (hm : RowsD PvD w D0 (.slice A n c) (ml g n)) (hD0 : ∀ b, D0 b → b < base) (hb0 : base ≤ w.heap.size)
    (hf : ∀ i k, i < n → k < n → (f i k).natAbs ≤ 2 ^ M) (hg : ∀ i k, i < n → k < n → (g i k).natAbs ≤ 2 ^ M) (hM : M ≤ 1000000) (hn : n ≤ 2500) (y : Int) (hy : y.natAbs ≤ 1024) :
    Calls Tryd.prog 89 #[v, .int .i64 y, .slice A n c] w fun e w' => e = .returned v ∧ MtO w' base (· ∈ gs) v n gs (ml (fun i k => f i k - y * g i k) n) ∧ Fr (· ∈ gs) w w' := by
  obtain ⟨A5, c5, rfl, hc1, hc2⟩ := h.slice (q := n) (ml_length _ _)
  have hr1 := hm.room.2
  unfold maxLen at hc2 hr1
  have h' : MtO w base (· ∈ gs) (.slice A5 n c5) n gs (ml (lsm f g y 0 0) n) := h.cast lsm_zero
  have hdb : ∀ b, D0 b → b < w.heap.size → b ∉ gs := fun b hb _ hg => by
    obtain ⟨j, hj⟩ := List.getElem?_of_mem hg
    obtain ⟨l, hl⟩ : ∃ l, (ml f n)[j]? = some l := ⟨_, List.getElem?_eq_getElem (by have := lt_of_some hj; have h2 := h.2.1; omega)⟩
    have h1 := (h.2.2.2 j b l hj hl).1
    have h2 := hD0 b hb
    omega
  have hgl : ∀ g ∈ gs, g < w.heap.size := fun b hg => by
    obtain ⟨j, hj⟩ := List.getElem?_of_mem hg
    obtain ⟨l, hl⟩ : ∃ l, (ml f n)[j]? = some l := ⟨_, List.getElem?_eq_getElem (by have := lt_of_some hj; have h2 := h.2.1; omega)⟩
    exact (h.2.2.2 j b l hj hl).2.2.2.2.lt
  have HDB := Lib.hid hdb
  have HGL := Lib.hid hgl
  have HOB := Lib.hid (fun b e => (h.1.lt b e).2)
  have HF := Lib.hid hf
  have HG := Lib.hid hg
  have HM := Lib.hid hm
  clear h hf hg hm hD0 hdb hgl
  go_enter Tryd.func89, Tryd.ntmps89
  go_wp2_with fail
  go_loopw [12] (fun i wr => ∃ (k : Nat), k ≤ n ∧ i = .int .i64 (k : Nat) ∧ MtO wr base (· ∈ gs) (.slice A5 n c5) n gs (ml (lsm f g y k 0) n) ∧ Fr (· ∈ gs) w wr) (fun i _ => n - (intOf i).toNat)
  case atStart => exact ⟨0, Nat.zero_le _, rfl, h', Fr.refl _ _⟩
  case round =>
    clear h'
    obtain ⟨k, hkl, rfl, hmt, hfr⟩ := hrel
    by_cases hlt : k < n
    · obtain ⟨B, r, rfl, hBl, hrow, hgr, hrB, _, hrx⟩ := hmt.place (i := k) (ml_get hlt)
      have hki : (k : Int) < (n : Int) := by omega
      have hk0 : (0 : Int) ≤ (k : Int) := by omega
      have HGR := Lib.hid hgr
      clear hgr hrx hBl hrB
      go_wp2_with fail
      clear hrow
      go_loopw [19] (fun i wr => ∃ (t : Nat), t ≤ n ∧ i = .int .i64 (t : Nat) ∧ MtO wr base (· ∈ gs) (.slice (some ⟨B, 0, none⟩) n c5) n gs (ml (lsm f g y k t) n) ∧ Fr (· ∈ gs) w wr) (fun i _ => n - (intOf i).toNat)
      case atStart => exact ⟨0, Nat.zero_le _, rfl, hmt, hfr⟩
      case round =>
        clear hmt hfr
        obtain ⟨t, htl, rfl, hmt, hfr⟩ := hrel
        by_cases htt : t < n
        · have hti : (t : Int) < (n : Int) := by omega
          have ht0 : (0 : Int) ≤ (t : Int) := by omega
          obtain ⟨B', r', eB, hBl, hrow, hgr, hrB, _, hrx⟩ := hmt.place (i := k) (ml_get hlt)
          rw [HGR.out] at hgr
          injection hgr with hgr
          subst hgr
          injection eB with eB
          injection eB with eB
          subst eB
          obtain ⟨neg3, B3, m3, q3, o0, o1, o2⟩ := hrx.cells (j := t) (by rw [li_length]; exact htt)
          rw [li_gz htt, lsm_at] at o2
          have z0 := hrx.frozen (t * 2)
          have z1 := hrx.frozen (t * 2 + 1)
          have hrl := hrx.lt
          obtain ⟨b7, off7, u7, rfl, hu7, A7, c7, rfl, hpl⟩ := (HM.out.keep (w' := wr) fun b hb hl => hfr.block b hl (HDB.out b hb hl)).at (i := k) (ml_get hlt)
          have hl7 : (li (g k) n).length = n := li_length _ _
          rw [hl7] at hu7 hpl
          obtain ⟨b8, off8, rfl, _, hcell⟩ := hpl.cells (by omega)
          have hp1 := hpl.cap
          have hp2 := hpl.room
          unfold maxLen at hp2
          obtain ⟨neg, B8, m, r8, e0, e1, e2⟩ := hcell t htt
          rw [li_gz htt] at e2
          have hb7l := cell_some_lt hu7
          have hb8l := cell_some_lt e0
          have hwf : wl (f k t).natAbs ≤ 1000000000000 := by have := wl_pow (HF.out k t hlt htt); omega
          have hwg : wl (g k t).natAbs ≤ 1000000000000 := by have := wl_pow (HG.out k t hlt htt); omega
          have hwy : wl y.natAbs ≤ 1000000000000 := by have := wl_pow (x := y.natAbs) (M := 10) hy; omega
          have hwp : wl (y * g k t).natAbs ≤ 1000000000000 := by
            have h1 : (y * g k t).natAbs ≤ 2 ^ (10 + M) := by
              rw [Int.natAbs_mul, Nat.pow_add]
              exact Nat.mul_le_mul hy (HG.out k t hlt htt)
            have := wl_pow h1
            omega
          have HMU := Lib.hid (fun w' (hb : Below wr.heap.size wr w') v0 D1 (h0 : NIntV w' D1 v0 y) => Mul_any h0.int (e2.below hb).int hwy hwg)
          have HSU := Lib.hid (fun w' (hb : Below wr.heap.size wr w') v0 D1 (h0 : NIntV w' D1 v0 (y * g k t)) => Sub_any (o2.below hb).int h0.int hwf hwp)
          have HMT := Lib.hid hmt
          have hs0 := same_drew wr
          have hdr : Below wr.heap.size wr wr.drew := (Below.refl _ _).drew
          clear hpl hl7 hcell e2 o2 hrx hwf hwg hwy hwp hmt
          go_wp2_with fail
          refine wp_region_idx 18 [(0, true), (1, true), (2, true), (3, true), (4, true), (5, true), (6, true), (8, true), (9, true), (10, true), (11, true), (12, true), (13, true), (14, true), (7, false), (15, false), (16, false), (17, false), (18, false)] (by kernel_rfl) (by rfl) (by kernel_rfl) (by kernel_rfl) (by kernel_rfl) (fun _ _ _ _ _ h => h) (Same wr) ?_
          change goI _ _ _ _ _ _ wr.drew
          iterate 14
            refine goI_read hs0 (by rfl) ?_ (by rfl) (fun wz hSw => ?_) ?_
            rotate_left
            · (try obtain ⟨hs1, hs2⟩ := hSw)
              go_simp
              try with_reducible rfl
            simp only [Act.put, List.setIfInBounds_toArray]
          refine goI_step hs0 (by rfl) ?_
          go_wp2_with (go_at_call 42; refine (Of_any y _ (by omega) (by omega)).mono ?_; rintro e w4 ⟨v4, rfl, hn4, hb4⟩)
          have hB4 := hdr.trans (hb4.mono hdr.size)
          refine goI_step (same_below hB4) (by rfl) ?_
          go_wp2_with (go_at_call 121; refine (HMU.out w4 hB4 _ _ hn4).mono ?_; rintro e w5 ⟨v5, rfl, hn5, hb5⟩)
          have hB5 := hB4.trans (hb5.mono hB4.size)
          refine goI_step (same_below hB5) (by rfl) ?_
          go_wp2_with (go_at_call 85; refine (HSU.out w5 hB5 _ _ hn5).mono ?_; rintro e w6 ⟨v6, rfl, ⟨A6, c6, rfl, hv6⟩, hb6⟩)
          have hB6 := hB5.trans (hb6.mono hB5.size)
          have t0 := (hB6.cell (p := ⟨r, t * 2, none⟩) hrl).trans o0
          have t1 := (hB6.cell (p := ⟨r, t * 2 + 1, none⟩) hrl).trans o1
          have zz0 := (hB6.frozen (p := ⟨r, t * 2, none⟩) hrl).trans z0
          have zz1 := (hB6.frozen (p := ⟨r, t * 2 + 1, none⟩) hrl).trans z1
          refine goI_step (same_below hB6) (by rfl) ?_
          go_wp2_with fail
          refine goI_step (same_below hB6) (by rfl) ?_
          go_wp2_with fail
          refine goI_nil ?_
          go_wp2_with fail
          go_roundw
          case rel =>
            have hn6 : NIntV w6 (DgM base (· ∈ gs) (.slice (some ⟨B, 0, none⟩) n c5)) (.agg #[.bool _, .slice A6 _ c6]) (f k t - y * g k t) := ⟨A6, c6, rfl, hv6.mono fun b hb _ => by
              have h1 : w5.heap.size ≤ b := hb
              have h2 := hB5.size
              have h3 := hfr.size
              refine ⟨by omega, fun hg => ?_, fun e => ?_⟩
              · have := HGL.out b hg; omega
              · have := HOB.out b e.symm; omega⟩
            have hset := (HMT.out.below hB6).set HGR.out (ml_get hlt) htt hn6
            rw [lsm_next hlt htt] at hset
            exact ⟨t + 1, by omega, by go_num, hset, ((hfr.trans (Fr.of_below' hB6)).trans (Fr.setCell (O := (· ∈ gs)) (p := ⟨r, t * 2, none⟩) (fun _ => List.mem_of_getElem? HGR.out) _)).trans (Fr.setCell (O := (· ∈ gs)) (p := ⟨r, t * 2 + 1, none⟩) (fun _ => List.mem_of_getElem? HGR.out) _)⟩
          case measure => simp [intOf]; omega
        · obtain rfl : t = n := by omega
          have hmt2 := hmt.cast lsm_row
          clear hmt
          go_wp2_with fail
          go_roundw
          case rel => exact ⟨k + 1, by omega, by go_num, hmt2, hfr⟩
          case measure => simp [intOf]; omega
    · obtain rfl : k = n := by omega
      have hmt2 := hmt.cast lsm_full
      go_wp2_with fail
      go_ret
      exact ⟨rfl, hmt2, hfr⟩
end Go.Proofs.YtpkjdnplmgfbbaaDoor
