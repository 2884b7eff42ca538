/- graph.Irreducible. -/
import Derived.Test.YtpkjdnplmgfbbaaDoorLsm
import Derived.Test.YtpkjdnplmgfbbaaDoorWku
namespace Go.Proofs.YtpkjdnplmgfbbaaDoor
open Go.RowKit

/-- The matrix before the one of step k. -/
def preI (E : List (List Nat)) (d : Int) (k : Nat) : Nat → Nat → Int := if k = 1 then mu 1 else irr E d (k - 2)
/-- The factor of step k. -/
def byK (d : Int) (k : Nat) : Int := if k = 1 then 0 else if k = 2 then d else d - 1
theorem mm_mu (E : List (List Nat)) {n i k : Nat} (hk : k < n) : mm n (ma E) (mu 1) i k = ma E i k := by
  unfold mm
  have h1 : sm (fun j => ma E i j * mu 1 j k) n = sm (fun j => (if j = k then 1 else 0) * ma E i j) n := sm_ext _ fun j _ => by
    unfold mu
    rw [Int.mul_comm]
  rw [h1, sm_pick, if_pos hk]
theorem irr_step (E : List (List Nat)) (d : Int) {k : Nat} (hk : 1 ≤ k) : ml (fun i j => mm E.length (ma E) (irr E d (k - 1)) i j - byK d k * preI E d k i j) E.length = ml (irr E d k) E.length := by
  refine ml_ext fun i j _ hj => ?_
  unfold byK preI
  by_cases h1 : k = 1
  · subst h1
    rw [if_pos rfl, Int.zero_mul, Int.sub_zero]
    exact mm_mu E hj
  · rw [if_neg h1, if_neg h1]
    obtain ⟨m, rfl⟩ : ∃ m, k = m + 2 := ⟨k - 2, by omega⟩
    show _ = mm E.length (ma E) (irr E d (m + 1)) i j - irr E d m i j * byI d m
    have e1 : m + 2 - 1 = m + 1 := rfl
    have e2 : m + 2 - 2 = m := rfl
    rw [e1, e2, Int.mul_comm]
    unfold byI
    by_cases h2 : m = 0
    · subst h2; rfl
    · rw [if_neg (by omega), if_neg h2]
theorem preI_next (E : List (List Nat)) (d : Int) {k : Nat} (hk : 1 ≤ k) : irr E d (k - 1) = preI E d (k + 1) := by
  unfold preI
  rw [if_neg (by omega)]
  rfl
/-- Bounds of what is computed. -/
def bigM : Nat := 640
theorem irr_big {E : List (List Nat)} {d : Nat} (hd : d ≤ 400) (hn : E.length ≤ 60) (hg : ∀ v, (gr E v).length ≤ 400) {k : Nat} (hk : k ≤ 21) (i j : Nat) (hi : i < E.length) (hj : j < E.length) : (irr E d k i j).natAbs ≤ 2 ^ bigM :=
  Nat.le_trans (irr_le hd hn hg k i j hi hj) (Nat.pow_le_pow_right (by omega) (by unfold bigM; omega))
theorem preI_big {E : List (List Nat)} {d : Nat} (hd : d ≤ 400) (hn : E.length ≤ 60) (hg : ∀ v, (gr E v).length ≤ 400) {k : Nat} (hk : k ≤ 21) (i j : Nat) (hi : i < E.length) (hj : j < E.length) : (preI E d k i j).natAbs ≤ 2 ^ bigM := by
  unfold preI
  split
  · exact irr_big hd hn hg (k := 0) (by omega) i j hi hj
  · exact irr_big hd hn hg (by omega) i j hi hj
theorem mm_big {E : List (List Nat)} {d : Nat} (hd : d ≤ 400) (hn : E.length ≤ 60) (hg : ∀ v, (gr E v).length ≤ 400) {k : Nat} (hk : k ≤ 21) (i j : Nat) (hi : i < E.length) (hj : j < E.length) : (mm E.length (ma E) (irr E d k) i j).natAbs ≤ 2 ^ (bigM + 60) := by
  have hm : ∀ i k, i < E.length → k < E.length → (ma E i k).natAbs ≤ 2 ^ 9 := fun i k _ _ => by
    unfold ma
    have := List.count_le_length (a := k) (l := gr E i)
    have := hg i
    rw [Int.natAbs_natCast]; omega
  have h3 := mm_le (by omega) hm (irr_big hd hn hg hk) i j E.length hi hj (Nat.le_refl _)
  exact Nat.le_trans h3 (Nat.pow_le_pow_right (by omega) (by omega))
theorem RowsD.il_ {w : World} {D : Nat → Prop} {v : Value} {f : Nat → Nat → Int} {n : Nat} (h : RowsD PvD w D v (ml f n)) : ∃ A c, v = .slice A n c := h.slice_ (ml_length _ _)

theorem MtO.lt_of {w : World} {base n : Nat} {X : Nat → Prop} {v : Value} {gs : List Nat} {L : List (List Int)} (h : MtO w base X v n gs L) {g : Nat} (hg : g ∈ gs) : base ≤ g ∧ g < w.heap.size := by
  obtain ⟨j, hj⟩ := List.getElem?_of_mem hg
  obtain ⟨l, hl⟩ : ∃ l, L[j]? = some l := ⟨_, List.getElem?_eq_getElem (by have := lt_of_some hj; have h2 := h.2.1; omega)⟩
  obtain ⟨k1, _, _, _, k5⟩ := h.2.2.2 j g l hj hl
  exact ⟨k1, k5.lt⟩
theorem MtO.fresh {w : World} {base n : Nat} {v : Value} {gs : List Nat} {L : List (List Int)} (h : MtO w base (· ∈ gs) v n gs L) (h0 : base ≤ w.heap.size) {b : Nat} (hb : w.heap.size ≤ b) : DgM base (· ∈ gs) v b :=
  ⟨by omega, fun hg => by have := (h.lt_of hg).2; omega, fun e => by have := (h.1.lt b e.symm).2; omega⟩
theorem set_snoc {α : Type} (L : List α) (a b : α) {k : Nat} (hk : L.length = k) : (L ++ [a]).set k b = L ++ [b] := by
  subst hk
  rw [List.set_append_right _ _ (Nat.le_refl _), Nat.sub_self]
  rfl

/-- What Irreducible returns. -/
def IrrR (w : World) (E : List (List Nat)) (d n : Nat) (e : Ending) (w' : World) : Prop := ∃ A c, e = .returned (.tuple #[.slice A E.length c, .int .i64 0]) ∧ RowsD PvD w' (w.heap.size ≤ ·) (.slice A E.length c) (ml (irr E d n) E.length) ∧ Below w.heap.size w w'

set_option maxHeartbeats 4000000 in
set_option maxRecDepth 100000 in
theorem Irreducible_ok {w : World} {v : Value} {names : List ByteArray} {E : List (List Nat)} (h : GrV w v names (toI E)) (hc : chk names (toI E) = 0) (hs0 : sml names (toI E) = 0) (hk : Ok names E) {d : Nat} (hd : degP E = (d, 0)) {n : Nat} (hn : n ≤ 20) :
    Calls Tryd.prog 44 #[v, .int .i64 (n : Nat)] w (IrrR w E d n) := by
  have hsm := hk.small
  have hn60 : E.length ≤ 60 := by
    unfold sml at hs0
    rw [if_neg (by rw [hc]; simp)] at hs0
    have := hk.len
    split at hs0 <;> omega
  have hd4 : d ≤ 400 := by have := (degP_small hk).1; rw [hd] at this; exact this
  have HC := Lib.hid (fun w' hb => small_any (h.at w' hb))
  rw [hs0] at HC
  have HDG := Lib.hid (fun w' hb => Degree_ok (h.at w' hb) hc hk)
  rw [hd] at HDG
  have HAF := Lib.hid (fun w' (hb : Below w.heap.size w w') {D0 : Nat → Prop} {A : Option Addr} {c : Nat} {f : Nat → Nat → Int} (hm : RowsD PvD w' D0 (.slice A E.length c) (ml f E.length)) (hf : ∀ i k, i < E.length → k < E.length → (f i k).natAbs ≤ 2 ^ bigM) => after_any (h.at w' hb) hk hm hf (by unfold bigM; omega))
  have HK := Lib.hid hk
  clear hc hs0 hk hd
  obtain ⟨A1, c1, A', c', hv, hs, hg⟩ := h
  rw [toI_length] at hv hg
  subst hv
  have hr := hg.room
  unfold maxLen at hr
  obtain ⟨W, G, hW, hG, hbW, c0, c1', hGl, hwG⟩ := gbox w (.slice A1 names.length c1) (.slice A' E.length c')
  have HW := Lib.hid hW
  have HG := Lib.hid hG
  clear hW hG hs hg
  have hni : (n : Int) ≤ 20 := by omega
  have hn0 : (0 : Int) ≤ (n : Int) := by omega
  go_enter Tryd.func44, Tryd.ntmps44
  go_wp2_with (first
    | (go_at_call 61; rw [← HW.out, ← HG.out]; refine (HC.out _ hbW).mono ?_; rintro e w1 ⟨rfl, hb1⟩; obtain ⟨d0, d1⟩ := keep2 hb1 c0 c1'; have hb2 := hbW.trans (hb1.mono hbW.size))
    | (go_at_call 33; refine (HDG.out _ hb2).mono ?_; rintro e w2 ⟨rfl, hb3⟩; obtain ⟨e0, e1⟩ := keep2 hb3 d0 d1; have hb4 := hb2.trans (hb3.mono hb2.size)))
  have hGw : G < w2.heap.size := cell_some_lt e0
  clear d0 d1 hb1 hb2 hb3 c0 c1' hbW hGl w1
  obtain ⟨BS, hBS⟩ : ∃ B, B = w2.heap.size := ⟨_, rfl⟩
  have hB0 : Below BS w2 w2 := by rw [hBS]; exact Below.refl _ _
  have hBw : w.heap.size ≤ BS := by rw [hBS]; exact hb4.size
  have hGB : G < BS := by omega
  have hB2 : BS ≤ w2.heap.size := by omega
  clear hBS
  go_loopw [9, 37] (fun o i wr => ∃ (k : Nat) (gs : List Nat), k ≤ E.length ∧ i = .int .i64 (k : Nat) ∧ MtO wr BS (· ∈ gs) o E.length gs ((List.range k).map fun i => li (mu 1 i) E.length) ∧ Below BS w2 wr) (fun _ i _ => E.length - (intOf i).toNat)
  case atStart => exact ⟨0, [], Nat.zero_le _, rfl, MtO.nil _ _ _ _, hB0⟩
  case round =>
    clear hB0
    obtain ⟨k, gs, hkl, rfl, hmt, hbr⟩ := hrel
    obtain ⟨A4, c4, rfl, hf1, hf2⟩ := hmt.slice (q := k) (by simp)
    unfold maxLen at hf2
    have r0 := (hbr.cell (p := ⟨G, 0, none⟩) hGB).trans e0
    have r1 := (hbr.cell (p := ⟨G, 1, none⟩) hGB).trans e1
    by_cases hlt : k < E.length
    · have hki : (k : Int) < (E.length : Int) := by omega
      have hk0 : (0 : Int) ≤ (k : Int) := by omega
      have hgl : ∀ g ∈ gs, g < wr.heap.size := fun g hg => by
        obtain ⟨j, hj⟩ := List.getElem?_of_mem hg
        obtain ⟨l, hl⟩ : ∃ l, ((List.range k).map fun i => li (mu 1 i) E.length)[j]? = some l := ⟨_, List.getElem?_eq_getElem (by have := lt_of_some hj; have h2 := hmt.2.1; omega)⟩
        exact (hmt.2.2.2 j g l hj hl).2.2.2.2.lt
      obtain ⟨S, hS⟩ : ∃ S, S = wr.heap.size := ⟨_, rfl⟩
      have hSb : BS ≤ S := by rw [hS]; have := hbr.size; omega
      have hmt1 := hmt.more (X' := (· ∈ gs ++ [S])) (fun b hb => by
        rcases List.mem_append.1 hb with h1 | h1
        · exact .inl h1
        · rw [List.mem_singleton] at h1; exact .inr (by rw [h1, hS]; exact Nat.le_refl _)) (fun g hg => List.mem_append_left _ hg)
      have hSv : some S ≠ (Value.slice A4 k c4).ownBlock := fun e => by have := (hmt.1.lt S e.symm).2; omega
      have HSV := Lib.hid (And.intro hSv (show S ∉ gs from fun hg => by have := hgl S hg; omega))
      have HMT := Lib.hid hmt1
      have HS := Lib.hid hS
      clear hgl hmt hmt1 hSv hS
      go_upto_region 14 with (first
        | (refine wpList_make_arr _ rfl _ _ 41 rfl 46 (.agg #[.bool false, .slice none 0 0]) 2 32 Tryd.underlying41 info_Int _ _ _ _ E.length rfl rfl rfl rfl (by omega) (by omega) ?_; rw [← HS.out]; intro w3 har hb5 hs1; have hrx := RwX.made (D := DgM BS (· ∈ gs ++ [S]) (.slice A4 k c4)) har; have hmt2 := HMT.out.below (by rw [← HS.out]; exact hb5); have hbw1 := hbr.trans (hb5.mono hSb); clear har hs1)
        | (at_builtin; (refine wpList_pushM w3 (by rfl) _ _ 111 111 (by rfl) Tryd.underlying111 Tryd.underlying111 BS _ k (by simp) (by rfl) hmt2 S _ (fun g' hg' e => HSV.out.2 (e ▸ hg')) hSb (List.mem_append_right _ (by simp)) HSV.out.1 (by simp) hrx (by rfl) (by omega) (by have := hbw1.size; omega) ?_); intro A9 c9 w9 hmt9 hg9 hb9; have hbr9 := hbw1.trans hb9))
      clear hmt2 hrx hbw1 hb5 hb9 hg9 hbr r0 r1
      have hL9 : (((List.range k).map fun i => li (mu 1 i) E.length) ++ [List.replicate E.length 0])[k]? = some (List.replicate E.length 0) := by
        have e : k = ((List.range k).map fun i => li (mu 1 i) E.length).length := by simp
        rw [List.getElem?_append_right (by simp)]
        simp
      obtain ⟨B, g, rfl, hBl, hrow, hgk, hgB, _, hrx⟩ := hmt9.place hL9
      obtain ⟨neg3, B3, m3, q3, o0, o1, o2⟩ := hrx.cells (j := k) (by simp; exact hlt)
      have z0 := hrx.frozen (k * 2)
      have z1 := hrx.frozen (k * 2 + 1)
      have hrl := hrx.lt
      have hki1 : (k : Int) < ((k + 1 : Nat) : Int) := by omega
      have hki2 : (k : Int) < (k : Int) + 1 := by omega
      have hki3 : k < k + 1 := Nat.lt_succ_self k
      have HMT9 := Lib.hid hmt9
      have HGK := Lib.hid hgk
      have hs0 := same_drew w9
      have hdr : Below w9.heap.size w9 w9.drew := (Below.refl _ _).drew
      have HL9 := Lib.hid hL9
      clear hmt9 hgk hrx o2 hL9
      go_wp2_with fail
      refine wp_region_idx 7 [(0, true), (1, true), (2, true), (3, true), (4, true), (5, false), (6, false), (7, false)] (by kernel_rfl) (by rfl) (by kernel_rfl) (by kernel_rfl) (by kernel_rfl) (fun _ _ _ _ _ h => h) (Same w9) ?_
      change goI _ _ _ _ _ _ w9.drew
      iterate 5
        refine goI_read hs0 (by rfl) ?_ (by rfl) (fun wz hSw => ?_) ?_
        rotate_left
        · (try obtain ⟨hs1, hs2⟩ := hSw)
          go_simp
          try with_reducible rfl
        simp only [Act.put, List.setIfInBounds_toArray]
      refine goI_step hs0 (by rfl) ?_
      go_wp2_with (go_at_call 42; refine (Of_any 1 _ (by omega) (by omega)).mono ?_; rintro e w4 ⟨v4, rfl, ⟨A6, c6, rfl, hv6⟩, hb4'⟩)
      have hB4 := hdr.trans (hb4'.mono hdr.size)
      have t0 := (hB4.cell (p := ⟨g, k * 2, none⟩) hrl).trans o0
      have t1 := (hB4.cell (p := ⟨g, k * 2 + 1, none⟩) hrl).trans o1
      have zz0 := (hB4.frozen (p := ⟨g, k * 2, none⟩) hrl).trans z0
      have zz1 := (hB4.frozen (p := ⟨g, k * 2 + 1, none⟩) hrl).trans z1
      refine goI_step (same_below hB4) (by rfl) ?_
      go_wp2_with fail
      refine goI_step (same_below hB4) (by rfl) ?_
      go_wp2_with fail
      refine goI_nil ?_
      go_wp2_with fail
      go_roundw
      case rel =>
        have hn6 : NIntV w4 (DgM BS (· ∈ gs ++ [S]) (.slice (some ⟨B, 0, none⟩) (k + 1) c9)) (.agg #[.bool _, .slice A6 _ c6]) 1 := ⟨A6, c6, rfl, hv6.mono fun b hb _ => HMT9.out.fresh (by have := hbr9.size; omega) hb⟩
        have hset := (HMT9.out.below hB4).set HGK.out HL9.out hlt hn6
        rw [mu_set hlt, set_snoc _ _ _ (by simp)] at hset
        exact ⟨k + 1, gs ++ [S], by omega, by go_num, by rw [List.range_succ, List.map_append]; exact hset, ((hbr9.trans (hB4.mono (by have := hbr9.size; omega))).setCell (p := ⟨g, k * 2, none⟩) (HMT9.out.lt_of (List.mem_of_getElem? HGK.out)).1 _).setCell (p := ⟨g, k * 2 + 1, none⟩) (HMT9.out.lt_of (List.mem_of_getElem? HGK.out)).1 _⟩
      case measure => simp [intOf]; omega
    · obtain rfl : k = E.length := by omega
      have hrows := (hmt.rows (by unfold maxLen; omega)).mono (D' := fun b => w.heap.size ≤ b) fun b hb _ => by have h1 : BS ≤ b := hb; omega
      have hrows2 : RowsD PvD wr (fun b => w.heap.size ≤ b) (.slice A4 E.length c4) (ml (mu 1) E.length) := hrows
      have HR := Lib.hid hrows2
      have hbr2 := hbr
      clear hrows hrows2 hmt hbr r0 r1
      go_wp2_with fail
      obtain ⟨wo, rfl⟩ : ∃ wo : World, wo = wr := ⟨_, rfl⟩
      go_loopw [11, 12, 13] (fun p q kv wr => ∃ (k : Nat) (A1 : Option Addr) (c1 : Nat) (A2 : Option Addr) (c2 : Nat), 1 ≤ k ∧ k ≤ n + 1 ∧ kv = .int .i64 (k : Nat) ∧ p = .slice A1 E.length c1 ∧ q = .slice A2 E.length c2 ∧ RowsD PvD wr (fun b => w.heap.size ≤ b) (.slice A1 E.length c1) (ml (preI E d k) E.length) ∧ RowsD PvD wr (fun b => w.heap.size ≤ b) (.slice A2 E.length c2) (ml (irr E d (k - 1)) E.length) ∧ Below BS w2 wr) (fun _ _ kv _ => n + 1 - (intOf kv).toNat)
      case atStart => exact ⟨1, A4, c4, A4, c4, by omega, by omega, rfl, rfl, rfl, HR.out, HR.out, hbr2⟩
      case round =>
        clear hbr2 HR
        obtain ⟨k, A1, c1, A2, c2, hk1, hkn, rfl, rfl, rfl, hp, hq, hbr⟩ := hrel
        have r0 := (hbr.cell (p := ⟨G, 0, none⟩) hGB).trans e0
        have r1 := (hbr.cell (p := ⟨G, 1, none⟩) hGB).trans e1
        have hbw := hb4.trans (hbr.mono hBw)
        by_cases hle : k ≤ n
        · have hlei : (k : Int) ≤ (n : Int) := by omega
          have hd0 : (0 : Int) ≤ (d : Int) := by omega
          by_cases h1 : k = 1
          · have hb1 : ((k : Int) == 1) = true := by simp [h1]
            have hby : byK (d : Int) k = 0 := by unfold byK; rw [if_pos h1]
            have HBY := Lib.hid hby
            clear hby h1
            go_wp2_with (first
              | (go_at_call 88; refine (HAF.out wr hbw hq (fun i j hi hj => irr_big hd4 hn60 HK.out.deg (by omega) i j hi hj)).mono ?_; rintro e w5 ⟨u5, gs5, rfl, hmt5, hb5⟩; obtain ⟨A5, c5, rfl, hc51, hc52⟩ := hmt5.slice (q := E.length) (ml_length _ _); have hp5 := (hp.mono (D' := fun b => b < wr.heap.size) (fun b _ hl => hl)).below hb5)
              | (go_at_call 89; refine (less_any (M := bigM + 60) hmt5 hp5 (fun b hb => hb) hb5.size (fun i j hi hj => mm_big hd4 hn60 HK.out.deg (by omega) i j hi hj) (fun i j hi hj => Nat.le_trans (preI_big hd4 hn60 HK.out.deg (by omega) i j hi hj) (Nat.pow_le_pow_right (by omega) (by omega))) (by unfold bigM; omega) hsm 0 (by omega)).mono ?_; rintro e w6 ⟨rfl, hmt6, hfr6⟩))
            have hb6 : Below wr.heap.size wr w6 := hb5.trans (hfr6.below hb5.size (fun b hb => (hmt6.lt_of hb).1))
            go_roundw
            case rel =>
              have hq2 := (hmt6.rows (by unfold maxLen; omega)).mono (D' := fun b => w.heap.size ≤ b) fun b hb _ => (by have h1 : wr.heap.size ≤ b := hb; have := hbw.size; omega)
              have es := irr_step E (d : Int) (k := k) hk1
              rw [HBY.out] at es
              exact ⟨k + 1, A2, c2, A5, c5, by omega, by omega, by go_num, rfl, rfl, by rw [← preI_next E d hk1]; exact hq.below hb6, hq2.cast es, hbr.trans (hb6.mono (by have := hbr.size; omega))⟩
            case measure => simp [intOf]; omega
          · have hb1 : ((k : Int) == 1) = false := beq_eq_false_iff_ne.2 (by omega)
            by_cases h2 : k = 2
            · have hb2 : ((k : Int) == 2) = true := by simp [h2]
              have hby : byK (d : Int) k = d := by unfold byK; rw [if_neg h1, if_pos h2]
              have HBY := Lib.hid hby
              clear hby h1 h2
              go_wp2_with (first
                | (go_at_call 88; refine (HAF.out wr hbw hq (fun i j hi hj => irr_big hd4 hn60 HK.out.deg (by omega) i j hi hj)).mono ?_; rintro e w5 ⟨u5, gs5, rfl, hmt5, hb5⟩; obtain ⟨A5, c5, rfl, hc51, hc52⟩ := hmt5.slice (q := E.length) (ml_length _ _); have hp5 := (hp.mono (D' := fun b => b < wr.heap.size) (fun b _ hl => hl)).below hb5)
                | (go_at_call 89; refine (less_any (M := bigM + 60) hmt5 hp5 (fun b hb => hb) hb5.size (fun i j hi hj => mm_big hd4 hn60 HK.out.deg (by omega) i j hi hj) (fun i j hi hj => Nat.le_trans (preI_big hd4 hn60 HK.out.deg (by omega) i j hi hj) (Nat.pow_le_pow_right (by omega) (by omega))) (by unfold bigM; omega) hsm (d : Int) (by omega)).mono ?_; rintro e w6 ⟨rfl, hmt6, hfr6⟩))
              have hb6 : Below wr.heap.size wr w6 := hb5.trans (hfr6.below hb5.size (fun b hb => (hmt6.lt_of hb).1))
              go_roundw
              case rel =>
                have hq2 := (hmt6.rows (by unfold maxLen; omega)).mono (D' := fun b => w.heap.size ≤ b) fun b hb _ => (by have h1 : wr.heap.size ≤ b := hb; have := hbw.size; omega)
                have es := irr_step E (d : Int) (k := k) hk1
                rw [HBY.out] at es
                exact ⟨k + 1, A2, c2, A5, c5, by omega, by omega, by go_num, rfl, rfl, by rw [← preI_next E d hk1]; exact hq.below hb6, hq2.cast es, hbr.trans (hb6.mono (by have := hbr.size; omega))⟩
              case measure => simp [intOf]; omega
            · have hb2 : ((k : Int) == 2) = false := beq_eq_false_iff_ne.2 (by omega)
              have hby : byK (d : Int) k = (d : Int) - 1 := by unfold byK; rw [if_neg h1, if_neg h2]
              have HBY := Lib.hid hby
              clear hby h1 h2
              go_wp2_with (first
                | (go_at_call 88; refine (HAF.out wr hbw hq (fun i j hi hj => irr_big hd4 hn60 HK.out.deg (by omega) i j hi hj)).mono ?_; rintro e w5 ⟨u5, gs5, rfl, hmt5, hb5⟩; obtain ⟨A5, c5, rfl, hc51, hc52⟩ := hmt5.slice (q := E.length) (ml_length _ _); have hp5 := (hp.mono (D' := fun b => b < wr.heap.size) (fun b _ hl => hl)).below hb5)
                | (go_at_call 89; refine (less_any (M := bigM + 60) hmt5 hp5 (fun b hb => hb) hb5.size (fun i j hi hj => mm_big hd4 hn60 HK.out.deg (by omega) i j hi hj) (fun i j hi hj => Nat.le_trans (preI_big hd4 hn60 HK.out.deg (by omega) i j hi hj) (Nat.pow_le_pow_right (by omega) (by omega))) (by unfold bigM; omega) hsm ((d : Int) - 1) (by omega)).mono ?_; rintro e w6 ⟨rfl, hmt6, hfr6⟩))
              have hb6 : Below wr.heap.size wr w6 := hb5.trans (hfr6.below hb5.size (fun b hb => (hmt6.lt_of hb).1))
              go_roundw
              case rel =>
                have hq2 := (hmt6.rows (by unfold maxLen; omega)).mono (D' := fun b => w.heap.size ≤ b) fun b hb _ => (by have h1 : wr.heap.size ≤ b := hb; have := hbw.size; omega)
                have es := irr_step E (d : Int) (k := k) hk1
                rw [HBY.out] at es
                exact ⟨k + 1, A2, c2, A5, c5, by omega, by omega, by go_num, rfl, rfl, by rw [← preI_next E d hk1]; exact hq.below hb6, hq2.cast es, hbr.trans (hb6.mono (by have := hbr.size; omega))⟩
              case measure => simp [intOf]; omega
        · obtain rfl : k = n + 1 := by omega
          go_wp2_with fail
          go_ret2
          exact ⟨A2, c2, rfl, hq, hbw⟩
end Go.Proofs.YtpkjdnplmgfbbaaDoor
