/- graph.Path. graph.Path, where both ends are there. -/
import Derived.Test.YtpkjdnplmgfbbaaGreatDoorG6
namespace Go.Proofs.YtpkjdnplmgfbbaaGreatDoor
open Go.RowKit

set_option maxHeartbeats 1000000 in
set_option maxRecDepth 100000 in
/-- The function that Path hands to IndexFunc. -/
theorem path1_any {W : World} {U B G n x y : Nat} {l : List Int} (hU : W.cell? ⟨U, 0, none⟩ = some (.slice (some ⟨G, 0, none⟩) n n)) (hB : W.cell? ⟨B, 0, none⟩ = some (.int .i64 (y : Nat))) (hG : NArr W G l) (hl : l.length = n)
    (hs : ∀ v, v < n → -1 ≤ l.getD v 0 ∧ l.getD v 0 ≤ 100000) (hx : x < n) (hy : y < n) :
    Calls Tryz.prog 64 #[.int .i64 (x : Nat), .pointer (some ⟨U, 0, none⟩), .pointer (some ⟨B, 0, none⟩)] W fun e W' => e = .returned (.bool (l.getD x 0 == l.getD y 0 - 1)) ∧ Below W.heap.size W W' := by
  have cx := hG.cell (i := x) (by omega)
  have cy := hG.cell (i := y) (by omega)
  have h1 := hs x hx
  have h2 := hs y hy
  have hxi : (x : Int) < (n : Int) := by omega
  have hyi : (y : Int) < (n : Int) := by omega
  generalize l.getD x 0 = u at *
  generalize l.getD y 0 = z at *
  clear hs hl hG
  have hw : IntKind.i64.wrap (z - 1) = z - 1 := IntWalk.i64_in _ (by omega)
  go_enter Tryz.func64, Tryz.ntmps64
  go_wp2_with fail
  go_quiet (fail)
  go_wp2_with fail
  go_ret
  exact ⟨rfl, below_drewN' (Below.refl _ _) _⟩

set_option maxHeartbeats 1000000 in
theorem Path_bad {w : World} {v : Value} {names : List ByteArray} {E : List (List Int)} (h : GrV w v names E) (x y : Int) (hc : chk names E ≠ 0) :
    Calls Tryz.prog 24 #[v, .int .i64 x, .int .i64 y] w fun e w' => e = .returned (.tuple #[.slice none 0 0, .int .i64 (chk names E : Nat)]) ∧ Below w.heap.size w w' := by
  have HC := Lib.hid (fun w' hb => Check_any (h.at w' hb))
  generalize chk names E = q at *
  have hz : (((q : Nat) : Int) != 0) = true := by simp [hc]
  clear hc
  obtain ⟨A, c, A', c', rfl, hs, hg⟩ := h
  obtain ⟨W, G, hW, hG, hbW, c0, c1, hGl, hwG⟩ := gbox w (.slice A names.length c) (.slice A' E.length c')
  have HW := Lib.hid hW
  have HG := Lib.hid hG
  clear hW hG
  go_enter Tryz.func24, Tryz.ntmps24
  go_wp2_with (go_at_call 55; rw [← HW.out]; refine (HC.out _ hbW).mono ?_; rintro e w1 ⟨rfl, hb1⟩)
  go_ret2
  exact ⟨rfl, hbW.trans (hb1.mono hbW.size)⟩

set_option maxHeartbeats 1000000 in
set_option maxRecDepth 100000 in
theorem Path_missing {w : World} {v : Value} {names : List ByteArray} {E : List (List Int)} (h : GrV w v names E) (x y : Int) (hc : chk names E = 0) (hx : hasB names.length x = false ∨ hasB names.length y = false) :
    Calls Tryz.prog 24 #[v, .int .i64 x, .int .i64 y] w fun e w' => e = .returned (.tuple #[.slice none 0 0, .int .i64 6]) ∧ Below w.heap.size w w' := by
  have HC := Lib.hid (fun w' hb => Check_any (h.at w' hb))
  rw [hc] at HC
  have HH := Lib.hid (fun w' hb z => has_any (h.at w' hb) z)
  have HX := Lib.hid hx
  clear hc hx
  obtain ⟨A, c, A', c', rfl, hs, hg⟩ := h
  obtain ⟨W, G, hW, hG, hbW, c0, c1, hGl, hwG⟩ := gbox w (.slice A names.length c) (.slice A' E.length c')
  have HW := Lib.hid hW
  have HG := Lib.hid hG
  clear hW hG
  cases hxb : hasB names.length x
  · have HXB := Lib.hid hxb
    clear hxb
    go_enter Tryz.func24, Tryz.ntmps24
    go_wp2_with (first
      | (go_at_call 55; rw [← HW.out, ← HG.out]; refine (HC.out _ hbW).mono ?_; rintro e w1 ⟨rfl, hb1⟩; have hb2 := hbW.trans (hb1.mono hbW.size); have d0 := ((bcell hb1).1 _ 0 hGl).trans c0; have d1 := ((bcell hb1).1 _ 1 hGl).trans c1)
      | (go_at_call 62; refine (HH.out _ hb2 _).mono ?_; rintro e w3 ⟨rfl, hb3⟩; rw [HXB.out]))
    go_ret2
    exact ⟨rfl, hb2.trans (hb3.mono hb2.size)⟩
  · have HXB := Lib.hid hxb
    have hyb : hasB names.length y = false := by
      rcases HX.out with h1 | h1
      · rw [hxb] at h1; cases h1
      · exact h1
    have HYB := Lib.hid hyb
    clear hxb hyb
    go_enter Tryz.func24, Tryz.ntmps24
    go_wp2_with (first | (go_at_call 55; rw [← HW.out, ← HG.out]; refine (HC.out _ hbW).mono ?_; rintro e w1 ⟨rfl, hb1⟩; have hb2 := hbW.trans (hb1.mono hbW.size); have d0 := ((bcell hb1).1 _ 0 hGl).trans c0; have d1 := ((bcell hb1).1 _ 1 hGl).trans c1; have hGl2 := Nat.lt_of_lt_of_le hGl hb1.size))
    refine (HH.out _ hb2 _).mono ?_
    rintro e w3 ⟨rfl, hb3⟩
    rw [HXB.out]
    have hb4 := hb2.trans (hb3.mono hb2.size)
    have e0 := ((bcell hb3).1 _ 0 hGl2).trans d0
    have e1 := ((bcell hb3).1 _ 1 hGl2).trans d1
    go_wp2_with fail
    refine (HH.out _ hb4 _).mono ?_
    rintro e w5 ⟨rfl, hb5⟩
    rw [HYB.out]
    go_wp2_with fail
    go_ret2
    exact ⟨rfl, hb4.trans (hb5.mono hb4.size)⟩
end Go.Proofs.YtpkjdnplmgfbbaaGreatDoor

namespace Go.Proofs.YtpkjdnplmgfbbaaGreatDoor
open Go.RowKit

/-- How far each vertex is from t. -/
noncomputable def far (E : List (List Nat)) (t v : Nat) : Int := (dd (bks E E.length) t).getD v 0
theorem far_to {E : List (List Nat)} (hE : Valid E) {t : Nat} (ht : t < E.length) : To E t (far E t) := by
  intro v hv
  have hT := bks_turned hE
  have hd := dd_is hT.valid (show t < (bks E E.length).length by rw [hT.1]; exact ht)
  exact hT.dist (hd.2 v (by rw [hT.1]; exact hv))
theorem far_small {E : List (List Nat)} (hE : Valid E) {t v : Nat} (ht : t < E.length) (hv : v < E.length) : -1 ≤ far E t v ∧ far E t v < E.length := by
  have hT := bks_turned hE
  have hd := dd_is hT.valid (show t < (bks E E.length).length by rw [hT.1]; exact ht)
  have := (hd.2 v (by rw [hT.1]; exact hv)).small hT.valid (by rw [hT.1]; exact ht)
  rw [hT.1] at this
  exact this
theorem bk_len_le {R : List (List Nat)} {i M : Nat} (l : List Nat) (h : ∀ v, (gr R v).length ≤ M) : ∀ v, (gr (bk R i l) v).length ≤ M + l.length := by
  induction l generalizing R M with
  | nil => intro v; exact h v
  | cons x r ih =>
    intro v
    show (gr (bk (R.set x (gr R x ++ [i])) i r) v).length ≤ _
    have := ih (R := R.set x (gr R x ++ [i])) (M := M + 1) (fun u => by
      rcases Nat.lt_or_ge x R.length with hx | hx
      · rw [gr_set hx]
        split
        · rw [List.length_append]; have := h x; simp; omega
        · have := h u; omega
      · rw [List.set_eq_of_length_le hx]; have := h u; omega) v
    simp only [List.length_cons]
    omega
theorem bks_len_le {E : List (List Nat)} (hd : ∀ v, (gr E v).length ≤ 400) : ∀ k v, (gr (bks E k) v).length ≤ k * 400 := by
  intro k
  induction k with
  | zero => intro v; simp only [bks, gr, List.getD, List.getElem?_replicate]; split <;> simp
  | succ k ih =>
    intro v
    rw [bks]
    have := bk_len_le (i := k) (gr E k) ih v
    have := hd k
    omega
theorem gr_rows {R : List (List Nat)} {l : List Nat} (h : l ∈ R) : ∃ v, v < R.length ∧ l = gr R v := by
  obtain ⟨i, hi, hi2⟩ := mem_getElem h
  refine ⟨i, hi, ?_⟩
  rw [gr_lt hi] at hi2
  injection hi2 with hi2
  exact hi2.symm

def PathR (w : World) (E : List (List Nat)) (a t : Nat) (e : Ending) (w' : World) : Prop :=
  ((far E t a < 0 ∧ e = .returned (.tuple #[.slice none 0 0, .int .i64 12])) ∨
    (0 ≤ far E t a ∧ ∃ A c, e = .returned (.tuple #[.slice A ((far E t a).toNat + 1) c, .int .i64 0]) ∧ Il w' A ((far E t a).toNat + 1) c ((pth E (far E t) a (far E t a).toNat).map fun x : Nat => (x : Int)))) ∧ Below w.heap.size w w'

theorem has_yes {w : World} {v : Value} {names : List ByteArray} {E : List (List Int)} (h : GrV w v names E) {z : Nat} (hz : z < names.length) :
    Calls Tryz.prog 62 #[v, .int .i64 (z : Nat)] w fun e w' => e = .returned (.bool true) ∧ Below w.heap.size w w' := by
  refine (has_any h (z : Nat)).mono ?_
  rintro e w' ⟨rfl, hb⟩
  have e : hasB names.length ((z : Nat) : Int) = true := by unfold hasB; simp; exact hz
  exact ⟨by rw [e], hb⟩

def slLen : Value → Nat | .slice _ n _ => n | _ => 0

/-- The boxes of Path's last loop. -/
theorem pbox (w5 : World) (sv : Value) (a : Nat) : ∃ w6 w8 Bd, w6 = w5.alloc (.cells #[sv] 55) ∧ w8 = ((w5.alloc (.cells #[sv] 55)).alloc (.cells #[.int .i64 (a : Nat)] 3)).alloc (.cells #[.int .i64 (a : Nat)] 3) ∧ Bd = w5.heap.size + 1 ∧
    Below w5.heap.size w5 w6 ∧ w6.cell? ⟨w5.heap.size, 0, none⟩ = some sv ∧ w6.heap.size = Bd ∧ OwnN w8 Bd (.slice (some ⟨Bd, 0, none⟩) 1 1) [a] ∧ Arr w8 (Bd + 1) 3 [.int .i64 (a : Nat)] ∧ Below Bd w6 w8 := by
  have hs6 : (w5.alloc (.cells #[sv] 55)).heap.size = w5.heap.size + 1 := by simp
  have hs7 : ((w5.alloc (.cells #[sv] 55)).alloc (.cells #[.int .i64 (a : Nat)] 3)).heap.size = w5.heap.size + 1 + 1 := by simp
  have h7 := heap_alloc_new (w5.alloc (.cells #[sv] 55)) (.cells #[.int .i64 (a : Nat)] 3)
  have h8 := heap_alloc_new ((w5.alloc (.cells #[sv] 55)).alloc (.cells #[.int .i64 (a : Nat)] 3)) (.cells #[.int .i64 (a : Nat)] 3)
  refine ⟨_, _, _, rfl, rfl, rfl, (Below.refl _ _).alloc (Nat.le_refl _) _, by go_simp, hs6, ?_, ?_, ?_⟩
  · refine ⟨rfl, .inr ⟨_, 1, #[.int .i64 (a : Nat)], rfl, Nat.le_refl _, ?_, Nat.le_refl _, by unfold maxLen; omega, rfl, rfl⟩⟩
    rw [Below.heap_alloc _ _ _ (by rw [hs7]; omega), ← hs6]
    exact h7
  · rw [hs7] at h8
    exact h8
  · exact ((Below.refl _ _).alloc (by rw [hs6]; exact Nat.le_refl _) _).alloc (by rw [hs7]; omega) _
theorem find_cast {l : List Nat} {p : Int → Bool} : (l.map fun x : Nat => (x : Int)).find? p = (l.find? fun x : Nat => p (x : Int)).map fun x : Nat => (x : Int) := by
  rw [List.find?_map]; rfl

set_option maxHeartbeats 4000000 in
set_option maxRecDepth 100000 in
theorem Path_ok {w : World} {v : Value} {names : List ByteArray} {E : List (List Nat)} (h : GrV w v names (toI E)) (hc : chk names (toI E) = 0) (hk : Ok names E) {a t : Nat} (ha : a < E.length) (ht : t < E.length) :
    Calls Tryz.prog 24 #[v, .int .i64 (a : Nat), .int .i64 (t : Nat)] w (PathR w E a t) := by
  have HC := Lib.hid (fun w' hb => Check_any (h.at w' hb))
  rw [hc] at HC
  have HH := Lib.hid (fun w' hb (z : Nat) (hz : z < E.length) => has_yes (h.at w' hb) (show z < names.length by rw [hk.len]; exact hz))
  have hsm := hk.small
  obtain ⟨A, c, A', c', rfl, hs, hg⟩ := h
  rw [toI_length] at *
  obtain ⟨W, G, hW, hG, hbW, c0, c1, hGl, hwG⟩ := gbox w (.slice A names.length c) (.slice A' E.length c')
  replace hg := hg.below hbW
  have hr := hg.room
  unfold maxLen at hr
  have HW := Lib.hid hW
  have HG := Lib.hid hG
  have HK := Lib.hid hk
  clear hW hG hc hk hs
  go_enter Tryz.func24, Tryz.ntmps24
  go_wp2_with (first | (go_at_call 55; rw [← HW.out, ← HG.out]; refine (HC.out _ hbW).mono ?_; rintro e w1 ⟨rfl, hb1⟩; have hb2 := hbW.trans (hb1.mono hbW.size); have d0 := ((bcell hb1).1 _ 0 hGl).trans c0; have d1 := ((bcell hb1).1 _ 1 hGl).trans c1; have hGl2 := Nat.lt_of_lt_of_le hGl hb1.size))
  refine (HH.out _ hb2 a ha).mono ?_
  rintro e w2 ⟨rfl, hb3⟩
  have hb4 := hb2.trans (hb3.mono hb2.size)
  have e0 := ((bcell hb3).1 _ 0 hGl2).trans d0
  have e1 := ((bcell hb3).1 _ 1 hGl2).trans d1
  have hGl3 := Nat.lt_of_lt_of_le hGl2 hb3.size
  go_wp2_with fail
  refine (HH.out _ hb4 t ht).mono ?_
  rintro e w3 ⟨rfl, hb5⟩
  have hb6 := hb4.trans (hb5.mono hb4.size)
  have f1 := ((bcell hb5).1 _ 1 hGl3).trans e1
  have hGl4 := Nat.lt_of_lt_of_le hGl3 hb5.size
  have hbW3 : Below W.heap.size W w3 := (hb1.trans (hb3.mono hb1.size)).trans (hb5.mono (Nat.le_trans hb1.size hb3.size))
  replace hg := hg.below hbW3
  clear hb1 hb2 hb3 hb4 hb5 d0 d1 e0 e1 hGl2 hGl3 c0 c1 HH HC hbW3
  obtain ⟨S, hS⟩ : ∃ S, S = w3.heap.size := ⟨_, rfl⟩
  have HS := Lib.hid hS
  have hSW : w3.heap.size ≤ S := by omega
  have hGS : G < S := by omega
  clear hS
  go_wp2_with (refine wpList_make_arr _ rfl _ _ 23 rfl 55 (.slice none 0 0) 1 24 Tryz.underlying23 (by kernel_rfl) _ _ _ _ E.length rfl rfl rfl rfl (by omega) (by omega) ?_; rw [← HS.out]; intro w4 har hb7 hs4; have hrw := Rws.made (base := S) har; have HRW := Lib.hid hrw; have f2 := (hb7.cell (p := ⟨G, 1, none⟩) hGS).trans f1; clear har hrw hs4)
  go_loopw [40] (fun i wr => ∃ (k : Nat) (vs : List Value), k ≤ E.length ∧ i = .int .i64 (k : Nat) ∧ Rws wr S S (bks E k) vs ∧ Below S w3 wr) (fun i _ => E.length - (intOf i).toNat)
  case atStart => exact ⟨0, _, Nat.zero_le _, rfl, HRW.out, hb7⟩
  case round =>
    clear HRW hb7 f2 w4
    obtain ⟨k, vs, hkl, rfl, hrw, hbr⟩ := hrel
    by_cases hlt : k < E.length
    · have hb3 : ∀ w', Below S w3 w' → Below w3.heap.size w3 w' := fun w' hb => by rw [← HS.out]; exact hb
      obtain ⟨b, off, A2, c2, rfl, hrow3, hr1, hr2, hil3⟩ := hg.row hlt
      have hrow := ((bcell (hb3 _ hbr)).1 _ _ (cell_some_lt hrow3)).trans hrow3
      have HB3 := Lib.hid hb3
      clear hb3 hrow3
      have hki : (k : Int) < (E.length : Int) := by omega
      go_wp2_with fail
      obtain ⟨wo, hwo⟩ : ∃ wo : World, wo = wr := ⟨_, rfl⟩
      rw [← hwo] at hbr hrow hrw ⊢
      clear hwo wr
      go_loopw [47] (fun i wr => ∃ (j : Nat) (vs : List Value), j ≤ (gr E k).length ∧ i = .int .i64 (j : Nat) ∧ Rws wr S S (bk (bks E k) k ((gr E k).take j)) vs ∧ Below S w3 wr) (fun i _ => (gr E k).length - (intOf i).toNat)
      case atStart => exact ⟨0, vs, Nat.zero_le _, rfl, hrw, hbr⟩
      case round =>
        clear hrow hrw hbr
        obtain ⟨j, vs, hjl, rfl, hrw, hbr⟩ := hrel
        by_cases hjt : j < (gr E k).length
        · obtain ⟨x, hx⟩ : ∃ x, (gr E k)[j]? = some x := ⟨_, List.getElem?_eq_getElem hjt⟩
          have hxl : x < E.length := HK.out.valid k hlt x (List.mem_of_getElem? hx)
          obtain ⟨b3, off3, rfl, hcx⟩ := (hil3.below (HB3.out _ hbr)).num hx
          have et : bk (bks E k) k ((gr E k).take (j + 1)) = (bk (bks E k) k ((gr E k).take j)).set x (gr (bk (bks E k) k ((gr E k).take j)) x ++ [k]) := by rw [List.take_add_one, hx]; exact bk_snoc _ _ _ _
          have hRl : (bk (bks E k) k ((gr E k).take j)).length = E.length := by rw [bk_length, bks_length]
          have hll : (gr (bk (bks E k) k ((gr E k).take j)) x).length ≤ 2000000 := by
            have h1 := bk_len_le (i := k) ((gr E k).take j) (bks_len_le HK.out.deg k) x
            have h2 := HK.out.deg k
            rw [List.length_take] at h1
            omega
          have HT := Lib.hid et
          have HRL := Lib.hid hRl
          clear et hx hRl
          generalize bk (bks E k) k ((gr E k).take j) = R at *
          obtain ⟨u, A4, c4, hu, rfl, hu1, hu2, hou, hcu, hfu⟩ := hrw.at (x := x) (by rw [HRL.out]; exact hxl)
          unfold maxLen at hu2
          have hxi : (x : Int) < (E.length : Int) := by omega
          have HU := Lib.hid hu
          clear hu
          go_wp2_with (at_builtin; go_must (refine wpList_pushN wr (by rfl) _ _ (by rfl) S _ (gr R x) (by rfl) hou k _ (by rfl) (by rfl) (by omega) (by have := hbr.size; have := HS.out; omega) ?_); intro A5 c5 w6 hown6 hg6 hob6; obtain ⟨har6, hrw6⟩ := hrw.push HU.out hg6 hown6 hob6; have hc6 := (har6.cell x).trans HU.out; have hf6 := har6.frozen x)
          have hb6' : Below S w3 w6 := hbr.grown hg6 (by rw [HS.out]; exact hbr.size) (fun q hq => (hou.lt q hq).1)
          go_roundw
          case rel => exact ⟨j + 1, _, by omega, by go_num, by rw [HT.out]; exact hrw6, hb6'.setCell (p := ⟨S, x, none⟩) (Nat.le_refl _) _⟩
          case measure => simp [intOf]; omega
        · obtain rfl : j = (gr E k).length := by omega
          rw [List.take_length] at hrw
          go_wp2_with fail
          go_roundw
          case rel => exact ⟨k + 1, vs, by omega, by go_num, hrw, hbr⟩
          case measure => simp [intOf]; omega
    · obtain rfl : k = E.length := by omega
      have hT := bks_turned HK.out.valid
      have hRl := hT.1
      have hgR := hrw.gl (fun l hl x hx => by
        obtain ⟨q, hq, e⟩ := gr_rows hl
        rw [e] at hx
        have := gr_mem ((hT.2 x q).1 hx)
        omega) (by rw [hRl]; omega)
      have hds := distances_any hT.valid (by rw [hRl]; exact hsm) (show t < (bks E E.length).length by rw [hRl]; exact ht) hgR
      rw [hRl] at hds
      have HDS := Lib.hid hds
      have hdl : (dd (bks E E.length) t).length = E.length := (dd_is hT.valid (show t < (bks E E.length).length by rw [hRl]; exact ht)).1.trans hRl
      have HDL := Lib.hid hdl
      clear hT hRl hgR hds hdl
      go_wp2_with fail
      refine HDS.out.mono ?_
      rintro e w5 ⟨v5, rfl, ⟨G5, hg5, rfl, hn5⟩, hb5⟩
      have hb8 : Below S w3 w5 := hbr.trans (hb5.mono (by rw [HS.out]; exact hbr.size))
      have hg5l := Arr.lt hn5
      have e1 : (bks E E.length).length = E.length := bks_length _ _
      rw [e1]
      clear e1
      obtain ⟨U, hU⟩ : ∃ U, U = w5.heap.size := ⟨_, rfl⟩
      have hfa := far_small HK.out.valid ht ha
      have hca := hn5.cell (i := a) (by rw [HDL.out]; exact ha)
      have hfd : (dd (bks E E.length) t).getD a 0 = far E t a := rfl
      rw [hfd] at hca
      have hai : (a : Int) < (E.length : Int) := by omega
      clear hfd
      obtain ⟨d, hd⟩ : ∃ d, d = far E t a := ⟨_, rfl⟩
      rw [← hd] at hca hfa
      have HD := Lib.hid hd
      have HU := Lib.hid hU
      clear hd hU HDS
      by_cases hneg : d < 0
      · go_wp2_with fail
        go_ret2
        refine ⟨.inl ⟨by rw [← HD.out]; exact hneg, rfl⟩, ?_⟩
        exact (hb6.trans (hb8.mono (by rw [HS.out]; exact hb6.size))).alloc (Nat.le_trans hb6.size hb8.size) _
      · obtain ⟨m, rfl⟩ := Int.eq_ofNat_of_zero_le (show 0 ≤ d by omega)
        obtain ⟨w6, w8, Bd, hw6, hw8, hBd, hb9, hU6, hs6, hown8, har8, hb10⟩ := pbox w5 (.slice (some ⟨G5, 0, none⟩) E.length E.length) a
        go_wp2_with fail
        rw [← hw8, ← hBd]
        rw [← HU.out] at hBd hU6 hb9 ⊢
        have hf6 := (hb9.cell (p := ⟨G, 1, none⟩) (show G < U by have := hb8.size; have := HU.out; omega)).trans ((hb8.cell (p := ⟨G, 1, none⟩) hGS).trans f1)
        have hb11 : Below w3.heap.size w3 w6 := by have h1 := hb9; rw [HU.out] at h1; exact (hb8.mono (by rw [HS.out]; exact Nat.le_refl _)).trans (h1.mono (by have := hb8.size; exact this))
        have hn6 : NArr w6 G5 (dd (bks E E.length) t) := Arr.below hn5 hb9 (by rw [HU.out]; exact hg5l)
        have hGB : G < Bd := by rw [← hs6]; exact cell_some_lt hf6
        have hUB : U < Bd := by omega
        have hG5B : G5 < Bd := by rw [← hs6]; exact Arr.lt hn6
        have h3B : w3.heap.size ≤ Bd := by have := hb11.size; omega
        have HB11 := Lib.hid hb11
        have HS6 := Lib.hid hs6
        have hto := far_to HK.out.valid ht
        have hit := hto.it HK.out.valid ha HD.out.symm
        have hend := fun k (hk : k ≤ m) => hto.end_iff HK.out.valid ha HD.out.symm hk
        have hnx := fun v (hv : v < E.length) hp => hto.nx HK.out.valid hv hp
        have HIT := Lib.hid hit
        have HEND := Lib.hid hend
        have HNX := Lib.hid hnx
        have HFS := Lib.hid (fun v (hv : v < E.length) => far_small HK.out.valid ht hv)
        have eg := enters_of Tryz.func64 (by kernel_rfl) rfl
        have EG := Lib.hid eg
        clear hw6 hw8 hBd hs6 hto hit hend hnx eg hca hg5 hrw hbr hb5 hn5 hb8 f1 hb9 hg5l hb11
        go_loopw [15, 16] (fun o p wr => ∃ (k B : Nat), k ≤ m ∧ OwnN wr Bd o (pth E (far E t) a k) ∧ p = .pointer (some ⟨B, 0, none⟩) ∧ Arr wr B 3 [.int .i64 (it E (far E t) a k : Nat)] ∧ o.ownBlock ≠ some B ∧ Bd ≤ B ∧ Below Bd w6 wr) (fun o _ _ => m + 1 - slLen o)
        case atStart => exact ⟨0, Bd + 1, Nat.zero_le _, hown8, rfl, har8, (by simp [Value.ownBlock]), by omega, hb10⟩
        case round =>
          clear hown8 har8 hb10
          obtain ⟨k, B, hkm, hown, rfl, harB, hoB, hBB, hbr⟩ := hrel
          obtain ⟨hyl, hyd⟩ := HIT.out k hkm
          have hye := HEND.out k hkm
          obtain ⟨y, hy⟩ : ∃ y, it E (far E t) a k = y := ⟨_, rfl⟩
          rw [hy] at harB hyl hyd hye
          have hcB := harB.cell 0
          simp only [List.getElem?_cons_zero] at hcB
          have hfB := harB.frozen 0
          have hBl := harB.lt
          have HY := Lib.hid hy
          have HYD := Lib.hid hyd
          have HYE := Lib.hid hye
          clear hy hyd hye
          have hg1 := (hbr.cell (p := ⟨G, 1, none⟩) hGB).trans hf6
          by_cases hkt : k = m
          · have hyt : ((y : Int) != (t : Int)) = false := by rw [HYE.out.2 hkt]; simp
            go_wp2_with fail
            go_ret2
            obtain ⟨A7, c7, e7, hil7⟩ := hown.il (fun x hx => by
              obtain ⟨q, hq, rfl⟩ := List.mem_map.1 hx
              have h1 : q ≤ k := by have := List.mem_range.1 hq; omega
              have := (HIT.out q (by omega)).1
              omega)
            have hpl : (pth E (far E t) a k).length = m + 1 := by rw [pth_length, hkt]
            refine ⟨.inr ⟨by rw [← HD.out]; omega, A7, c7, ?_, ?_⟩, ?_⟩
            · rw [e7, hpl, ← HD.out]; simp
            · rw [hpl] at hil7
              rw [← HD.out, Int.toNat_natCast, ← hkt]
              rw [← hkt] at hil7
              exact hil7
            · exact hb6.trans ((HB11.out.mono hb6.size).trans (hbr.mono (Nat.le_trans hb6.size h3B)))
          · have hyt : ((y : Int) != (t : Int)) = true := by
              rw [bne_iff_ne]
              intro e
              exact hkt (HYE.out.1 (by omega))
            obtain ⟨b2, off2, A2, c2, rfl, hrow3, hr1, hr2, hil3⟩ := hg.row hyl
            have hrow := (hbr.cell (p := ⟨b2, off2 + y, none⟩) (Nat.lt_of_lt_of_le (cell_some_lt hrow3) h3B)).trans ((HB11.out.cell (p := ⟨b2, off2 + y, none⟩) (cell_some_lt hrow3)).trans hrow3)
            have hb3r : Below w3.heap.size w3 wr := HB11.out.trans (hbr.mono h3B)
            have hil := hil3.below hb3r
            have hnr : NArr wr G5 (dd (bks E E.length) t) := Arr.below hn6 hbr hG5B
            have hUr := (hbr.cell (p := ⟨U, 0, none⟩) hUB).trans hU6
            have hask : Asks wr 64 #[.pointer (some ⟨U, 0, none⟩), .pointer (some ⟨B, 0, none⟩)] ((gr E y).map fun x : Nat => (x : Int)) (fun x => far E t x.toNat == far E t y - 1) := by
              intro x hx W' hb
              obtain ⟨x0, hx0, rfl⟩ := List.mem_map.1 hx
              have hx0l : x0 < E.length := HK.out.valid y hyl x0 hx0
              simp only [Int.toNat_natCast]
              exact path1_any ((hb.cell (p := ⟨U, 0, none⟩) (cell_some_lt hUr)).trans hUr) ((hb.cell (p := ⟨B, 0, none⟩) hBl).trans hcB) (hnr.below hb) HDL.out (fun q hq => by have := HFS.out q hq; unfold far at this; omega) hx0l hyl
            obtain ⟨hn1, hn2, hn3, hn4⟩ := HNX.out y hyl (by rw [HYD.out]; omega)
            obtain ⟨z, hz⟩ : ∃ z, nx E (far E t) y = z := ⟨_, rfl⟩
            rw [hz] at hn1 hn2 hn3 hn4
            have hfind : ((gr E y).map fun x : Nat => (x : Int)).find? (fun x => far E t x.toNat == far E t y - 1) = some (z : Int) := by
              rw [find_cast]
              simp only [Int.toNat_natCast]
              rw [hn1]; rfl
            have hitz : it E (far E t) a (k + 1) = z := by rw [← hz, ← HY.out]; rfl
            have HASK := Lib.hid hask
            have HFIND := Lib.hid hfind
            have HITZ := Lib.hid hitz
            clear hask hfind hitz hn1 hn4 hz hil3 hrow3
            have hyi : (y : Int) < (E.length : Int) := by omega
            go_wp2_with fail
            refine (IndexFunc_any hil HASK.out EG.out).mono ?_
            rintro e w7 ⟨⟨i, z', hi1, hi2, rfl⟩ | ⟨hi2, rfl⟩, hb7⟩
            · have hzz : z' = (z : Int) := Option.some.inj (hi2.symm.trans HFIND.out)
              subst hzz
              have hil7 : (gr E y)[i]? = some z := by
                rw [List.getElem?_map] at hi1
                cases hq : (gr E y)[i]? with
                | none => rw [hq] at hi1; cases hi1
                | some q => rw [hq] at hi1; simp at hi1; rw [show q = z by omega]
              have hig := lt_of_some hil7
              obtain ⟨b3, off3, rfl, hcz⟩ := (hil.below hb7).num hil7
              clear hi1 hi2 hil7
              have g1 := (hb7.cell (p := ⟨G, 1, none⟩) (cell_some_lt hg1)).trans hg1
              have gB := (hb7.cell (p := ⟨B, 0, none⟩) hBl).trans hcB
              have fB := (hb7.frozen (p := ⟨B, 0, none⟩) hBl).trans hfB
              have grow := (hb7.cell (p := ⟨b2, off2 + y, none⟩) (cell_some_lt hrow)).trans hrow
              have hB7 : B < w7.heap.size := Nat.lt_of_lt_of_le hBl hb7.size
              have hii : (i : Int) < ((gr E y).length : Int) := by omega
              have hown7 : OwnN ((w7.setCell ⟨B, 0, none⟩ (.int .i64 (z : Nat))).alloc (.cells #[.int .i64 (z : Nat)] 3)) Bd u15 (pth E (far E t) a k) := by
                have h1 := hown.below hb7
                refine h1.keep fun g hg2 => ?_
                have hgl := (h1.lt g hg2).2
                rw [Below.heap_alloc _ _ _ (by simpa [World.setCell] using hgl)]
                exact Below.heap_setCell _ _ _ _ (fun e => hoB (by rw [hg2]; exact congrArg some e))
              have hsz9 : ((w7.setCell ⟨B, 0, none⟩ (.int .i64 (z : Nat))).alloc (.cells #[.int .i64 (z : Nat)] 3)).heap.size = w7.heap.size + 1 := by simp [World.setCell]
              have harN : Arr ((w7.setCell ⟨B, 0, none⟩ (.int .i64 (z : Nat))).alloc (.cells #[.int .i64 (z : Nat)] 3)) w7.heap.size 3 [.int .i64 (z : Nat)] := by
                have h1 := heap_alloc_new (w7.setCell ⟨B, 0, none⟩ (.int .i64 (z : Nat))) (.cells #[.int .i64 (z : Nat)] 3)
                have h2 : (w7.setCell ⟨B, 0, none⟩ (.int .i64 (z : Nat))).heap.size = w7.heap.size := by simp [World.setCell]
                rw [h2] at h1
                exact h1
              have hbr7 : Below Bd w6 w7 := hbr.trans (hb7.mono (by rw [← HS6.out]; exact hbr.size))
              have hB7' : Bd ≤ w7.heap.size := by rw [← HS6.out]; exact hbr7.size
              have hb9 : Below Bd w6 ((w7.setCell ⟨B, 0, none⟩ (.int .i64 (z : Nat))).alloc (.cells #[.int .i64 (z : Nat)] 3)) := (hbr7.setCell (p := ⟨B, 0, none⟩) hBB _).alloc (by simp [World.setCell]; exact hB7') _
              have hplk := pth_length E (far E t) a k
              have HPLK := Lib.hid hplk
              obtain ⟨A15, c15, rfl, hc15, hm15⟩ := hown.slice
              unfold maxLen at hm15
              have HEN := Lib.hid (fun b h => (hown7.lt b h).2)
              have hps := pth_succ E (far E t) a k
              rw [HITZ.out] at hps
              have HPS := Lib.hid hps
              clear hplk hps
              go_wp2_with (at_builtin; go_must (refine wpList_pushN ((w7.setCell ⟨B, 0, none⟩ (.int .i64 (z : Nat))).alloc (.cells #[.int .i64 (z : Nat)] 3)) (by rfl) _ _ (by rfl) Bd _ (pth E (far E t) a k) (by rfl) hown7 z _ (by rfl) (by rw [hsz9]; rfl) (by rw [HPLK.out]; omega) (by rw [hsz9]; omega) ?_); intro A8 c8 w9 hown9 hg9 hob9)
              have harB9 : Arr w9 w7.heap.size 3 [.int .i64 (z : Nat)] := by
                refine (hg9.block w7.heap.size (by rw [hsz9]; omega) (fun e => ?_)).trans harN
                have := (hown.below hb7).lt _ e.symm
                omega
              have hb12 : Below Bd w6 w9 := hb9.grown hg9 (by rw [hsz9]; omega) (fun q hq => (hown7.lt q hq).1)
              have hne9 : Value.ownBlock (.slice A8 ((pth E (far E t) a k).length + 1) c8) ≠ some w7.heap.size := by
                rcases hob9 with e | ⟨b, e, hb⟩
                · rw [e]
                  intro e2
                  have := (hown.below hb7).lt _ e2
                  omega
                · rw [e]
                  intro e2
                  injection e2 with e2
                  rw [hsz9] at hb
                  omega
              go_roundw
              case rel => exact ⟨k + 1, w7.heap.size, by omega, by rw [HPS.out]; exact hown9, rfl, by rw [HITZ.out]; exact harB9, hne9, hB7', hb12⟩
              case measure =>
                have := HPLK.out
                simp only [slLen]
                omega
            · rw [HFIND.out] at hi2; cases hi2
end Go.Proofs.YtpkjdnplmgfbbaaGreatDoor
