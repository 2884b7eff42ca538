/- graph.Closed. -/
import Derived.Test.YtpkjdnplmgfbbaaDoorWlk
namespace Go.Proofs.YtpkjdnplmgfbbaaDoor
open Go.RowKit

/-- The box of a graph argument, and the variable of an integer that is returned. -/
theorem cbox (w : World) (s t : Value) : ∃ W G R, W = (w.alloc (.cells #[s, t] 25)).alloc (.cells #[.bool false, .slice none 0 0] 46) ∧ G = w.heap.size ∧ R = w.heap.size + 1 ∧ Below w.heap.size w W ∧ W.cell? ⟨G, 0, none⟩ = some s ∧ W.cell? ⟨G, 1, none⟩ = some t ∧ Arr W R 46 [.bool false, .slice none 0 0] ∧ G < R ∧ W.heap.size = R + 1 ∧ w.heap.size ≤ G := by
  have hs : (w.alloc (.cells #[s, t] 25)).heap.size = w.heap.size + 1 := by simp
  have h8 := heap_alloc_new (w.alloc (.cells #[s, t] 25)) (.cells #[.bool false, .slice none 0 0] 46)
  rw [hs] at h8
  exact ⟨_, _, _, rfl, rfl, rfl, ((Below.refl _ _).alloc (Nat.le_refl _) _).alloc (by simp) _, by go_simp, by go_simp, h8, by omega, by simp, Nat.le_refl _⟩

theorem Arr.two {w : World} {g : Nat} {t : TypeId} {a b : Value} (h : Arr w g t [a, b]) : w.cell? ⟨g, 0, none⟩ = some a ∧ w.cell? ⟨g, 1, none⟩ = some b ∧ w.frozen? ⟨g, 0, none⟩ = false ∧ w.frozen? ⟨g, 1, none⟩ = false :=
  ⟨h.cell 0, h.cell 1, h.frozen 0, h.frozen 1⟩

set_option maxHeartbeats 1000000 in
theorem Closed_bad {w : World} {v : Value} {names : List ByteArray} {E : List (List Int)} (h : GrV w v names E) (n : Int) (hc : sml names E ≠ 0) :
    Calls Tryd.prog 23 #[v, .int .i64 n] w fun e w' => e = .returned (.tuple #[.agg #[.bool false, .slice none 0 0], .int .i64 (sml names E : Nat)]) ∧ Below w.heap.size w w' := by
  have HC := Lib.hid (fun w' hb => small_any (h.at w' hb))
  generalize sml names E = q at *
  have hz : (((q : Nat) : Int) != 0) = true := by simp [hc]
  clear hc
  obtain ⟨A, c, A', c', rfl, hs, hg⟩ := h
  obtain ⟨W, G, R, hW, hG, hR, hbW, c0, c1, har, hGR, hRW, hwG⟩ := cbox w (.slice A names.length c) (.slice A' E.length c')
  have HW := Lib.hid hW
  have HG := Lib.hid hG
  have HR := Lib.hid hR
  clear hW hG hR
  go_enter Tryd.func23, Tryd.ntmps23
  go_wp2_with (go_at_call 61; rw [← HW.out, ← HR.out, ← HG.out]; refine (HC.out _ hbW).mono ?_; rintro e w1 ⟨rfl, hb1⟩; obtain ⟨r0, r1, f0, f1⟩ := (har.below' hb1).two)
  refine bodyPost_ret (v := .tuple #[.agg #[.bool false, .slice none 0 0], .int .i64 q]) (by simp [results, Tryd.results23, go_sem, r0, r1]) rfl ⟨rfl, ?_⟩
  exact ((hbW.trans (hb1.mono hbW.size)).setCell (p := ⟨R, 0, none⟩) (by simp; omega) _).setCell (p := ⟨R, 1, none⟩) (by simp; omega) _

set_option maxHeartbeats 1000000 in
theorem Closed_range {w : World} {v : Value} {names : List ByteArray} {E : List (List Int)} (h : GrV w v names E) (n : Int) (hc : sml names E = 0) (hn : n < 0 ∨ 100 < n) :
    Calls Tryd.prog 23 #[v, .int .i64 n] w fun e w' => e = .returned (.tuple #[.agg #[.bool false, .slice none 0 0], .int .i64 2]) ∧ Below w.heap.size w w' := by
  have HC := Lib.hid (fun w' hb => small_any (h.at w' hb))
  rw [hc] at HC
  clear hc
  obtain ⟨A, c, A', c', rfl, hs, hg⟩ := h
  obtain ⟨W, G, R, hW, hG, hR, hbW, c0, c1, har, hGR, hRW, hwG⟩ := cbox w (.slice A names.length c) (.slice A' E.length c')
  have HW := Lib.hid hW
  have HG := Lib.hid hG
  have HR := Lib.hid hR
  clear hW hG hR
  by_cases h0 : n < 0
  · clear hn
    go_enter Tryd.func23, Tryd.ntmps23
    go_wp2_with (go_at_call 61; rw [← HW.out, ← HR.out, ← HG.out]; refine (HC.out _ hbW).mono ?_; rintro e w1 ⟨rfl, hb1⟩; obtain ⟨r0, r1, f0, f1⟩ := (har.below' hb1).two)
    refine bodyPost_ret (v := .tuple #[.agg #[.bool false, .slice none 0 0], .int .i64 2]) (by simp [results, Tryd.results23, go_sem, r0, r1]) rfl ⟨rfl, ?_⟩
    exact ((hbW.trans (hb1.mono hbW.size)).setCell (p := ⟨R, 0, none⟩) (by simp; omega) _).setCell (p := ⟨R, 1, none⟩) (by simp; omega) _
  · have h1 : 100 < n := by omega
    have hd : decide (n < 0) = false := by simpa using h0
    clear hn
    go_enter Tryd.func23, Tryd.ntmps23
    go_wp2_with (go_at_call 61; rw [← HW.out, ← HR.out, ← HG.out]; refine (HC.out _ hbW).mono ?_; rintro e w1 ⟨rfl, hb1⟩; obtain ⟨r0, r1, f0, f1⟩ := (har.below' hb1).two)
    refine bodyPost_ret (v := .tuple #[.agg #[.bool false, .slice none 0 0], .int .i64 2]) (by simp [results, Tryd.results23, go_sem, r0, r1]) rfl ⟨rfl, ?_⟩
    exact ((hbW.trans (hb1.mono hbW.size)).setCell (p := ⟨R, 0, none⟩) (by simp; omega) _).setCell (p := ⟨R, 1, none⟩) (by simp; omega) _

/-- Block P is a variable that holds the integer x, in normal form; its words lie behind it. -/
def IVar (w : World) (P : Nat) (x : Int) : Prop := ∃ neg B m q, Arr w P 46 [.bool neg, .slice B m q] ∧ NIntV w (P < ·) (.agg #[.bool neg, .slice B m q]) x
theorem IVar.lt {w : World} {P : Nat} {x : Int} (h : IVar w P x) : P < w.heap.size := by obtain ⟨_, _, _, _, h, _⟩ := h; exact h.lt
theorem IVar.put {w : World} {P : Nat} {a b : Value} (h : Arr w P 46 [a, b]) {neg : Bool} {B : Option Addr} {m q : Nat} {x : Int} (hx : NIntV w (P < ·) (.agg #[.bool neg, .slice B m q]) x) : IVar ((w.setCell ⟨P, 0, none⟩ (.bool neg)).setCell ⟨P, 1, none⟩ (.slice B m q)) P x :=
  ⟨neg, B, m, q, (h.set_ 0 _).set_ 1 _, (hx.setCell (p := ⟨P, 0, none⟩) (by simp) _).setCell (p := ⟨P, 1, none⟩) (by simp) _⟩

def CloR (w : World) (E : List (List Nat)) (n : Nat) (e : Ending) (w' : World) : Prop := ∃ v, e = .returned (.tuple #[v, .int .i64 0]) ∧ NIntV w' (w.heap.size ≤ ·) v (tr E n E.length : Nat) ∧ Below w.heap.size w w'

set_option maxHeartbeats 4000000 in
set_option maxRecDepth 100000 in
theorem Closed_ok {w : World} {v : Value} {names : List ByteArray} {E : List (List Nat)} (h : GrV w v names (toI E)) (hc : sml names (toI E) = 0) (hk : Ok names E) {n : Nat} (hn : n ≤ 100) :
    Calls Tryd.prog 23 #[v, .int .i64 (n : Nat)] w (CloR w E n) := by
  have hsm := hk.small
  have HC := Lib.hid (fun w' hb => small_any (h.at w' hb))
  rw [hc] at HC
  clear hc
  have HWK := Lib.hid (fun w' (hb : Below w.heap.size w w') u (hu : u < E.length) => walks_any (h.below hb) hk hu hn)
  have HWL := Lib.hid (fun (x : Nat) (hx : x ≤ 2500 * 2 ^ (20 * n)) => show wl (x : Int).natAbs ≤ 1000000000000 by
    rw [Int.natAbs_natCast]
    have h1 : x ≤ 2 ^ (20 * n + 12) := Nat.le_trans hx (by rw [Nat.pow_add, Nat.mul_comm]; exact Nat.mul_le_mul_left _ (by omega))
    have := wl_pow h1
    omega)
  have HTR := Lib.hid (fun i (hi : i ≤ E.length) => show tr E n i ≤ 2500 * 2 ^ (20 * n) from Nat.le_trans (tr_le hk.deg (by omega) n i) (Nat.mul_le_mul_right _ (by omega)))
  have HWN := Lib.hid (fun u v => show wn E u n v ≤ 2500 * 2 ^ (20 * n) from Nat.le_trans (wn_small hk u n v) (Nat.le_mul_of_pos_left _ (by omega)))
  obtain ⟨A, c, A', c', rfl, hs, hg⟩ := h
  rw [toI_length] at *
  have hr := hg.room
  unfold maxLen at hr
  obtain ⟨W, G, R, hW, hG, hR, hbW, c0, c1, har, hGR, hRW, hwG⟩ := cbox w (.slice A names.length c) (.slice A' E.length c')
  have HW := Lib.hid hW
  have HG := Lib.hid hG
  have HR := Lib.hid hR
  have HRW := Lib.hid hRW
  clear hW hG hR hk hs hg
  have hGW : G < W.heap.size := by omega
  clear hRW
  go_enter Tryd.func23, Tryd.ntmps23
  go_wp2_with (go_at_call 61; rw [← HW.out, ← HR.out, ← HG.out]; refine (HC.out _ hbW).mono ?_; rintro e w1 ⟨rfl, hb1⟩; have har1 := har.below' hb1; have d0 := ((bcell hb1).1 _ 0 hGW).trans c0; have d1 := ((bcell hb1).1 _ 1 hGW).trans c1; have hb2 := hbW.trans (hb1.mono hbW.size); have hG1 := Nat.lt_of_lt_of_le hGW hb1.size)
  obtain ⟨w2, P, hw2, hP⟩ : ∃ w2 P, w2 = w1.alloc (.cells #[.bool false, .slice none 0 0] 46) ∧ P = w1.heap.size := ⟨_, _, rfl, rfl⟩
  have hiv : IVar w2 P (tr E n 0 : Nat) := by
    rw [hw2, hP]
    exact ⟨false, none, 0, 0, heap_alloc_new w1 _, NIntV.zero _ _⟩
  have har2 : Arr w2 R 46 [.bool false, .slice none 0 0] := by rw [hw2]; exact har1.alloc _
  have hb3 : Below w1.heap.size w1 w2 := by rw [hw2]; exact (Below.refl _ _).alloc (Nat.le_refl _) _
  have e0 := (hb3.cell (p := ⟨G, 0, none⟩) hG1).trans d0
  have e1 := (hb3.cell (p := ⟨G, 1, none⟩) hG1).trans d1
  have hGP : G < P := by rw [hP]; exact hG1
  have hRP : R < P := by rw [hP]; exact har1.lt
  have hPw : w.heap.size ≤ P := by rw [hP]; exact hb2.size
  have hb4 := hb2.trans (hb3.mono hb2.size)
  rw [← hw2, ← hP]
  clear hw2 hP har1 d0 d1 hb1 hb2 hb3 har c0 c1
  go_loopw [26] (fun i wr => ∃ k : Nat, k ≤ E.length ∧ i = .int .i64 (k : Nat) ∧ IVar wr P (tr E n k : Nat) ∧ Fr (· = P) w2 wr) (fun i _ => E.length - (intOf i).toNat)
  case atStart => exact ⟨0, Nat.zero_le _, rfl, hiv, Fr.refl _ _⟩
  case round =>
    clear hiv
    obtain ⟨k, hkl, rfl, hiv, hfr⟩ := hrel
    have hPr := hiv.lt
    obtain ⟨neg, B, m, q, harP, hnv⟩ := hiv
    obtain ⟨p0, p1, z0, z1⟩ := harP.two
    have g0 := (hfr.cell (cell_some_lt e0) (show ¬ G = P by omega)).trans e0
    have g1 := (hfr.cell (cell_some_lt e1) (show ¬ G = P by omega)).trans e1
    have hb5 : Below w.heap.size w wr := hb4.trans (hfr.below hb4.size (fun b hb => by rw [hb]; exact hPw))
    by_cases hlt : k < E.length
    · have hki : (k : Int) < (E.length : Int) := by omega
      have hk0 : (0 : Int) ≤ (k : Int) := by omega
      have hdr : Below wr.heap.size wr wr.drew := (Below.refl _ _).drew
      have HK2 := Lib.hid (HWK.out _ (hb5.trans (hdr.mono hb5.size)) k hlt)
      have HA := Lib.hid (fun w' v' D (hb : Below wr.heap.size wr w') (hv : NIntV w' D v' (wn E k n k : Nat)) => Add_any (hnv.below hb).int hv.int (HWL.out _ (HTR.out k hkl)) (HWL.out _ (HWN.out k k)))
      have hGr : G < wr.heap.size := Nat.lt_trans hGP hPr
      have HPP := Lib.hid harP
      clear hnv harP
      go_wp2_with fail
      go_region_with (first
        | (go_at_call 60; ((with_reducible refine HK2.out.mono ?_)); rintro e w5 ⟨v5, rfl, ⟨S5, hS5, rfl, hia5⟩, hb6⟩; rw [lf_length]; have hB6 := hdr.trans (hb6.mono hdr.size); have s0 := (hB6.cell (p := ⟨P, 0, none⟩) hPr).trans p0; have s1 := (hB6.cell (p := ⟨P, 1, none⟩) hPr).trans p1; obtain ⟨neg3, B3, m3, q3, o0, o1, o2⟩ := hia5.cells (j := k) (by rw [lf_length]; exact hlt); rw [lf_get hlt] at o2; have O2 := Lib.hid o2; clear o2)
        | (go_at_call 62; ((with_reducible refine (HA.out _ _ _ hB6 O2.out).mono ?_)); rintro e w4 ⟨v4, rfl, ⟨A4, c4, rfl, hv4⟩, hb7⟩; have hB4 := hB6.trans (hb7.mono hB6.size); have t0 := (hB4.cell (p := ⟨P, 0, none⟩) hPr).trans p0; have t1 := (hB4.cell (p := ⟨P, 1, none⟩) hPr).trans p1; have zz0 := (hB4.frozen (p := ⟨P, 0, none⟩) hPr).trans z0; have zz1 := (hB4.frozen (p := ⟨P, 1, none⟩) hPr).trans z1))
      all_goals
        go_wp2_with fail
        go_roundw
        case rel =>
          have hn4 : NIntV w4 (P < ·) (.agg #[.bool _, .slice A4 _ c4]) ((tr E n k : Nat) + (wn E k n k : Nat) : Int) := ⟨A4, c4, rfl, hv4.mono fun b hb _ => by have h1 : w5.heap.size ≤ b := hb; have := hB6.size; omega⟩
          have hset := IVar.put (HPP.out.below' hB4) hn4
          refine ⟨k + 1, by omega, by go_num, ?_, ?_⟩
          · have e : ((tr E n (k + 1) : Nat) : Int) = (tr E n k : Nat) + (wn E k n k : Nat) := by rw [tr]; omega
            rw [e]
            exact hset
          · exact ((hfr.trans (Fr.of_below' hB4)).trans (Fr.setCell (O := (· = P)) (p := ⟨P, 0, none⟩) (fun _ => rfl) _)).trans (Fr.setCell (O := (· = P)) (p := ⟨P, 1, none⟩) (fun _ => rfl) _)
        case measure => simp [intOf]; omega
    · obtain rfl : k = E.length := by omega
      obtain ⟨r0, r1, f0, f1⟩ := (hfr.arr har2 (show ¬ R = P by omega)).two
      go_wp2_with fail
      refine bodyPost_ret (v := .tuple #[.agg #[.bool neg, .slice B m q], .int .i64 0]) (by simp [results, Tryd.results23, go_sem, r0, r1]) rfl ⟨_, rfl, ?_, ?_⟩
      · exact ((hnv.setCell (p := ⟨R, 0, none⟩) (by simp; omega) _).setCell (p := ⟨R, 1, none⟩) (by simp; omega) _).mono (fun b hb _ => by have h1 : P < b := hb; show w.heap.size ≤ b; omega)
      · exact (hb5.setCell (p := ⟨R, 0, none⟩) (by simp; omega) _).setCell (p := ⟨R, 1, none⟩) (by simp; omega) _
end Go.Proofs.YtpkjdnplmgfbbaaDoor
