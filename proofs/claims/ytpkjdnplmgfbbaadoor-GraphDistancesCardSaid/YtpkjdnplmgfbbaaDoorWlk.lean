/- graph.walks, graph.small. -/
import Derived.Test.YtpkjdnplmgfbbaaDoorStp
import Derived.Test.YtpkjdnplmgfbbaaDoorPath2
namespace Go.Proofs.YtpkjdnplmgfbbaaDoor
open Go.RowKit

theorem IntsAt.le {w w1 w' : World} {l : List Int} {v : Value} (h : IntsAt w1 l w' v) (hb : w.heap.size ≤ w1.heap.size) : IntsAt w l w' v := by
  obtain ⟨S, h1, h2, h3⟩ := h
  exact ⟨S, Nat.le_trans hb h1, h2, h3⟩
theorem wn_small {names : List ByteArray} {E : List (List Nat)} (hk : Ok names E) (u m v : Nat) : wn E u m v ≤ 2 ^ (20 * m) := wn_le hk.deg (by have := hk.small; omega) m v

set_option maxHeartbeats 4000000 in
set_option maxRecDepth 100000 in
theorem walks_any {w : World} {v : Value} {names : List ByteArray} {E : List (List Nat)} (h : GrV w v names (toI E)) (hk : Ok names E) {u n : Nat} (hu : u < E.length) (hn : n ≤ 100) :
    Calls Tryd.prog 60 #[v, .int .i64 (u : Nat), .int .i64 (n : Nat)] w (Gives w (IntsAt w (lf (wn E u n) E.length))) := by
  have hsm := hk.small
  have HST := Lib.hid (fun w' (hb : Below w.heap.size w w') A c k (hk2 : k ≤ 100) (hl : Pl NI w' (fun _ => True) A E.length c (lf (wn E u k) E.length)) => stepped_any (h.below hb) hk hl (M := 20 * k) (fun i => wn_small hk u k i) (by omega))
  obtain ⟨A1, c1, A', c', rfl, hs, hg⟩ := h
  rw [toI_length] at *
  obtain ⟨W, G, hW, hG, hbW, c0, c1', hGl, hwG⟩ := gbox w (.slice A1 names.length c1) (.slice A' E.length c')
  have HW := Lib.hid hW
  have HG := Lib.hid hG
  have HK := Lib.hid hk
  clear hW hG hs hk hg
  obtain ⟨S, hS⟩ : ∃ S, S = W.heap.size := ⟨_, rfl⟩
  have HS := Lib.hid hS
  have hSW : W.heap.size ≤ S := by omega
  have hGS : G < S := by omega
  have hui : (u : Int) < (E.length : Int) := by omega
  clear hS
  go_enter Tryd.func60, Tryd.ntmps60
  go_wp2_with (first
    | (refine wpList_make_arr _ rfl _ _ 41 rfl 46 (.agg #[.bool false, .slice none 0 0]) 2 32 Tryd.underlying41 info_Int _ _ _ _ E.length rfl rfl rfl rfl (by omega) (by omega) ?_; rw [← HW.out, ← HS.out]; intro w1 har hb1 hs1; have hna := IArr.made har; have HNA := Lib.hid hna; clear har hna hs1)
    | (go_at_call 42; rw [← HG.out]; refine (Of_any 1 _ (by omega) (by omega)).mono ?_; rintro e w4 ⟨v4, rfl, ⟨A4, c4, rfl, hv4⟩, hb4⟩; have hia4 := HNA.out.below hb4; obtain ⟨neg3, B3, m3, q3, o0, o1, o2⟩ := hia4.cells (j := u) (by simpa using hu); have z0 := hia4.frozen (u * 2); have z1 := hia4.frozen (u * 2 + 1)))
  have hn4 : NIntV w4 (· ≠ S) (.agg #[.bool _, .slice A4 _ c4]) 1 := ⟨A4, c4, rfl, hv4.mono fun b hb _ => by have h1 : w1.heap.size ≤ b := hb; have := HNA.out.lt; omega⟩
  have hset := hia4.set (i := u) (by simpa using hu) hn4
  have hset2 := hset.cast (show (List.replicate E.length (0 : Int)).set u 1 = lf (wn E u 0) E.length by
    refine gz_ext (by simp [lf_length]) fun j hj => ?_
    rw [List.length_set, List.length_replicate] at hj
    rw [gz_set (by simpa using hu), lf_get hj, gz_replicate, wn]
    by_cases e : u = j
    · rw [if_pos e, if_pos e.symm]; rfl
    · rw [if_neg e, if_neg (fun e2 => e e2.symm)]; rfl)
  have hb5 : Below S W w4 := hb1.trans (hb4.mono (by have := HNA.out.lt; omega))
  have hb6 := (hb5.setCell (p := ⟨S, u * 2, none⟩) (Nat.le_refl _) (.bool (decide ((1 : Int) < 0)))).setCell (p := ⟨S, u * 2 + 1, none⟩) (Nat.le_refl _) (.slice A4 (wl (1 : Int).natAbs) c4)
  go_loopw [7, 17] (fun o i wr => ∃ k S' : Nat, k ≤ n ∧ i = .int .i64 (k : Nat) ∧ o = .slice (some ⟨S', 0, none⟩) E.length E.length ∧ IArr wr S' (lf (wn E u k) E.length) ∧ S ≤ S' ∧ Below S W wr) (fun _ i _ => n - (intOf i).toNat)
  case atStart => exact ⟨0, S, Nat.zero_le _, rfl, rfl, hset2, Nat.le_refl _, hb6⟩
  case round =>
    clear hset2 hb6 hset hn4 o0 o1 o2 z0 z1 hia4 hb5 hb4 hv4 HNA hb1
    obtain ⟨k, S', hkl, rfl, rfl, hia, hSS, hbr⟩ := hrel
    have hb7 : Below w.heap.size w wr := hbW.trans (hbr.mono (by have := hbW.size; omega))
    have d0 := (hbr.cell (p := ⟨G, 0, none⟩) hGS).trans c0
    have d1 := (hbr.cell (p := ⟨G, 1, none⟩) hGS).trans c1'
    by_cases hlt : k < n
    · have hpl := hia.pl (D := fun _ => True) trivial (by rw [lf_length]; unfold maxLen; omega)
      rw [lf_length] at hpl
      go_wp2_with (go_at_call 104; refine (HST.out _ hb7 _ _ k (by omega) hpl).mono ?_; rintro e w8 ⟨v8, rfl, ⟨S8, hS8, rfl, hia8⟩, hb8⟩; rw [lf_length])
      go_roundw
      case rel => exact ⟨k + 1, S8, by omega, by go_num, rfl, hia8, by have := hbr.size; have := HS.out; omega, hbr.trans (hb8.mono (by have := hbr.size; have := HS.out; omega))⟩
      case measure => simp [intOf]; omega
    · obtain rfl : k = n := by omega
      go_wp2_with fail
      go_ret
      exact ⟨_, rfl, ⟨S', by have := hbW.size; omega, by rw [lf_length]; rfl, hia⟩, hb7⟩

/-- The error of a graph whose matrix is asked for. -/
noncomputable def sml (names : List ByteArray) (E : List (List Int)) : Nat := if chk names E ≠ 0 then chk names E else if 60 < names.length then 8 else 0
set_option maxHeartbeats 1000000 in
theorem small_any {w : World} {v : Value} {names : List ByteArray} {E : List (List Int)} (h : GrV w v names E) :
    Calls Tryd.prog 61 #[v] w (ChkR w (sml names E)) := by
  have HC := Lib.hid (fun w' hb => Check_any (h.at w' hb))
  obtain ⟨A, c, A', c', rfl, hs, hg⟩ := h
  have hr := hs.room
  unfold maxLen at hr
  obtain ⟨W, G, hW, hG, hbW, c0, c1, hGl, hwG⟩ := gbox w (.slice A names.length c) (.slice A' E.length c')
  have HW := Lib.hid hW
  have HG := Lib.hid hG
  clear hW hG hs hg
  by_cases hc : chk names E = 0
  · rw [hc] at HC
    by_cases h60 : 60 < names.length
    · have e : 8 = sml names E := by unfold sml; rw [if_neg (by simp [hc]), if_pos h60]
      have HE := Lib.hid e
      clear e hc
      go_enter Tryd.func61, Tryd.ntmps61
      go_wp2_with (go_at_call 34; rw [← HW.out, ← HG.out]; refine (HC.out _ hbW).mono ?_; rintro e w1 ⟨rfl, hb1⟩; have d0 := ((bcell hb1).1 _ 0 hGl).trans c0)
      go_ret
      exact chkR_of HE.out (hbW.trans (hb1.mono hbW.size))
    · have e : 0 = sml names E := by unfold sml; rw [if_neg (by simp [hc]), if_neg h60]
      have HE := Lib.hid e
      clear e hc
      go_enter Tryd.func61, Tryd.ntmps61
      go_wp2_with (go_at_call 34; rw [← HW.out, ← HG.out]; refine (HC.out _ hbW).mono ?_; rintro e w1 ⟨rfl, hb1⟩; have d0 := ((bcell hb1).1 _ 0 hGl).trans c0)
      go_ret
      exact chkR_of HE.out (hbW.trans (hb1.mono hbW.size))
  · have e : chk names E = sml names E := by unfold sml; rw [if_pos hc]
    have HE := Lib.hid e
    clear e
    generalize chk names E = q at *
    have hz : (((q : Nat) : Int) != 0) = true := by simp [hc]
    clear hc
    go_enter Tryd.func61, Tryd.ntmps61
    go_wp2_with (go_at_call 34; rw [← HW.out, ← HG.out]; refine (HC.out _ hbW).mono ?_; rintro e w1 ⟨rfl, hb1⟩)
    go_ret
    exact chkR_of HE.out (hbW.trans (hb1.mono hbW.size))
end Go.Proofs.YtpkjdnplmgfbbaaDoor
