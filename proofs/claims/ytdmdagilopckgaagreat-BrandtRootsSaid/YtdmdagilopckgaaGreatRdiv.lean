/- The references' division of digits. -/
import Derived.Test.YtdmdagilopckgaaGreatA3
namespace Go.Proofs.YtdmdagilopckgaaGreat
open Go.RowKit

def Gives2 (w : World) (R : World → Value → Value → Prop) (e : Ending) (w' : World) : Prop := ∃ v1 v2, e = .returned (.tuple #[v1, v2]) ∧ R w' v1 v2 ∧ Below w.heap.size w w'

theorem hd_one (w : World) (D : Nat → Prop) (hd : D w.heap.size) (x : Nat) (hx : x < 65536) : Hd (w.alloc (.cells #[.int .i64 (x : Int)] 3)) D (some ⟨w.heap.size, 0, none⟩) 1 1 [x] := by
  have ha : HArr (w.alloc (.cells #[.int .i64 (x : Int)] 3)) w.heap.size [x] := Arr.new w 3 [.int .i64 (x : Int)]
  exact ha.wd (fun y hy => by rw [List.mem_singleton.1 hy]; exact hx) (by simp [maxLen]) hd

theorem dig_cons {b d R : Nat} (hb : 2 ≤ b) (hd : d < b) : trim (d :: dig b R) = dig b (d + b * R) := by
  rw [trim_eq_dig hb (by intro x hx; rcases List.mem_cons.1 hx with rfl | hx; exact hd; exact dig_lt hb R x hx)]
  simp only [val, val_dig hb]

theorem div_step {B V R R' d m T Q : Nat} (hR' : R' = d + B * R) (hT : T = Q * V + R) (hm : m * V ≤ R') : d + B * T = (m + B * Q) * V + (R' - m * V) := by
  subst hT
  rw [Nat.add_mul, Nat.mul_add]
  have : B * (Q * V) = B * Q * V := (Nat.mul_assoc ..).symm
  omega

set_option maxRecDepth 100000 in
set_option maxHeartbeats 3000000 in
theorem rdivide_any {D D' : Nat → Prop} {A A' : Option Addr} {n c n' c' : Nat} {l l' : List Nat} {w : World} (h : Hd w D A n c l) (h' : Hd w D' A' n' c' l') (hn : n ≤ 3000000000000) (hn' : n' ≤ 3000000000000) (hv : 0 < val 65536 l') :
    Calls Tryz.prog 98 #[.slice A n c, .slice A' n' c'] w (Gives2 w fun w' v1 v2 => HdV w' (w.heap.size ≤ ·) v1 (dig 65536 (val 65536 l / val 65536 l')) ∧ HdV w' (w.heap.size ≤ ·) v2 (dig 65536 (val 65536 l % val 65536 l'))) := by
  obtain ⟨V, hV⟩ : ∃ V, V = val 65536 l' := ⟨_, rfl⟩
  rw [← hV] at hv ⊢
  have HVpos := Lib.hid hv
  clear hv
  have hVlt : V < 65536 ^ n' := by have := val_lt h'.small; rw [h'.len] at this; omega
  have HVL := Lib.hid hVlt
  have HV := Lib.hid hV
  clear hVlt hV
  have HLN := Lib.hid h.len
  go_enter Tryz.func98, Tryz.ntmps98
  go_wp2_with (at_make; go_must (refine wpList_make_arr _ rfl _ _ _ rfl 3 (.int .i64 0) 1 8 Tryz.underlying84 info_intA _ _ _ _ n rfl rfl (by omega) (by omega) (by omega) (by omega) ?_); intro w1 ha hb hz)
  have HZ := Lib.hid hz
  clear hz
  go_loopw [7, 8] (fun r i wr => ∃ (k R : Nat) (qs : List Nat) (A1 : Option Addr) (c1 : Nat), k ≤ n ∧ i = .int .i64 ((k : Int) - 1) ∧ r = .slice A1 (dig 65536 R).length c1 ∧ Hd wr (w.heap.size < ·) A1 (dig 65536 R).length c1 (dig 65536 R) ∧ HArr wr w.heap.size qs ∧ Hid (qs.length = n) ∧ (∀ y ∈ qs, y < 65536) ∧ Below w.heap.size w wr ∧
       Hid (val 65536 (l.drop k) = val 65536 (qs.drop k) * V + R) ∧ Hid (R < V)) (fun _ i _ => (intOf i + 1).toNat)
  case atStart =>
    refine ⟨n, 0, List.replicate n 0, none, 0, by omega, rfl, rfl, Hd.nil 0 (by unfold maxLen; omega), HArr.made ha, List.length_replicate, fun y hy => by rw [List.eq_of_mem_replicate hy]; omega, hb, ?_, HVpos.out⟩
    show _ = _
    rw [List.drop_of_length_le (by rw [HLN.out]; omega), List.drop_of_length_le (by simp)]
    simp [val]
  case round =>
    obtain ⟨k, R, qs, A1, c1, hk, rfl, rfl, hdr, harr, hlen, hsm, hbl, hinv, hRV⟩ := hrel
    obtain ⟨wo, rfl⟩ : ∃ wo : World, wo = wr := ⟨_, rfl⟩
    have hrl : (dig 65536 R).length ≤ n' := dig_length_le (by omega) (by have := hRV.out; have := HVL.out; omega)
    rcases Nat.eq_zero_or_pos k with h0 | h0
    · subst h0
      have hlen' := hlen.out
      have hwd := harr.wd hsm (by rw [hlen']; unfold maxLen; omega) (D := (w.heap.size ≤ ·)) (Nat.le_refl _)
      rw [hlen'] at hwd
      clear hlen'
      go_wp2_with (go_at_call 99; ((with_reducible refine (rtrim_any hwd (by omega)).mono ?_)); rintro e w2 ⟨v2, rfl, hv2, hb2⟩)
      go_ret2
      have hi := hinv.out
      simp only [List.drop_zero] at hi
      have hr := hRV.out
      have e1 : val 65536 l / V = val 65536 qs := by
        rw [hi, Nat.mul_comm, Nat.mul_add_div HVpos.out, Nat.div_eq_of_lt hr, Nat.add_zero]
      have e2 : val 65536 l % V = R := by
        rw [hi, Nat.mul_comm, Nat.mul_add_mod, Nat.mod_eq_of_lt hr]
      refine ⟨_, _, rfl, ?_, hbl.trans (hb2.mono hbl.size)⟩
      rw [e1, e2, ← trim_eq_dig (by omega) hsm]
      refine ⟨?_, ?_⟩
      · obtain ⟨A5, c5, rfl, hd5⟩ := hv2
        exact ⟨A5, c5, rfl, hd5.mono (fun b hb _ => by have : wo.heap.size ≤ b := hb; have := hbl.size; show w.heap.size ≤ b; omega)⟩
      · exact ⟨A1, c1, rfl, (hdr.below hb2).mono (fun b hb _ => by have : w.heap.size < b := hb; show w.heap.size ≤ b; omega)⟩
    · obtain ⟨j, rfl⟩ : ∃ j, k = j + 1 := ⟨k - 1, by omega⟩
      obtain ⟨b, off, rfl, hbD, hcl⟩ := h.cells (by omega)
      have hbl0 := cell_lt (hcl 0 (by omega))
      have hc1 : wo.cell? ⟨b, off + j, none⟩ = some (.int .i64 (gw l j)) := by
        rw [hbl.cell (p := ⟨b, off + j, none⟩) hbl0]; exact hcl j (by omega)
      clear hcl
      have g1 := gw_bound h.small (by omega) j
      have hi : (((j + 1 : Nat) : Int) - 1) = (j : Int) := by omega
      rw [hi]
      clear hi
      obtain ⟨R', hR'⟩ : ∃ R', R' = gw l j + 65536 * R := ⟨_, rfl⟩
      have HR' := Lib.hid hR'
      clear hR'
      go_wp2_with (first
        | (at_builtin; go_must (refine wpList_app _ rfl _ _ _ _ rfl wo.heap.size 3 3 (.int .i64 0) 1 8 Tryz.underlying84 Tryz.underlying84 info_intA rfl (by omega) (.slice (some ⟨wo.heap.size, 0, none⟩) 1 1) 1 [.int .i64 (gw l j)] rfl (World.ownsRow_lit wo #[.int .i64 (gw l j)] 1 (Nat.le_refl _) (by unfold maxLen; omega) rfl) A1 (dig 65536 R).length c1 _ rfl ((hdr.alloc _).src) (halves_oneCell _) (by unfold maxLen; omega) (by omega) (by simp) ?_); intro v2 w2 hown2 hgr2 hat2; obtain ⟨A2, c2, rfl, hd2⟩ := hd_of_own (l := gw l j :: dig 65536 R) hown2 (by intro x hx; rcases List.mem_cons.1 hx with rfl | hx; exact g1; exact dig_lt (by omega) R x hx))
        | (go_at_call 99; ((with_reducible refine (rtrim_any hd2 (by omega)).mono ?_)); rintro e w3 ⟨v3, rfl, ⟨A3, c3, rfl, hd3⟩, hb3⟩; rw [dig_cons (by omega) g1, ← HR'.out] at hd3 ⊢))
      have hbr2 : Below wo.heap.size wo w2 := ((Below.refl _ _).alloc (Nat.le_refl _) _).grown hgr2 (by simp) (fun g hg => by simp [Value.ownBlock] at hg; omega)
      have hbr3 : Below wo.heap.size wo w3 := hbr2.trans (hb3.mono hbr2.size)
      have hsz3 : w.heap.size < w3.heap.size := by have := harr.lt; have := hbr3.size; omega
      have hRb : R' < 65536 * V := by
        have h1 := HR'.out
        have h2 := hRV.out
        have h3 : 65536 * (R + 1) ≤ 65536 * V := Nat.mul_le_mul_left _ h2
        omega
      have HRB := Lib.hid hRb
      clear hRb
      have hR'l : (dig 65536 R').length ≤ n' + 1 := dig_length_le (by omega) (by
        have h1 := HRB.out
        have h2 := HVL.out
        rw [Nat.pow_succ]
        have h3 : 65536 * V ≤ 65536 * 65536 ^ n' := Nat.mul_le_mul_left _ (Nat.le_of_lt h2)
        omega)
      have hw3 : Hd w3 D' A' n' c' l' := (h'.below hbl).below hbr3
      have harr3 : HArr w3 w.heap.size qs := Arr.below' harr hbr3
      have hlo0 : w.heap.size < wo.heap.size := harr.lt
      clear harr
      go_loopw [9, 10] (fun lo hi w' => ∃ (x y : Nat), x ≤ y ∧ y ≤ 65535 ∧ lo = .int .i64 x ∧ hi = .int .i64 y ∧ Below w3.heap.size w3 w' ∧ Hid (x * V ≤ R') ∧ Hid (R' < (y + 1) * V)) (fun lo hi _ => (intOf hi - intOf lo).toNat)
      case atStart => exact ⟨0, 65535, by omega, by omega, rfl, rfl, Below.refl _ _, by show _ ≤ _; omega, HRB.out⟩
      case round =>
        obtain ⟨x, y, hxy, hy, rfl, rfl, hb4, hlo, hhi⟩ := hrel
        have hdr4 := hd3.below hb4
        have hw4 := hw3.below hb4
        have HV' := Lib.hid (show val 65536 l' = V from HV.out.symm)
        have hdm : ∀ m, m < 65536 → (dig 65536 (V * m)).length ≤ n' + 1 := fun m hm => dig_length_le (by omega) (by
          have h2 := HVL.out
          rw [Nat.pow_succ]
          exact Nat.mul_lt_mul'' h2 (by omega))
        have HDM := Lib.hid hdm
        clear hdm
        rcases Nat.lt_or_ge x y with hxy' | hxy'
        · obtain ⟨m, hm⟩ : ∃ m, m = (x + y + 1) / 2 := ⟨_, rfl⟩
          have hm1 : x < m := by omega
          have hm2 : m ≤ y := by omega
          have em : ((x : Int) + y + 1) / 2 = (m : Int) := by omega
          have HM := Lib.hid hm
          clear hm
          by_cases hlt : R' < V * m
          · have hdec : decide (R' < V * m) = true := by simpa using hlt
            have HLT := Lib.hid hlt
            clear hlt
            go_wp2_with (first
              | (go_at_call 97; ((with_reducible refine (rtimes_any (hw4.alloc _) (hd_one wr (fun _ => True) trivial m (by omega)) (by omega) (by omega)).mono ?_)); rintro e w5 ⟨v5, rfl, ⟨A5, c5, rfl, hd5⟩, hb5⟩; rw [HV'.out] at hd5 ⊢; simp only [val, Nat.mul_zero, Nat.add_zero] at hd5 ⊢)
              | (go_at_call 95; ((with_reducible refine (rless_b ((hdr4.alloc _).below hb5) hd5 (trim_dig (by omega) _) (trim_dig (by omega) _)).mono ?_)); rintro e w6 ⟨rfl, hb6⟩; rw [val_dig (by omega), val_dig (by omega)]))
            go_roundw
            case rel =>
              refine ⟨x, m - 1, by omega, by omega, rfl, by go_num, hb4.trans ((((Below.refl _ _).alloc (Nat.le_refl _) _).trans (hb5.mono (by simp))).trans (hb6.mono (by have := hb5.size; simp at this; omega)) |>.mono hb4.size), hlo, ?_⟩
              show _ < _
              have := HLT.out
              rw [Nat.sub_add_cancel (by omega), Nat.mul_comm]
              exact this
            case measure => simp [intOf]; omega
          · have hdec : decide (R' < V * m) = false := by simpa using hlt
            have HLT := Lib.hid hlt
            clear hlt
            go_wp2_with (first
              | (go_at_call 97; ((with_reducible refine (rtimes_any (hw4.alloc _) (hd_one wr (fun _ => True) trivial m (by omega)) (by omega) (by omega)).mono ?_)); rintro e w5 ⟨v5, rfl, ⟨A5, c5, rfl, hd5⟩, hb5⟩; rw [HV'.out] at hd5 ⊢; simp only [val, Nat.mul_zero, Nat.add_zero] at hd5 ⊢)
              | (go_at_call 95; ((with_reducible refine (rless_b ((hdr4.alloc _).below hb5) hd5 (trim_dig (by omega) _) (trim_dig (by omega) _)).mono ?_)); rintro e w6 ⟨rfl, hb6⟩; rw [val_dig (by omega), val_dig (by omega)]))
            go_roundw
            case rel =>
              refine ⟨m, y, by omega, by omega, rfl, rfl, hb4.trans ((((Below.refl _ _).alloc (Nat.le_refl _) _).trans (hb5.mono (by simp))).trans (hb6.mono (by have := hb5.size; simp at this; omega)) |>.mono hb4.size), ?_, hhi⟩
              show _ ≤ _
              have := HLT.out
              rw [Nat.mul_comm]
              omega
            case measure => simp [intOf]; omega
        · obtain rfl : x = y := by omega
          have harr4 : HArr wr w.heap.size qs := Arr.below' harr3 hb4
          have hcell := harr4.cell (i := j) (by rw [hlen.out]; omega)
          have hfz := harr4.frozen j
          have hsz4 : w.heap.size < wr.heap.size := harr4.lt
          have hdx := HDM.out x (by omega)
          have hwq : Hd (wr.setCell ⟨w.heap.size, j, none⟩ (.int .i64 (x : Int))) (· < w.heap.size) A' n' c' l' := by
            have h1 : Hd wr (· < w.heap.size) A' n' c' l' := (((h'.mono (D' := (· < w.heap.size)) (fun b _ hb => hb)).below hbl).below hbr3).below hb4
            exact h1.setCell (p := ⟨w.heap.size, j, none⟩) (by simp) _
          have hrq : Hd (wr.setCell ⟨w.heap.size, j, none⟩ (.int .i64 (x : Int))) (w.heap.size < ·) A3 (dig 65536 R').length c3 (dig 65536 R') := by
            have h1 : Hd wr (w.heap.size < ·) A3 (dig 65536 R').length c3 (dig 65536 R') := (hd3.mono (D' := (w.heap.size < ·)) (fun b hb _ => by have : w2.heap.size ≤ b := hb; have := hbr2.size; have := hlo0; show w.heap.size < b; omega)).below hb4
            exact h1.setCell (p := ⟨w.heap.size, j, none⟩) (by simp) _
          obtain ⟨W5, hW5⟩ : ∃ W5, W5 = wr.setCell ⟨w.heap.size, j, none⟩ (.int .i64 (x : Int)) := ⟨_, rfl⟩
          have HW5 := Lib.hid hW5
          rw [← hW5] at hwq hrq
          have harr5 : HArr W5 w.heap.size (qs.set j x) := by rw [hW5]; exact harr4.set_ j x
          have hbW5 : Below w.heap.size w W5 := by rw [hW5]; exact ((hbl.trans (hbr3.mono hbl.size)).trans (hb4.mono (by omega))).setCell (Nat.le_refl _) _
          have HS5 := Lib.hid (show W5.heap.size = wr.heap.size by rw [hW5]; simp [World.setCell])
          clear hW5
          go_wp2_with (first
            | (go_at_call 97; rw [← HW5.out, ← HS5.out]; go_must (with_reducible refine (rtimes_any (hwq.alloc _) (hd_one W5 (fun _ => True) trivial x (by omega)) (by omega) (by omega)).mono ?_); rintro e w5 ⟨v5, rfl, ⟨A5, c5, rfl, hd5⟩, hb5⟩; rw [HV'.out] at hd5 ⊢; simp only [val, Nat.mul_zero, Nat.add_zero] at hd5 ⊢)
            | (go_at_call 96; ((with_reducible refine (rminus_any ((hrq.alloc _).below hb5) hd5 (by omega) (by rw [val_dig (by omega), val_dig (by omega), Nat.mul_comm]; exact hlo.out)).mono ?_)); rintro e w6 ⟨v6, rfl, ⟨A6, c6, rfl, hd6⟩, hb6⟩; rw [val_dig (by omega), val_dig (by omega)] at hd6 ⊢))
          go_roundw
          case rel =>
            have hb6' : Below W5.heap.size W5 w6 := ((Below.refl _ _).alloc (Nat.le_refl _) _ |>.trans (hb5.mono (by simp))).trans (hb6.mono (by have := hb5.size; simp at this; omega))
            have hxR := hlo.out
            have hRx := hhi.out
            rw [Nat.add_mul, Nat.one_mul] at hRx
            refine ⟨j, R' - x * V, qs.set j x, A6, c6, by omega, rfl, by rw [Nat.mul_comm x V], ?_, Arr.below' harr5 hb6', by simpa [Hid] using hlen, fun z hz => ?_, hbW5.trans (hb6'.mono hbW5.size), ?_, by show _ < _; omega⟩
            · rw [Nat.mul_comm x V]
              exact hd6.mono (fun b hb _ => by have : w5.heap.size ≤ b := hb; have := hb5.size; simp at this; have := HS5.out; show w.heap.size < b; omega)
            · rcases List.mem_or_eq_of_mem_set hz with hz | rfl
              · exact hsm z hz
              · omega
            · show _ = _
              have hjl : j < l.length := by rw [HLN.out]; omega
              have hjq : j < (qs.set j x).length := by rw [List.length_set, hlen.out]; omega
              have hds : (qs.set j x).drop (j + 1) = qs.drop (j + 1) := by rw [List.drop_set_of_lt (by omega)]
              rw [drop_gw hjl, drop_gw hjq, hds, gw_set_self (by rw [hlen.out]; omega)]
              simp only [val]
              exact div_step HR'.out hinv.out hxR
          case measure => simp [intOf]

end Go.Proofs.YtdmdagilopckgaaGreat
