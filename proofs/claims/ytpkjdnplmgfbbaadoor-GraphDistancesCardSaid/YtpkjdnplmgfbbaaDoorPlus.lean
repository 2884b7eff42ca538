/- Package integer: sums of words. -/
import Derived.Test.YtpkjdnplmgfbbaaDoorWd
namespace Go.Proofs.YtpkjdnplmgfbbaaDoor
open Go.RowKit

theorem val_take_succ (b : Nat) (l : List Nat) (k : Nat) : val b (l.take (k + 1)) = val b (l.take k) + b ^ k * gw l k := by
  rcases Nat.lt_or_ge k l.length with h | h
  · rw [take_succ_gw h, val_snoc, List.length_take, Nat.min_eq_left (by omega)]
  · rw [List.take_of_length_le (by omega), List.take_of_length_le (by omega), gw_ge h]; simp


theorem plus_step {B x a b s y q : Nat} (k : Nat) (hs : s = a + b + x) (hy : y = s % B) (hq : q = s / B) (p1 p2 p3 : Nat) (hi : p1 + B ^ k * x = p2 + p3) :
    p1 + B ^ k * y + B ^ (k + 1) * q = p2 + B ^ k * a + (p3 + B ^ k * b) := by
  have e : B ^ (k + 1) * q = B ^ k * (B * q) := by rw [Nat.pow_succ, Nat.mul_assoc]
  have e2 : y + B * q = s := by rw [hy, hq]; exact Nat.mod_add_div s B
  rw [e, Nat.add_assoc, ← Nat.mul_add, e2, hs, Nat.mul_add, Nat.mul_add]
  omega

theorem set_take_ge {l : List Nat} {k x : Nat} : (l.set k x).take k = l.take k := by
  rw [List.take_set_of_le (Nat.le_refl _)]
theorem gw_set_self {l : List Nat} {k x : Nat} (h : k < l.length) : gw (l.set k x) k = x := by
  simp [gw, List.getD, h]

set_option maxHeartbeats 400000 in
theorem plus_any {D : Nat → Prop} {A A' : Option Addr} {n c n' c' : Nat} {l l' : List Nat} {w : World} (h : Wd w D A n c l) (h' : Wd w D A' n' c' l') (hn : n ≤ 1000000000000) (hn' : n' ≤ 1000000000000) :
    Calls Tryd.prog 106 #[.slice A n c, .slice A' n' c'] w (Gives w fun w' v => WdV w' (w.heap.size ≤ ·) v (dig 4294967296 (val 4294967296 l + val 4294967296 l'))) := by
  obtain ⟨N, hN⟩ : ∃ N, N = max n n' + 1 := ⟨_, rfl⟩
  have hN1 : n < N := by omega
  have hN2 : n' < N := by omega
  have hN3 : N ≤ 1000000000001 := by omega
  have HN := Lib.hid hN
  clear hN
  rcases Nat.lt_or_ge n n' with hlt | hge
  all_goals
    go_enter Tryd.func106, Tryd.ntmps106
    go_wp2_with (at_make; go_must (refine wpList_make_arr _ rfl _ _ _ rfl 93 (.int .u32 0) 1 4 Tryd.underlying108 info_u32 _ _ _ _ N rfl rfl (by have := HN.out; omega) (by have := HN.out; omega) (by omega) (by omega) ?_); intro w1 ha hb hz)
    have HZ := Lib.hid hz
    clear hz
    go_loopw [6, 18] (fun cr i wr => ∃ (k x : Nat) (out : List Nat), k ≤ N ∧ i = .int .i64 k ∧ cr = .int .u64 x ∧ x ≤ 1 ∧ WArr wr w.heap.size out ∧ Hid (out.length = N) ∧ (∀ y ∈ out, y < 4294967296) ∧ Below w.heap.size w wr ∧ 
       Hid (val 4294967296 (out.take k) + 4294967296 ^ k * x = val 4294967296 (l.take k) + val 4294967296 (l'.take k))) (fun _ i _ => N - (intOf i).toNat)
    case atStart => 
      exact ⟨0, 0, List.replicate N 0, by omega, rfl, rfl, by omega, WArr.made ha, List.length_replicate, fun y hy => by rw [List.eq_of_mem_replicate hy]; omega, hb, by simp [Hid, val]⟩
    case round =>
      obtain ⟨k, x, out, hk, rfl, rfl, hx, harr, hlen, hsm, hbl, hinv⟩ := hrel
      have hw1 := h.below hbl
      have hw2 := h'.below hbl
      have g1 := gw_bound h.small (by omega) k
      have g2 := gw_bound h'.small (by omega) k
      rcases Nat.lt_or_ge k N with hkN | hkN
      · have hcell := harr.cell (i := k) (by rw [hlen.out]; exact hkN)
        have hfz := harr.frozen k
        go_wp2_with (first 
          | (go_at_call 131; ((with_reducible refine (at_any hw1 _ (by omega)).mono ?_); rintro e w' ⟨rfl, rfl⟩))
          | (go_at_call 131; ((with_reducible refine (at_any hw2 _ (by omega)).mono ?_); rintro e w' ⟨rfl, rfl⟩)))
        go_roundw
        case rel =>
          have e : ((gw l k : Int) + gw l' k + x) = ((gw l k + gw l' k + x : Nat) : Int) := by omega
          rw [e]
          generalize hs : gw l k + gw l' k + x = s
          refine ⟨k + 1, s / 4294967296, out.set k (s % 4294967296), by omega, by go_num, by go_num, by omega, by simpa using harr.set_ k (s % 4294967296), by simpa [Hid] using hlen, fun y hy => ?_, hbl.setCell (Nat.le_refl _) _, ?_⟩
          · rcases List.mem_or_eq_of_mem_set hy with hy | rfl
            · exact hsm y hy
            · omega
          · show _ = _
            rw [val_take_succ, val_take_succ, val_take_succ, set_take_ge, gw_set_self (by rw [hlen.out]; exact hkN)]
            exact plus_step k hs.symm rfl rfl _ _ _ hinv.out
        case measure => simp [intOf]; omega
      · obtain rfl : k = N := by omega
        have hlen' := hlen.out
        have hwd := harr.wd hsm (by rw [hlen']; unfold maxLen; omega) (D := (w.heap.size ≤ ·)) (Nat.le_refl _)
        rw [hlen'] at hwd
        clear hlen'
        go_wp2_with (go_at_call 120; ((with_reducible refine (trimmed_any hwd).mono ?_); rintro e w' ⟨rfl, rfl⟩))
        go_ret
        refine ⟨_, rfl, ?_, hbl⟩
        have hv := hinv.out
        have hl1 : k = out.length := hlen.out.symm
        rw [List.take_of_length_le (by omega), List.take_of_length_le (by rw [h.len]; omega), List.take_of_length_le (by rw [h'.len]; omega)] at hv
        have hx0 : x = 0 := by
          rcases Nat.eq_zero_or_pos x with h0 | h0
          · exact h0
          · exfalso
            have b1 := val_lt h.small
            have b2 := val_lt h'.small
            rw [h.len] at b1
            rw [h'.len] at b2
            have c1 : 4294967296 ^ n ≤ 4294967296 ^ (k - 1) := Nat.pow_le_pow_right (by omega) (by omega)
            have c2 : 4294967296 ^ n' ≤ 4294967296 ^ (k - 1) := Nat.pow_le_pow_right (by omega) (by omega)
            have c3 : 4294967296 ^ k = 4294967296 ^ (k - 1) * 4294967296 := by rw [← Nat.pow_succ]; congr 1; omega
            have c4 : 4294967296 ^ k * 1 ≤ 4294967296 ^ k * x := Nat.mul_le_mul_left _ h0
            omega
        rw [hx0, Nat.mul_zero, Nat.add_zero] at hv
        rw [← hv, ← trim_eq_dig (by omega) hsm]
        exact hwd.trim.v

end Go.Proofs.YtpkjdnplmgfbbaaDoor
