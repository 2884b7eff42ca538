/- Package integer: differences of words. -/
import Derived.Test.YtpkjdnplmgfbbaaDoorPlus
namespace Go.Proofs.YtpkjdnplmgfbbaaDoor
open Go.RowKit

theorem val_split (b : Nat) (l : List Nat) (k : Nat) : val b l = val b (l.take k) + b ^ k * val b (l.drop k) := by
  rcases Nat.lt_or_ge k l.length with h | h
  · have e := val_append b (l.take k) (l.drop k)
    rw [List.take_append_drop, List.length_take, Nat.min_eq_left (by omega)] at e
    exact e
  · rw [List.take_of_length_le h, List.drop_of_length_le h]; simp [val]

theorem val_take_of_lt {b : Nat} {l : List Nat} {k : Nat} (h : val b l < b ^ k) : val b (l.take k) = val b l := by
  have e := val_split b l k
  have : val b (l.drop k) = 0 := by
    rcases Nat.eq_zero_or_pos (val b (l.drop k)) with h0 | h0
    · exact h0
    · have : b ^ k * 1 ≤ b ^ k * val b (l.drop k) := Nat.mul_le_mul_left _ h0
      omega
  rw [this] at e
  omega

theorem sub_step (a b x : Nat) (ha : a < 4294967296) (hb : b < 4294967296) (hx : x ≤ 1) :
    ∃ y q : Nat, IntKind.u64.wrap (IntKind.u64.wrap ((a : Int) - b) - x) / 9223372036854775808 = (q : Int) ∧ IntKind.u64.wrap (IntKind.u64.wrap ((a : Int) - b) - x) % 4294967296 = (y : Int) ∧
      y < 4294967296 ∧ q ≤ 1 ∧ y + b + x = a + 4294967296 * q := by
  have hw : IntKind.u64.wrap (IntKind.u64.wrap ((a : Int) - b) - x) = ((a : Int) - b - x) % 18446744073709551616 := by
    simp [IntKind.wrap, IntKind.bits, IntKind.signed]
  rw [hw]
  rcases Nat.lt_or_ge a (b + x) with h | h
  · refine ⟨a + 4294967296 - b - x, 1, ?_, ?_, ?_, ?_, ?_⟩ <;> omega
  · refine ⟨a - b - x, 0, ?_, ?_, ?_, ?_, ?_⟩ <;> omega

theorem minus_step {B x a b y q : Nat} (k : Nat) (p1 p2 p3 : Nat) (hi : p1 + p2 = p3 + B ^ k * x) (e : y + b + x = a + B * q) :
    p1 + B ^ k * y + (p2 + B ^ k * b) = p3 + B ^ k * a + B ^ (k + 1) * q := by
  have e1 : B ^ (k + 1) * q = B ^ k * (B * q) := by rw [Nat.pow_succ, Nat.mul_assoc]
  have e2 : B ^ k * (y + b + x) = B ^ k * (a + B * q) := by rw [e]
  rw [Nat.mul_add, Nat.mul_add, Nat.mul_add] at e2
  rw [e1]
  omega

set_option maxHeartbeats 400000 in
theorem minus_any {D : Nat → Prop} {A A' : Option Addr} {n c n' c' : Nat} {l l' : List Nat} {w : World} (h : Wd w D A n c l) (h' : Wd w D A' n' c' l') (hn : n ≤ 1000000000000) (hle : val 4294967296 l' ≤ val 4294967296 l) :
    Calls Tryd.prog 108 #[.slice A n c, .slice A' n' c'] w (Gives w fun w' v => WdV w' (w.heap.size ≤ ·) v (dig 4294967296 (val 4294967296 l - val 4294967296 l'))) := by
  have HLE := Lib.hid hle
  clear hle
  go_enter Tryd.func108, Tryd.ntmps108
  go_wp2_with (at_make; go_must (refine wpList_make_arr _ rfl _ _ _ rfl 93 (.int .u32 0) 1 4 Tryd.underlying108 info_u32 _ _ _ _ n rfl rfl (by omega) (by omega) (by omega) (by omega) ?_); intro w1 ha hb hz)
  have HZ := Lib.hid hz
  clear hz
  go_loopw [6, 14] (fun cr i wr => ∃ (k x : Nat) (out : List Nat), k ≤ n ∧ i = .int .i64 k ∧ cr = .int .u64 x ∧ x ≤ 1 ∧ WArr wr w.heap.size out ∧ Hid (out.length = n) ∧ (∀ y ∈ out, y < 4294967296) ∧ Below w.heap.size w wr ∧ 
       Hid (val 4294967296 (out.take k) + val 4294967296 (l'.take k) = val 4294967296 (l.take k) + 4294967296 ^ k * x)) (fun _ i _ => n - (intOf i).toNat)
  case atStart =>
    exact ⟨0, 0, List.replicate n 0, by omega, rfl, rfl, by omega, WArr.made ha, List.length_replicate, fun y hy => by rw [List.eq_of_mem_replicate hy]; omega, hb, by simp [Hid, val]⟩
  case round =>
    obtain ⟨k, x, out, hk, rfl, rfl, hx, harr, hlen, hsm, hbl, hinv⟩ := hrel
    have hw1 := h.below hbl
    have hw2 := h'.below hbl
    have g1 := gw_bound h.small (by omega) k
    have g2 := gw_bound h'.small (by omega) k
    rcases Nat.lt_or_ge k n with hkN | hkN
    · have hcell := harr.cell (i := k) (by rw [hlen.out]; exact hkN)
      have hfz := harr.frozen k
      obtain ⟨b, off, rfl, hbD, hcl⟩ := hw1.cells (by omega)
      have hc1 := hcl k hkN
      have hu1 : IntKind.u64.wrap (gw l k : Int) = gw l k := IntWalk.u64_in _ (by omega)
      clear hcl
      go_wp2_with fail
      go_quiet ((go_at_call 131; go_must (exact quiet_left (at_any (hw2.drewN _) (k : Int) (by omega)))))
      go_wp2_with fail
      go_roundw
      case rel =>
        obtain ⟨y, q, e1, e2, e3, e4, e5⟩ := sub_step (gw l k) (gw l' k) x g1 g2 hx
        rw [e1, e2]
        refine ⟨k + 1, q, out.set k y, by omega, by go_num, rfl, e4, harr.set_ k y, by simpa [Hid] using hlen, fun z hz => ?_, (below_drewN' hbl nq).setCell (Nat.le_refl _) _, ?_⟩
        · rcases List.mem_or_eq_of_mem_set hz with hz | rfl
          · exact hsm z hz
          · exact e3
        · show _ = _
          rw [val_take_succ, val_take_succ, val_take_succ, set_take_ge, gw_set_self (by rw [hlen.out]; exact hkN)]
          exact minus_step k _ _ _ hinv.out e5
      case measure => simp [intOf]; omega
    · obtain rfl : k = n := by omega
      have hlen' := hlen.out
      have hwd := harr.wd hsm (by rw [hlen']; unfold maxLen; omega) (D := (w.heap.size ≤ ·)) (Nat.le_refl _)
      rw [hlen'] at hwd
      clear hlen'
      go_wp2_with (go_at_call 120; ((with_reducible refine (trimmed_any hwd).mono ?_); rintro e w' ⟨rfl, rfl⟩))
      go_ret
      refine ⟨_, rfl, ?_, hbl⟩
      have hv := hinv.out
      have hl1 : k = out.length := hlen.out.symm
      have b1 := val_lt h.small
      rw [h.len] at b1
      have b2 := val_lt hsm
      rw [← hl1] at b2
      have hle := HLE.out
      rw [List.take_of_length_le (by omega), List.take_of_length_le (l := l) (by rw [h.len]; omega), val_take_of_lt (l := l') (by omega)] at hv
      have hx0 : x = 0 := by
        rcases Nat.eq_zero_or_pos x with h0 | h0
        · exact h0
        · exfalso
          have c4 : 4294967296 ^ k * 1 ≤ 4294967296 ^ k * x := Nat.mul_le_mul_left _ h0
          omega
      rw [hx0, Nat.mul_zero, Nat.add_zero] at hv
      rw [show val 4294967296 l - val 4294967296 l' = val 4294967296 out from by omega, ← trim_eq_dig (by omega) hsm]
      exact hwd.trim.v

end Go.Proofs.YtpkjdnplmgfbbaaDoor
