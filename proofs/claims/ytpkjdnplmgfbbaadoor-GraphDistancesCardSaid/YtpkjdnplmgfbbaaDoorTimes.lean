/- Package integer: products of words. -/
import Derived.Test.YtpkjdnplmgfbbaaDoorCmp
namespace Go.Proofs.YtpkjdnplmgfbbaaDoor
open Go.RowKit

theorem val_set (b : Nat) (l : List Nat) (p y : Nat) (hp : p < l.length) : val b (l.set p y) + b ^ p * gw l p = val b l + b ^ p * y := by
  induction l generalizing p with
  | nil => simp at hp
  | cons x r ih =>
    cases p with
    | zero => simp [val, gw]; omega
    | succ p =>
      have h := ih p (by simpa using hp)
      simp only [List.set_cons_succ, val, gw_cons_succ]
      have e : ∀ z, b ^ (p + 1) * z = b * (b ^ p * z) := fun z => by rw [Nat.pow_succ, Nat.mul_comm (b ^ p) b, Nat.mul_assoc]
      rw [e, e]
      have h2 : b * (val b (r.set p y) + b ^ p * gw r p) = b * (val b r + b ^ p * y) := by rw [h]
      rw [Nat.mul_add, Nat.mul_add] at h2
      omega
theorem gw_set_ne {l : List Nat} {k j x : Nat} (h : k ≠ j) : gw (l.set k x) j = gw l j := by
  simp [gw, List.getD, List.getElem?_set_ne h]

theorem val_zeros (b N : Nat) : val b (List.replicate N 0) = 0 := by
  induction N with
  | zero => rfl
  | succ N ih => simp [List.replicate_succ, val, ih]
theorem mul_bound {a b : Nat} (ha : a < 4294967296) (hb : b < 4294967296) : a * b ≤ 18446744065119617025 := by
  have h1 : a * b ≤ 4294967295 * b := Nat.mul_le_mul_right _ (by omega)
  have h2 : 4294967295 * b ≤ 4294967295 * 4294967295 := Nat.mul_le_mul_left _ (by omega)
  omega

theorem times_step {B V V' o y c q x b j k T T' S R : Nat} (hv : V' + B ^ (k + j) * o = V + B ^ (k + j) * y) (hs : y + B * q = x * b + o + c) (hi : V + B ^ (k + j) * c = R + B ^ k * (x * T)) (hT : T' = T + B ^ j * b) (hS : S = B ^ (k + j + 1) * q) :
    V' + S = R + B ^ k * (x * T') := by
  have e1 : B ^ (k + j + 1) * q = B ^ (k + j) * (B * q) := by rw [Nat.pow_succ, Nat.mul_assoc]
  have e2 : B ^ (k + j) * (y + B * q) = B ^ (k + j) * (x * b + o + c) := by rw [hs]
  rw [Nat.mul_add, Nat.mul_add, Nat.mul_add] at e2
  have e3 : B ^ k * (x * (T + B ^ j * b)) = B ^ k * (x * T) + B ^ (k + j) * (x * b) := by
    rw [Nat.mul_add, Nat.mul_add, Nat.pow_add, Nat.mul_left_comm x, Nat.mul_assoc]
  rw [hT, e3, hS, e1]
  omega

set_option maxHeartbeats 800000 in
theorem times_any {D : Nat → Prop} {A A' : Option Addr} {n c n' c' : Nat} {l l' : List Nat} {w : World} (h : Wd w D A n c l) (h' : Wd w D A' n' c' l') (hn : n ≤ 1000000000000) (hn' : n' ≤ 1000000000000) :
    Calls Tryd.prog 137 #[.slice A n c, .slice A' n' c'] w (Gives w fun w' v => WdV w' (w.heap.size ≤ ·) v (dig 4294967296 (val 4294967296 l * val 4294967296 l'))) := by
  obtain ⟨N, hN⟩ : ∃ N, N = n + n' := ⟨_, rfl⟩
  have hN1 : n + n' ≤ N := by omega
  have hN3 : N ≤ 2000000000000 := by omega
  have HN := Lib.hid hN
  clear hN
  go_enter Tryd.func137, Tryd.ntmps137
  go_wp2_with (at_make; go_must (refine wpList_make_arr _ rfl _ _ _ rfl 93 (.int .u32 0) 1 4 Tryd.underlying108 info_u32 _ _ _ _ N rfl rfl (by have := HN.out; omega) (by have := HN.out; omega) (by omega) (by omega) ?_); intro w1 ha hb hz)
  have HZ := Lib.hid hz
  clear hz
  go_loopw [19] (fun i wr => ∃ (k : Nat) (out : List Nat), k ≤ n ∧ i = .int .i64 k ∧ WArr wr w.heap.size out ∧ Hid (out.length = N) ∧ (∀ y ∈ out, y < 4294967296) ∧ Below w.heap.size w wr ∧ (∀ j, k + n' ≤ j → gw out j = 0) ∧
       Hid (val 4294967296 out = val 4294967296 (l.take k) * val 4294967296 l')) (fun i _ => n - (intOf i).toNat)
  case atStart =>
    exact ⟨0, List.replicate N 0, by omega, rfl, WArr.made ha, List.length_replicate, fun y hy => by rw [List.eq_of_mem_replicate hy]; omega, hb, fun j _ => by simp only [gw, List.getD, List.getElem?_replicate]; split <;> rfl, by
      show _ = _
      rw [val_zeros]; simp [val]⟩
  case round =>
    obtain ⟨k, out, hk, rfl, harr, hlen, hsm, hbl, hzero, hinv⟩ := hrel
    have HZR := Lib.hid hzero
    clear hzero
    have hw1 := h.below hbl
    rcases Nat.lt_or_ge k n with hkN | hkN
    · obtain ⟨b, off, rfl, hbD, hcl⟩ := hw1.cells (by omega)
      have hc1 := hcl k hkN
      have g1 := gw_bound h.small (by omega) k
      clear hcl
      go_wp2_with fail
      obtain ⟨wo, rfl⟩ : ∃ wo : World, wo = wr := ⟨_, rfl⟩
      go_loopw [8, 26] (fun cr i wr => ∃ (j x : Nat) (o2 : List Nat), j ≤ n' ∧ i = .int .i64 j ∧ cr = .int .u64 x ∧ x < 4294967296 ∧ WArr wr w.heap.size o2 ∧ Hid (o2.length = N) ∧ (∀ y ∈ o2, y < 4294967296) ∧ Below w.heap.size w wr ∧ Hid (∀ j, k + n' ≤ j → gw o2 j = 0) ∧
          Hid (val 4294967296 o2 + 4294967296 ^ (k + j) * x = val 4294967296 (l.take k) * val 4294967296 l' + 4294967296 ^ k * (gw l k * val 4294967296 (l'.take j)))) (fun _ i _ => n' - (intOf i).toNat)
      case atStart => exact ⟨0, 0, out, by omega, rfl, rfl, by omega, harr, hlen, hsm, hbl, HZR, by show _ = _; rw [hinv.out]; simp [val]⟩
      case round =>
        clear hc1 hw1
        obtain ⟨j, x, o2, hj, rfl, rfl, hx, harr2, hlen2, hsm2, hbl2, hz2, hinv2⟩ := hrel
        have hw2 := h'.below hbl2
        rcases Nat.lt_or_ge j n' with hjN | hjN
        · obtain ⟨b', off', rfl, hbD', hcl'⟩ := hw2.cells (by omega)
          have hc2 := hcl' j hjN
          clear hcl'
          have g2 := gw_bound h'.small (by omega) j
          have g3 := gw_bound hsm2 (by omega) (k + j)
          have hcell := harr2.cell (i := k + j) (by rw [hlen2.out]; omega)
          have hfz := harr2.frozen (k + j)
          have hp := mul_bound g1 g2
          have hkj0 : (0 : Int) ≤ (k : Int) + j := by omega
          have hkj1 : (k : Int) + j < (N : Int) := by omega
          have hj0 : (0 : Int) ≤ (j : Int) := by omega
          have hj1 : (j : Int) < (n' : Int) := by omega
          have hpi : (gw l k : Int) * (gw l' j : Int) ≤ 18446744065119617025 := by rw [← Int.natCast_mul]; omega
          have hpi0 : (0 : Int) ≤ (gw l k : Int) * (gw l' j : Int) := Int.mul_nonneg (by omega) (by omega)
          have a1 : IntKind.u64.wrap (gw l k : Int) = gw l k := IntWalk.u64_in _ (by omega)
          have a2 : IntKind.u64.wrap (gw l' j : Int) = gw l' j := IntWalk.u64_in _ (by omega)
          have a3 : IntKind.u64.wrap (gw o2 (k + j) : Int) = gw o2 (k + j) := IntWalk.u64_in _ (by omega)
          have a4 : IntKind.u64.wrap ((gw l k : Int) * (gw l' j : Int)) = (gw l k : Int) * (gw l' j : Int) := IntWalk.u64_in _ (by omega)
          have a5 : IntKind.u64.wrap ((gw l k : Int) * (gw l' j : Int) + gw o2 (k + j)) = (gw l k : Int) * (gw l' j : Int) + gw o2 (k + j) := IntWalk.u64_in _ (by omega)
          have a6 : IntKind.u64.wrap ((gw l k : Int) * (gw l' j : Int) + gw o2 (k + j) + x) = (gw l k : Int) * (gw l' j : Int) + gw o2 (k + j) + x := IntWalk.u64_in _ (by omega)
          have a7 : IntKind.i64.wrap ((k : Int) + j) = (k : Int) + j := IntWalk.i64_in _ (by omega)
          have a8 : ((k : Int) + j).toNat = k + j := by omega
          go_wp2_with fail
          go_quiet (fail)
          clear a1 a2 a3 a4 a5 a6
          go_wp2_with fail
          clear a7 a8
          go_roundw
          case rel =>
            have e : ((gw l k : Int) * (gw l' j : Int) + (gw o2 (k + j) : Int) + x) = ((gw l k * gw l' j + gw o2 (k + j) + x : Nat) : Int) := by rw [Int.natCast_add, Int.natCast_add, Int.natCast_mul]
            rw [e]
            clear hpi hpi0 e
            generalize hs : gw l k * gw l' j + gw o2 (k + j) + x = s
            have hlt : k + j < o2.length := by rw [hlen2.out]; omega
            refine ⟨j + 1, s / 4294967296, o2.set (k + j) (s % 4294967296), by omega, by go_num, by go_num, by omega, by simpa using (show WArr (wr.drewN nq) _ _ from harr2).set_ (k + j) (s % 4294967296), by simpa [Hid] using hlen2, fun z hz => ?_, (below_drewN' hbl2 nq).setCell (Nat.le_refl _) _, ?_, ?_⟩
            · rcases List.mem_or_eq_of_mem_set hz with hz | rfl
              · exact hsm2 z hz
              · omega
            · intro p hp2
              rw [gw_set_ne (by omega)]
              exact hz2.out p hp2
            · show _ = _
              refine times_step (q := s / 4294967296) (val_set _ _ (k + j) _ hlt) ?_ hinv2.out (val_take_succ _ _ _) ?_
              · rw [hs]; exact Nat.mod_add_div s 4294967296
              · rw [Nat.add_assoc]
          case measure => simp [intOf]; omega
        · obtain rfl : j = n' := by omega
          have hcell := harr2.cell (i := k + j) (by rw [hlen2.out]; omega)
          have hfz := harr2.frozen (k + j)
          go_wp2_with fail
          go_roundw
          case rel =>
            have hlt : k + j < o2.length := by rw [hlen2.out]; omega
            refine ⟨k + 1, o2.set (k + j) x, by omega, by go_num, harr2.set_ (k + j) x, by simpa [Hid] using hlen2, fun z hz => ?_, hbl2.setCell (Nat.le_refl _) _, ?_, ?_⟩
            · rcases List.mem_or_eq_of_mem_set hz with hz | rfl
              · exact hsm2 z hz
              · exact hx
            · intro p hp2
              rw [gw_set_ne (by omega)]
              exact hz2.out p (by omega)
            · show _ = _
              have e1 := val_set 4294967296 o2 (k + j) x hlt
              rw [hz2.out (k + j) (Nat.le_refl _), Nat.mul_zero, Nat.add_zero] at e1
              rw [e1, hinv2.out, val_take_succ, Nat.add_mul, List.take_of_length_le (l := l') (by rw [h'.len]; exact Nat.le_refl _), Nat.mul_assoc]
          case measure => simp [intOf]; omega
    · obtain rfl : k = n := by omega
      have hlen' := hlen.out
      have hwd := harr.wd hsm (by rw [hlen']; unfold maxLen; omega) (D := (w.heap.size ≤ ·)) (Nat.le_refl _)
      rw [hlen'] at hwd
      clear hlen'
      go_wp2_with (go_at_call 120; ((with_reducible refine (trimmed_any hwd).mono ?_); rintro e w' ⟨rfl, rfl⟩))
      go_ret
      refine ⟨_, rfl, ?_, hbl⟩
      have hv := hinv.out
      rw [List.take_of_length_le (by rw [h.len]; omega)] at hv
      rw [← hv, ← trim_eq_dig (by omega) hsm]
      exact hwd.trim.v

end Go.Proofs.YtpkjdnplmgfbbaaDoor
