/- Package integer: words of a machine word; words compared. -/
import Derived.Test.YtpkjdnplmgfbbaaDoorMinus
namespace Go.Proofs.YtpkjdnplmgfbbaaDoor
open Go.RowKit

theorem ret_int {k : IntKind} {a b : Int} (h : a = b) : Ending.returned (.int k a) = .returned (.int k b) := by rw [h]

theorem of_any (x : Nat) (w : World) (hx : x < 18446744073709551616) :
    Calls Tryd.prog 87 #[.int .u64 x] w (Gives w fun w' v => WdV w' (w.heap.size ≤ ·) v (dig 4294967296 x)) := by
  have h2 : x / 4294967296 < 4294967296 := by omega
  have HX := Lib.hid hx
  clear hx
  have hs : ∀ y ∈ [x % 4294967296, x / 4294967296], y < 4294967296 := by
    intro y hy
    rcases List.mem_cons.1 hy with rfl | hy
    · omega
    · rcases List.mem_cons.1 hy with rfl | hy
      · exact h2
      · cases hy
  have HS := Lib.hid hs
  clear hs
  have ha : WArr (w.alloc (.cells #[.int .u32 ((x : Int) % 4294967296), .int .u32 ((x : Int) / 4294967296)] 93)) w.heap.size [x % 4294967296, x / 4294967296] := by
    have := Arr.new w 93 [.int .u32 ((x : Int) % 4294967296), .int .u32 ((x : Int) / 4294967296)]
    unfold WArr
    simpa using this
  have hwd : Wd _ (w.heap.size ≤ ·) _ 2 2 _ := WArr.wd ha HS.out (by simp [maxLen]) (D := (w.heap.size ≤ ·)) (Nat.le_refl _)
  go_enter Tryd.func87, Tryd.ntmps87
  go_wp2_with (go_at_call 120; go_must ((with_reducible refine (trimmed_any hwd).mono ?_); rintro e w' ⟨rfl, rfl⟩))
  go_ret
  refine ⟨_, rfl, ?_, (Below.refl _ _).alloc (Nat.le_refl _) _⟩
  have e : dig 4294967296 x = trim [x % 4294967296, x / 4294967296] := by
    rw [trim_eq_dig (by omega) HS.out]
    congr 1
    simp only [val]
    omega
  rw [e]
  exact hwd.trim.v

/-- How two numbers compare. -/
def cmpN (a b : Nat) : Int := if a < b then -1 else if a = b then 0 else 1
theorem cmpN_lt {a b : Nat} (h : a < b) : cmpN a b = -1 := by simp [cmpN, h]
theorem cmpN_eq (a : Nat) : cmpN a a = 0 := by simp [cmpN]
theorem cmpN_gt {a b : Nat} (h : b < a) : cmpN a b = 1 := by unfold cmpN; rw [if_neg (by omega), if_neg (by omega)]

theorem trim_last {l : List Nat} (ht : trim l = l) {k : Nat} (hk : l.length = k + 1) : gw l k ≠ 0 := by
  intro h0
  have h1 := trim_take_zero (l := l) (k := k) (by omega) h0
  rw [List.take_of_length_le (by omega), ht] at h1
  have h2 := trim_length_le (l.take k)
  rw [← h1, List.length_take] at h2
  omega

theorem val_ge_of_trim {b : Nat} {l : List Nat} (ht : trim l = l) {k : Nat} (hk : l.length = k + 1) : b ^ k ≤ val b l := by
  have e := val_take_succ b l k
  rw [List.take_of_length_le (by omega)] at e
  have h0 := trim_last ht hk
  have : b ^ k * 1 ≤ b ^ k * gw l k := Nat.mul_le_mul_left _ (by omega)
  omega

theorem val_lt_of_length {b : Nat} (hb : 0 < b) {l l' : List Nat} (hs : ∀ x ∈ l, x < b) (ht' : trim l' = l') (h : l.length < l'.length) : val b l < val b l' := by
  have h1 := val_lt hs
  obtain ⟨k, hk⟩ : ∃ k, l'.length = k + 1 := ⟨l'.length - 1, by omega⟩
  have h2 := val_ge_of_trim (b := b) ht' hk
  have h3 : b ^ l.length ≤ b ^ k := Nat.pow_le_pow_right hb (by omega)
  omega

theorem drop_gw {l : List Nat} {k : Nat} (h : k < l.length) : l.drop k = gw l k :: l.drop (k + 1) := by
  rw [List.drop_eq_getElem_cons h]
  simp [gw, List.getD, h]

theorem val_lt_of_drop {b : Nat} {l l' : List Nat} {k : Nat} (hs : ∀ x ∈ l, x < b) (hl : k < l.length) (hl' : k < l'.length) (hd : l.drop (k + 1) = l'.drop (k + 1)) (hlt : gw l k < gw l' k) : val b l < val b l' := by
  have e := val_split b l k
  have e' := val_split b l' k
  rw [drop_gw hl] at e
  rw [drop_gw hl'] at e'
  simp only [val] at e e'
  rw [hd] at e
  have h1 : val b (l.take k) < b ^ k := by
    have := val_lt (b := b) (l := l.take k) (fun x hx => hs x (List.mem_of_mem_take hx))
    rwa [List.length_take, Nat.min_eq_left (by omega)] at this
  rw [Nat.mul_add] at e e'
  have h2 : b ^ k * (gw l k + 1) ≤ b ^ k * gw l' k := Nat.mul_le_mul_left _ hlt
  rw [Nat.mul_add] at h2
  omega

set_option maxHeartbeats 400000 in
theorem compare_any {D : Nat → Prop} {A A' : Option Addr} {n c n' c' : Nat} {l l' : List Nat} {w : World} (h : Wd w D A n c l) (h' : Wd w D A' n' c' l') (ht : trim l = l) (ht' : trim l' = l') :
    Calls Tryd.prog 107 #[.slice A n c, .slice A' n' c'] w fun e w' => e = .returned (.int .i64 (cmpN (val 4294967296 l) (val 4294967296 l'))) ∧ ∃ m, w' = w.drewN m := by
  have HT := Lib.hid ht
  have HT' := Lib.hid ht'
  clear ht ht'
  have hr := h.room
  have hc := h.cap
  unfold maxLen at hr
  rcases Nat.lt_trichotomy n n' with hlt | heq | hgt
  · have hne : ((n : Int) != n') = true := by rw [bne_iff_ne]; omega
    go_enter Tryd.func107, Tryd.ntmps107
    go_wp2_with fail
    go_ret
    exact ⟨ret_int (cmpN_lt (val_lt_of_length (by omega) h.small HT'.out (by rw [h.len, h'.len]; exact hlt))).symm, 0, rfl⟩
  · subst heq
    have hne : ((n : Int) != n) = false := by simp
    go_enter Tryd.func107, Tryd.ntmps107
    go_wp2_with fail
    go_loopw [5] (fun i wr => ∃ (k : Nat), k ≤ n ∧ i = .int .i64 (k - 1) ∧ Hid (l.drop k = l'.drop k) ∧ ∃ m, wr = w.drewN m) (fun i _ => (intOf i + 1).toNat)
    case atStart => exact ⟨n, Nat.le_refl _, rfl, by rw [List.drop_of_length_le (by rw [h.len]; omega), List.drop_of_length_le (by rw [h'.len]; omega)]; rfl, 0, rfl⟩
    case round =>
      obtain ⟨k, hk, rfl, hd, m, rfl⟩ := hrel
      rcases Nat.eq_zero_or_pos k with h0 | h0
      · subst h0
        go_wp2_with fail
        go_ret
        have e := hd.out
        simp only [List.drop_zero] at e
        exact ⟨ret_int (by rw [e, cmpN_eq]), m, rfl⟩
      · obtain ⟨j, rfl⟩ : ∃ j, k = j + 1 := ⟨k - 1, by omega⟩
        obtain ⟨b, off, rfl, hb, hcell⟩ := h.cells (by omega)
        obtain ⟨b', off', rfl, hb', hcell'⟩ := h'.cells (by omega)
        have hc1 := hcell j (by omega)
        have hc2 := hcell' j (by omega)
        clear hcell hcell'
        have hi : (((j + 1 : Nat) : Int) - 1) = (j : Int) := by omega
        rw [hi]
        clear hi
        have hj0 : (0 : Int) ≤ (j : Int) := by omega
        have hjn : (j : Int) < (n : Int) := by omega
        have hl1 := h.len
        have hl2 := h'.len
        have HL1 := Lib.hid hl1
        have HL2 := Lib.hid hl2
        clear hl1 hl2
        rcases Nat.lt_trichotomy (gw l j) (gw l' j) with hlt | heq | hgt
        · have e1 : ((gw l j : Int) != gw l' j) = true := by rw [bne_iff_ne]; omega
          go_wp2_with fail
          go_quiet (fail)
          go_wp2_with fail
          go_quiet (fail)
          go_wp2_with fail
          go_ret
          exact ⟨ret_int (cmpN_lt (val_lt_of_drop (k := j) h.small (by rw [HL1.out]; omega) (by rw [HL2.out]; omega) hd.out hlt)).symm, _, by rw [World.drewN_drewN, World.drewN_drewN]⟩
        · have e1 : ((gw l j : Int) != gw l' j) = false := by simp [heq]
          have HE := Lib.hid heq
          clear heq
          go_wp2_with fail
          go_quiet (fail)
          go_wp2_with fail
          go_roundw
          case rel => 
            refine ⟨j, by omega, rfl, ?_, _, rfl⟩
            show _ = _
            rw [drop_gw (l := l) (k := j) (by rw [HL1.out]; omega), drop_gw (l := l') (k := j) (by rw [HL2.out]; omega), hd.out, HE.out]
          case measure => simp [intOf]
        · have e1 : ((gw l j : Int) != gw l' j) = true := by rw [bne_iff_ne]; omega
          go_wp2_with fail
          go_quiet (fail)
          go_wp2_with fail
          go_quiet (fail)
          go_wp2_with fail
          go_ret
          exact ⟨ret_int (cmpN_gt (val_lt_of_drop (k := j) h'.small (by rw [HL2.out]; omega) (by rw [HL1.out]; omega) hd.out.symm hgt)).symm, _, by rw [World.drewN_drewN, World.drewN_drewN]⟩
  · have hne : ((n : Int) != n') = true := by rw [bne_iff_ne]; omega
    go_enter Tryd.func107, Tryd.ntmps107
    go_wp2_with fail
    go_ret
    exact ⟨ret_int (cmpN_gt (val_lt_of_length (by omega) h'.small HT.out (by rw [h.len, h'.len]; exact hgt))).symm, 0, rfl⟩

end Go.Proofs.YtpkjdnplmgfbbaaDoor
