/- The reference's polynomials: sign, negative, CheckFrac, Trim. The reference's polynomials: bits, CheckPoly. The reference's polynomials: Derivative, Primitive. The reference's polynomials: Primitive. -/
import Derived.Test.YtdmdagilopckgaaGreatB4
namespace Go.Proofs.YtdmdagilopckgaaGreat
open Go.RowKit

theorem Pl.b {w : World} {D : Nat → Prop} {A : Option Addr} {n c B : Nat} {l : List Int} (h : Pl NI w D A n c l) (hB : Bd B l) (h0 : B ≤ 1000000000000) : Pl IntB w D A n c l :=
  h.imp fun _ x hx hv => NIntV.b hv (Nat.le_trans (hB x hx) h0)

theorem qSign_any {v : Value} {x : Int} {w : World} (h : IntB w v x) : Calls Tryz.prog 54 #[v] w fun e w' => e = .returned (.int .i64 (cmpI x 0)) ∧ Below w.heap.size w w' := by
  have hb := h
  obtain ⟨neg, A, n, c, l, rfl, h1, hx, hn⟩ := h
  have HB := Lib.hid (fun w' (hw : Below w.heap.size w w') => rSign_any (hb.below hw))
  have hbw := below_al (Below.refl w.heap.size w) (.cells #[.bool neg, .slice A n c] 63)
  clear hb h1 hx hn
  go_enter Tryz.func54, Tryz.ntmps54
  go_wp2_with (go_at_call 93; go_must (refine (HB.out _ hbw).mono ?_); rintro e w1 ⟨rfl, hb1⟩)
  go_ret
  exact ⟨rfl, btr hbw hb1⟩

theorem Within_any {n lo hi : Int} {b : Bool} (h : decide (lo ≤ n ∧ n ≤ hi) = b) (w : World) : Calls Tryz.prog 11 #[.int .i64 n, .int .i64 lo, .int .i64 hi] w fun e w' => e = .returned (.bool b) ∧ w = w' := by
  by_cases h1 : lo ≤ n
  · by_cases h2 : n ≤ hi
    · have e : b = true := by rw [← h]; simp [h1, h2]
      subst e
      clear h
      go_enter Tryz.func11, Tryz.ntmps11
      go_wp2
      go_ret
      exact ⟨rfl, rfl⟩
    · have e : b = false := by rw [← h]; simp; omega
      subst e
      clear h
      have hd : decide (n ≤ hi) = false := by simpa using h2
      go_enter Tryz.func11, Tryz.ntmps11
      go_wp2
      go_ret
      exact ⟨rfl, rfl⟩
  · have e : b = false := by rw [← h]; simp; omega
    subst e
    clear h
    have hd : decide (lo ≤ n) = false := by simpa using h1
    go_enter Tryz.func11, Tryz.ntmps11
    go_wp2
    go_ret
    exact ⟨rfl, rfl⟩


set_option maxHeartbeats 1000000 in
theorem qCheckFrac_any {num den : Int} {w : World} : Calls Tryz.prog 12 #[.agg #[.int .i64 num, .int .i64 den]] w fun e w' => e = .returned (.int .i64 (cfE num den)) ∧ Below w.heap.size w w' := by
  have hb := below_al (Below.refl w.heap.size w) (.cells #[.int .i64 num, .int .i64 den] 24)
  by_cases h1 : den < 1
  · have HE := Lib.hid (show cfE num den = 3 by unfold cfE; rw [if_pos h1])
    go_enter Tryz.func12, Tryz.ntmps12
    go_wp2_with fail
    go_ret
    exact ⟨by rw [HE.out]; rfl, hb⟩
  · by_cases h2 : -1000000000 ≤ num ∧ num ≤ 1000000000
    · have HW := Lib.hid (Within_any (decide_eq_true h2))
      by_cases h4 : 1000000000 < den
      · have HE := Lib.hid (show cfE num den = 8 by unfold cfE; rw [if_neg h1, if_neg (by omega), if_neg (by omega), if_pos h4])
        have z3 : decide (1000000000 < den) = true := decide_eq_true h4
        clear h2
        go_enter Tryz.func12, Tryz.ntmps12
        go_wp2_with (go_at_call 11; go_must (refine (HW.out _).mono ?_); rintro e w1 ⟨rfl, rfl⟩)
        go_ret
        exact ⟨by rw [HE.out]; rfl, hb⟩
      · have HE := Lib.hid (show cfE num den = 0 by unfold cfE; rw [if_neg h1, if_neg (by omega), if_neg (by omega), if_neg h4])
        have z3 : decide (1000000000 < den) = false := decide_eq_false h4
        clear h2
        go_enter Tryz.func12, Tryz.ntmps12
        go_wp2_with (go_at_call 11; go_must (refine (HW.out _).mono ?_); rintro e w1 ⟨rfl, rfl⟩)
        go_ret
        exact ⟨by rw [HE.out]; rfl, hb⟩
    · have HW := Lib.hid (Within_any (decide_eq_false h2))
      have HE := Lib.hid (show cfE num den = 8 by unfold cfE; rw [if_neg h1]; split <;> (try split) <;> first | rfl | omega)
      clear h2
      go_enter Tryz.func12, Tryz.ntmps12
      go_wp2_with (go_at_call 11; go_must (refine (HW.out _).mono ?_); rintro e w1 ⟨rfl, rfl⟩)
      go_ret
      exact ⟨by rw [HE.out]; rfl, hb⟩

set_option maxHeartbeats 2000000 in
theorem qTrim_any {A : Option Addr} {n c : Nat} {l : List Int} {w : World} (h : Pl IntB w (fun _ => True) A n c l) (hn : n ≤ 1000000) :
    Calls Tryz.prog 41 #[.slice A n c] w (Gives w fun w' v => PvD w' (w.heap.size ≤ ·) v (tz l)) := by
  have hm := h.room
  unfold maxLen at hm
  have hc := h.cap
  have hl := Lib.hid h.len
  have HP := Lib.hid h
  clear h
  go_enter Tryz.func41, Tryz.ntmps41
  go_wp2_with fail
  go_loopw [3] (fun jv wr => ∃ j : Nat, jv = .int .i64 j ∧ j ≤ n ∧ Hid (tz l = tz (l.take j)) ∧ Below w.heap.size w wr) (fun jv _ => (intOf jv).toNat)
  case atStart => exact ⟨n, rfl, Nat.le_refl _, Lib.hid (by rw [List.take_of_length_le (by rw [hl.out]; exact Nat.le_refl _)]), Below.refl _ _⟩
  case round =>
    obtain ⟨m, rfl, hj, HT0, hbr⟩ := hrel
    rcases Nat.eq_zero_or_pos m with h0 | h0
    · subst h0
      obtain ⟨m, hm0⟩ : ∃ m : Nat, m = 0 := ⟨0, rfl⟩
      have HT := Lib.hid (show tz l = l.take m by rw [HT0.out, hm0]; rfl)
      have hjm : m ≤ n := by omega
      have hbx := hbr
      go_wp2_with fail
      rw [show ((0 : Nat) : Int) = (m : Int) by rw [hm0]]
      clear hm0
      have hm1 : m ≤ 1000000 := by omega
      go_loopw [4, 5] (fun ov iv wz => ∃ k : Nat, iv = .int .i64 k ∧ k ≤ m ∧ OwnJ wz w.heap.size ov (l.take k) ∧ Below w.heap.size w wz) (fun _ iv _ => m - (intOf iv).toNat)
      case atStart => exact ⟨0, rfl, by omega, OwnJ.nil _ _, hbx⟩
      case round =>
        obtain ⟨k, rfl, hk, hown, hby⟩ := hrel
        rcases Nat.lt_or_ge k m with hkn | hkn
        · obtain ⟨b, off, rfl, hbt, hcell⟩ := (HP.out.below hby).cells (by omega)
          obtain ⟨neg, B, q, c1, e0, e1, e2⟩ := hcell k (by omega)
          clear hcell hbt
          have HC := Lib.hid (rNormal_any e2)
          have HO := Lib.hid hown
          obtain ⟨Ao, co, rfl, hco1, hco2⟩ := hown.slice_ (show (l.take k).length = k by rw [List.length_take, hl.out]; omega)
          unfold maxLen at hco2
          clear e2 hown
          go_wp2_with (first
            | (go_at_call 29; go_must (refine HC.out.mono ?_); rintro e w2 ⟨v2, rfl, ⟨A2, c2, rfl, hw2⟩, hb2⟩)
            | (at_builtin; go_must (refine wpList_pushJ _ rfl _ _ _ _ rfl w.heap.size Tryz.underlying22 Tryz.underlying22 (.slice Ao k co) (l.take k) k (by rw [List.length_take, hl.out]; omega) rfl (HO.out.below hb2) _ A2 _ c2 (gz l k) rfl ⟨A2, c2, rfl, hw2.mono fun b hb _ => ⟨Nat.le_trans hby.size hb, HO.out.fresh hb⟩⟩ (by omega) (by have := hby.size; have := hb2.size; omega) ?_); intro A3 c3 w3 hown3 hgr3 hb3))
          go_roundw
          case rel => exact ⟨k + 1, by go_num, by omega, by rw [take_succ_gz (by rw [hl.out]; omega)]; exact hown3, (btr hby hb2).trans hb3⟩
          case measure => simp [intOf]; omega
        · obtain rfl : m = k := by omega
          obtain ⟨A3, c3, rfl, hp3⟩ := hown.pv
          have hc3 := hp3.cap
          have hr3 := hp3.room
          unfold maxLen at hr3
          have HF := Lib.hid hp3
          clear hp3 hown
          go_wp2_with fail
          go_ret
          exact ⟨_, rfl, by rw [HT.out]; exact ⟨_, _, rfl, HF.out⟩, hby⟩
    · obtain ⟨i, rfl⟩ : ∃ i, m = i + 1 := ⟨m - 1, by omega⟩
      obtain ⟨b, off, rfl, hbt, hcell⟩ := (HP.out.below hbr).cells (by omega)
      obtain ⟨neg, B, q, c1, e0, e1, e2⟩ := hcell i (by omega)
      have HS := Lib.hid (qSign_any e2)
      clear hcell hbt e2
      by_cases hz : gz l i = 0
      · have HZ := Lib.hid (show cmpI (gz l i) 0 = 0 by rw [hz]; rfl)
        have HG := Lib.hid hz
        clear hz
        go_wp2_with (go_at_call 54; go_must (refine HS.out.mono ?_); rintro e w2 ⟨rfl, hb2⟩; rw [HZ.out])
        go_roundw
        case rel => exact ⟨i, rfl, by omega, Lib.hid (by rw [HT0.out, tz_take_zero (by rw [hl.out]; omega) HG.out]), btr hbr hb2⟩
        case measure => simp [intOf]
      · have hz1 : (cmpI (gz l i) 0 == 0) = false := by rw [beq_eq_false_iff_ne]; unfold cmpI; split <;> (try split) <;> omega
        obtain ⟨sv, hsv⟩ : ∃ sv, sv = cmpI (gz l i) 0 := ⟨_, rfl⟩
        rw [← hsv] at hz1 HS
        obtain ⟨m, hm0⟩ : ∃ m : Nat, m = i + 1 := ⟨_, rfl⟩
        have HT := Lib.hid (show tz l = l.take m by rw [HT0.out, hm0, tz_take_ne (by rw [hl.out]; omega) hz])
        have hjm : m ≤ n := by omega
        clear hz hsv
        go_wp2_with (go_at_call 54; go_must (refine HS.out.mono ?_); rintro e w2 ⟨rfl, hb2⟩)
        have hbx := btr hbr hb2
        rw [show ((i : Nat) : Int) + 1 = (m : Int) by rw [hm0]; rfl]
        clear hm0 e0 e1
        have hm1 : m ≤ 1000000 := by omega
        go_loopw [4, 5] (fun ov iv wz => ∃ k : Nat, iv = .int .i64 k ∧ k ≤ m ∧ OwnJ wz w.heap.size ov (l.take k) ∧ Below w.heap.size w wz) (fun _ iv _ => m - (intOf iv).toNat)
        case atStart => exact ⟨0, rfl, by omega, OwnJ.nil _ _, hbx⟩
        case round =>
          obtain ⟨k, rfl, hk, hown, hby⟩ := hrel
          rcases Nat.lt_or_ge k m with hkn | hkn
          · obtain ⟨b2, off2, eA, hbt, hcell⟩ := (HP.out.below hby).cells (by omega)
            injection eA with eA
            injection eA with eA1 eA2 eA3
            subst eA1 eA2
            clear eA3
            obtain ⟨neg, B, q, c1, e0, e1, e2⟩ := hcell k (by omega)
            clear hcell hbt
            have HC := Lib.hid (rNormal_any e2)
            have HO := Lib.hid hown
            obtain ⟨Ao, co, rfl, hco1, hco2⟩ := hown.slice_ (show (l.take k).length = k by rw [List.length_take, hl.out]; omega)
            unfold maxLen at hco2
            clear e2 hown
            go_wp2_with (first
              | (go_at_call 29; go_must (refine HC.out.mono ?_); rintro e w2 ⟨v2, rfl, ⟨A2, c2, rfl, hw2⟩, hb2⟩)
              | (at_builtin; go_must (refine wpList_pushJ _ rfl _ _ _ _ rfl w.heap.size Tryz.underlying22 Tryz.underlying22 (.slice Ao k co) (l.take k) k (by rw [List.length_take, hl.out]; omega) rfl (HO.out.below hb2) _ A2 _ c2 (gz l k) rfl ⟨A2, c2, rfl, hw2.mono fun b hb _ => ⟨Nat.le_trans hby.size hb, HO.out.fresh hb⟩⟩ (by omega) (by have := hby.size; have := hb2.size; omega) ?_); intro A3 c3 w3 hown3 hgr3 hb3))
            go_roundw
            case rel => exact ⟨k + 1, by go_num, by omega, by rw [take_succ_gz (by rw [hl.out]; omega)]; exact hown3, (btr hby hb2).trans hb3⟩
            case measure => simp [intOf]; omega
          · obtain rfl : m = k := by omega
            obtain ⟨A3, c3, rfl, hp3⟩ := hown.pv
            have hc3 := hp3.cap
            have hr3 := hp3.room
            unfold maxLen at hr3
            have HF := Lib.hid hp3
            clear hp3 hown
            go_wp2_with fail
            go_ret
            exact ⟨_, rfl, by rw [HT.out]; exact ⟨_, _, rfl, HF.out⟩, hby⟩
end Go.Proofs.YtdmdagilopckgaaGreat

namespace Go.Proofs.YtdmdagilopckgaaGreat
open Go.RowKit

/-- The number of bits. -/
def bl (m : Nat) : Nat := if m = 0 then 0 else Nat.log2 m + 1
theorem bl_le {m k : Nat} : bl m ≤ k ↔ m < 2 ^ k := by
  unfold bl
  split
  · rename_i h; subst h; simp; exact Nat.two_pow_pos _
  · rename_i h
    rw [← Nat.log2_lt h]
    omega
theorem bl_half {m : Nat} (h : 0 < m) : bl m = bl (m / 2) + 1 := by
  have e : ∀ k, bl m ≤ k + 1 ↔ bl (m / 2) ≤ k := fun k => by
    rw [bl_le, bl_le, Nat.pow_succ]
    omega
  have h1 : bl m ≠ 0 := by unfold bl; rw [if_neg (by omega)]; omega
  have a := e (bl m - 1)
  have b := e (bl (m / 2))
  omega
theorem bl_u32 {m : Nat} (h : m < 4294967296) : bl m ≤ 32 := bl_le.2 (by omega)
/-- The number of bits of a number in words. -/
def bt (m : Nat) : Nat := if wl m = 0 then 0 else 32 * (wl m - 1) + bl (gw (dig 4294967296 m) (wl m - 1))
theorem last_gw {l : List Nat} {k : Nat} (h : l.length = k + 1) : l = l.take k ++ [gw l k] := by
  conv => lhs; rw [← List.take_of_length_le (show l.length ≤ k + 1 by omega)]
  rw [List.take_add_one, gw_lt (by omega)]
  rfl
theorem bt_le {m q : Nat} : bt m ≤ q ↔ m < 2 ^ q := by
  unfold bt
  split
  · rename_i h
    have h0 : m = 0 := Decidable.not_not.1 (mt wl_pos (by omega))
    subst h0
    exact ⟨fun _ => Nat.two_pow_pos _, fun _ => by omega⟩
  · rename_i h
    obtain ⟨k, hk⟩ : ∃ k, wl m = k + 1 := ⟨wl m - 1, by omega⟩
    have hd := last_gw (l := dig 4294967296 m) (k := k) (by unfold wl at hk; exact hk)
    have hlen : ((dig 4294967296 m).take k).length = k := by rw [List.length_take]; unfold wl at hk; omega
    have hv := val_snoc 4294967296 ((dig 4294967296 m).take k) (gw (dig 4294967296 m) k)
    rw [← hd, val_dig (by omega), hlen] at hv
    have hr : val 4294967296 ((dig 4294967296 m).take k) < 4294967296 ^ k := by
      have := val_lt (b := 4294967296) (l := (dig 4294967296 m).take k) (fun x hx => dig_lt (by omega) m x (List.mem_of_mem_take hx))
      rw [hlen] at this
      exact this
    have ht : gw (dig 4294967296 m) k ≠ 0 := trim_last (trim_dig (by omega) m) (by unfold wl at hk; exact hk)
    rw [hk, show k + 1 - 1 = k from rfl]
    generalize gw (dig 4294967296 m) k = t at *
    generalize val 4294967296 ((dig 4294967296 m).take k) = r at *
    have e32 : (4294967296 : Nat) ^ k = 2 ^ (32 * k) := by rw [show (4294967296 : Nat) = 2 ^ 32 from rfl, ← Nat.pow_mul]
    rw [e32] at hv hr
    by_cases h1000 : 32 * k ≤ q
    · rw [show (32 * k + bl t ≤ q) ↔ bl t ≤ q - 32 * k by omega, bl_le]
      have e : (2 : Nat) ^ q = 2 ^ (32 * k) * 2 ^ (q - 32 * k) := by rw [← Nat.pow_add]; congr 1; omega
      rw [e, hv]
      generalize (2 : Nat) ^ (q - 32 * k) = b
      generalize (2 : Nat) ^ (32 * k) = a at *
      constructor
      · intro h2
        have : a * (t + 1) ≤ a * b := Nat.mul_le_mul_left _ h2
        rw [Nat.mul_add] at this
        omega
      · intro h2
        rcases Nat.lt_or_ge t b with h3 | h3
        · exact h3
        · have := Nat.mul_le_mul_left a h3
          omega
    · have h2 : ¬ (32 * k + bl t ≤ q) := by omega
      have h3 : ¬ (m < 2 ^ q) := by
        have h4 : (2 : Nat) ^ q ≤ 2 ^ (32 * k) := Nat.pow_le_pow_right (by omega) (by omega)
        have h5 : 2 ^ (32 * k) * 1 ≤ 2 ^ (32 * k) * t := Nat.mul_le_mul_left _ (by omega)
        generalize (2 : Nat) ^ (32 * k) = a at *
        generalize (2 : Nat) ^ q = b at *
        omega
      exact ⟨fun h => absurd h h2, fun h => absurd h h3⟩

theorem bt_big {m : Nat} : decide (1000 < bt m) = decide (Lm ≤ m) := by
  have e : Lm = 2 ^ 1000 := by rw [Lm]
  have h := @bt_le m 1000
  rw [← e] at h
  rcases Nat.lt_or_ge m Lm with h1 | h1
  · rw [decide_eq_false (by have := h.2 h1; omega), decide_eq_false (by omega)]
  · rw [decide_eq_true (by have := mt h.1 (by omega); omega), decide_eq_true h1]

set_option maxHeartbeats 1000000 in
set_option maxRecDepth 100000 in
theorem bits_any {v : Value} {x : Int} {w : World} (h : IntB w v x) : Calls Tryz.prog 40 #[v] w fun e w' => e = .returned (.int .i64 (bt x.natAbs : Nat)) ∧ Below w.heap.size w w' := by
  have hb := h
  have hwl := h.wl
  obtain ⟨neg, A, n, c, l, rfl, h1, hx, hn⟩ := h
  have HB := Lib.hid (fun w' (hw : Below w.heap.size w w') => rNormal_any (hb.below hw))
  have hbw := below_al (Below.refl w.heap.size w) (.cells #[.bool neg, .slice A n c] 63)
  clear hb h1 hx hn
  obtain ⟨ng, hng⟩ : ∃ ng, ng = decide (x < 0) := ⟨_, rfl⟩
  generalize hm : x.natAbs = m at *
  have HB2 := Lib.hid (show ∀ w', Below w.heap.size w w' → Calls Tryz.prog 29 #[.agg #[.bool neg, .slice A n c]] w' fun e w'' => ∃ A1 c1, e = .returned (.agg #[.bool ng, .slice A1 (wl m) c1]) ∧ Wd w'' (w'.heap.size ≤ ·) A1 (wl m) c1 (dig 4294967296 m) ∧ Below w'.heap.size w' w'' from fun w' hw => by
    refine (HB.out w' hw).mono ?_
    rintro e w1 ⟨v1, rfl, ⟨A1, c1, rfl, hw1⟩, hb1⟩
    rw [hm] at hw1 ⊢
    exact ⟨A1, c1, by rw [hng], hw1, hb1⟩)
  have HT := Lib.hid (show bt m = if wl m = 0 then 0 else 32 * (wl m - 1) + bl (gw (dig 4294967296 m) (wl m - 1)) from rfl)
  clear HB hng hm
  generalize bt m = T at *
  generalize wl m = n1 at *
  have hd := dig_lt (b := 4294967296) (by omega) m
  generalize dig 4294967296 m = l1 at *
  have HD := Lib.hid hd
  clear hd
  rcases n1 with _ | k
  · have HE := Lib.hid (show T = 0 by rw [HT.out, if_pos rfl])
    go_enter Tryz.func40, Tryz.ntmps40
    go_wp2_with (go_at_call 29; go_must (refine (HB2.out _ hbw).mono ?_); rintro e w1 ⟨A1, c1, rfl, hw1, hb1⟩; have q0 := keepB hb1 (show (w.alloc _).cell? ⟨w.heap.size, 0, none⟩ = some (.bool neg) by go_simp); have q1 := keepB hb1 (show (w.alloc _).cell? ⟨w.heap.size, 1, none⟩ = some (.slice A n c) by go_simp); have z0 : w1.frozen? ⟨w.heap.size, 0, none⟩ = false := ((bcell hb1).2 _ _ (by simp)).trans (by go_simp); have z1 : w1.frozen? ⟨w.heap.size, 1, none⟩ = false := ((bcell hb1).2 _ _ (by simp)).trans (by go_simp); have hbX := btr hbw hb1)
    go_ret
    exact ⟨by rw [HE.out]; rfl, (hbX.setCell (by simp) _).setCell (by simp) _⟩
  · have HE := Lib.hid (show T = 32 * k + bl (gw l1 k) by rw [HT.out, if_neg (by omega)]; rfl)
    have hbd : gw l1 k < 4294967296 := gw_bound HD.out (by omega) k
    have hbb := bl_u32 hbd
    have hz0 : (((k + 1 : Nat) : Int) == 0) = false := by simp; omega
    have hz1 : ((k : Int) + 1 == 0) = false := by simp; omega
    clear HT
    go_enter Tryz.func40, Tryz.ntmps40
    go_wp2_with (go_at_call 29; go_must (refine (HB2.out _ hbw).mono ?_); rintro e w1 ⟨A1, c1, rfl, hw1, hb1⟩; have q0 := keepB hb1 (show (w.alloc _).cell? ⟨w.heap.size, 0, none⟩ = some (.bool neg) by go_simp); have q1 := keepB hb1 (show (w.alloc _).cell? ⟨w.heap.size, 1, none⟩ = some (.slice A n c) by go_simp); have z0 : w1.frozen? ⟨w.heap.size, 0, none⟩ = false := ((bcell hb1).2 _ _ (by simp)).trans (by go_simp); have z1 : w1.frozen? ⟨w.heap.size, 1, none⟩ = false := ((bcell hb1).2 _ _ (by simp)).trans (by go_simp); have hbX := btr hbw hb1; obtain ⟨b, off, rfl, hbD, hcs⟩ := hw1.cells (by omega); have q2 := hcs k (by omega); have q3 : ((w1.setCell ⟨w.heap.size, 0, none⟩ (.bool ng)).setCell ⟨w.heap.size, 1, none⟩ (.slice (some ⟨b, off, none⟩) (k + 1) c1)).cell? ⟨b, off + k, none⟩ = some (.int .u32 (gw l1 k)) := by {have hne : w.heap.size ≠ b := (by simp at hbD; omega); rw [World.cell?_setCell_other _ _ _ _ (fun e => hne (by injection e)), World.cell?_setCell_other _ _ _ _ (fun e => hne (by injection e))]; exact q2}; clear q2 hcs hw1)
    have hbZ : Below w.heap.size w ((w1.setCell ⟨w.heap.size, 0, none⟩ (.bool ng)).setCell ⟨w.heap.size, 1, none⟩ (.slice (some ⟨b, off, none⟩) (k + 1) c1)) := (hbX.setCell (by simp) _).setCell (by simp) _
    clear q3 hbX q0 q1 z0 z1
    generalize ((w1.setCell ⟨w.heap.size, 0, none⟩ (.bool ng)).setCell ⟨w.heap.size, 1, none⟩ (.slice (some ⟨b, off, none⟩) (k + 1) c1)) = W at *
    rw [show 32 * (k : Int) = ((32 * k : Nat) : Int) by omega]
    go_loop [4, 5] (fun ov tv => ∃ s y : Nat, ov = .int .i64 s ∧ tv = .int .u32 y ∧ Hid (s + bl y = 32 * k + bl (gw l1 k)) ∧ y < 4294967296 ∧ s ≤ 32 * k + 32) (fun _ tv => (intOf tv).toNat)
    case atStart => exact ⟨32 * k, gw l1 k, rfl, rfl, Lib.hid rfl, hbd, by omega⟩
    case round =>
      obtain ⟨s, y, rfl, rfl, HS, hy, hs⟩ := hrel
      rcases Nat.eq_zero_or_pos y with h0 | h0
      · subst h0
        have HE2 := Lib.hid (show T = s by rw [HE.out, ← HS.out]; unfold bl; simp)
        go_wp2_with fail
        go_ret
        exact ⟨by rw [HE2.out]; rfl, hbZ⟩
      · have hh := bl_half h0
        have hs2 := HS.out
        have h3 : bl (y / 2) + 1 ≤ 32 := by rw [← hh]; exact bl_u32 hy
        have HS2 := Lib.hid (show s + 1 + bl (y / 2) = 32 * k + bl (gw l1 k) by omega)
        have hs3 : s + 1 ≤ 32 * k + 32 := by omega
        clear hh hs2 h3 hbb
        go_wp2_with fail
        exact ⟨⟨s + 1, y / 2, by go_num, by go_num, HS2, by omega, hs3⟩, by simp [intOf]; omega⟩

set_option maxHeartbeats 2000000 in
theorem qCheckPoly_any {A : Option Addr} {n c : Nat} {l : List Int} {w : World} (h : Pl IntB w (fun _ => True) A n c l) :
    Calls Tryz.prog 10 #[.slice A n c] w fun e w' => e = .returned (.int .i64 (rdE l)) ∧ Below w.heap.size w w' := by
  have hm := h.room
  unfold maxLen at hm
  have hc := h.cap
  have hl := Lib.hid h.len
  have HP := Lib.hid h
  clear h
  by_cases h61 : 61 < n
  · have HE := Lib.hid (show rdE l = 8 by unfold rdE; rw [if_pos (by rw [hl.out]; exact h61)])
    have z1 : decide ((61 : Int) < (n : Int)) = true := decide_eq_true (by omega)
    go_enter Tryz.func10, Tryz.ntmps10
    go_wp2_with fail
    go_ret
    exact ⟨by rw [HE.out]; rfl, Below.refl _ _⟩
  · have z1 : decide ((61 : Int) < (n : Int)) = false := decide_eq_false (by omega)
    have HE := Lib.hid (show rdE l = if l.any big = true then 8 else if tz l = [] then 10 else 0 by unfold rdE; rw [if_neg (by rw [hl.out]; exact h61)])
    go_enter Tryz.func10, Tryz.ntmps10
    go_wp2_with fail
    go_loopw [3] (fun iv wr => ∃ k : Nat, iv = .int .i64 k ∧ k ≤ n ∧ Hid ((l.take k).any big = false) ∧ Below w.heap.size w wr) (fun iv _ => n - (intOf iv).toNat)
    case atStart => exact ⟨0, rfl, by omega, Lib.hid rfl, Below.refl _ _⟩
    case round =>
      obtain ⟨k, rfl, hk, HN, hbr⟩ := hrel
      rcases Nat.lt_or_ge k n with hkn | hkn
      · obtain ⟨b, off, rfl, hbt, hcell⟩ := (HP.out.below hbr).cells (by omega)
        obtain ⟨neg, B, q, c1, e0, e1, e2⟩ := hcell k (by omega)
        have HC := Lib.hid (bits_any e2)
        have HS := Lib.hid (any_take_succ (by rw [hl.out]; exact hkn) HN.out)
        have HM := Lib.hid (gz_mem (l := l) (j := k) (by rw [hl.out]; exact hkn))
        have HB := Lib.hid (bt_big (m := (gz l k).natAbs))
        clear hcell hbt e2
        cases hp : big (gz l k)
        · have z2 : decide ((1000 : Int) < (bt (gz l k).natAbs : Nat)) = false := by
            have h1 := HB.out.trans hp
            have h2 := of_decide_eq_false h1
            exact decide_eq_false (by omega)
          have HQ := Lib.hid (HS.out.trans hp)
          clear hp
          generalize bt (gz l k).natAbs = y at *
          go_wp2_with (go_at_call 40; go_must (refine HC.out.mono ?_); rintro e w2 ⟨rfl, hb2⟩)
          go_roundw
          case rel => exact ⟨k + 1, by go_num, by omega, HQ, btr hbr hb2⟩
          case measure => simp [intOf]; omega
        · have z2 : decide ((1000 : Int) < (bt (gz l k).natAbs : Nat)) = true := by
            have h1 := HB.out.trans hp
            have h2 := of_decide_eq_true h1
            exact decide_eq_true (by omega)
          have HE2 := Lib.hid (show rdE l = 8 by rw [HE.out, if_pos (List.any_eq_true.2 ⟨_, HM.out, hp⟩)])
          clear hp
          generalize bt (gz l k).natAbs = y at *
          go_wp2_with (go_at_call 40; go_must (refine HC.out.mono ?_); rintro e w2 ⟨rfl, hb2⟩)
          go_ret
          exact ⟨by rw [HE2.out]; rfl, btr hbr hb2⟩
      · obtain rfl : n = k := by omega
        have HA := Lib.hid (show rdE l = if tz l = [] then 10 else 0 by
          have h1 := HN.out
          rw [List.take_of_length_le (by rw [hl.out]; exact Nat.le_refl _)] at h1
          rw [HE.out, if_neg (by rw [h1]; simp)])
        have HT := Lib.hid (qTrim_any (HP.out.below hbr) (by omega))
        by_cases h0 : tz l = []
        · have HE2 := Lib.hid (show rdE l = 10 by rw [HA.out, if_pos h0])
          rw [h0] at HT
          clear h0
          go_wp2_with (go_at_call 41; go_must (refine HT.out.mono ?_); rintro e w2 ⟨v2, rfl, ⟨A2, c2, rfl, hp2⟩, hb2⟩)
          go_ret
          exact ⟨by rw [HE2.out]; rfl, btr hbr hb2⟩
        · have HE2 := Lib.hid (show rdE l = 0 by rw [HA.out, if_neg h0])
          have hpos := List.length_pos_iff.2 h0
          clear h0
          have hle := tz_length_le l
          have z3 : (((tz l).length : Int) == 0) = false := beq_eq_false_iff_ne.2 (by omega)
          generalize tz l = t at *
          go_wp2_with (go_at_call 41; go_must (refine HT.out.mono ?_); rintro e w2 ⟨v2, rfl, ⟨A2, c2, rfl, hp2⟩, hb2⟩)
          go_ret
          exact ⟨by rw [HE2.out]; rfl, btr hbr hb2⟩

/-- What a list of one's own gives. -/
theorem OwnJ.out {w : World} {base : Nat} {v : Value} {l m : List Int} (h : OwnJ w base v l) (e : l = m) : PvD w (base ≤ ·) v m := e ▸ h.pv

set_option maxHeartbeats 2000000 in
theorem qNegative_any {A : Option Addr} {n c : Nat} {l : List Int} {w : World} (h : Pl IntB w (fun _ => True) A n c l) (hn : n ≤ 1000000) :
    Calls Tryz.prog 51 #[.slice A n c] w (Gives w fun w' v => PvD w' (w.heap.size ≤ ·) v (l.map (- ·))) := by
  have hm := h.room
  unfold maxLen at hm
  have hc := h.cap
  have hl := Lib.hid h.len
  have HP := Lib.hid h
  clear h
  go_enter Tryz.func51, Tryz.ntmps51
  go_wp2_with fail
  go_loopw [3, 4] (fun ov iv wr => ∃ k : Nat, iv = .int .i64 k ∧ k ≤ n ∧ OwnJ wr w.heap.size ov ((l.take k).map (- ·)) ∧ Below w.heap.size w wr) (fun _ iv _ => n - (intOf iv).toNat)
  case atStart => exact ⟨0, rfl, by omega, OwnJ.nil _ _, Below.refl _ _⟩
  case round =>
    obtain ⟨k, rfl, hk, hown, hbr⟩ := hrel
    have hlk : ((l.take k).map (- ·)).length = k := by rw [List.length_map, List.length_take, hl.out]; omega
    have HLK := Lib.hid hlk
    obtain ⟨Ao, co, rfl, hco1, hco2⟩ := hown.slice_ hlk
    unfold maxLen at hco2
    clear hlk
    rcases Nat.lt_or_ge k n with hkn | hkn
    · obtain ⟨b, off, rfl, hbt, hcell⟩ := (HP.out.below hbr).cells (by omega)
      obtain ⟨neg, B, q, c1, e0, e1, e2⟩ := hcell k (by omega)
      clear hcell hbt
      obtain ⟨y, hy⟩ : ∃ y, y = -(gz l k) := ⟨_, rfl⟩
      have HY := Lib.hid hy
      have HC := Lib.hid (rNeg_any e2)
      rw [← hy] at HC
      clear hy
      have HO := Lib.hid hown
      clear e2 hown
      go_wp2_with (first
        | (go_at_call 92; go_must (refine HC.out.mono ?_); rintro e w2 ⟨v2, rfl, ⟨A2, c2, rfl, hw2⟩, hb2⟩)
        | (at_builtin; go_must (refine wpList_pushJ _ rfl _ _ _ _ rfl w.heap.size Tryz.underlying22 Tryz.underlying22 (.slice Ao k co) _ k HLK.out rfl (HO.out.below hb2) _ A2 _ c2 y rfl ⟨A2, c2, rfl, hw2.mono fun b hb _ => ⟨Nat.le_trans hbr.size hb, HO.out.fresh hb⟩⟩ (by omega) (by have := hbr.size; have := hb2.size; omega) ?_); intro A3 c3 w3 hown3 hgr3 hb3))
      go_roundw
      case rel => exact ⟨k + 1, by go_num, by omega, by rw [take_succ_gz (by rw [hl.out]; exact hkn), List.map_append]; rw [HY.out] at hown3; exact hown3, (btr hbr hb2).trans hb3⟩
      case measure => simp [intOf]; omega
    · obtain rfl : n = k := by omega
      have HF := Lib.hid (hown.out (m := l.map (- ·)) (by rw [List.take_of_length_le (by rw [hl.out]; exact Nat.le_refl _)]))
      clear hown
      go_wp2_with fail
      go_ret
      exact ⟨_, rfl, HF.out, hbr⟩
end Go.Proofs.YtdmdagilopckgaaGreat

namespace Go.Proofs.YtdmdagilopckgaaGreat
open Go.RowKit

/-- The list's numbers are not too long. -/
theorem Pl.bd {w : World} {D : Nat → Prop} {A : Option Addr} {n c : Nat} {l : List Int} (h : Pl IntB w D A n c l) : Bd 1000000000000 l := fun x hx => by
  obtain ⟨j, hj, rfl⟩ := mem_gz hx
  obtain ⟨b, off, _, _, hc⟩ := h.cells (by have := h.len; omega)
  obtain ⟨neg, B, m, k, _, _, e2⟩ := hc j (by have := h.len; omega)
  exact e2.wl
theorem PvD.b {w : World} {D : Nat → Prop} {v : Value} {l : List Int} {B : Nat} (h : PvD w D v l) (hB : Bd B l) (h0 : B ≤ 1000000000000) : ∃ A c, v = .slice A l.length c ∧ Pl IntB w (fun _ => True) A l.length c l := by
  obtain ⟨A, c, rfl, hp, _⟩ := h.get
  exact ⟨A, c, rfl, hp.b hB h0⟩

set_option maxHeartbeats 2000000 in
set_option maxRecDepth 100000 in
theorem Derivative_any {A : Option Addr} {n c : Nat} {l : List Int} {w : World} (h : Pl IntB w (fun _ => True) A n c l) (hn : n ≤ 1000000) (hB : Bd 900000000000 l) :
    Calls Tryz.prog 50 #[.slice A n c] w (Gives w fun w' v => PvD w' (w.heap.size ≤ ·) v (dv l)) := by
  have hm := h.room
  unfold maxLen at hm
  have hc := h.cap
  have hln := h.len
  have hl := Lib.hid hln
  have HP := Lib.hid h
  have hml : (dvF 1 (l.drop 1)).length = n - 1 := by rw [dvF_length, List.length_drop, hln]
  have hmg : ∀ k, gz (dvF 1 (l.drop 1)) k = ((1 + k : Nat) : Int) * gz l (1 + k) := fun k => by rw [dvF_gz, gz_drop]
  have hmb := wl_dvF hB (by omega)
  have HT : Hid (tz (dvF 1 (l.drop 1)) = dv l) := Lib.hid rfl
  obtain ⟨M, hM⟩ : ∃ M, M = dvF 1 (l.drop 1) := ⟨_, rfl⟩
  rw [← hM] at hml hmg hmb HT
  have HML := Lib.hid hml
  have HMG := Lib.hid hmg
  have HMB := Lib.hid hmb
  clear h hml hmg hmb hM hln hB
  go_enter Tryz.func50, Tryz.ntmps50
  go_wp2_with fail
  go_loopw [3, 4] (fun ov iv wr => ∃ k : Nat, iv = .int .i64 ((k : Int) + 1) ∧ k ≤ n - 1 ∧ OwnJ wr w.heap.size ov (M.take k) ∧ Below w.heap.size w wr) (fun _ iv _ => n - (intOf iv).toNat)
  case atStart => exact ⟨0, rfl, by omega, OwnJ.nil _ _, Below.refl _ _⟩
  case round =>
    obtain ⟨k, rfl, hk, hown, hbr⟩ := hrel
    have hlk : (M.take k).length = k := by rw [List.length_take, HML.out]; omega
    have HLK := Lib.hid hlk
    obtain ⟨Ao, co, rfl, hco1, hco2⟩ := hown.slice_ hlk
    unfold maxLen at hco2
    clear hlk
    rcases Nat.lt_or_ge (k + 1) n with hkn | hkn
    · obtain ⟨b, off, rfl, hbt, hcell⟩ := (HP.out).cells (by omega)
      obtain ⟨neg, B, q, c1, e0, e1, e2⟩ := hcell (k + 1) hkn
      have E0 := Lib.hid e0
      have E1 := Lib.hid e1
      have E2 := Lib.hid e2
      have hkp : 0 ≤ (k : Int) + 1 := by omega
      obtain ⟨y1, hy1⟩ : ∃ y1, y1 = (k : Int) + 1 := ⟨_, rfl⟩
      obtain ⟨y2, hy2⟩ : ∃ y2, y2 = gz M k := ⟨_, rfl⟩
      have HOF : Hid (∀ w', Calls Tryz.prog 28 #[.int .i64 ((k : Int) + 1)] w' (Gives w' fun w'' v => NIntV w'' (w'.heap.size ≤ ·) v y1)) := Lib.hid (fun w' => by rw [hy1]; exact rOf_any ((k : Int) + 1) w' (by omega) (by omega))
      have HO := Lib.hid hown
      have HW1 := Lib.hid (show wl y1.natAbs ≤ 1000000000000 by
        have := wl_small (k := k + 1) (by omega)
        rw [hy1, show ((k : Int) + 1).natAbs = k + 1 by omega]
        omega)
      have HMU : Hid (∀ w' v v', IntB w' v y1 → IntB w' v' (gz l (k + 1)) → Calls Tryz.prog 57 #[v, v'] w' (Gives w' fun w'' v => NIntV w'' (w'.heap.size ≤ ·) v y2)) := Lib.hid (fun w' v v' h1 h2 => by
        have h3 := rMul_any h1 h2
        rw [show y1 * gz l (k + 1) = y2 by rw [hy2, HMG.out k, hy1, Nat.add_comm 1 k]; rfl] at h3
        exact h3)
      have HY := Lib.hid (show M.take (k + 1) = M.take k ++ [y2] by rw [hy2, take_succ_gz (by rw [HML.out]; omega)])
      clear hy1 hy2
      have hkl : (k : Int) + 1 < n := by omega
      clear hcell hbt e0 e1 e2 hown
      go_wp2_with fail
      have hs0 : Below w.heap.size w wr.drew := hbr.drew
      refine wp_region_trg (.read 0 (.read 1 (.read 3 (.read 4 (.read 5 (.read 6 (.step 2 (.step 7 (.step 8 (.step 9 (.step 10 .nil))))))))))) [] (by kernel_rfl) (by rfl) (by kernel_rfl) (by kernel_rfl) (fun _ _ _ _ _ h => h) (fun W' => Below w.heap.size w W') ?_
      change goG _ _ _ _ _ _ _ wr.drew
      refine goG_read 11 hs0 (by rfl) (by rfl) ?_ (by rfl) (fun wz hSw => ?_) ?_
      rotate_left
      · go_simp
        try with_reducible rfl
      simp only [List.setIfInBounds_toArray, List.set]
      refine goG_read 12 hs0 (by rfl) (by rfl) ?_ (by rfl) (fun wz hSw => ?_) ?_
      rotate_left
      · go_simp
        try with_reducible rfl
      simp only [List.setIfInBounds_toArray, List.set]
      refine goG_read 14 hs0 (by rfl) (by rfl) ?_ (by rfl) (fun wz hSw => ?_) ?_
      rotate_left
      · go_simp
        try with_reducible rfl
      simp only [List.setIfInBounds_toArray, List.set]
      refine goG_read 15 hs0 (by rfl) (by rfl) ?_ (by rfl) (fun wz hSw => ?_) ?_
      rotate_left
      · go_simp
        try with_reducible rfl
      simp only [List.setIfInBounds_toArray, List.set]
      refine goG_read 16 hs0 (by rfl) (by rfl) ?_ (by rfl) (fun wz hSw => ?_) ?_
      rotate_left
      · go_simp
        try with_reducible rfl
      simp only [List.setIfInBounds_toArray, List.set]
      refine goG_read 17 hs0 (by rfl) (by rfl) ?_ (by rfl) (fun wz hSw => ?_) ?_
      rotate_left
      · (have x0 := keepB hSw E0.out); (have x1 := keepB hSw E1.out); go_simp
        try with_reducible rfl
      simp only [List.setIfInBounds_toArray, List.set]
      refine goG_step (by rfl) ?_
      go_wp2_with (go_at_call 28; go_must (refine (HOF.out _).mono ?_); rintro e w5 ⟨v5, rfl, ⟨A5, c5, rfl, hw5⟩, hb5⟩)
      have hs1 : Below w.heap.size w w5 := btr hs0 hb5
      have ho5 := HO.out.below (btr ((Below.refl _ wr).drew) hb5)
      refine ⟨fun _ => hs1, ?_⟩
      refine goG_step (by rfl) ?_
      go_wp2_with (go_at_call 57; go_must (refine (HMU.out _ _ _ (NIntV.b ⟨A5, c5, rfl, hw5⟩ HW1.out) (E2.out.below hs1)).mono ?_); rintro e w6 ⟨v6, rfl, ⟨A6, c6, rfl, hw6⟩, hb6⟩)
      have hs2 := btr hs1 hb6
      refine ⟨fun _ => hs2, ?_⟩
      refine goG_step (by rfl) ?_
      go_wp2_with fail
      refine ⟨fun _ => below_al hs2 _, ?_⟩
      refine goG_step (by rfl) ?_
      refine wpList_pushJ _ (by rfl) _ _ _ _ (by rfl) w.heap.size Tryz.underlying22 Tryz.underlying22 (.slice Ao k co) (M.take k) k HLK.out (by rfl) (ho5.below hb6) _ A6 _ c6 y2 (by rfl) ⟨A6, c6, rfl, hw6.mono fun b hb _ => ⟨Nat.le_trans hs1.size hb, ho5.fresh hb⟩⟩ (by omega) hs2.size ?_
      intro A7 c7 w7 hown7 hgr7 hb7
      have hs3 := hs2.trans hb7
      refine ⟨fun _ => hs3, ?_⟩
      refine goG_step (by rfl) ?_
      go_wp2_with fail
      refine ⟨fun _ => hs3, ?_⟩
      rename_i hK
      refine hK _ _ ?_
      go_wp2_with fail
      refine ⟨⟨k + 1, by go_num, by omega, by rw [HY.out]; exact hown7, hs3⟩, by simp [intOf]; omega⟩
    · have hke : k = n - 1 := by omega
      have hown2 : OwnJ wr w.heap.size (.slice Ao k co) M := by
        rw [List.take_of_length_le (by rw [HML.out]; omega)] at hown
        exact hown
      obtain ⟨A3, c3, e3, hp3⟩ := hown2.pv.b (B := 1000000000000) HMB.out (Nat.le_refl _)
      injection e3 with e4 e5 e6
      subst e4 e6
      have HC := Lib.hid (qTrim_any hp3 (by rw [HML.out]; omega))
      rw [← e5] at HC
      have hlt : ¬ ((k : Int) + 1 < n) := by omega
      clear hown hown2 hke hp3 e5
      go_wp2_with (go_at_call 41; go_must (refine HC.out.mono ?_); rintro e w2 ⟨v2, rfl, hv2, hb2⟩)
      go_ret
      exact ⟨_, rfl, by rw [HT.out] at hv2; exact hv2.mono (fun b hb _ => Nat.le_trans hbr.size hb), btr hbr hb2⟩
end Go.Proofs.YtdmdagilopckgaaGreat

namespace Go.Proofs.YtdmdagilopckgaaGreat
open Go.RowKit

set_option maxHeartbeats 4000000 in
set_option maxRecDepth 100000 in
theorem Primitive_any {A : Option Addr} {n c : Nat} {l : List Int} {w : World} (h : Pl IntB w (fun _ => True) A n c l) (hn : n ≤ 1000000) (hct : l ≠ [] → ct l ≠ 0) :
    Calls Tryz.prog 49 #[.slice A n c] w (Gives w fun w' v => PvD w' (w.heap.size ≤ ·) v (pp l)) := by
  have hm := h.room
  unfold maxLen at hm
  have hc := h.cap
  have hl := Lib.hid h.len
  have HP := Lib.hid h
  have HB := Lib.hid (wl_ct l h.bd)
  have HCT := Lib.hid hct
  have HBD := Lib.hid h.bd
  clear h hct
  go_enter Tryz.func49, Tryz.ntmps49
  go_wp2_with (go_at_call 28; go_must (refine (rOf_any 0 _ (by omega) (by omega)).mono ?_); rintro e w1 ⟨v1, rfl, hv1, hb1⟩; obtain ⟨n1, A1, m1, c1, rfl, hi1⟩ := (nint_ni hv1).shape)
  have hvi := Vi.new hi1
  have hbw : Below w.heap.size w (w1.alloc (.cells #[.bool n1, .slice A1 m1 c1] 63)) := below_al hb1 _
  have hP1 : w.heap.size ≤ w1.heap.size := hb1.size
  obtain ⟨P, hP⟩ : ∃ P, P = w1.heap.size := ⟨_, rfl⟩
  rw [← hP] at hvi hP1 ⊢
  clear hP hv1 hi1 hb1
  go_loopw [4] (fun iv wr => ∃ k : Nat, iv = .int .i64 k ∧ k ≤ n ∧ Vi wr P (ct (l.take k)) ∧ Below w.heap.size w wr) (fun iv _ => n - (intOf iv).toNat)
  case atStart => exact ⟨0, rfl, by omega, hvi, hbw⟩
  case round =>
    obtain ⟨k, rfl, hk, hvk, hbr⟩ := hrel
    clear hvi hbw
    have hPlt := hvk.lt
    obtain ⟨ng, Bg, mg, kg, g0, g1, hgi, gf0, gf1⟩ := hvk.cells
    rcases Nat.lt_or_ge k n with hkn | hkn
    · obtain ⟨b, off, rfl, hbt, hcell⟩ := (HP.out.below hbr).cells (by omega)
      obtain ⟨neg, B, q, cq, e0, e1, e2⟩ := hcell k hkn
      have G0 := Lib.hid g0
      have G1 := Lib.hid g1
      have GI := Lib.hid (NIntV.b hgi (HB.out k))
      have E0 := Lib.hid e0
      have E1 := Lib.hid e1
      have E2 := Lib.hid e2
      have HV := Lib.hid hvk
      obtain ⟨y, hy⟩ : ∃ y, y = ct (l.take (k + 1)) := ⟨_, rfl⟩
      have HY : Hid (∀ w' v v', IntB w' v (ct (l.take k)) → IntB w' v' (gz l k) → Calls Tryz.prog 90 #[v, v'] w' (Gives w' fun w'' v => NIntV w'' (w'.heap.size ≤ ·) v y)) := Lib.hid (fun w' v v' h1 h2 => by
        have h3 := rGcd_any h1 h2
        rw [← ct_snoc, ← take_succ_gz (by rw [hl.out]; exact hkn), ← hy] at h3
        exact h3)
      have HYE := Lib.hid hy
      have hkl : (k : Int) < n := by omega
      clear hcell hbt e0 e1 e2 g0 g1 hgi hvk hy gf0 gf1
      go_wp2_with fail
      have hs0 : Below wr.heap.size wr wr.drew := (Below.refl _ _).drew
      refine wp_region_trg (.read 0 (.read 1 (.read 2 (.read 3 (.read 4 (.step 5 (.step 6 .nil))))))) [6] (by kernel_rfl) (by rfl) (by kernel_rfl) (by kernel_rfl) (fun _ _ _ _ _ h => h) (fun W' => Below wr.heap.size wr W') ?_
      change goG _ _ _ _ _ _ _ wr.drew
      refine goG_read 14 hs0 (by rfl) (by rfl) ?_ (by rfl) (fun wz hSw => ?_) ?_
      rotate_left
      · (have x0 := keepB hSw G0.out); (have x1 := keepB hSw G1.out); go_simp
        try with_reducible rfl
      simp only [List.setIfInBounds_toArray, List.set]
      refine goG_read 15 hs0 (by rfl) (by rfl) ?_ (by rfl) (fun wz hSw => ?_) ?_
      rotate_left
      · go_simp
        try with_reducible rfl
      simp only [List.setIfInBounds_toArray, List.set]
      refine goG_read 16 hs0 (by rfl) (by rfl) ?_ (by rfl) (fun wz hSw => ?_) ?_
      rotate_left
      · go_simp
        try with_reducible rfl
      simp only [List.setIfInBounds_toArray, List.set]
      refine goG_read 17 hs0 (by rfl) (by rfl) ?_ (by rfl) (fun wz hSw => ?_) ?_
      rotate_left
      · go_simp
        try with_reducible rfl
      simp only [List.setIfInBounds_toArray, List.set]
      refine goG_read 18 hs0 (by rfl) (by rfl) ?_ (by rfl) (fun wz hSw => ?_) ?_
      rotate_left
      · (have x0 := keepB hSw E0.out); (have x1 := keepB hSw E1.out); go_simp
        try with_reducible rfl
      simp only [List.setIfInBounds_toArray, List.set]
      refine goG_step (by rfl) ?_
      go_wp2_with (go_at_call 90; go_must (refine (HY.out _ _ _ (GI.out.below hs0) (E2.out.below hs0)).mono ?_); rintro e w6 ⟨v6, rfl, hv6, hb6⟩; obtain ⟨n6, A6, m6, c6, rfl, hi6⟩ := (nint_ni hv6).shape)
      have hs1 : Below wr.heap.size wr w6 := btr hs0 hb6
      refine ⟨fun _ => hs1, ?_⟩
      have hv7 : Vi w6 P (ct (l.take k)) := IArr.below HV.out hs1
      obtain ⟨ng7, Bg7, mg7, kg7, g70, g71, hgi7, gf70, gf71⟩ := Vi.cells hv7
      refine goG_step (by rfl) ?_
      go_wp2_with fail
      refine ⟨(fun h => by cases h), ?_⟩
      rename_i hK
      refine hK _ _ ?_
      go_wp2_with fail
      have hvn := Vi.store hv7 hi6
      rw [HYE.out] at hvn
      refine ⟨⟨k + 1, by go_num, by omega, hvn, ?_⟩, by simp [intOf]; omega⟩
      exact ((btr hbr hs1).setCell (by simpa using hP1) _).setCell (by simpa using hP1) _
    · obtain rfl : n = k := by omega
      have hg : l.take n = l := List.take_of_length_le (by rw [hl.out]; exact Nat.le_refl _)
      rw [hg] at hgi
      have G0 := Lib.hid g0
      have G1 := Lib.hid g1
      have GI := Lib.hid (NIntV.b hgi (by have := HB.out n; rw [hg] at this; exact this))
      have hlt : ¬ ((n : Int) < n) := by omega
      obtain ⟨wo, hwo⟩ : ∃ wo, wo = wr := ⟨_, rfl⟩
      rw [← hwo] at G0 G1 GI hbr hPlt ⊢
      clear hwo hvk hg hgi g0 g1 gf0 gf1
      obtain ⟨M, hM⟩ : ∃ M, M = l.map (· / ct l) := ⟨_, rfl⟩
      have HML := Lib.hid (show M.length = n by rw [hM, List.length_map, hl.out])
      have HMG := Lib.hid (show ∀ k, k < n → gz M k = gz l k / ct l from fun k hk => by rw [hM, gz_map (by rw [hl.out]; exact hk)])
      have HMB := Lib.hid (show Bd 1000000000000 M from fun x hx => by
        rw [hM] at hx
        obtain ⟨z, hz, rfl⟩ := List.mem_map.1 hx
        exact Nat.le_trans (wl_div _ _) (HBD.out z hz))
      have HT : Hid (tz M = pp l) := Lib.hid (by rw [hM]; rfl)
      clear hM
      go_wp2_with fail
      go_loopw [5, 6] (fun ov iv wz => ∃ k : Nat, iv = .int .i64 k ∧ k ≤ n ∧ OwnJ wz wo.heap.size ov (M.take k) ∧ Below wo.heap.size wo wz) (fun _ iv _ => n - (intOf iv).toNat)
      case atStart => exact ⟨0, rfl, by omega, OwnJ.nil _ _, Below.refl _ _⟩
      case round =>
        obtain ⟨k, rfl, hk, hown, hbz⟩ := hrel
        have hlk : (M.take k).length = k := by rw [List.length_take, HML.out]; omega
        have HLK := Lib.hid hlk
        obtain ⟨Ao, co, rfl, hco1, hco2⟩ := hown.slice_ hlk
        unfold maxLen at hco2
        clear hlk
        rcases Nat.lt_or_ge k n with hkn | hkn
        · obtain ⟨b, off, rfl, hbt, hcell⟩ := (HP.out.below hbr).cells (by omega)
          obtain ⟨neg, B, q, cq, e0, e1, e2⟩ := hcell k hkn
          have E0 := Lib.hid e0
          have E1 := Lib.hid e1
          have E2 := Lib.hid e2
          have HO := Lib.hid hown
          have hc0 : ct l ≠ 0 := HCT.out (fun e => by have := hl.out; rw [e] at this; simp at this; omega)
          obtain ⟨y, hy⟩ : ∃ y, y = gz M k := ⟨_, rfl⟩
          have HQ : Hid (∀ w' v v', IntB w' v (gz l k) → IntB w' v' (ct l) → Calls Tryz.prog 91 #[v, v'] w' (Gives w' fun w'' v => NIntV w'' (w'.heap.size ≤ ·) v y)) := Lib.hid (fun w' v v' h1 h2 => by
            have h3 := rQuo_any h1 h2 hc0
            rw [← HMG.out k hkn, ← hy] at h3
            exact h3)
          have HY := Lib.hid (show M.take (k + 1) = M.take k ++ [y] by rw [hy, take_succ_gz (by rw [HML.out]; omega)])
          have hkl : (k : Int) < n := by omega
          clear hcell hbt e0 e1 e2 hown hc0 hy
          go_wp2_with fail
          have hs0 : Below wo.heap.size wo wr.drew := hbz.drew
          refine wp_region_trg (.read 0 (.read 1 (.read 2 (.read 3 (.read 4 (.read 5 (.step 6 (.step 7 (.step 8 (.step 9 .nil)))))))))) [] (by kernel_rfl) (by rfl) (by kernel_rfl) (by kernel_rfl) (fun _ _ _ _ _ h => h) (fun W' => Below wo.heap.size wo W') ?_
          change goG _ _ _ _ _ _ _ wr.drew
          refine goG_read 26 hs0 (by rfl) (by rfl) ?_ (by rfl) (fun wz hSw => ?_) ?_
          rotate_left
          · go_simp
            try with_reducible rfl
          simp only [List.setIfInBounds_toArray, List.set]
          refine goG_read 27 hs0 (by rfl) (by rfl) ?_ (by rfl) (fun wz hSw => ?_) ?_
          rotate_left
          · go_simp
            try with_reducible rfl
          simp only [List.setIfInBounds_toArray, List.set]
          refine goG_read 28 hs0 (by rfl) (by rfl) ?_ (by rfl) (fun wz hSw => ?_) ?_
          rotate_left
          · go_simp
            try with_reducible rfl
          simp only [List.setIfInBounds_toArray, List.set]
          refine goG_read 29 hs0 (by rfl) (by rfl) ?_ (by rfl) (fun wz hSw => ?_) ?_
          rotate_left
          · go_simp
            try with_reducible rfl
          simp only [List.setIfInBounds_toArray, List.set]
          refine goG_read 30 hs0 (by rfl) (by rfl) ?_ (by rfl) (fun wz hSw => ?_) ?_
          rotate_left
          · (have x0 := keepB hSw E0.out); (have x1 := keepB hSw E1.out); go_simp
            try with_reducible rfl
          simp only [List.setIfInBounds_toArray, List.set]
          refine goG_read 31 hs0 (by rfl) (by rfl) ?_ (by rfl) (fun wz hSw => ?_) ?_
          rotate_left
          · (have x0 := keepB hSw G0.out); (have x1 := keepB hSw G1.out); go_simp
            try with_reducible rfl
          simp only [List.setIfInBounds_toArray, List.set]
          refine goG_step (by rfl) ?_
          go_wp2_with (go_at_call 91; go_must (refine (HQ.out _ _ _ (E2.out.below hs0) (GI.out.below hs0)).mono ?_); rintro e w6 ⟨v6, rfl, ⟨A6, c6, rfl, hw6⟩, hb6⟩)
          have hs2 : Below wo.heap.size wo w6 := btr hs0 hb6
          have ho6 := HO.out.below ((Below.refl _ wr).drew)
          refine ⟨fun _ => hs2, ?_⟩
          refine goG_step (by rfl) ?_
          go_wp2_with fail
          refine ⟨fun _ => below_al hs2 _, ?_⟩
          refine goG_step (by rfl) ?_
          refine wpList_pushJ _ (by rfl) _ _ _ _ (by rfl) wo.heap.size Tryz.underlying22 Tryz.underlying22 (.slice Ao k co) (M.take k) k HLK.out (by rfl) (ho6.below hb6) _ A6 _ c6 y (by rfl) ⟨A6, c6, rfl, hw6.mono fun b hb _ => ⟨Nat.le_trans hs0.size hb, ho6.fresh hb⟩⟩ (by omega) hs2.size ?_
          intro A7 c7 w7 hown7 hgr7 hb7
          have hs3 := hs2.trans hb7
          refine ⟨fun _ => hs3, ?_⟩
          refine goG_step (by rfl) ?_
          go_wp2_with fail
          refine ⟨fun _ => hs3, ?_⟩
          rename_i hK
          refine hK _ _ ?_
          go_wp2_with fail
          refine ⟨⟨k + 1, by go_num, by omega, by rw [HY.out]; exact hown7, hs3⟩, by simp [intOf]; omega⟩
        · obtain rfl : n = k := by omega
          have hown2 : OwnJ wr wo.heap.size (.slice Ao n co) M := by
            rw [List.take_of_length_le (by rw [HML.out]; omega)] at hown
            exact hown
          obtain ⟨A3, c3, e3, hp3⟩ := hown2.pv.b (B := 1000000000000) HMB.out (Nat.le_refl _)
          injection e3 with e4 e5 e6
          subst e4 e6
          have HC := Lib.hid (qTrim_any hp3 (by rw [HML.out]; omega))
          rw [← e5] at HC
          have hlt : ¬ ((n : Int) < n) := by omega
          clear hown hown2 hp3 e5
          go_wp2_with (go_at_call 41; go_must (refine HC.out.mono ?_); rintro e w9 ⟨v9, rfl, hv9, hb9⟩)
          go_ret
          have hall := btr hbr hbz
          exact ⟨_, rfl, by rw [HT.out] at hv9; exact hv9.mono (fun b hb _ => Nat.le_trans hall.size hb), btr hall hb9⟩
end Go.Proofs.YtdmdagilopckgaaGreat
