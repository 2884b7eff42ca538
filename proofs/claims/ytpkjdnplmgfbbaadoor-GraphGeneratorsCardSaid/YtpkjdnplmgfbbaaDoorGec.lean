/- The reference's Generators and IsPrime; good primes; Generators; lists of quaternions compared. -/
import Derived.Test.YtpkjdnplmgfbbaaDoorGeb
import Derived.Test.YtpkjdnplmgfbbaaDoorPrx
namespace Go.Proofs.YtpkjdnplmgfbbaaDoor
open Go.RowKit

set_option maxHeartbeats 8000000 in
set_option maxRecDepth 100000 in
theorem rIsPrime_any {w : World} (x : Int) : Calls Tryd.prog 124 #[.int .i64 x] w (PrmR w x) := by
  by_cases hlo : x < 2
  · have z1 : decide (x < 2) = true := decide_eq_true hlo
    have HP := Lib.hid (primeI_out (.inl hlo))
    go_enter Tryd.func124, Tryd.ntmps124
    go_wp2_with fail
    go_ret
    exact prmR_of HP.out
  · by_cases hhi : 1000000000 < x
    · have z1 : decide (x < 2) = false := decide_eq_false hlo
      have z2 : decide (1000000000 < x) = true := decide_eq_true hhi
      have HP := Lib.hid (primeI_out (.inr hhi))
      go_enter Tryd.func124, Tryd.ntmps124
      go_wp2_with fail
      go_ret
      exact prmR_of HP.out
    · obtain ⟨n, rfl⟩ : ∃ n : Nat, x = n := ⟨x.toNat, by omega⟩
      have z1 : decide ((n : Int) < 2) = false := decide_eq_false hlo
      have z2 : decide (1000000000 < (n : Int)) = false := decide_eq_false hhi
      have h1 : 2 ≤ n := by omega
      have h2 : n ≤ 1000000000 := by omega
      clear hlo hhi
      go_enter Tryd.func124, Tryd.ntmps124
      go_wp2_with fail
      clear z1 z2
      go_loop [3] (fun iv => ∃ d : Nat, 2 ≤ d ∧ d ≤ 40000 ∧ iv = .int .i64 (d : Nat) ∧ Hid (∀ j, 2 ≤ j → j < d → n % j ≠ 0)) (fun iv => 40001 - (intOf iv).toNat)
      case atStart => exact ⟨2, by omega, by omega, rfl, Lib.hid (fun j hj1 hj2 => by omega)⟩
      case round =>
      obtain ⟨d, hd, hd2, rfl, HI⟩ := hrel
      have hdd : d * d ≤ 1600000000 := Nat.mul_le_mul hd2 hd2
      have e1 : ((d * d : Nat) : Int) = (d : Int) * (d : Int) := Int.natCast_mul d d
      have b1 : (0 : Int) ≤ (d : Int) * (d : Int) := by omega
      have b2 : (d : Int) * (d : Int) ≤ 1600000000 := by omega
      have d0 : (2 : Int) ≤ (d : Int) := by omega
      have d1 : (d : Int) ≤ 40000 := by omega
      by_cases hle : d * d ≤ n
      · have hd3 : d ≤ 31700 := Nat.not_lt.1 fun h => by
          have := Nat.mul_le_mul (show 31701 ≤ d by omega) (show 31701 ≤ d by omega)
          omega
        have z1 : decide ((d : Int) * (d : Int) ≤ (n : Int)) = true := decide_eq_true (by omega)
        by_cases hm : n % d = 0
        · have z2 : ((n : Int).tmod (d : Int) == 0) = true := by
            rw [Int.tmod_eq_emod_of_nonneg (by omega)]
            have : ((n % d : Nat) : Int) = (n : Int) % (d : Int) := Int.natCast_emod n d
            rw [← this, hm]
            rfl
          have z3 : ((n : Int) % (d : Int) == 0) = true := by rw [← Int.tmod_eq_emod_of_nonneg (by omega)]; exact z2
          have HP := Lib.hid (show primeI (n : Int) = false from primeI_no (fun h => by
            rcases h.2 d (Nat.dvd_of_mod_eq_zero hm) with e | e
            · omega
            · subst e
              have := Nat.mul_le_mul_right d hd
              omega))
          clear e1 hle hm
          go_wp2_with fail
          go_ret
          exact prmR_of HP.out
        · have z2 : ((n : Int).tmod (d : Int) == 0) = false := by
            rw [Int.tmod_eq_emod_of_nonneg (by omega)]
            have : ((n % d : Nat) : Int) = (n : Int) % (d : Int) := Int.natCast_emod n d
            rw [← this]
            exact beq_eq_false_iff_ne.2 (by omega)
          have z3 : ((n : Int) % (d : Int) == 0) = false := by rw [← Int.tmod_eq_emod_of_nonneg (by omega)]; exact z2
          have HI' := Lib.hid (show ∀ j, 2 ≤ j → j < d + 1 → n % j ≠ 0 from fun j hj1 hj2 => by
            rcases Nat.lt_or_ge j d with h | h
            · exact HI.out j hj1 h
            · obtain rfl : j = d := by omega
              exact hm)
          clear e1 hle hm
          go_wp2_with fail
          go_round
          case rel => exact ⟨d + 1, by omega, by omega, by go_num, HI'⟩
          case measure => simp [intOf]; omega
      · have z1 : decide ((d : Int) * (d : Int) ≤ (n : Int)) = false := decide_eq_false (by omega)
        have HP := Lib.hid (show primeI (n : Int) = true from primeI_true h1 h2 (pr_trial h1 fun j hj1 hj2 => HI.out j hj1 (Nat.lt_of_not_le fun h => by
          have := Nat.mul_le_mul h h
          omega)))
        clear e1 hle
        go_wp2_with fail
        go_ret
        exact prmR_of HP.out

/-- A good prime. -/
noncomputable def gdI (x : Int) : Bool := primeI x && decide (x % 4 = 1)
theorem primeI_pos {x : Int} (h : primeI x = true) : 2 ≤ x := (primeI_yes.1 h).1
theorem gdI_no4 {x : Int} (h : x.tmod 4 ≠ 1) : gdI x = false := by
  unfold gdI
  cases e : primeI x
  · rfl
  · have := primeI_pos e
    rw [Int.tmod_eq_emod_of_nonneg (by omega)] at h
    simp [h]
theorem gdI_4 {x : Int} (h : x.tmod 4 = 1) : gdI x = primeI x := by
  unfold gdI
  cases e : primeI x
  · rfl
  · have := primeI_pos e
    rw [Int.tmod_eq_emod_of_nonneg (by omega)] at h
    simp [h]
def GdR (w : World) (x : Int) (e : Ending) (w' : World) : Prop := e = .returned (.bool (gdI x)) ∧ w = w'
theorem gdR_of {w : World} {x : Int} {b : Bool} (h : gdI x = b) : GdR w x (.returned (.bool b)) w := ⟨by rw [h], rfl⟩
theorem tmod4 (x : Int) : -3 ≤ x.tmod 4 ∧ x.tmod 4 ≤ 3 := by
  rcases Int.le_total 0 x with h0 | h0
  · rw [Int.tmod_eq_emod_of_nonneg h0]; omega
  · have e : x = -(-x) := by omega
    rw [e, Int.neg_tmod, Int.tmod_eq_emod_of_nonneg (by omega)]; omega

set_option maxHeartbeats 4000000 in
set_option maxRecDepth 100000 in
theorem good_any {w : World} (x : Int) : Calls Tryd.prog 91 #[.int .i64 x] w (GdR w x) := by
  obtain ⟨t1, t2⟩ := tmod4 x
  by_cases h : x.tmod 4 = 1
  · have HG := Lib.hid (gdI_4 h)
    have z1 : x.tmod 4 = 1 := h
    have HP := Lib.hid (fun w => IsPrime_any (w := w) x)
    clear h t1 t2
    go_enter Tryd.func91, Tryd.ntmps91
    go_wp2_with fail
    refine (HP.out _).mono ?_
    rintro e w' ⟨rfl, rfl⟩
    go_wp2_with fail
    go_ret
    exact gdR_of HG.out
  · have HG := Lib.hid (gdI_no4 h)
    obtain ⟨y, hy⟩ : ∃ y, x.tmod 4 = y := ⟨_, rfl⟩
    rw [hy] at t1 t2 h
    have z2 : (y == 1) = false := beq_eq_false_iff_ne.2 h
    go_enter Tryd.func91, Tryd.ntmps91
    go_wp2_with fail
    go_ret
    exact gdR_of HG.out

set_option maxHeartbeats 4000000 in
set_option maxRecDepth 100000 in
theorem IsGood_any {w : World} (x : Int) : Calls Tryd.prog 93 #[.int .i64 x] w (GdR w x) := by
  have HP := Lib.hid (fun w => rIsPrime_any (w := w) x)
  by_cases h : x.tmod 4 = 1
  · have HG := Lib.hid (gdI_4 h)
    have z1 : x.tmod 4 = 1 := h
    clear h
    go_enter Tryd.func93, Tryd.ntmps93
    go_wp2_with fail
    refine (HP.out _).mono ?_
    rintro e w' ⟨rfl, rfl⟩
    cases hb : primeI x
    · rw [hb] at HG
      clear hb
      go_wp2_with fail
      go_ret
      exact gdR_of HG.out
    · rw [hb] at HG
      clear hb
      go_wp2_with fail
      go_ret
      exact gdR_of HG.out
  · have HG := Lib.hid (gdI_no4 h)
    obtain ⟨t1, t2⟩ := tmod4 x
    obtain ⟨y, hy⟩ : ∃ y, x.tmod 4 = y := ⟨_, rfl⟩
    rw [hy] at t1 t2 h
    have z2 : (y == 1) = false := beq_eq_false_iff_ne.2 h
    go_enter Tryd.func93, Tryd.ntmps93
    go_wp2_with fail
    refine (HP.out _).mono ?_
    rintro e w' ⟨rfl, rfl⟩
    cases hb : primeI x
    all_goals
      clear hb
      go_wp2_with fail
      go_ret
      exact gdR_of HG.out

set_option maxHeartbeats 8000000 in
set_option maxRecDepth 100000 in
theorem rGenerators_any {w : World} {p : Nat} (hp : p < 400) : Calls Tryd.prog 49 #[.int .i64 (p : Int)] w (GenR w p) := by
  go_enter Tryd.func49, Tryd.ntmps49
  go_wp2_with fail
  go_loopw [3, 4] (fun o i wr => ∃ (a : Nat) (wi : Int) (A : Option Addr) (n c : Nat) (L : List Qt), i = .int .i64 wi ∧ Hid (wi = 1 + 2 * (a : Int)) ∧ 1 ≤ wi ∧ wi ≤ 21 ∧ o = .slice A n c ∧ OwnQ wr w.heap.size (.slice A n c) L ∧ Hid (L = gfl (gqw p) 1 2 a) ∧ Below w.heap.size w wr) (fun _ i _ => 22 - (intOf i).toNat)
  case atStart => exact ⟨0, 1, none, 0, 0, [], rfl, Lib.hid rfl, by omega, by omega, rfl, OwnQ.nil _ _, Lib.hid rfl, Below.refl _ _⟩
  case round =>
    obtain ⟨a, wi, A, n, c, L, rfl, HW, hw1, hw2, rfl, hown, HL, hbr⟩ := hrel
    obtain ⟨hww1, hww2⟩ := sq_le400 (x := wi) (by omega) (by omega)
    by_cases hwp : wi * wi ≤ p
    · have hw3 : wi ≤ 19 := Int.not_lt.1 fun h => by have := gsq_big (x := wi) (a := 19) (by omega) (.inr h); omega
      go_wp2_with fail
      obtain ⟨wo, rfl⟩ : ∃ wo : World, wo = wr := ⟨_, rfl⟩
      go_loopw [3, 5, 6, 7] (fun o i _ _ wr => ∃ (b : Nat) (x : Int) (A : Option Addr) (n c : Nat) (M : List Qt), i = .int .i64 x ∧ Hid (x = -20 + 2 * (b : Int)) ∧ b ≤ 21 ∧ -20 ≤ x ∧ x ≤ 22 ∧ o = .slice A n c ∧ OwnQ wr w.heap.size (.slice A n c) M ∧ Hid (M = L ++ gfl (gqx p wi) (-20) 2 b) ∧ Below w.heap.size w wr) (fun _ i _ _ _ => (23 - intOf i).toNat)
      case atStart => exact ⟨0, -20, A, n, c, L, rfl, Lib.hid (by omega), by omega, by omega, by omega, rfl, hown, Lib.hid (by simp [gfl]), hbr⟩
      case round =>
        clear hown hbr
        obtain ⟨b, x, A, n, c, M, rfl, HX, hb, hx1, hx2, rfl, hown, HM, hbr⟩ := hrel
        obtain ⟨hxx1, hxx2⟩ := sq_le400 (x := x) (by omega) (by omega)
        by_cases hxp : x ≤ 20
        · have hbl : b < 21 := by have := HX.out; omega
          have HX' := Lib.hid (show x + 2 = -20 + 2 * ((b + 1 : Nat) : Int) by have := HX.out; omega)
          go_wp2_with fail
          obtain ⟨wo2, rfl⟩ : ∃ wo2 : World, wo2 = wr := ⟨_, rfl⟩
          go_loopw [3, 6, 7] (fun o i _ wr => ∃ (d : Nat) (y : Int) (A : Option Addr) (n c : Nat) (N : List Qt), i = .int .i64 y ∧ Hid (y = -20 + 2 * (d : Int)) ∧ d ≤ 21 ∧ -20 ≤ y ∧ y ≤ 22 ∧ o = .slice A n c ∧ OwnQ wr w.heap.size (.slice A n c) N ∧ Hid (N = M ++ gfl (gqy p wi x) (-20) 2 d) ∧ Below w.heap.size w wr) (fun _ i _ _ => (23 - intOf i).toNat)
          case atStart => exact ⟨0, -20, A, n, c, M, rfl, Lib.hid (by omega), by omega, by omega, by omega, rfl, hown, Lib.hid (by simp [gfl]), hbr⟩
          case round =>
            clear hown hbr
            obtain ⟨d, y, A, n, c, N, rfl, HY, hd, hy1, hy2, rfl, hown, HN, hbr⟩ := hrel
            obtain ⟨hyy1, hyy2⟩ := sq_le400 (x := y) (by omega) (by omega)
            by_cases hyp : y ≤ 20
            · have hdl : d < 21 := by have := HY.out; omega
              have HY' := Lib.hid (show y + 2 = -20 + 2 * ((d + 1 : Nat) : Int) by have := HY.out; omega)
              go_wp2_with fail
              obtain ⟨wo3, rfl⟩ : ∃ wo3 : World, wo3 = wr := ⟨_, rfl⟩
              go_loopw [3, 7] (fun o i wr => ∃ (t : Nat) (z : Int) (A : Option Addr) (n c : Nat) (O : List Qt), i = .int .i64 z ∧ Hid (z = -20 + 2 * (t : Int)) ∧ t ≤ 21 ∧ -20 ≤ z ∧ z ≤ 22 ∧ o = .slice A n c ∧ OwnQ wr w.heap.size (.slice A n c) O ∧ Hid (O = N ++ gfl (gqz p wi x y) (-20) 2 t) ∧ Below w.heap.size w wr) (fun _ i _ => (23 - intOf i).toNat)
              case atStart => exact ⟨0, -20, A, n, c, N, rfl, Lib.hid (by omega), by omega, by omega, by omega, rfl, hown, Lib.hid (by simp [gfl]), hbr⟩
              case round =>
                clear hown hbr
                obtain ⟨t, z, A, n, c, O, rfl, HZ, ht, hz1, hz2, rfl, hown, HO, hbr⟩ := hrel
                obtain ⟨hzz1, hzz2⟩ := sq_le400 (x := z) (by omega) (by omega)
                by_cases hzp : z ≤ 20
                · have htl : t < 21 := by have := HZ.out; omega
                  have HZ' := Lib.hid (show z + 2 = -20 + 2 * ((t + 1 : Nat) : Int) by have := HZ.out; omega)
                  have HO0 : ∀ R, gqz p wi x y z = R → Hid (O ++ R = N ++ gfl (gqz p wi x y) (-20) 2 (t + 1)) := fun R hR => Lib.hid (by
                    rw [gfl_succ, ← HZ.out, HO.out, hR, List.append_assoc])
                  by_cases heq : wi * wi + x * x + y * y + z * z = p
                  · have HO' := HO0 [(wi, x, y, z)] (if_pos heq)
                    have z1 : (wi * wi + x * x + y * y + z * z == (p : Int)) = true := by simp [heq]
                    have hnb : n ≤ 1000000 := by
                      have h1 := hown.len
                      have h2 := gfl_len (gqw_len p) 1 2 a
                      have h3 := gfl_len (gqx_len p wi) (-20) 2 b
                      have h4 := gfl_len (gqy_len p wi x) (-20) 2 d
                      have h6 := gfl_len (gqz_len p wi x y) (-20) 2 t
                      rw [h1, HO.out, List.length_append, HN.out, List.length_append, HM.out, List.length_append, HL.out]
                      have h5 := HW.out
                      omega
                    clear HO0 heq
                    go_wp2_with (at_builtin; (refine wpList_pushQt wr (by rfl) _ _ 74 74 (by rfl) Tryd.underlying74 Tryd.underlying74 w.heap.size A n c O (by rfl) hown _ _ _ _ (by rfl) (by omega) hbr.size ?_); intro A1 c1 w1 hown1 hb1)
                    go_roundw
                    case rel => exact ⟨t + 1, z + 2, A1, n + 1, c1, _, rfl, HZ', by omega, by omega, by omega, rfl, hown1, HO', hbr.trans hb1⟩
                    case measure => simp [intOf]; omega
                  · have HO' := HO0 [] (if_neg heq)
                    rw [List.append_nil] at HO'
                    have z1 : (wi * wi + x * x + y * y + z * z == (p : Int)) = false := beq_eq_false_iff_ne.2 heq
                    clear HO0 heq
                    go_wp2_with fail
                    go_roundw
                    case rel => exact ⟨t + 1, z + 2, A, n, c, O, rfl, HZ', by omega, by omega, by omega, rfl, hown, HO', hbr⟩
                    case measure => simp [intOf]; omega
                · obtain rfl : t = 21 := by have := HZ.out; omega
                  have HN' := Lib.hid (show O = M ++ gfl (gqy p wi x) (-20) 2 (d + 1) by
                    rw [gfl_succ, ← HY.out, HO.out, HN.out, List.append_assoc]; rfl)
                  go_wp2_with fail
                  go_roundw
                  case rel => exact ⟨d + 1, y + 2, A, n, c, O, rfl, HY', by omega, by omega, by omega, rfl, hown, HN', hbr⟩
                  case measure => simp [intOf]; omega
            · obtain rfl : d = 21 := by have := HY.out; omega
              have HM' := Lib.hid (show N = L ++ gfl (gqx p wi) (-20) 2 (b + 1) by
                rw [gfl_succ, ← HX.out, HN.out, HM.out, List.append_assoc]; rfl)
              go_wp2_with fail
              go_roundw
              case rel => exact ⟨b + 1, x + 2, A, n, c, N, rfl, HX', by omega, by omega, by omega, rfl, hown, HM', hbr⟩
              case measure => simp [intOf]; omega
        · obtain rfl : b = 21 := by have := HX.out; omega
          have HL' := Lib.hid (show M = gfl (gqw p) 1 2 (a + 1) by rw [gfl_succ, ← HW.out, HM.out, HL.out]; rfl)
          have HW' := Lib.hid (show wi + 2 = 1 + 2 * ((a + 1 : Nat) : Int) by have := HW.out; omega)
          go_wp2_with fail
          go_roundw
          case rel => exact ⟨a + 1, wi + 2, A, n, c, M, rfl, HW', by omega, by omega, rfl, hown, HL', hbr⟩
          case measure => simp [intOf]; omega
    · have HF := Lib.hid (show L = gqs p by
        have h1 := HW.out
        rw [HL.out]
        refine gqs_loop (by omega) ?_
        rw [show 2 * (a : Int) + 1 = wi by omega]
        omega)
      go_wp2_with fail
      go_ret
      exact ⟨A, n, c, rfl, by rw [← HF.out]; exact hown, hbr⟩
end Go.Proofs.YtpkjdnplmgfbbaaDoor
