/- Lists of quaternions that a call makes; graph.generators, the reference's Generators. Lists of classes of the call's own. The reference's Generators and IsPrime; good primes; Generators; lists of quaternions compared. -/
import Derived.Test.YtefcdclmabdmbaaGreatDoorKf
import Derived.Test.YtefcdclmabdmbaaGreatDoorKi
import Derived.Test.YtefcdclmabdmbaaGreatDoorKn
import Derived.Test.YtefcdclmabdmbaaGreatDoorKh
namespace Go.Proofs.YtefcdclmabdmbaaGreatDoor
open Go.RowKit

/-- The cells of a quaternion with denominator 1. -/
def qc (q : Qt) : List Value := [.int .i64 q.1, .int .i64 q.2.1, .int .i64 q.2.2.1, .int .i64 q.2.2.2, .int .i64 1]
def qcs : List Qt → List Value
  | [] => []
  | q :: L => qc q ++ qcs L
theorem qcs_append : ∀ L M : List Qt, qcs (L ++ M) = qcs L ++ qcs M
  | [], _ => rfl
  | q :: L, M => by show qc q ++ qcs (L ++ M) = qc q ++ qcs L ++ qcs M; rw [qcs_append L M, List.append_assoc]
theorem qcs_one (q : Qt) : qcs [q] = qc q := by simp [qcs]
theorem qcs_at : ∀ {L : List Qt} {i : Nat} {q : Qt}, L[i]? = some q → ∀ (j : Nat), j < 5 → (qcs L)[i * 5 + j]? = (qc q)[j]?
  | [], i, q, h => by simp at h
  | q0 :: L, 0, q, h => by
    intro j hj
    simp at h
    subst h
    rw [Nat.zero_mul, Nat.zero_add]
    show (qc q0 ++ qcs L)[j]? = _
    rw [List.getElem?_append_left (by simpa [qc] using hj)]
  | q0 :: L, i + 1, q, h => by
    intro j hj
    show (qc q0 ++ qcs L)[(i + 1) * 5 + j]? = _
    rw [List.getElem?_append_right (by simp [qc]; omega)]
    have e : (i + 1) * 5 + j - (qc q0).length = i * 5 + j := by simp [qc]; omega
    rw [e]
    exact qcs_at (by simpa using h) _ hj
/-- A list of the call's own. -/
def OwnQ (w : World) (base : Nat) (v : Value) (L : List Qt) : Prop := w.ownsRow base 103 5 v L.length (qcs L)
theorem info_Quat : (Tryz.prog.info? 103).map (fun i => (i.zero, i.size, i.bytes)) = some (some (.agg #[.int .i64 0, .int .i64 0, .int .i64 0, .int .i64 0, .int .i64 0]), 5, 40) := by kernel_rfl
theorem OwnQ.nil (w : World) (base : Nat) : OwnQ w base (.slice none 0 0) [] := World.ownsRow_nil _ _ _ _
theorem OwnQ.len {w : World} {base : Nat} {A : Option Addr} {n c : Nat} {L : List Qt} (h : OwnQ w base (.slice A n c) L) : n = L.length := by
  obtain ⟨A', c', e, _⟩ := own_slice h
  injection e
theorem OwnQ.below {w w' : World} {base : Nat} {v : Value} {L : List Qt} (h : OwnQ w base v L) (hb : Below w.heap.size w w') : OwnQ w' base v L := by
  refine ⟨h.1, ?_⟩
  rcases h.2 with h3 | ⟨g, cap, cur, e, h4, h5, h6⟩
  · exact .inl h3
  · exact .inr ⟨g, cap, cur, e, h4, (hb.block g (World.ownsRow.lt h g (by rw [e]; rfl)).2).trans h5, h6⟩
section
variable (w0 : World)
/-- append(own, q). -/
theorem wpList_pushQt {ops : Array Oper} {rest : List Oper} {o : Oper} {a : Act} {Q : Exit → Act → World → Prop} (hgd : o.guard = none) (s x : Operand) (t t' : TypeId)
    (ho : o.op = .call { callee := .builtin .append, args := #[s, x], argTypes := #[t, t'] })
    (ht : Tryz.prog.underlying t = some (.slice 103)) (ht' : Tryz.prog.underlying t' = some (.slice 103))
    (base : Nat) (A : Option Addr) (n c : Nat) (L : List Qt) (hs : a.eval s = .slice A n c) (hown : OwnQ w0 base (.slice A n c) L)
    (q1 q2 q3 q4 : Int) (hx : a.eval x = .slice (some ⟨w0.heap.size, 0, none⟩) 1 1) (h63 : n + 1 ≤ 1000000000) (hbase : base ≤ w0.heap.size)
    (h : ∀ A' c' w', OwnQ w' base (.slice A' (n + 1) c') (L ++ [(q1, q2, q3, q4)]) → Below base w0 w' → wpList Tryz.prog ops Q rest (a.put o.dst (.slice A' (n + 1) c')) w') :
    wpList Tryz.prog ops Q (o :: rest) a (w0.alloc (.cells #[.int .i64 q1, .int .i64 q2, .int .i64 q3, .int .i64 q4, .int .i64 1] 103)) := by
  obtain rfl := hown.len
  refine wpList_app _ hgd s x t t' ho base 103 103 (.agg #[.int .i64 0, .int .i64 0, .int .i64 0, .int .i64 0, .int .i64 0]) 5 40 ht ht' info_Quat rfl (by omega) _ L.length (qcs L) hs (World.ownsRow.alloc hown _) _ 1 1 (qc (q1, q2, q3, q4)) hx (src_block (heap_alloc_new w0 _) 1 5 rfl) (by simp [qc, Value.oneCell']) (by unfold maxLen; omega) (by omega) (by simp; omega) ?_
  intro v' w' hown' hg hob
  obtain ⟨A', c', rfl, _, _⟩ := own_slice hown'
  have hg0 : w0.grownBy w' (Value.slice A L.length c).ownBlock := grownBy_trans (World.grownBy_alloc w0 _ _) hg
  refine h A' c' w' ?_ ((Below.refl _ _).grown hg0 hbase (fun k hk => (World.ownsRow.lt hown k hk).1))
  unfold OwnQ
  rw [qcs_append, qcs_one, List.length_append]
  exact hown'
end

/-- Bounds. -/
theorem gfl_len {f : Int → List Qt} {B : Nat} (hf : ∀ x, (f x).length ≤ B) (lo s : Int) : ∀ n : Nat, (gfl f lo s n).length ≤ n * B
  | 0 => by simp [gfl]
  | n + 1 => by
    rw [gfl_succ, List.length_append, Nat.add_mul, Nat.one_mul]
    have h1 := gfl_len hf lo s n
    have h2 := hf (lo + s * n)
    omega
theorem gev_len {g : Int → List Qt} {B : Nat} (hg : ∀ x, (g x).length ≤ B) (x : Int) : (gev g x).length ≤ B := by
  unfold gev
  split
  · exact hg x
  · simp
theorem gqz_len (p w x y z : Int) : (gqz p w x y z).length ≤ 1 := by unfold gqz; split <;> simp
theorem gqy_len (p w x y : Int) : (gqy p w x y).length ≤ 21 := gfl_len (gqz_len p w x y) _ _ 21
theorem gqx_len (p w x : Int) : (gqx p w x).length ≤ 441 := gfl_len (gqy_len p w x) _ _ 21
theorem gqw_len (p w : Int) : (gqw p w).length ≤ 9261 := gfl_len (gqx_len p w) _ _ 21
theorem sq_le400 {x : Int} (h1 : -401 ≤ x) (h2 : x ≤ 401) : 0 ≤ x * x ∧ x * x ≤ 160801 := by
  refine ⟨gsq_nonneg x, ?_⟩
  rcases Int.le_total 0 x with h | h
  · exact Int.mul_le_mul h2 h2 h (by omega)
  · have := Int.mul_le_mul (show -x ≤ 401 by omega) (show -x ≤ 401 by omega) (by omega) (by omega)
    rw [Int.neg_mul_neg] at this
    exact this

theorem tmod2_even {x : Int} (h : x % 2 = 0) : x.tmod 2 = 0 := by
  rcases Int.le_total 0 x with h0 | h0
  · rw [Int.tmod_eq_emod_of_nonneg h0]; exact h
  · have e : x = -(-x) := by omega
    rw [e, Int.neg_tmod, Int.tmod_eq_emod_of_nonneg (by omega)]; omega
theorem tmod2_odd {x : Int} (h : x % 2 ≠ 0) : x.tmod 2 = 1 ∨ x.tmod 2 = -1 := by
  rcases Int.le_total 0 x with h0 | h0
  · rw [Int.tmod_eq_emod_of_nonneg h0]; omega
  · have e : x = -(-x) := by omega
    rw [e, Int.neg_tmod, Int.tmod_eq_emod_of_nonneg (by omega)]; omega

def GenR (w : World) (p : Nat) (e : Ending) (w' : World) : Prop := ∃ A n c, e = .returned (.slice A n c) ∧ OwnQ w' w.heap.size (.slice A n c) (gqs p) ∧ Below w.heap.size w w'

set_option maxHeartbeats 8000000 in
set_option maxRecDepth 100000 in
theorem generators_any {w : World} {p : Nat} (hp : p < 400) : Calls Tryz.prog 68 #[.int .i64 (p : Int)] w (GenR w p) := by
  go_enter Tryz.func68, Tryz.ntmps68
  go_wp2_with fail
  go_loopw [3, 4] (fun o i wr => ∃ (a : Nat) (wi : Int) (A : Option Addr) (n c : Nat) (L : List Qt), i = .int .i64 wi ∧ Hid (wi = 1 + 2 * (a : Int)) ∧ 1 ≤ wi ∧ wi ≤ 21 ∧ o = .slice A n c ∧ OwnQ wr w.heap.size (.slice A n c) L ∧ Hid (L = gfl (gqw p) 1 2 a) ∧ Below w.heap.size w wr) (fun _ i _ => 22 - (intOf i).toNat)
  case atStart => exact ⟨0, 1, none, 0, 0, [], rfl, Lib.hid rfl, by omega, by omega, rfl, OwnQ.nil _ _, Lib.hid rfl, Below.refl _ _⟩
  case round =>
    obtain ⟨a, wi, A, n, c, L, rfl, HW, hw1, hw2, rfl, hown, HL, hbr⟩ := hrel
    have hww := sq_le400 (x := wi) (by omega) (by omega)
    obtain ⟨hww1, hww2⟩ := hww
    by_cases hwp : wi * wi ≤ p
    · have hw3 : wi ≤ 19 := Int.not_lt.1 fun h => by have := gsq_big (x := wi) (a := 19) (by omega) (.inr h); omega
      have hp0 : (0 : Int) ≤ (p : Int) := by omega
      have hp4 : (p : Int) ≤ 399 := by omega
      go_wp2_with fail
      obtain ⟨wo, rfl⟩ : ∃ wo : World, wo = wr := ⟨_, rfl⟩
      go_loopw [3, 5, 6, 7, 8] (fun o i _ _ _ wr => ∃ (b : Nat) (x : Int) (A : Option Addr) (n c : Nat) (M : List Qt), i = .int .i64 x ∧ Hid (x = -(p : Int) + 1 * (b : Int)) ∧ b ≤ 2 * p + 1 ∧ -400 ≤ x ∧ x ≤ 400 ∧ o = .slice A n c ∧ OwnQ wr w.heap.size (.slice A n c) M ∧ Hid (M = L ++ gfl (gev (gqx p wi)) (-(p : Int)) 1 b) ∧ Below w.heap.size w wr) (fun _ i _ _ _ _ => (401 - intOf i).toNat)
      case atStart => exact ⟨0, _, A, n, c, L, rfl, Lib.hid (by omega), by omega, by omega, by omega, rfl, hown, Lib.hid (by simp [gfl]), hbr⟩
      case round =>
        clear hown hbr
        obtain ⟨b, x, A, n, c, M, rfl, HX, hb, hx1, hx2, rfl, hown, HM, hbr⟩ := hrel
        by_cases hxp : x ≤ p
        · obtain ⟨hxx1, hxx2⟩ := sq_le400 (x := x) (by omega) (by omega)
          have hbl : b < 2 * p + 1 := by have := HX.out; omega
          have HX' := Lib.hid (show x + 1 = -(p : Int) + 1 * ((b + 1 : Nat) : Int) by have := HX.out; omega)
          by_cases hsk : x % 2 ≠ 0 ∨ (p : Int) < wi * wi + x * x
          · have HM' := Lib.hid (show M = L ++ gfl (gev (gqx p wi)) (-(p : Int)) 1 (b + 1) by
              rw [gfl_succ, ← HX.out, HM.out]
              have e : gev (gqx p wi) x = [] := by
                rcases hsk with h | h
                · exact gev_odd h
                · unfold gev; split
                  · exact gqx_nil h
                  · rfl
              rw [e, List.append_nil])
            by_cases hs : x % 2 = 0
            · have hs2 : (p : Int) < wi * wi + x * x := by omega
              have z1 : x.tmod 2 = 0 := tmod2_even hs
              have z2 : decide ((p : Int) < wi * wi + x * x) = true := decide_eq_true hs2
              clear hs hsk hs2
              go_wp2_with fail
              go_roundw
              case rel => exact ⟨b + 1, x + 1, A, n, c, M, rfl, HX', by omega, by omega, by omega, rfl, hown, HM', hbr⟩
              case measure => simp [intOf]; omega
            · clear hsk
              rcases tmod2_odd hs with z1 | z1
              all_goals
                clear hs
                go_wp2_with fail
                go_roundw
                case rel => exact ⟨b + 1, x + 1, A, n, c, M, rfl, HX', by omega, by omega, by omega, rfl, hown, HM', hbr⟩
                case measure => simp [intOf]; omega
          · have hse : x % 2 = 0 := by omega
            have hsl : wi * wi + x * x ≤ (p : Int) := by omega
            have z1 : x.tmod 2 = 0 := tmod2_even hse
            have z2 : decide ((p : Int) < wi * wi + x * x) = false := decide_eq_false (by omega)
            have HSE := Lib.hid hse
            clear hsk hse
            go_wp2_with fail
            obtain ⟨wo2, rfl⟩ : ∃ wo2 : World, wo2 = wr := ⟨_, rfl⟩
            go_loopw [3, 6, 7, 8] (fun o i _ _ wr => ∃ (d : Nat) (y : Int) (A : Option Addr) (n c : Nat) (N : List Qt), i = .int .i64 y ∧ Hid (y = -(p : Int) + 1 * (d : Int)) ∧ d ≤ 2 * p + 1 ∧ -400 ≤ y ∧ y ≤ 400 ∧ o = .slice A n c ∧ OwnQ wr w.heap.size (.slice A n c) N ∧ Hid (N = M ++ gfl (gev (gqy p wi x)) (-(p : Int)) 1 d) ∧ Below w.heap.size w wr) (fun _ i _ _ _ => (401 - intOf i).toNat)
            case atStart => exact ⟨0, _, A, n, c, M, rfl, Lib.hid (by omega), by omega, by omega, by omega, rfl, hown, Lib.hid (by simp [gfl]), hbr⟩
            case round =>
              clear hown hbr z1 z2
              obtain ⟨d, y, A, n, c, N, rfl, HY, hd, hy1, hy2, rfl, hown, HN, hbr⟩ := hrel
              by_cases hyp : y ≤ p
              · obtain ⟨hyy1, hyy2⟩ := sq_le400 (x := y) (by omega) (by omega)
                have hdl : d < 2 * p + 1 := by have := HY.out; omega
                have HY' := Lib.hid (show y + 1 = -(p : Int) + 1 * ((d + 1 : Nat) : Int) by have := HY.out; omega)
                have HN0 : ∀ R, gev (gqy p wi x) y = R → Hid (N ++ R = M ++ gfl (gev (gqy p wi x)) (-(p : Int)) 1 (d + 1)) := fun R hR => Lib.hid (by
                  rw [gfl_succ, ← HY.out, HN.out, hR, List.append_assoc])
                by_cases hsk : y % 2 ≠ 0 ∨ (p : Int) < wi * wi + x * x + y * y
                · have HN' := HN0 [] (by
                    rcases hsk with h | h
                    · exact gev_odd h
                    · unfold gev; split
                      · exact gqy_nil h
                      · rfl)
                  rw [List.append_nil] at HN'
                  clear HN0
                  by_cases hs : y % 2 = 0
                  · have hs2 : (p : Int) < wi * wi + x * x + y * y := by omega
                    have z1 : y.tmod 2 = 0 := tmod2_even hs
                    have z2 : decide ((p : Int) < wi * wi + x * x + y * y) = true := decide_eq_true hs2
                    clear hs hsk hs2
                    go_wp2_with fail
                    go_roundw
                    case rel => exact ⟨d + 1, y + 1, A, n, c, N, rfl, HY', by omega, by omega, by omega, rfl, hown, HN', hbr⟩
                    case measure => simp [intOf]; omega
                  · clear hsk
                    rcases tmod2_odd hs with z1 | z1
                    all_goals
                      clear hs
                      go_wp2_with fail
                      go_roundw
                      case rel => exact ⟨d + 1, y + 1, A, n, c, N, rfl, HY', by omega, by omega, by omega, rfl, hown, HN', hbr⟩
                      case measure => simp [intOf]; omega
                · have hse2 : y % 2 = 0 := by omega
                  have hsl2 : wi * wi + x * x + y * y ≤ (p : Int) := by omega
                  have z1 : y.tmod 2 = 0 := tmod2_even hse2
                  have z2 : decide ((p : Int) < wi * wi + x * x + y * y) = false := decide_eq_false (by omega)
                  have HSE2 := Lib.hid hse2
                  rw [gev_even hse2] at HN0
                  clear hsk hse2
                  go_wp2_with fail
                  obtain ⟨r, hr⟩ : ∃ r : Int, r = (p : Int) - wi * wi - x * x - y * y := ⟨_, rfl⟩
                  rw [← hr]
                  have hr1 : 0 ≤ r := by omega
                  have hr2 : r ≤ 399 := by omega
                  have HR := Lib.hid hr
                  clear hr z1 z2
                  go_loop [8] (fun zv => ∃ (m : Nat) (z : Int), zv = .int .i64 z ∧ Hid (z = 2 * (m : Int)) ∧ m ≤ 10 ∧ 0 ≤ z ∧ z ≤ 20 ∧ Hid (m = 0 ∨ (2 * ((m - 1 : Nat) : Int)) * (2 * ((m - 1 : Nat) : Int)) < r)) (fun zv => (22 - intOf zv).toNat)
                  case atStart => exact ⟨0, 0, rfl, Lib.hid rfl, by omega, by omega, by omega, Lib.hid (.inl rfl)⟩
                  case round =>
                  obtain ⟨m, z, rfl, HZ, hm, hz1, hz2, HM1⟩ := hrel
                  obtain ⟨hzz1, hzz2⟩ := sq_le400 (x := z) (by omega) (by omega)
                  by_cases hlt : z * z < r
                  · have hz3 : z ≤ 18 := by
                      have h1 := HZ.out
                      refine Int.not_lt.1 fun h => ?_
                      have := gsq_big (x := z) (a := 19) (by omega) (.inr (by omega))
                      omega
                    have HM2 := Lib.hid (show m + 1 = 0 ∨ (2 * ((m + 1 - 1 : Nat) : Int)) * (2 * ((m + 1 - 1 : Nat) : Int)) < r from .inr (by rw [Nat.add_sub_cancel, ← HZ.out]; exact hlt))
                    have HZ' := Lib.hid (show z + 2 = 2 * ((m + 1 : Nat) : Int) by have := HZ.out; omega)
                    have hm9 : m ≤ 9 := by have := HZ.out; omega
                    go_wp2_with fail
                    go_round
                    case rel => exact ⟨m + 1, z + 2, rfl, HZ', by omega, by omega, by omega, HM2⟩
                    case measure => simp [intOf]; omega
                  · by_cases heq : z * z = r
                    · have hnb : n ≤ 1000000 := by
                        have h1 := hown.len
                        have h2 := gfl_len (gqw_len p) 1 2 a
                        have h3 := gfl_len (gev_len (gqx_len p wi)) (-(p : Int)) 1 b
                        have h4 := gfl_len (gev_len (gqy_len p wi x)) (-(p : Int)) 1 d
                        rw [h1, HN.out, List.length_append, HM.out, List.length_append, HL.out]
                        have h5 := HW.out
                        omega
                      have hne : (z * z == r) = true := by simp [heq]
                      have hne2 : (z * z != r) = false := by simp [heq]
                      have hrz : z * z = r := heq
                      have HRZ := Lib.hid hrz
                      clear hrz
                      have hq := gqy_hit (p := (p : Int)) (w := wi) (x := x) (y := y) hm (by rw [← HR.out, ← HZ.out]; exact heq)
                      rw [← HZ.out] at hq
                      have HN' := HN0 _ hq
                      clear HN0 heq hq
                      by_cases hm0 : m = 0
                      · rw [if_pos hm0] at HN'
                        have hz0 : z = 0 := by have := HZ.out; omega
                        have hr0 : r = 0 := by have := HRZ.out; rw [hz0] at this; omega
                        clear hm0 HZ HM1 hzz1 hzz2 hlt hne hne2
                        subst hz0 hr0
                        go_wp2_with (at_builtin; (refine wpList_pushQt wr (by rfl) _ _ 100 100 (by rfl) Tryz.underlying100 Tryz.underlying100 w.heap.size A n c N (by rfl) hown _ _ _ _ (by rfl) (by omega) hbr.size ?_); intro A1 c1 w1 hown1 hb1)
                        go_roundw
                        case rel => exact ⟨d + 1, y + 1, A1, n + 1, c1, _, rfl, HY', by omega, by omega, by omega, rfl, hown1, HN', hbr.trans hb1⟩
                        case measure => simp [intOf]; omega
                      · rw [if_neg hm0] at HN'
                        have hz0 : 0 < z := by have := HZ.out; omega
                        have z1 : decide (0 < z) = true := decide_eq_true hz0
                        have z0 : decide (z * z < r) = false := decide_eq_false hlt
                        clear hm0 HZ HM1 hlt
                        go_wp2_with (first | (at_builtin; (refine wpList_pushQt wr (by rfl) _ _ 100 100 (by rfl) Tryz.underlying100 Tryz.underlying100 w.heap.size A n c N (by rfl) hown _ _ _ _ (by rfl) (by omega) hbr.size ?_); intro A1 c1 w1 hown1 hb1) | (at_builtin; (refine wpList_pushQt w1 (by rfl) _ _ 100 100 (by rfl) Tryz.underlying100 Tryz.underlying100 w.heap.size A1 (n + 1) c1 _ (by rfl) hown1 _ _ _ _ (by rfl) (by omega) (hbr.trans hb1).size ?_); intro A2 c2 w2 hown2 hb2))
                        go_roundw
                        case rel => exact ⟨d + 1, y + 1, A2, n + 1 + 1, c2, _, rfl, HY', by omega, by omega, by omega, rfl, by rw [List.append_assoc] at hown2; exact hown2, HN', (hbr.trans hb1).trans hb2⟩
                        case measure => simp [intOf]; omega
                    · have hne : (z * z == r) = false := beq_eq_false_iff_ne.2 heq
                      have hne2 : (z * z != r) = true := by simp [heq]
                      have HN' := HN0 [] (gqy_miss (m := m) (by rw [← HR.out, ← HZ.out]; omega) (by rw [← HR.out]; exact HM1.out))
                      rw [List.append_nil] at HN'
                      clear HN0 heq
                      go_wp2_with fail
                      go_roundw
                      case rel => exact ⟨d + 1, y + 1, A, n, c, N, rfl, HY', by omega, by omega, by omega, rfl, hown, HN', hbr⟩
                      case measure => simp [intOf]; omega
              · obtain rfl : d = 2 * p + 1 := by have := HY.out; omega
                have HM' := Lib.hid (show N = L ++ gfl (gev (gqx p wi)) (-(p : Int)) 1 (b + 1) by
                  rw [gfl_succ, ← HX.out, HN.out, HM.out, gqx_loop hp, gev_even HSE.out, List.append_assoc])
                go_wp2_with fail
                go_roundw
                case rel => exact ⟨b + 1, x + 1, A, n, c, N, rfl, HX', by omega, by omega, by omega, rfl, hown, HM', hbr⟩
                case measure => simp [intOf]; omega
        · obtain rfl : b = 2 * p + 1 := by have := HX.out; omega
          have HL' := Lib.hid (show M = gfl (gqw p) 1 2 (a + 1) by rw [gfl_succ, ← HW.out, HM.out, HL.out, gqw_loop hp])
          have HW' := Lib.hid (show wi + 2 = 1 + 2 * ((a + 1 : Nat) : Int) by have := HW.out; omega)
          go_wp2_with fail
          go_roundw
          case rel => exact ⟨a + 1, wi + 2, A, n, c, M, rfl, HW', by omega, by omega, rfl, hown, HL', hbr⟩
          case measure => simp [intOf]; omega
    · have HF := Lib.hid (show L = gqs p by
        have h1 := HW.out
        rw [HL.out]
        refine gqs_loop (by omega) ?_
        rw [show 2 * (a : Int) + 1 = wi by omega]
        omega)
      go_wp2_with fail
      go_ret
      exact ⟨A, n, c, rfl, by rw [← HF.out]; exact hown, hbr⟩
end Go.Proofs.YtefcdclmabdmbaaGreatDoor

namespace Go.Proofs.YtefcdclmabdmbaaGreatDoor
open Go.RowKit

def cc4 (m : Nq) : List Value := [.int .i64 (m.1 : Nat), .int .i64 (m.2.1 : Nat), .int .i64 (m.2.2.1 : Nat), .int .i64 (m.2.2.2 : Nat)]
def ccs : List Nq → List Value
  | [] => []
  | q :: L => cc4 q ++ ccs L
theorem ccs_append : ∀ L M : List Nq, ccs (L ++ M) = ccs L ++ ccs M
  | [], _ => rfl
  | q :: L, M => by show cc4 q ++ ccs (L ++ M) = cc4 q ++ ccs L ++ ccs M; rw [ccs_append L M, List.append_assoc]
theorem ccs_one (q : Nq) : ccs [q] = cc4 q := by simp [ccs]
theorem ccs_at : ∀ {L : List Nq} {i : Nat} {q : Nq}, L[i]? = some q → ∀ (j : Nat), j < 4 → (ccs L)[i * 4 + j]? = (cc4 q)[j]?
  | [], i, q, h => by simp at h
  | q0 :: L, 0, q, h => by
    intro j hj
    simp at h
    subst h
    rw [Nat.zero_mul, Nat.zero_add]
    show (cc4 q0 ++ ccs L)[j]? = _
    rw [List.getElem?_append_left (by simpa [cc4] using hj)]
  | q0 :: L, i + 1, q, h => by
    intro j hj
    show (cc4 q0 ++ ccs L)[(i + 1) * 4 + j]? = _
    rw [List.getElem?_append_right (by simp [cc4]; omega)]
    have e : (i + 1) * 4 + j - (cc4 q0).length = i * 4 + j := by simp [cc4]; omega
    rw [e]
    exact ccs_at (by simpa using h) _ hj
/-- A list of classes of the call's own (T: the elements' type). -/
def OwnC (T : TypeId) (w : World) (base : Nat) (v : Value) (L : List Nq) : Prop := w.ownsRow base T 4 v L.length (ccs L)
def InfoC (T : TypeId) : Prop := (Tryz.prog.info? T).map (fun i => (i.zero, i.size, i.bytes)) = some (some (.agg #[.int .i64 0, .int .i64 0, .int .i64 0, .int .i64 0]), 4, 32)
theorem infoC_class : InfoC 105 := by unfold InfoC; kernel_rfl
theorem infoC_arr : InfoC 104 := by unfold InfoC; kernel_rfl
section
variable {T : TypeId}
theorem OwnC.nil (w : World) (base : Nat) : OwnC T w base (.slice none 0 0) [] := World.ownsRow_nil _ _ _ _
theorem OwnC.len {w : World} {base : Nat} {A : Option Addr} {n c : Nat} {L : List Nq} (h : OwnC T w base (.slice A n c) L) : n = L.length := by
  obtain ⟨A', c', e, _⟩ := own_slice h
  injection e
theorem OwnC.keep {w w' : World} {base : Nat} {v : Value} {L : List Nq} (h : OwnC T w base v L) (hk : ∀ g, base ≤ g → g < w.heap.size → v.ownBlock = some g → w'.heap[g]? = w.heap[g]?) : OwnC T w' base v L := by
  refine ⟨h.1, ?_⟩
  rcases h.2 with h3 | ⟨g, cap, cur, e, h4, h5, h6⟩
  · exact .inl h3
  · have hl := World.ownsRow.lt h g (by rw [e]; rfl)
    exact .inr ⟨g, cap, cur, e, h4, (hk g h4 hl.2 (by rw [e]; rfl)).trans h5, h6⟩
theorem OwnC.below {w w' : World} {base : Nat} {v : Value} {L : List Nq} (h : OwnC T w base v L) (hb : Below w.heap.size w w') : OwnC T w' base v L :=
  h.keep fun g _ hl _ => hb.block g hl
/-- The cells of the list. -/
theorem OwnC.cells {w : World} {base : Nat} {A : Option Addr} {n c : Nat} {L : List Nq} (h : OwnC T w base (.slice A n c) L) (hn : 0 < n) : ∃ g, A = some ⟨g, 0, none⟩ ∧ base ≤ g ∧ g < w.heap.size ∧ n ≤ c ∧ c ≤ maxLen ∧
    ∀ i q, L[i]? = some q → w.cell? ⟨g, i * 4, none⟩ = some (.int .i64 (q.1 : Nat)) ∧ w.cell? ⟨g, i * 4 + 1, none⟩ = some (.int .i64 (q.2.1 : Nat)) ∧ w.cell? ⟨g, i * 4 + 2, none⟩ = some (.int .i64 (q.2.2.1 : Nat)) ∧ w.cell? ⟨g, i * 4 + 3, none⟩ = some (.int .i64 (q.2.2.2 : Nat)) := by
  obtain rfl := h.len
  obtain ⟨g, cap, e, hb, h1, h2, _, h4⟩ := own_cells h hn
  injection e with e1 e2 e3
  subst e1 e3
  refine ⟨g, rfl, hb, (World.ownsRow.lt h g rfl).2, h1, h2, fun i q hq => ?_⟩
  have key := fun (j : Nat) (hj : j < 4) (u : Value) (hu : (cc4 q)[j]? = some u) => h4 (i * 4 + j) u ((ccs_at hq j hj).trans hu)
  exact ⟨key 0 (by omega) _ rfl, key 1 (by omega) _ rfl, key 2 (by omega) _ rfl, key 3 (by omega) _ rfl⟩
/-- append(own, m), as a plain operation. -/
theorem wp_pushC (w0 : World) (hT : InfoC T) {o : Oper} {a : Act} {K : Act → World → Prop} {Q : Exit → Act → World → Prop} (s x : Operand) (t t' : TypeId)
    (ho : o.op = .call { callee := .builtin .append, args := #[s, x], argTypes := #[t, t'] })
    (ht : Tryz.prog.underlying t = some (.slice T)) (ht' : Tryz.prog.underlying t' = some (.slice T))
    (base : Nat) (A : Option Addr) (n c : Nat) (L : List Nq) (hs : a.eval s = .slice A n c) (hown : OwnC T w0 base (.slice A n c) L)
    (m : Nq) (hx : a.eval x = .slice (some ⟨w0.heap.size, 0, none⟩) 1 1) (h63 : n + 1 ≤ 1000000000) (hbase : base ≤ w0.heap.size)
    (h : ∀ A' c' w', OwnC T w' base (.slice A' (n + 1) c') (L ++ [m]) → w0.grownBy w' (Value.slice A n c).ownBlock → Below base w0 w' → K (a.put o.dst (.slice A' (n + 1) c')) w') :
    o.wp Tryz.prog a (w0.alloc (.cells #[.int .i64 (m.1 : Nat), .int .i64 (m.2.1 : Nat), .int .i64 (m.2.2.1 : Nat), .int .i64 (m.2.2.2 : Nat)] T)) K Q := by
  obtain rfl := hown.len
  refine wp_app _ s x t t' ho base T T (.agg #[.int .i64 0, .int .i64 0, .int .i64 0, .int .i64 0]) 4 32 ht ht' hT rfl (by omega) _ L.length (ccs L) hs (World.ownsRow.alloc hown _) _ 1 1 (cc4 m) hx (src_block (heap_alloc_new w0 _) 1 4 rfl) (by simp [cc4, Value.oneCell']) (by unfold maxLen; omega) (by omega) (by simp; omega) ?_
  intro v' w' hown' hg hob
  obtain ⟨A', c', rfl, _, _⟩ := own_slice hown'
  have hg0 : w0.grownBy w' (Value.slice A L.length c).ownBlock := grownBy_trans (World.grownBy_alloc w0 _ _) hg
  refine h A' c' w' ?_ hg0 ((Below.refl _ _).grown hg0 hbase (fun k hk => (World.ownsRow.lt hown k hk).1))
  unfold OwnC
  rw [ccs_append, ccs_one, List.length_append]
  exact hown'
/-- append(own, m): m lies in block B. -/
theorem wpList_pushC (w0 : World) (hT : InfoC T) {ops : Array Oper} {rest : List Oper} {o : Oper} {a : Act} {Q : Exit → Act → World → Prop} (hgd : o.guard = none) (s x : Operand) (t t' : TypeId)
    (ho : o.op = .call { callee := .builtin .append, args := #[s, x], argTypes := #[t, t'] })
    (ht : Tryz.prog.underlying t = some (.slice T)) (ht' : Tryz.prog.underlying t' = some (.slice T))
    (base : Nat) (A : Option Addr) (n c : Nat) (L : List Nq) (hs : a.eval s = .slice A n c) (hown : OwnC T w0 base (.slice A n c) L)
    (m : Nq) (hx : a.eval x = .slice (some ⟨w0.heap.size, 0, none⟩) 1 1) (h63 : n + 1 ≤ 1000000000) (hbase : base ≤ w0.heap.size)
    (h : ∀ A' c' w', OwnC T w' base (.slice A' (n + 1) c') (L ++ [m]) → w0.grownBy w' (Value.slice A n c).ownBlock → Below base w0 w' → wpList Tryz.prog ops Q rest (a.put o.dst (.slice A' (n + 1) c')) w') :
    wpList Tryz.prog ops Q (o :: rest) a (w0.alloc (.cells #[.int .i64 (m.1 : Nat), .int .i64 (m.2.1 : Nat), .int .i64 (m.2.2.1 : Nat), .int .i64 (m.2.2.2 : Nat)] T)) :=
  wpList_plain hgd fun _ hK => wp_pushC w0 hT s x t t' ho ht ht' base A n c L hs hown m hx h63 hbase fun A' c' w' h1 h2 h3 => hK _ _ (h A' c' w' h1 h2 h3)
end
end Go.Proofs.YtefcdclmabdmbaaGreatDoor

namespace Go.Proofs.YtefcdclmabdmbaaGreatDoor
open Go.RowKit

set_option maxHeartbeats 8000000 in
set_option maxRecDepth 100000 in
theorem rIsPrime_any {w : World} (x : Int) : Calls Tryz.prog 133 #[.int .i64 x] w (PrmR w x) := by
  by_cases hlo : x < 2
  · have z1 : decide (x < 2) = true := decide_eq_true hlo
    have HP := Lib.hid (primeI_out (.inl hlo))
    go_enter Tryz.func133, Tryz.ntmps133
    go_wp2_with fail
    go_ret
    exact prmR_of HP.out
  · by_cases hhi : 1000000000 < x
    · have z1 : decide (x < 2) = false := decide_eq_false hlo
      have z2 : decide (1000000000 < x) = true := decide_eq_true hhi
      have HP := Lib.hid (primeI_out (.inr hhi))
      go_enter Tryz.func133, Tryz.ntmps133
      go_wp2_with fail
      go_ret
      exact prmR_of HP.out
    · obtain ⟨n, rfl⟩ : ∃ n : Nat, x = n := ⟨x.toNat, by omega⟩
      have z1 : decide ((n : Int) < 2) = false := decide_eq_false hlo
      have z2 : decide (1000000000 < (n : Int)) = false := decide_eq_false hhi
      have h1 : 2 ≤ n := by omega
      have h2 : n ≤ 1000000000 := by omega
      clear hlo hhi
      go_enter Tryz.func133, Tryz.ntmps133
      go_wp2_with fail
      clear z1 z2
      go_loop [3] (fun iv => ∃ d : Nat, 2 ≤ d ∧ d ≤ 40000 ∧ iv = .int .i64 (d : Nat) ∧ Hid (∀ j, 2 ≤ j → j < d → n % j ≠ 0)) (fun iv => 40001 - (intOf iv).toNat)
      case atStart => exact ⟨2, by omega, by omega, rfl, Lib.hid (fun j hj1 hj2 => by omega)⟩
      case round =>
      obtain ⟨d, hd, hd2, rfl, HI⟩ := hrel
      have hdd : d * d ≤ 1600000000 := Nat.mul_le_mul hd2 hd2
      have e1 : ((d * d : Nat) : Int) = (d : Int) * (d : Int) := Int.natCast_mul d d
      have b1 : (0 : Int) ≤ (d : Int) * (d : Int) := by omega
      have b2 : (d : Int) * (d : Int) ≤ 1600000000 := by omega
      have d0 : (2 : Int) ≤ (d : Int) := by omega
      have d1 : (d : Int) ≤ 40000 := by omega
      by_cases hle : d * d ≤ n
      · have hd3 : d ≤ 31700 := Nat.not_lt.1 fun h => by
          have := Nat.mul_le_mul (show 31701 ≤ d by omega) (show 31701 ≤ d by omega)
          omega
        have z1 : decide ((d : Int) * (d : Int) ≤ (n : Int)) = true := decide_eq_true (by omega)
        by_cases hm : n % d = 0
        · have z2 : ((n : Int).tmod (d : Int) == 0) = true := by
            rw [Int.tmod_eq_emod_of_nonneg (by omega)]
            have : ((n % d : Nat) : Int) = (n : Int) % (d : Int) := Int.natCast_emod n d
            rw [← this, hm]
            rfl
          have z3 : ((n : Int) % (d : Int) == 0) = true := by rw [← Int.tmod_eq_emod_of_nonneg (by omega)]; exact z2
          have HP := Lib.hid (show primeI (n : Int) = false from primeI_no (fun h => by
            rcases h.2 d (Nat.dvd_of_mod_eq_zero hm) with e | e
            · omega
            · subst e
              have := Nat.mul_le_mul_right d hd
              omega))
          clear e1 hle hm
          go_wp2_with fail
          go_ret
          exact prmR_of HP.out
        · have z2 : ((n : Int).tmod (d : Int) == 0) = false := by
            rw [Int.tmod_eq_emod_of_nonneg (by omega)]
            have : ((n % d : Nat) : Int) = (n : Int) % (d : Int) := Int.natCast_emod n d
            rw [← this]
            exact beq_eq_false_iff_ne.2 (by omega)
          have z3 : ((n : Int) % (d : Int) == 0) = false := by rw [← Int.tmod_eq_emod_of_nonneg (by omega)]; exact z2
          have HI' := Lib.hid (show ∀ j, 2 ≤ j → j < d + 1 → n % j ≠ 0 from fun j hj1 hj2 => by
            rcases Nat.lt_or_ge j d with h | h
            · exact HI.out j hj1 h
            · obtain rfl : j = d := by omega
              exact hm)
          clear e1 hle hm
          go_wp2_with fail
          go_round
          case rel => exact ⟨d + 1, by omega, by omega, by go_num, HI'⟩
          case measure => simp [intOf]; omega
      · have z1 : decide ((d : Int) * (d : Int) ≤ (n : Int)) = false := decide_eq_false (by omega)
        have HP := Lib.hid (show primeI (n : Int) = true from primeI_true h1 h2 (pr_trial h1 fun j hj1 hj2 => HI.out j hj1 (Nat.lt_of_not_le fun h => by
          have := Nat.mul_le_mul h h
          omega)))
        clear e1 hle
        go_wp2_with fail
        go_ret
        exact prmR_of HP.out

/-- A good prime. -/
noncomputable def gdI (x : Int) : Bool := primeI x && decide (x % 4 = 1)
theorem primeI_pos {x : Int} (h : primeI x = true) : 2 ≤ x := (primeI_yes.1 h).1
theorem gdI_no4 {x : Int} (h : x.tmod 4 ≠ 1) : gdI x = false := by
  unfold gdI
  cases e : primeI x
  · rfl
  · have := primeI_pos e
    rw [Int.tmod_eq_emod_of_nonneg (by omega)] at h
    simp [h]
theorem gdI_4 {x : Int} (h : x.tmod 4 = 1) : gdI x = primeI x := by
  unfold gdI
  cases e : primeI x
  · rfl
  · have := primeI_pos e
    rw [Int.tmod_eq_emod_of_nonneg (by omega)] at h
    simp [h]
def GdR (w : World) (x : Int) (e : Ending) (w' : World) : Prop := e = .returned (.bool (gdI x)) ∧ w = w'
theorem gdR_of {w : World} {x : Int} {b : Bool} (h : gdI x = b) : GdR w x (.returned (.bool b)) w := ⟨by rw [h], rfl⟩
theorem tmod4 (x : Int) : -3 ≤ x.tmod 4 ∧ x.tmod 4 ≤ 3 := by
  rcases Int.le_total 0 x with h0 | h0
  · rw [Int.tmod_eq_emod_of_nonneg h0]; omega
  · have e : x = -(-x) := by omega
    rw [e, Int.neg_tmod, Int.tmod_eq_emod_of_nonneg (by omega)]; omega

set_option maxHeartbeats 4000000 in
set_option maxRecDepth 100000 in
theorem good_any {w : World} (x : Int) : Calls Tryz.prog 64 #[.int .i64 x] w (GdR w x) := by
  obtain ⟨t1, t2⟩ := tmod4 x
  by_cases h : x.tmod 4 = 1
  · have HG := Lib.hid (gdI_4 h)
    have z1 : x.tmod 4 = 1 := h
    have HP := Lib.hid (fun w => IsPrime_any (w := w) x)
    clear h t1 t2
    go_enter Tryz.func64, Tryz.ntmps64
    go_wp2_with fail
    refine (HP.out _).mono ?_
    rintro e w' ⟨rfl, rfl⟩
    go_wp2_with fail
    go_ret
    exact gdR_of HG.out
  · have HG := Lib.hid (gdI_no4 h)
    obtain ⟨y, hy⟩ : ∃ y, x.tmod 4 = y := ⟨_, rfl⟩
    rw [hy] at t1 t2 h
    have z2 : (y == 1) = false := beq_eq_false_iff_ne.2 h
    go_enter Tryz.func64, Tryz.ntmps64
    go_wp2_with fail
    go_ret
    exact gdR_of HG.out

set_option maxHeartbeats 4000000 in
set_option maxRecDepth 100000 in
theorem IsGood_any {w : World} (x : Int) : Calls Tryz.prog 62 #[.int .i64 x] w (GdR w x) := by
  have HP := Lib.hid (fun w => rIsPrime_any (w := w) x)
  by_cases h : x.tmod 4 = 1
  · have HG := Lib.hid (gdI_4 h)
    have z1 : x.tmod 4 = 1 := h
    clear h
    go_enter Tryz.func62, Tryz.ntmps62
    go_wp2_with fail
    refine (HP.out _).mono ?_
    rintro e w' ⟨rfl, rfl⟩
    cases hb : primeI x
    · rw [hb] at HG
      clear hb
      go_wp2_with fail
      go_ret
      exact gdR_of HG.out
    · rw [hb] at HG
      clear hb
      go_wp2_with fail
      go_ret
      exact gdR_of HG.out
  · have HG := Lib.hid (gdI_no4 h)
    obtain ⟨t1, t2⟩ := tmod4 x
    obtain ⟨y, hy⟩ : ∃ y, x.tmod 4 = y := ⟨_, rfl⟩
    rw [hy] at t1 t2 h
    have z2 : (y == 1) = false := beq_eq_false_iff_ne.2 h
    go_enter Tryz.func62, Tryz.ntmps62
    go_wp2_with fail
    refine (HP.out _).mono ?_
    rintro e w' ⟨rfl, rfl⟩
    cases hb : primeI x
    all_goals
      clear hb
      go_wp2_with fail
      go_ret
      exact gdR_of HG.out

set_option maxHeartbeats 8000000 in
set_option maxRecDepth 100000 in
theorem rGenerators_any {w : World} {p : Nat} (hp : p < 400) : Calls Tryz.prog 81 #[.int .i64 (p : Int)] w (GenR w p) := by
  go_enter Tryz.func81, Tryz.ntmps81
  go_wp2_with fail
  go_loopw [3, 4] (fun o i wr => ∃ (a : Nat) (wi : Int) (A : Option Addr) (n c : Nat) (L : List Qt), i = .int .i64 wi ∧ Hid (wi = 1 + 2 * (a : Int)) ∧ 1 ≤ wi ∧ wi ≤ 21 ∧ o = .slice A n c ∧ OwnQ wr w.heap.size (.slice A n c) L ∧ Hid (L = gfl (gqw p) 1 2 a) ∧ Below w.heap.size w wr) (fun _ i _ => 22 - (intOf i).toNat)
  case atStart => exact ⟨0, 1, none, 0, 0, [], rfl, Lib.hid rfl, by omega, by omega, rfl, OwnQ.nil _ _, Lib.hid rfl, Below.refl _ _⟩
  case round =>
    obtain ⟨a, wi, A, n, c, L, rfl, HW, hw1, hw2, rfl, hown, HL, hbr⟩ := hrel
    obtain ⟨hww1, hww2⟩ := sq_le400 (x := wi) (by omega) (by omega)
    by_cases hwp : wi * wi ≤ p
    · have hw3 : wi ≤ 19 := Int.not_lt.1 fun h => by have := gsq_big (x := wi) (a := 19) (by omega) (.inr h); omega
      go_wp2_with fail
      obtain ⟨wo, rfl⟩ : ∃ wo : World, wo = wr := ⟨_, rfl⟩
      go_loopw [3, 5, 6, 7] (fun o i _ _ wr => ∃ (b : Nat) (x : Int) (A : Option Addr) (n c : Nat) (M : List Qt), i = .int .i64 x ∧ Hid (x = -20 + 2 * (b : Int)) ∧ b ≤ 21 ∧ -20 ≤ x ∧ x ≤ 22 ∧ o = .slice A n c ∧ OwnQ wr w.heap.size (.slice A n c) M ∧ Hid (M = L ++ gfl (gqx p wi) (-20) 2 b) ∧ Below w.heap.size w wr) (fun _ i _ _ _ => (23 - intOf i).toNat)
      case atStart => exact ⟨0, -20, A, n, c, L, rfl, Lib.hid (by omega), by omega, by omega, by omega, rfl, hown, Lib.hid (by simp [gfl]), hbr⟩
      case round =>
        clear hown hbr
        obtain ⟨b, x, A, n, c, M, rfl, HX, hb, hx1, hx2, rfl, hown, HM, hbr⟩ := hrel
        obtain ⟨hxx1, hxx2⟩ := sq_le400 (x := x) (by omega) (by omega)
        by_cases hxp : x ≤ 20
        · have hbl : b < 21 := by have := HX.out; omega
          have HX' := Lib.hid (show x + 2 = -20 + 2 * ((b + 1 : Nat) : Int) by have := HX.out; omega)
          go_wp2_with fail
          obtain ⟨wo2, rfl⟩ : ∃ wo2 : World, wo2 = wr := ⟨_, rfl⟩
          go_loopw [3, 6, 7] (fun o i _ wr => ∃ (d : Nat) (y : Int) (A : Option Addr) (n c : Nat) (N : List Qt), i = .int .i64 y ∧ Hid (y = -20 + 2 * (d : Int)) ∧ d ≤ 21 ∧ -20 ≤ y ∧ y ≤ 22 ∧ o = .slice A n c ∧ OwnQ wr w.heap.size (.slice A n c) N ∧ Hid (N = M ++ gfl (gqy p wi x) (-20) 2 d) ∧ Below w.heap.size w wr) (fun _ i _ _ => (23 - intOf i).toNat)
          case atStart => exact ⟨0, -20, A, n, c, M, rfl, Lib.hid (by omega), by omega, by omega, by omega, rfl, hown, Lib.hid (by simp [gfl]), hbr⟩
          case round =>
            clear hown hbr
            obtain ⟨d, y, A, n, c, N, rfl, HY, hd, hy1, hy2, rfl, hown, HN, hbr⟩ := hrel
            obtain ⟨hyy1, hyy2⟩ := sq_le400 (x := y) (by omega) (by omega)
            by_cases hyp : y ≤ 20
            · have hdl : d < 21 := by have := HY.out; omega
              have HY' := Lib.hid (show y + 2 = -20 + 2 * ((d + 1 : Nat) : Int) by have := HY.out; omega)
              go_wp2_with fail
              obtain ⟨wo3, rfl⟩ : ∃ wo3 : World, wo3 = wr := ⟨_, rfl⟩
              go_loopw [3, 7] (fun o i wr => ∃ (t : Nat) (z : Int) (A : Option Addr) (n c : Nat) (O : List Qt), i = .int .i64 z ∧ Hid (z = -20 + 2 * (t : Int)) ∧ t ≤ 21 ∧ -20 ≤ z ∧ z ≤ 22 ∧ o = .slice A n c ∧ OwnQ wr w.heap.size (.slice A n c) O ∧ Hid (O = N ++ gfl (gqz p wi x y) (-20) 2 t) ∧ Below w.heap.size w wr) (fun _ i _ => (23 - intOf i).toNat)
              case atStart => exact ⟨0, -20, A, n, c, N, rfl, Lib.hid (by omega), by omega, by omega, by omega, rfl, hown, Lib.hid (by simp [gfl]), hbr⟩
              case round =>
                clear hown hbr
                obtain ⟨t, z, A, n, c, O, rfl, HZ, ht, hz1, hz2, rfl, hown, HO, hbr⟩ := hrel
                obtain ⟨hzz1, hzz2⟩ := sq_le400 (x := z) (by omega) (by omega)
                by_cases hzp : z ≤ 20
                · have htl : t < 21 := by have := HZ.out; omega
                  have HZ' := Lib.hid (show z + 2 = -20 + 2 * ((t + 1 : Nat) : Int) by have := HZ.out; omega)
                  have HO0 : ∀ R, gqz p wi x y z = R → Hid (O ++ R = N ++ gfl (gqz p wi x y) (-20) 2 (t + 1)) := fun R hR => Lib.hid (by
                    rw [gfl_succ, ← HZ.out, HO.out, hR, List.append_assoc])
                  by_cases heq : wi * wi + x * x + y * y + z * z = p
                  · have HO' := HO0 [(wi, x, y, z)] (if_pos heq)
                    have z1 : (wi * wi + x * x + y * y + z * z == (p : Int)) = true := by simp [heq]
                    have hnb : n ≤ 1000000 := by
                      have h1 := hown.len
                      have h2 := gfl_len (gqw_len p) 1 2 a
                      have h3 := gfl_len (gqx_len p wi) (-20) 2 b
                      have h4 := gfl_len (gqy_len p wi x) (-20) 2 d
                      have h6 := gfl_len (gqz_len p wi x y) (-20) 2 t
                      rw [h1, HO.out, List.length_append, HN.out, List.length_append, HM.out, List.length_append, HL.out]
                      have h5 := HW.out
                      omega
                    clear HO0 heq
                    go_wp2_with (at_builtin; (refine wpList_pushQt wr (by rfl) _ _ 100 100 (by rfl) Tryz.underlying100 Tryz.underlying100 w.heap.size A n c O (by rfl) hown _ _ _ _ (by rfl) (by omega) hbr.size ?_); intro A1 c1 w1 hown1 hb1)
                    go_roundw
                    case rel => exact ⟨t + 1, z + 2, A1, n + 1, c1, _, rfl, HZ', by omega, by omega, by omega, rfl, hown1, HO', hbr.trans hb1⟩
                    case measure => simp [intOf]; omega
                  · have HO' := HO0 [] (if_neg heq)
                    rw [List.append_nil] at HO'
                    have z1 : (wi * wi + x * x + y * y + z * z == (p : Int)) = false := beq_eq_false_iff_ne.2 heq
                    clear HO0 heq
                    go_wp2_with fail
                    go_roundw
                    case rel => exact ⟨t + 1, z + 2, A, n, c, O, rfl, HZ', by omega, by omega, by omega, rfl, hown, HO', hbr⟩
                    case measure => simp [intOf]; omega
                · obtain rfl : t = 21 := by have := HZ.out; omega
                  have HN' := Lib.hid (show O = M ++ gfl (gqy p wi x) (-20) 2 (d + 1) by
                    rw [gfl_succ, ← HY.out, HO.out, HN.out, List.append_assoc]; rfl)
                  go_wp2_with fail
                  go_roundw
                  case rel => exact ⟨d + 1, y + 2, A, n, c, O, rfl, HY', by omega, by omega, by omega, rfl, hown, HN', hbr⟩
                  case measure => simp [intOf]; omega
            · obtain rfl : d = 21 := by have := HY.out; omega
              have HM' := Lib.hid (show N = L ++ gfl (gqx p wi) (-20) 2 (b + 1) by
                rw [gfl_succ, ← HX.out, HN.out, HM.out, List.append_assoc]; rfl)
              go_wp2_with fail
              go_roundw
              case rel => exact ⟨b + 1, x + 2, A, n, c, N, rfl, HX', by omega, by omega, by omega, rfl, hown, HM', hbr⟩
              case measure => simp [intOf]; omega
        · obtain rfl : b = 21 := by have := HX.out; omega
          have HL' := Lib.hid (show M = gfl (gqw p) 1 2 (a + 1) by rw [gfl_succ, ← HW.out, HM.out, HL.out]; rfl)
          have HW' := Lib.hid (show wi + 2 = 1 + 2 * ((a + 1 : Nat) : Int) by have := HW.out; omega)
          go_wp2_with fail
          go_roundw
          case rel => exact ⟨a + 1, wi + 2, A, n, c, M, rfl, HW', by omega, by omega, rfl, hown, HL', hbr⟩
          case measure => simp [intOf]; omega
    · have HF := Lib.hid (show L = gqs p by
        have h1 := HW.out
        rw [HL.out]
        refine gqs_loop (by omega) ?_
        rw [show 2 * (a : Int) + 1 = wi by omega]
        omega)
      go_wp2_with fail
      go_ret
      exact ⟨A, n, c, rfl, by rw [← HF.out]; exact hown, hbr⟩
end Go.Proofs.YtefcdclmabdmbaaGreatDoor
