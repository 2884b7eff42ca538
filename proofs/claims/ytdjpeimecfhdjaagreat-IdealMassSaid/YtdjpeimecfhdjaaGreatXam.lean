/- Package integer: factors. Package ideal: primes. Package integer: Factor. Package ideal: mass. -/
import Derived.Test.YtdjpeimecfhdjaaGreatXal
namespace Go.Proofs.YtdjpeimecfhdjaaGreat
open Go.RowKit
def fcG : Nat → Nat → Nat → List (Nat × Nat)
 | 0, _, _ => []
 | f + 1, p, n => if p * p ≤ n then (if n % p = 0 then (p, (vaF n n p).1) :: fcG f (p + 1) (vaF n n p).2 else fcG f (p + 1) n) else if 1 < n then [(n, 1)] else []
def pz (l : List (Nat × Nat)) : List Value := l.flatMap fun x => [.int .i64 (x.1 : Nat), .int .i64 (x.2 : Nat)]
theorem pz_snoc (l : List (Nat × Nat)) (y : Nat × Nat) : pz (l ++ [y]) = pz l ++ [.int .i64 (y.1 : Nat), .int .i64 (y.2 : Nat)] := by simp [pz]
theorem pz_at : ∀ (l : List (Nat × Nat)) (j : Nat) (x : Nat × Nat), l[j]? = some x → (pz l)[j * 2]? = some (.int .i64 (x.1 : Nat)) ∧ (pz l)[j * 2 + 1]? = some (.int .i64 (x.2 : Nat))
 | [], j, x, h => by simp at h
 | y :: l, 0, x, h => by
  injection h with h
  subst h
  exact ⟨rfl, rfl⟩
 | y :: l, j + 1, x, h => by
  have := pz_at l j x h
  rw [show (j + 1) * 2 = j * 2 + 1 + 1 by omega]
  exact this
def OwnP (w : World) (base : Nat) (v : Value) (l : List (Nat × Nat)) : Prop := w.ownsRow base 207 2 v l.length (pz l)
theorem OwnP.nil (w : World) (base : Nat) : OwnP w base (.slice none 0 0) [] := World.ownsRow_nil _ _ _ _
theorem OwnP.below {w w' : World} {base : Nat} {v : Value} {l : List (Nat × Nat)} (h : OwnP w base v l) (hb : Below w.heap.size w w') : OwnP w' base v l := by
 refine ⟨h.1, ?_⟩
 rcases h.2 with h3 | ⟨g, cap, cur, e, h4, h5, h6⟩
 ·exact .inl h3
 ·exact .inr ⟨g, cap, cur, e, h4, (hb.block g (World.ownsRow.lt h g (by rw [e]; rfl)).2).trans h5, h6⟩
theorem OwnP.slice {w : World} {base : Nat} {v : Value} {l : List (Nat × Nat)} (h : OwnP w base v l) : ∃ A c, v = .slice A l.length c ∧ l.length ≤ c ∧ c ≤ maxLen := own_slice h
def PwV (w : World) (v : Value) (l : List (Nat × Nat)) : Prop := ∃ A c, v = .slice A l.length c ∧ l.length ≤ c ∧ c ≤ maxLen ∧ (0 < l.length → ∃ b, A = some ⟨b, 0, none⟩ ∧ ∀ j x, l[j]? = some x → w.cell? ⟨b, j * 2, none⟩ = some (.int .i64 (x.1 : Nat)) ∧ w.cell? ⟨b, j * 2 + 1, none⟩ = some (.int .i64 (x.2 : Nat)))
theorem OwnP.v {w : World} {base : Nat} {v : Value} {l : List (Nat × Nat)} (h : OwnP w base v l) : PwV w v l := by
 obtain ⟨A, c, rfl, h1, h2⟩ := h.slice
 refine ⟨A, c, rfl, h1, h2, fun hn => ?_⟩
 obtain ⟨g, cap, e, _, _, _, _, hc⟩ := own_cells h hn
 injection e with e1 e2 e3
 subst e1
 exact ⟨g, rfl, fun j x hx => ⟨hc _ _ (pz_at l j x hx).1, hc _ _ (pz_at l j x hx).2⟩⟩
section
variable (w0 : World)
theorem info_Power : (Tryz.prog.info? 207).map (fun i => (i.zero, i.size, i.bytes)) = some (some (.agg #[.int .i64 0, .int .i64 0]), 2, 16) := by kernel_rfl
theorem wpList_pushP {ops : Array Oper} {rest : List Oper} {o : Oper} {a : Act} {Q : Exit → Act → World → Prop} (hgd : o.guard = none) (s x : Operand)
  (ho : o.op = .call { callee := .builtin .append, args := #[s, x], argTypes := #[203, 203] })
  (base : Nat) (v : Value) (l : List (Nat × Nat)) (n : Nat) (hln : l.length = n) (hs : a.eval s = v) (hown : OwnP w0 base v l)
  (y : Nat × Nat) (k e : Int) (hk : k = (y.1 : Int)) (he : e = (y.2 : Int)) (hx : a.eval x = .slice (some ⟨w0.heap.size, 0, none⟩) 1 1) (h63 : n + 1 ≤ 1000000000) (hbase : base ≤ w0.heap.size)
  (h : ∀ A' c' w', OwnP w' base (.slice A' (n + 1) c') (l ++ [y]) → Below base w0 w' → wpList Tryz.prog ops Q rest (a.put o.dst (.slice A' (n + 1) c')) w') :
  wpList Tryz.prog ops Q (o :: rest) a (w0.alloc (.cells #[.int .i64 k, .int .i64 e] 207)) := by
 subst hk he hln
 refine wpList_app _ hgd s x 203 203 ho base 207 207 (.agg #[.int .i64 0, .int .i64 0]) 2 16 Tryz.underlying203 Tryz.underlying203 info_Power rfl (by omega) v l.length (pz l) hs (World.ownsRow.alloc hown _) _ 1 1 [.int .i64 (y.1 : Int), .int .i64 (y.2 : Int)] hx (src_block (heap_alloc_new w0 _) 1 2 rfl) (by simp [Value.oneCell']) (by unfold maxLen; omega) (by omega) (by simp; omega) ?_
 intro v' w' hown' hg hob
 obtain ⟨A', c', rfl, _, _⟩ := own_slice hown'
 have hb1 : Below base w0 (w0.alloc (.cells #[.int .i64 (y.1 : Int), .int .i64 (y.2 : Int)] 207)) := (Below.refl _ _).alloc hbase _
 have hb2 : Below base (w0.alloc (.cells #[.int .i64 (y.1 : Int), .int .i64 (y.2 : Int)] 207)) w' := (Below.refl _ _).grown hg (by simp; omega) (fun k hk => (World.ownsRow.lt hown k hk).1)
 refine h A' c' w' ?_ (hb1.trans hb2)
 unfold OwnP; rw [pz_snoc, List.length_append]; exact hown'
end
theorem fcG_yes {f p n : Nat} (h : p * p ≤ n) (h2 : n % p = 0) : fcG (f + 1) p n = (p, (vaF n n p).1) :: fcG f (p + 1) (vaF n n p).2 := by
 show (if _ then _ else _) = _
 rw [if_pos h, if_pos h2]
theorem fcG_no {f p n : Nat} (h : p * p ≤ n) (h2 : ¬ n % p = 0) : fcG (f + 1) p n = fcG f (p + 1) n := by
 show (if _ then _ else _) = _
 rw [if_pos h, if_neg h2]
theorem fcG_end {f p n : Nat} (h : ¬ p * p ≤ n) : fcG (f + 1) p n = if 1 < n then [(n, 1)] else [] := by
 show (if _ then _ else _) = _
 rw [if_neg h]
theorem fcG_len : ∀ (f p n : Nat), (fcG f p n).length ≤ f + 1
 | 0, _, _ => Nat.zero_le _
 | f + 1, p, n => by
  have h1 := fcG_len f (p + 1) (vaF n n p).2
  have h2 := fcG_len f (p + 1) n
  unfold fcG
  split
  ·split
   ·simp only [List.length_cons]; omega
   ·omega
  ·split <;> simp
set_option maxRecDepth 100000 in
set_option maxHeartbeats 4000000 in
theorem factors_any {n : Nat} {w : World} (hn : 1 ≤ n) (hn2 : n ≤ 1000000) :
  Calls Tryz.prog 226 #[.int .i64 n] w fun e w' => ∃ v, e = .returned v ∧ PwV w' v (fcG (n + 2) 2 n) ∧ Below w.heap.size w w' := by
 have hlen := fcG_len (n + 2) 2 n
 go_enter Tryz.func226, Tryz.ntmps226
 go_wp2_with fail
 go_loopw [0, 3, 4] (fun nv ov pv wr => ∃ (m p f : Nat) (L : List (Nat × Nat)) (q : Nat) (A2 : Option Addr) (c2 : Nat), nv = .int .i64 (m : Nat) ∧ ov = .slice A2 q c2 ∧ pv = .int .i64 (p : Nat) ∧ Hid (L.length = q) ∧ OwnP wr w.heap.size (.slice A2 q c2) L ∧ Hid (L ++ fcG f p m = fcG (n + 2) 2 n) ∧ 1 ≤ m ∧ m ≤ n ∧ 2 ≤ p ∧ p ≤ n + 1 ∧ Hid (f + p = n + 4) ∧ Below w.heap.size w wr) (fun _ _ pv _ => n + 5 - (intOf pv).toNat)
 case atStart => exact ⟨n, 2, n + 2, [], 0, none, 0, rfl, rfl, rfl, Lib.hid rfl, OwnP.nil _ _, Lib.hid rfl, hn, Nat.le_refl _, by omega, by omega, Lib.hid (by omega), Below.refl _ _⟩
 case round =>
  obtain ⟨m, p, f, L, q, A2, c2, rfl, rfl, rfl, HQ, hown, HL, hm1, hm2, hp1, hp2, HF, hbr⟩ := hrel
  have hLb : q ≤ n + 3 := by
   have h1 := congrArg List.length HL.out
   rw [List.length_append, HQ.out] at h1
   omega
  obtain ⟨f', hf'⟩ : ∃ f', f = f' + 1 := ⟨f - 1, by have := HF.out; omega⟩
  have HF' := Lib.hid hf'
  obtain ⟨Q2, hQ2⟩ : ∃ Q, Q = p * p := ⟨_, rfl⟩
  have e1 : (p : Int) * (p : Int) = (Q2 : Int) := by rw [hQ2, Int.natCast_mul]
  have hQb : Q2 ≤ 1000001 * 1000001 := by rw [hQ2]; exact Nat.mul_le_mul (by omega) (by omega)
  have HQ2 := Lib.hid hQ2
  have HOW := Lib.hid hown
  have p0 : ((p : Int) == 0) = false := by rw [beq_eq_false_iff_ne]; omega
  have p1 : ((p : Int) == -1) = false := by rw [beq_eq_false_iff_ne]; omega
  have pn : ¬ (p : Int) = 0 := by omega
  clear hf' hQ2 hown hlen
  rcases Nat.lt_or_ge m Q2 with hlt | hge
  ·have z1 : ¬ Q2 ≤ m := by omega
   have HX := Lib.hid (show fcG f p m = if 1 < m then [(m, 1)] else [] by rw [HF'.out]; exact fcG_end (by rw [← HQ2.out]; omega))
   rcases Nat.lt_or_ge 1 m with h1 | h1
   ·have z2 : (1 : Int) < (m : Int) := by omega
    have HY := Lib.hid (show L ++ [(m, 1)] = fcG (n + 2) 2 n by rw [← HL.out, HX.out, if_pos h1])
    go_wp2_with (at_builtin; go_must (refine wpList_pushP _ (by rfl) _ _ (by rfl) w.heap.size _ L q HQ.out (by rfl) HOW.out (m, 1) _ _ (by rfl) (by rfl) (by rfl) (by omega) hbr.size ?_); intro A3 c3 w4 hown4 hb4)
    go_ret
    refine ⟨_, rfl, ?_, hbr.trans hb4⟩
    rw [HY.out] at hown4
    exact hown4.v
   ·have z2 : ¬ (1 : Int) < (m : Int) := by omega
    have z3 : ¬ 1 < m := by omega
    have HY := Lib.hid (show L = fcG (n + 2) 2 n by rw [← HL.out, HX.out, if_neg z3, List.append_nil])
    go_wp2_with fail
    go_ret
    refine ⟨_, rfl, ?_, hbr⟩
    have := HOW.out
    rw [HY.out] at this
    exact this.v
  ·have z1 : Q2 ≤ m := hge
   have hpq : p ≤ Q2 := by rw [HQ2.out]; exact Nat.le_mul_of_pos_left p (by omega)
   by_cases hmp : m % p = 0
   ·have t1 : (((m : Nat) : Int) % (p : Int) == 0) = true := by rw [← Int.natCast_emod, hmp]; rfl
    have t2 : ((m : Int).tmod (p : Int) == 0) = true := by rw [tmodB, hmp]; rfl
    have HX := Lib.hid (show fcG f p m = (p, (vaF m m p).1) :: fcG f' (p + 1) (vaF m m p).2 by rw [HF'.out]; exact fcG_yes (by rw [← HQ2.out]; exact hge) hmp)
    have hv := va_pos m m p hp1 hm1
    have HV := Lib.hid (fun w => @valuation_any m p w hm1 (by omega) hp1 (by omega))
    generalize (vaF m m p).1 = k at *
    generalize (vaF m m p).2 = r at *
    obtain ⟨hv1, hv2, hv3⟩ := hv
    clear hmp
    go_wp2_with (first | (go_at_call 195; go_must (refine (HV.out _).mono ?_); rintro e w1 ⟨rfl, hb1⟩) | (at_builtin; go_must (refine wpList_pushP _ (by rfl) _ _ (by rfl) w.heap.size _ L q HQ.out (by rfl) (OwnP.below HOW.out hb1) (p, k) _ _ (by rfl) (by rfl) (by rfl) (by omega) (Nat.le_trans hbr.size hb1.size) ?_); intro A3 c3 w4 hown4 hb4))
    go_roundw
    case rel => exact ⟨r, p + 1, f', L ++ [(p, k)], q + 1, A3, c3, rfl, rfl, by go_num, Lib.hid (by rw [List.length_append, HQ.out]; rfl), hown4, Lib.hid (by rw [← HL.out, HX.out, List.append_assoc]; rfl), hv1, by omega, by omega, by omega, Lib.hid (by have := HF.out; have := HF'.out; omega), (btrN hbr hb1).trans hb4⟩
    case measure => simp [intOf]; omega
   ·have t1 : (((m : Nat) : Int) % (p : Int) == 0) = false := by rw [← Int.natCast_emod, beq_eq_false_iff_ne]; omega
    have t2 : ((m : Int).tmod (p : Int) == 0) = false := by rw [tmodB, beq_eq_false_iff_ne]; omega
    have HX := Lib.hid (show fcG f p m = fcG f' (p + 1) m by rw [HF'.out]; exact fcG_no (by rw [← HQ2.out]; exact hge) hmp)
    clear hmp
    go_wp2_with fail
    go_roundw
    case rel => exact ⟨m, p + 1, f', L, q, A2, c2, rfl, rfl, by go_num, HQ, HOW.out, Lib.hid (by rw [← HL.out, HX.out]), hm1, hm2, by omega, by omega, Lib.hid (by have := HF.out; have := HF'.out; omega), hbr⟩
    case measure => simp [intOf]; omega
end Go.Proofs.YtdjpeimecfhdjaaGreat

namespace Go.Proofs.YtdjpeimecfhdjaaGreat
open Go.RowKit
def fcL (n : Nat) : List (Nat × Nat) := fcG (n + 2) 2 n
theorem modulus_ok {n : Nat} {w : World} (hn : 1 ≤ n) (hn2 : n ≤ 1000000) : Calls Tryz.prog 213 #[.int .i64 n] w fun e w' => e = .returned (.bool true) ∧ w = w' := by
 have z1 : (1 : Int) ≤ (n : Int) := by omega
 have z2 : (n : Int) ≤ 1000000000 := by omega
 go_enter Tryz.func213, Tryz.ntmps213
 go_wp2_with fail
 go_ret
 exact ⟨rfl, rfl⟩
theorem Factor_any {n : Nat} {w : World} (hn : 1 ≤ n) (hn2 : n ≤ 1000000) : Calls Tryz.prog 172 #[.int .i64 n] w fun e w' => ∃ v, e = .returned (.tuple #[v, .int .i64 0]) ∧ PwV w' v (fcL n) ∧ Below w.heap.size w w' := by
 have HM := Lib.hid (fun w => @modulus_ok n w hn hn2)
 have HF := Lib.hid (fun w => @factors_any n w hn hn2)
 go_enter Tryz.func172, Tryz.ntmps172
 go_wp2_with (first | (go_at_call 213; go_must (refine (HM.out _).mono ?_); rintro e w1 ⟨rfl, rfl⟩) | (go_at_call 226; go_must (refine (HF.out _).mono ?_); rintro e w2 ⟨v, rfl, hv, hb⟩))
 go_ret2
 exact ⟨v, rfl, hv, hb⟩
def okP (x : Nat × Nat) : Bool := decide (x.2 ≤ 1)
set_option maxRecDepth 100000 in
set_option maxHeartbeats 4000000 in
theorem primes_any {n : Nat} {w : World} (hn : 1 ≤ n) (hn2 : n ≤ 1000000) : Calls Tryz.prog 108 #[.int .i64 n] w fun e w' => ∃ A q c, e = .returned (.tuple #[.slice A q c, .bool ((fcL n).all okP)]) ∧ ((fcL n).all okP = true → IsD w' (fun _ => True) (.slice A q c) ((fcL n).map fun x => ((x.1 : Nat) : Int))) ∧ Below w.heap.size w w' := by
 have HF := Lib.hid (fun w => @Factor_any n w hn hn2)
 have hlen : (fcL n).length ≤ n + 3 := fcG_len _ _ _
 generalize fcL n = L at *
 obtain ⟨ok, hok⟩ : ∃ ok, ok = L.all okP := ⟨_, rfl⟩
 rw [← hok]
 have HOK := Lib.hid hok
 clear hok
 go_enter Tryz.func108, Tryz.ntmps108
 go_upto_region 3 with (go_at_call 172; go_must (refine (HF.out _).mono ?_); rintro e w2 ⟨v, rfl, ⟨A, c, rfl, h1, h2, h3⟩, hb⟩)
 have HC := Lib.hid h3
 obtain ⟨q, hq⟩ : ∃ q, q = L.length := ⟨_, rfl⟩
 have HQ := Lib.hid hq
 rw [← hq] at h1 hlen ⊢
 clear hq h3
 have h2' : c ≤ 9223372036854775807 := h2
 go_wp2_with fail
 go_loopw [4, 16] (fun ov iv wr => ∃ (j : Nat) (A2 : Option Addr) (c2 : Nat), ov = .slice A2 j c2 ∧ iv = .int .i64 (j : Nat) ∧ j ≤ q ∧ OwnZ wr w2.heap.size (.slice A2 j c2) ((L.map (·.1)).take j) ∧ Hid (∀ i x, i < j → L[i]? = some x → okP x = true) ∧ Below w2.heap.size w2 wr) (fun _ iv _ => q - (intOf iv).toNat)
 case atStart => exact ⟨0, none, 0, rfl, rfl, by omega, OwnZ.nil _ _, Lib.hid (fun i x hi => by omega), Below.refl _ _⟩
 case round =>
  obtain ⟨j, A2, c2, rfl, rfl, hj, hown, HPR, hbr⟩ := hrel
  rcases Nat.lt_or_ge j q with hjq | hjq
  ·obtain ⟨b, rfl, hcl⟩ := HC.out (by rw [← HQ.out]; omega)
   obtain ⟨x, hx⟩ : ∃ x, L[j]? = some x := ⟨_, List.getElem?_eq_getElem (by rw [← HQ.out]; exact hjq)⟩
   obtain ⟨x1, x2⟩ := x
   obtain ⟨c0, c1⟩ := hcl j _ hx
   replace c0 := keepB hbr c0
   replace c1 := keepB hbr c1
   have k1 : (j : Int) < (q : Int) := by omega
   have k2 : (0 : Int) ≤ (j : Int) := by omega
   have HX := Lib.hid hx
   have HST := Lib.hid (show (L.map (·.1)).take (j + 1) = (L.map (·.1)).take j ++ [x1] by rw [List.take_add_one, List.getElem?_map, hx]; rfl)
   have HLT := Lib.hid (show ((L.map (·.1)).take j).length = j by rw [List.length_take, List.length_map, ← HQ.out]; omega)
   have hown2 : OwnZ (wr.alloc (.cells #[.int .i64 (x1 : Nat), .int .i64 (x2 : Nat)] 207)) w2.heap.size (.slice A2 j c2) ((L.map (·.1)).take j) := World.ownsRow.alloc hown _
   have HOW2 := Lib.hid hown2
   clear hx hcl hown hown2
   by_cases hgt : 1 < x2
   ·have z1 : (1 : Int) < (x2 : Int) := by omega
    have HB := Lib.hid (show ok = false by
     rw [HOK.out]
     rw [List.all_eq_false]
     exact ⟨(x1, x2), List.mem_of_getElem? HX.out, by simp [okP]; omega⟩)
    go_wp2_with fail
    go_ret2
    refine ⟨none, 0, 0, by rw [HB.out]; rfl, fun h => (by rw [HB.out] at h; cases h), ?_⟩
    exact hb.trans ((hbr.alloc hbr.size _).mono hb.size)
   ·have z1 : ¬ (1 : Int) < (x2 : Int) := by omega
    have HPR2 : Hid (∀ i x, i < j + 1 → L[i]? = some x → okP x = true) := Lib.hid fun i x hi hxi => by
     rcases Nat.lt_or_ge i j with h | h
     ·exact HPR.out i x h hxi
     ·obtain rfl : i = j := by omega
      rw [HX.out] at hxi
      injection hxi with hxi
      subst hxi
      exact decide_eq_true (by omega)
    go_upto_region 6 with (fail)
    obtain ⟨P, hP⟩ : ∃ P, P = wr.heap.size := ⟨_, rfl⟩
    obtain ⟨w3, hw3⟩ : ∃ V, V = wr.alloc (.cells #[.int .i64 (x1 : Nat), .int .i64 (x2 : Nat)] 207) := ⟨_, rfl⟩
    have b0 : w3.cell? ⟨P, 0, none⟩ = some (.int .i64 (x1 : Nat)) := by rw [hw3, hP]; go_simp
    have b1 : w3.cell? ⟨P, 1, none⟩ = some (.int .i64 (x2 : Nat)) := by rw [hw3, hP]; go_simp
    have hb3 : Below w2.heap.size w2 w3 := by rw [hw3]; exact hbr.alloc hbr.size _
    rw [← hw3] at HOW2 ⊢
    rw [← hP]
    clear hw3 hP
    go_wp2_with (at_builtin; go_must (refine wpList_pushZ w3 (by rfl) _ _ (by rfl) w2.heap.size _ ((L.map (·.1)).take j) j HLT.out (by rfl) HOW2.out x1 _ (by rfl) (by rfl) (by omega) hb3.size ?_); intro A3 c3 w4 hown4 hb4)
    go_roundw
    case rel => exact ⟨j + 1, A3, c3, rfl, by go_num, by omega, by rw [HST.out]; exact hown4, HPR2, hb3.trans hb4⟩
    case measure => simp [intOf]; omega
  ·obtain rfl : j = q := by omega
   have k1 : ¬ (j : Int) < (j : Int) := by omega
   have HT := Lib.hid (show ok = true by
    rw [HOK.out]
    refine List.all_eq_true.mpr fun x hx => ?_
    obtain ⟨i, hi, e⟩ := List.mem_iff_getElem.1 hx
    exact HPR.out i x (by rw [HQ.out]; exact hi) (by rw [List.getElem?_eq_getElem hi, e]))
   rw [List.take_of_length_le (by rw [List.length_map, ← HQ.out]; exact Nat.le_refl _)] at hown
   have HI := Lib.hid hown.isd
   clear hown
   go_wp2_with fail
   go_ret2
   refine ⟨A2, j, c2, by rw [HT.out]; rfl, fun _ => ?_, hb.trans (hbr.mono hb.size)⟩
   have := HI.out
   rw [List.map_map] at this
   exact this
end Go.Proofs.YtdjpeimecfhdjaaGreat

namespace Go.Proofs.YtdjpeimecfhdjaaGreat
open Go.RowKit
def msD (ds : List Nat) : Nat → Nat
 | 0 => 1
 | k + 1 => msD ds k * (ds.getD k 1 - 1)
def msL (ls : List Nat) (a : Nat) : Nat → Nat
 | 0 => a
 | k + 1 => msL ls a k * (ls.getD k 1 + 1)
theorem IsD.nat {w : World} {A : Option Addr} {q c : Nat} {us : List Nat} (h : IsD w (fun _ => True) (.slice A q c) (us.map fun x : Nat => (x : Int))) {j : Nat} (hj : j < q) : ∃ b off, A = some ⟨b, off, none⟩ ∧ w.cell? ⟨b, off + j, none⟩ = some (.int .i64 (us.getD j 1 : Nat)) := by
 have hl := h.len
 rw [List.length_map] at hl
 obtain ⟨b, off, rfl, _, h2⟩ := h.at hj
 refine ⟨b, off, rfl, ?_⟩
 rw [h2]
 unfold gz List.getD
 rw [List.getElem?_map, List.getElem?_eq_getElem (by omega)]
 rfl
theorem getD_in {us : List Nat} (h : ∀ x ∈ us, 1 ≤ x ∧ x ≤ 2000) (k : Nat) : 1 ≤ us.getD k 1 ∧ us.getD k 1 ≤ 2000 := by
 unfold List.getD
 rcases Nat.lt_or_ge k us.length with h1 | h1
 ·rw [List.getElem?_eq_getElem h1]; exact h _ (List.getElem_mem h1)
 ·rw [List.getElem?_eq_none h1]; exact ⟨by decide, by decide⟩
set_option maxRecDepth 100000 in
set_option maxHeartbeats 4000000 in
theorem mass_any {w : World} {A1 A2 : Option Addr} {q1 c1 q2 c2 : Nat} {ds ls : List Nat} (h1 : IsD w (fun _ => True) (.slice A1 q1 c1) (ds.map fun x : Nat => (x : Int))) (h2 : IsD w (fun _ => True) (.slice A2 q2 c2) (ls.map fun x : Nat => (x : Int))) (hq1 : q1 ≤ 1000000) (hq2 : q2 ≤ 1000000)
  (p1 : ∀ x ∈ ds, 1 ≤ x ∧ x ≤ 2000) (p2 : ∀ x ∈ ls, 1 ≤ x ∧ x ≤ 2000) (b1 : ∀ k, k ≤ q1 → msD ds k ≤ 1000000000) (b2 : ∀ k, k ≤ q2 → msL ls (msD ds q1) k ≤ 1000000000) :
  Calls Tryz.prog 109 #[.slice A1 q1 c1, .slice A2 q2 c2] w fun e w' => e = .returned (.int .i64 (msL ls (msD ds q1) q2 : Nat)) ∧ w = w' := by
 have H1 := Lib.hid h1
 have H2 := Lib.hid h2
 have P1 := Lib.hid (getD_in p1)
 have P2 := Lib.hid (getD_in p2)
 have B1 := Lib.hid b1
 have B2 := Lib.hid b2
 clear h1 h2 p1 p2 b1 b2
 go_enter Tryz.func109, Tryz.ntmps109
 go_wp2_with fail
 go_loop [5, 12] (fun sv iv => ∃ k : Nat, sv = .int .i64 (msD ds k : Nat) ∧ iv = .int .i64 (k : Nat) ∧ k ≤ q1) (fun _ iv => q1 - (intOf iv).toNat)
 case atStart => exact ⟨0, rfl, rfl, Nat.zero_le _⟩
 case round =>
  obtain ⟨k, rfl, rfl, hk⟩ := hrel
  rcases Nat.lt_or_ge k q1 with hlt | hge
  ·obtain ⟨b, off, rfl, c0⟩ := H1.out.nat hlt
   obtain ⟨u1, u2⟩ := P1.out k
   have hb := B1.out k hk
   have hb' := B1.out (k + 1) hlt
   have HS := Lib.hid (show msD ds (k + 1) = msD ds k * (ds.getD k 1 - 1) from rfl)
   rw [HS.out] at hb'
   generalize ds.getD k 1 = u at *
   generalize msD ds k = a at *
   obtain ⟨v, hv⟩ : ∃ v, v = u - 1 := ⟨_, rfl⟩
   obtain ⟨m, hm⟩ : ∃ m, m = a * v := ⟨_, rfl⟩
   rw [← hv, ← hm] at hb'
   rw [← hv, ← hm] at HS
   have e1 : (u : Int) - 1 = (v : Int) := by omega
   have e2 : (a : Int) * (v : Int) = (m : Int) := by rw [hm, Int.natCast_mul]
   have k1 : (k : Int) < (q1 : Int) := by omega
   have k2 : (0 : Int) ≤ (k : Int) := by omega
   clear hv hm
   go_wp2_with fail
   go_round
   case rel => exact ⟨k + 1, by rw [HS.out], by go_num, by omega⟩
   case measure => simp [intOf]; omega
  ·obtain rfl : k = q1 := by omega
   have k1 : ¬ (k : Int) < (k : Int) := by omega
   obtain ⟨a, ha⟩ : ∃ a, a = msD ds k := ⟨_, rfl⟩
   rw [← ha] at B2 ⊢
   have HA := Lib.hid ha
   clear ha
   go_wp2_with fail
   go_loop [5, 23] (fun sv iv => ∃ j : Nat, sv = .int .i64 (msL ls a j : Nat) ∧ iv = .int .i64 (j : Nat) ∧ j ≤ q2) (fun _ iv => q2 - (intOf iv).toNat)
   case atStart => exact ⟨0, rfl, rfl, Nat.zero_le _⟩
   case round =>
    obtain ⟨j, rfl, rfl, hj⟩ := hrel
    rcases Nat.lt_or_ge j q2 with hlt | hge
    ·obtain ⟨b, off, rfl, c0⟩ := H2.out.nat hlt
     obtain ⟨u1, u2⟩ := P2.out j
     have hb := B2.out j hj
     have hb' := B2.out (j + 1) hlt
     have HS := Lib.hid (show msL ls a (j + 1) = msL ls a j * (ls.getD j 1 + 1) from rfl)
     rw [HS.out] at hb'
     generalize ls.getD j 1 = u at *
     generalize msL ls a j = x at *
     obtain ⟨v, hv⟩ : ∃ v, v = u + 1 := ⟨_, rfl⟩
     obtain ⟨m, hm⟩ : ∃ m, m = x * v := ⟨_, rfl⟩
     rw [← hv, ← hm] at hb'
     rw [← hv, ← hm] at HS
     have e1 : (u : Int) + 1 = (v : Int) := by omega
     have e2 : (x : Int) * (v : Int) = (m : Int) := by rw [hm, Int.natCast_mul]
     have k3 : (j : Int) < (q2 : Int) := by omega
     have k4 : (0 : Int) ≤ (j : Int) := by omega
     clear hv hm
     go_wp2_with fail
     go_round
     case rel => exact ⟨j + 1, by rw [HS.out], by go_num, by omega⟩
     case measure => simp [intOf]; omega
    ·obtain rfl : j = q2 := by omega
     have k3 : ¬ (j : Int) < (j : Int) := by omega
     go_wp2_with fail
     go_ret
     exact ⟨by rw [← HA.out]; rfl, rfl⟩
end Go.Proofs.YtdjpeimecfhdjaaGreat
