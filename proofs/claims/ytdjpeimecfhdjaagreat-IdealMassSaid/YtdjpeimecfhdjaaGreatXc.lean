/- The references' division of digits. The references' quotients, remainders and greatest common divisors. Package integer: quotients, remainders and greatest common divisors; package wide's quotient. -/
import Derived.Test.YtdjpeimecfhdjaaGreatXa
import Derived.Test.YtdjpeimecfhdjaaGreatXb
namespace Go.Proofs.YtdjpeimecfhdjaaGreat
open Go.RowKit
end Go.Proofs.YtdjpeimecfhdjaaGreat

namespace Go.Proofs.YtdjpeimecfhdjaaGreat
open Go.RowKit
theorem boxes2r2 (w : World) (a0 a1 b0 b1 : Value) : ∃ W P R S, W = (((w.alloc (.cells #[a0, a1] 40)).alloc (.cells #[b0, b1] 40)).alloc (.cells #[.bool false, .slice none 0 0] 40)).alloc (.cells #[.bool false, .slice none 0 0] 40) ∧
  P = w.heap.size + 1 ∧ R = w.heap.size + 1 + 1 ∧ S = w.heap.size + 1 + 1 + 1 ∧ Below w.heap.size w W ∧
  (W.cell? ⟨w.heap.size, 0, none⟩ = some a0 ∧ W.cell? ⟨w.heap.size, 1, none⟩ = some a1 ∧ W.cell? ⟨P, 0, none⟩ = some b0 ∧ W.cell? ⟨P, 1, none⟩ = some b1) ∧
  (W.cell? ⟨R, 0, none⟩ = some (.bool false) ∧ W.cell? ⟨R, 1, none⟩ = some (.slice none 0 0) ∧ W.cell? ⟨S, 0, none⟩ = some (.bool false) ∧ W.cell? ⟨S, 1, none⟩ = some (.slice none 0 0)) ∧
  (W.frozen? ⟨R, 0, none⟩ = false ∧ W.frozen? ⟨R, 1, none⟩ = false ∧ W.frozen? ⟨S, 0, none⟩ = false ∧ W.frozen? ⟨S, 1, none⟩ = false) ∧
  w.heap.size < W.heap.size ∧ P < W.heap.size ∧ R < W.heap.size ∧ S < W.heap.size ∧ R < S ∧ w.heap.size < R := by
 refine ⟨_, _, _, _, rfl, rfl, rfl, rfl, ((((Below.refl _ _).alloc (Nat.le_refl _) _).alloc (by simp) _).alloc (by simp; omega) _).alloc (by simp; omega) _, ⟨?_, ?_, ?_, ?_⟩, ⟨?_, ?_, ?_, ?_⟩, ⟨?_, ?_, ?_, ?_⟩, ?_, ?_, ?_, ?_, ?_, ?_⟩
 all_goals first | (simp; omega) | go_simp
theorem divmod_up {n1 n2 : Bool} {a b : Nat} (hb : 0 < b) (hn : n1 = true) (hr : a % b ≠ 0) : sg (n1 != n2) (a / b + 1) = sg n1 a / sg n2 b ∧ ((b - a % b : Nat) : Int) = sg n1 a % sg n2 b := by
 subst hn
 have h1 := Nat.mod_add_div a b
 have h2 := Nat.mod_lt a hb
 have e : ((a / b + 1 : Nat) : Int) * b = (a : Int) - (a % b : Nat) + b := by
  have : (a : Int) = (a % b : Nat) + (b : Int) * (a / b : Nat) := by rw [← Int.natCast_mul, ← Int.natCast_add, h1]
  rw [Int.natCast_add, Int.add_mul, Int.mul_comm ((a / b : Nat) : Int)]
  omega
 have key : (-(a : Int)) / (b : Int) = -((a / b + 1 : Nat) : Int) ∧ (-(a : Int)) % (b : Int) = ((b - a % b : Nat) : Int) := by
  rw [Int.ediv_emod_unique (by omega)]
  refine ⟨?_, by omega, by omega⟩
  rw [Int.mul_neg, Int.mul_comm, e]
  omega
 cases n2
 ·simp only [sg, Bool.true_bne, Bool.not_false, if_true]
  exact ⟨key.1.symm, key.2.symm⟩
 ·simp only [sg, Bool.true_bne, Bool.not_true, if_true]
  rw [Int.ediv_neg, Int.emod_neg, key.1, key.2]
  simp
theorem divmod_plain {n1 n2 : Bool} {a b : Nat} (hb : 0 < b) (hr : n1 = false ∨ a % b = 0) : sg (n1 != n2) (a / b) = sg n1 a / sg n2 b ∧ ((a % b : Nat) : Int) = sg n1 a % sg n2 b := by
 cases n1
 ·cases n2
  ·simp [sg]
  ·simp [sg, Int.ediv_neg, Int.emod_neg]
 ·have h0 : a % b = 0 := by rcases hr with h | h; cases h; exact h
  have h1 := Nat.mod_add_div a b
  rw [h0, Nat.zero_add] at h1
  have key : (-(a : Int)) / (b : Int) = -((a / b : Nat) : Int) ∧ (-(a : Int)) % (b : Int) = 0 := by
   rw [Int.ediv_emod_unique (by omega)]
   refine ⟨?_, by omega, by omega⟩
   rw [Int.mul_neg, ← Int.natCast_mul, h1]
   omega
  cases n2
  ·simp only [sg, Bool.true_bne, Bool.not_false, if_true, h0]
   exact ⟨key.1.symm, key.2.symm⟩
  ·simp only [sg, Bool.true_bne, Bool.not_true, if_true, h0]
   rw [Int.ediv_neg, Int.emod_neg, key.1, key.2]
   simp
def GivesDM (w : World) (q r : Int) (e : Ending) (w' : World) : Prop := ∃ v1 v2, e = .returned (.tuple #[v1, v2, .int .i64 0]) ∧ NIntV w' (w.heap.size ≤ ·) v1 q ∧ NIntV w' (w.heap.size ≤ ·) v2 r ∧ Below w.heap.size w w'
theorem dm_put {w W wL : World} {D : Nat → Prop} {v : Value} {q : Int} {R S : Nat} (h : NIntV wL D v q) (hD : ∀ b, D b → W.heap.size ≤ b) (hR : R < W.heap.size) (hS : S < W.heap.size) (hw : w.heap.size ≤ W.heap.size) (a b c d : Value) :
  NIntV ((((wL.setCell ⟨R, 0, none⟩ a).setCell ⟨R, 1, none⟩ b).setCell ⟨S, 0, none⟩ c).setCell ⟨S, 1, none⟩ d) (w.heap.size ≤ ·) v q := by
 have hr : ¬ D R := fun e => by have := hD R e; omega
 have hs : ¬ D S := fun e => by have := hD S e; omega
 exact ((((h.setCell (p := ⟨R, 0, none⟩) hr a).setCell (p := ⟨R, 1, none⟩) hr b).setCell (p := ⟨S, 0, none⟩) hs c).setCell (p := ⟨S, 1, none⟩) hs d).mono (fun k hk _ => by have := hD k hk; show w.heap.size ≤ k; omega)
end Go.Proofs.YtdjpeimecfhdjaaGreat

namespace Go.Proofs.YtdjpeimecfhdjaaGreat
open Go.RowKit
theorem wd_one1 (w : World) (D : Nat → Prop) (hd : D w.heap.size) : Wd (w.alloc (.cells #[.int .u32 1] 190)) D (some ⟨w.heap.size, 0, none⟩) 1 1 [1] := wd_one w D hd 1 (by omega)
theorem val_dig_w (m : Nat) : val 4294967296 (dig 4294967296 m) = m := val_dig (by omega) m
theorem dlw_le {m k : Nat} (h : m ≤ k) : (dig 4294967296 m).length ≤ (dig 4294967296 k).length := by
 have h1 := val_lt (dig_lt (b := 4294967296) (by omega) k)
 rw [val_dig (by omega)] at h1
 exact dig_length_le (by omega) (by omega)
theorem dlw_add (m k : Nat) : (dig 4294967296 (m + k)).length ≤ max (dig 4294967296 m).length (dig 4294967296 k).length + 1 := by
 have h1 := val_lt (dig_lt (b := 4294967296) (by omega) m)
 have h2 := val_lt (dig_lt (b := 4294967296) (by omega) k)
 rw [val_dig (by omega)] at h1 h2
 apply dig_length_le (by omega)
 have h3 : 4294967296 ^ (dig 4294967296 m).length ≤ 4294967296 ^ max (dig 4294967296 m).length (dig 4294967296 k).length := Nat.pow_le_pow_right (by omega) (by omega)
 have h4 : 4294967296 ^ (dig 4294967296 k).length ≤ 4294967296 ^ max (dig 4294967296 m).length (dig 4294967296 k).length := Nat.pow_le_pow_right (by omega) (by omega)
 rw [Nat.pow_succ]
 omega
theorem wd_dg {w : World} {A : Option Addr} {n c : Nat} {l : List Nat} {a : Nat} (h : Wd w (fun _ => True) A n c l) (e : trim l = dig 4294967296 a) : Wd w (fun _ => True) A (dig 4294967296 a).length (dig 4294967296 a).length (dig 4294967296 a) := by
 have := h.trim
 rw [e] at this
 exact this
set_option maxRecDepth 100000 in
set_option maxHeartbeats 4000000 in
theorem DivMod_any {D D' : Nat → Prop} {v v' : Value} {x y : Int} {w : World} (h : IntV w D v x) (h' : IntV w D' v' y) (hl : wl x.natAbs ≤ 900000000000) (hl' : wl y.natAbs ≤ 900000000000) (hy : y ≠ 0) :
  Calls Tryz.prog 150 #[v, v'] w (GivesDM w (x / y) (x % y)) := by
 replace h := h.t
 replace h' := h'.t
 obtain ⟨neg, A, n, c, l, rfl, h, rfl⟩ := h
 obtain ⟨neg', A', n', c', l', rfl, h', rfl⟩ := h'
 rw [sg_natAbs] at hl hl'
 unfold wl at hl hl'
 have hv : 0 < val 4294967296 l' := by
  rcases Nat.eq_zero_or_pos (val 4294967296 l') with h0 | h0
  ·rw [h0] at hy; exact absurd (show sg neg' 0 = 0 by unfold sg; split <;> rfl) hy
  ·exact h0
 clear hy
 have hV := trim_eq_dig (b := 4294967296) (by omega) h.small
 have hV' := trim_eq_dig (b := 4294967296) (by omega) h'.small
 generalize val 4294967296 l = a at *
 generalize val 4294967296 l' = b at *
 have HV := Lib.hid hv
 clear hv
 have hT := wd_dg h hV
 have hT' := wd_dg h' hV'
 have HA := Lib.hid hV
 have HB := Lib.hid hV'
 clear hV hV'
 have t1 : (((dig 4294967296 b).length : Int) == 0) = false := by
  have : (dig 4294967296 b).length ≠ 0 := fun e => by have := (dig_eq_nil (b := 4294967296) (by omega)).1 (List.eq_nil_of_length_eq_zero e); have := HV.out; omega
  simpa using this
 have hrl : (dig 4294967296 (a % b)).length ≤ (dig 4294967296 b).length := dlw_le (Nat.le_of_lt (Nat.mod_lt _ HV.out))
 have hql : (dig 4294967296 (a / b)).length ≤ (dig 4294967296 a).length := dlw_le (Nat.div_le_self _ _)
 obtain ⟨W, P, R, S, hW, hP, hR, hS, hbW, ⟨c0, c1, d0, d1⟩, ⟨r0, r1, s0, s1⟩, ⟨y0, y1, y2, y3⟩, lt0, lt1, lt2, lt3, lt4, lt5⟩ := boxes2r2 w (.bool neg) (.slice A n c) (.bool neg') (.slice A' n' c')
 have HWW := Lib.hid hW
 have HPP := Lib.hid hP
 have HRR := Lib.hid hR
 have HSS := Lib.hid hS
 clear hW hP hR hS
 have hcases : (neg = true ∧ a % b ≠ 0) ∨ (neg = true ∧ a % b = 0) ∨ neg = false := by cases neg <;> simp <;> omega
 rcases hcases with ⟨hneg, hr0⟩ | ⟨hneg, hr0⟩ | hneg
 ·have hpos : 0 < (dig 4294967296 (a % b)).length := by
   rcases Nat.eq_zero_or_pos (dig 4294967296 (a % b)).length with e | e
   ·exact absurd ((dig_eq_nil (b := 4294967296) (by omega)).1 (List.eq_nil_of_length_eq_zero e)) hr0
   ·exact e
  have hdm := divmod_up (n2 := neg') HV.out hneg hr0
  have HDM := Lib.hid hdm
  have hq2 := dlw_add (a / b) 1
  have hq3 : (dig 4294967296 1).length = 1 := by decide
  have HQ3 := Lib.hid hq3
  clear hdm hr0 hq3
  subst hneg
  go_enter Tryz.func150, Tryz.ntmps150
  go_wp2_with (first
   | (go_at_call 165; rw [← HWW.out, ← HSS.out, ← HRR.out, ← HPP.out]; go_must (with_reducible refine (size_any (h'.below hbW)).mono ?_); rintro e w1 ⟨rfl, hb1⟩; rw [HB.out]; have hd1 := hT'.below (hbW.trans (hb1.mono (Nat.le_of_lt lt0))); obtain ⟨q1, z1⟩ := bcell hb1)
   | (go_at_call 165; go_must (with_reducible refine (size_any (h.below (hbW.trans (hb1.mono (by omega))))).mono ?_); rintro e w2 ⟨rfl, hb2⟩; rw [HA.out]; have hB2 := hb1.trans (hb2.mono hb1.size); have hd2 := hT.below (hbW.trans (hB2.mono (Nat.le_of_lt lt0))); obtain ⟨q2, z2⟩ := bcell hB2)
   | (go_at_call 210; go_must (with_reducible refine (divide_any hd2 (hd1.below hb2) (trim_dig (by omega) _) (trim_dig (by omega) _) (by rw [val_dig (by omega)]; exact HV.out) (by omega)).mono ?_); rintro e w3 ⟨v3, v4, rfl, ⟨A3, k3, rfl, hd3⟩, ⟨A4, k4, rfl, hd4⟩, hb3⟩; simp only [val_dig_w] at hd3 hd4 ⊢; have hB3 := hB2.trans (hb3.mono hB2.size); obtain ⟨q3, z3⟩ := bcell hB3)
   | (go_at_call 211; go_must (with_reducible refine (plus_any (hd3.alloc _) (wd_one1 w3 (fun _ => True) trivial) (by omega) (by omega)).mono ?_); rintro e w5 ⟨v5, rfl, ⟨A5, k5, rfl, hd5⟩, hb5⟩; simp only [val_dig_w, val, Nat.mul_zero, Nat.add_zero] at hd5 ⊢)
   | (go_at_call 212; go_must (with_reducible refine (minus_any (((hd1.below (hb2.trans (hb3.mono hb2.size))).alloc _).below hb5) ((hd4.alloc _).below hb5) (by omega) (by rw [val_dig_w, val_dig_w]; exact Nat.le_of_lt (Nat.mod_lt _ HV.out))).mono ?_); rintro e w6 ⟨v6, rfl, ⟨A6, k6, rfl, hd6⟩, hb6⟩; simp only [val_dig_w] at hd6 ⊢; have hB6 : Below W.heap.size W w6 := (((hB3.alloc hB3.size _).trans (hb5.mono (by simp; have := hB3.size; omega))).trans (hb6.mono (by have := hB3.size; have := hb5.size; simp at this; omega))); obtain ⟨q6, z6⟩ := bcell hB6)
   | (go_at_call 146; ((with_reducible refine (made_any (hd5.below hb6) (by rw [trim_dig (by omega)]; have := HQ3.out; omega)).mono ?_)); rintro e w7 ⟨v7, rfl, ⟨A7, k7, rfl, hn7⟩, hb7⟩; simp only [val_dig_w] at hn7 ⊢; have hB7 := hB6.trans (hb7.mono hB6.size); have hBQ := hB6; obtain ⟨q7, z7⟩ := bcell hB7)
   | (go_at_call 146; go_must (with_reducible refine (made_any (hd6.below hb7) (by rw [trim_dig (by omega)]; have := dlw_le (Nat.sub_le b (a % b)); omega)).mono ?_); rintro e w8 ⟨v8, rfl, ⟨A8, k8, rfl, hn8⟩, hb8⟩; simp only [val_dig_w] at hn8 ⊢; have hB8 := hB7.trans (hb8.mono hB7.size); obtain ⟨q8, z8⟩ := bcell hB8))
  have k0 := (q8 R 0 lt2).trans r0
  have k1 := (q8 R 1 lt2).trans r1
  have k2 := (q8 S 0 lt3).trans s0
  have k3 := (q8 S 1 lt3).trans s1
  refine bodyPost_ret (v := .tuple #[.agg #[.bool _, .slice A7 _ k7], .agg #[.bool _, .slice A8 _ k8], .int .i64 0]) (by simp [results, Tryz.results150, go_sem, k0, k1, k2, k3]; exact ⟨⟨rfl, rfl⟩, rfl, rfl⟩) rfl ⟨_, _, rfl, ?_, ?_, ?_⟩
  ·have hn : NIntV w7 _ _ _ := ⟨A7, k7, rfl, hn7⟩
   exact (dm_put (hn.below hb8) (fun b hb => Nat.le_trans hBQ.size hb) lt2 lt3 (Nat.le_of_lt lt0) _ _ _ _).cast (by have := HDM.out.1; simpa using this)
  ·have hn : NIntV w8 _ _ _ := ⟨A8, k8, rfl, hn8⟩
   exact (dm_put hn (fun b hb => Nat.le_trans hB7.size hb) lt2 lt3 (Nat.le_of_lt lt0) _ _ _ _).cast (by rw [← HDM.out.2]; rfl)
  ·exact ((((hbW.trans (hB8.mono (Nat.le_of_lt lt0))).setCell (by show w.heap.size ≤ R; omega) _).setCell (by show w.heap.size ≤ R; omega) _).setCell (by show w.heap.size ≤ S; omega) _).setCell (by show w.heap.size ≤ S; omega) _
 ·have hpos : (dig 4294967296 (a % b)).length ≤ 0 := by rw [hr0]; exact Nat.le_refl _
  have hdm := divmod_plain (n2 := neg') (n1 := neg) HV.out (.inr hr0)
  have HDM := Lib.hid hdm
  clear hdm hr0
  subst hneg
  go_enter Tryz.func150, Tryz.ntmps150
  go_wp2_with (first
   | (go_at_call 165; rw [← HWW.out, ← HSS.out, ← HRR.out, ← HPP.out]; go_must (with_reducible refine (size_any (h'.below hbW)).mono ?_); rintro e w1 ⟨rfl, hb1⟩; rw [HB.out]; have hd1 := hT'.below (hbW.trans (hb1.mono (Nat.le_of_lt lt0))); obtain ⟨q1, z1⟩ := bcell hb1)
   | (go_at_call 165; go_must (with_reducible refine (size_any (h.below (hbW.trans (hb1.mono (by omega))))).mono ?_); rintro e w2 ⟨rfl, hb2⟩; rw [HA.out]; have hB2 := hb1.trans (hb2.mono hb1.size); have hd2 := hT.below (hbW.trans (hB2.mono (Nat.le_of_lt lt0))); obtain ⟨q2, z2⟩ := bcell hB2)
   | (go_at_call 210; go_must (with_reducible refine (divide_any hd2 (hd1.below hb2) (trim_dig (by omega) _) (trim_dig (by omega) _) (by rw [val_dig (by omega)]; exact HV.out) (by omega)).mono ?_); rintro e w3 ⟨v3, v4, rfl, ⟨A3, k3, rfl, hd3⟩, ⟨A4, k4, rfl, hd4⟩, hb3⟩; simp only [val_dig_w] at hd3 hd4 ⊢; have hB3 := hB2.trans (hb3.mono hB2.size); obtain ⟨q3, z3⟩ := bcell hB3)
   | (go_at_call 146; ((with_reducible refine (made_any hd3 (by rw [trim_dig (by omega)]; omega)).mono ?_)); rintro e w7 ⟨v7, rfl, ⟨A7, k7, rfl, hn7⟩, hb7⟩; simp only [val_dig_w] at hn7 ⊢; have hB7 := hB3.trans (hb7.mono hB3.size); have hBQ := hB3; obtain ⟨q7, z7⟩ := bcell hB7)
   | (go_at_call 146; go_must (with_reducible refine (made_any (hd4.below hb7) (by rw [trim_dig (by omega)]; omega)).mono ?_); rintro e w8 ⟨v8, rfl, ⟨A8, k8, rfl, hn8⟩, hb8⟩; simp only [val_dig_w] at hn8 ⊢; have hB8 := hB7.trans (hb8.mono hB7.size); obtain ⟨q8, z8⟩ := bcell hB8))
  have k0 := (q8 R 0 lt2).trans r0
  have k1 := (q8 R 1 lt2).trans r1
  have k2 := (q8 S 0 lt3).trans s0
  have k3 := (q8 S 1 lt3).trans s1
  refine bodyPost_ret (v := .tuple #[.agg #[.bool _, .slice A7 _ k7], .agg #[.bool _, .slice A8 _ k8], .int .i64 0]) (by simp [results, Tryz.results150, go_sem, k0, k1, k2, k3]; exact ⟨⟨rfl, rfl⟩, rfl, rfl⟩) rfl ⟨_, _, rfl, ?_, ?_, ?_⟩
  ·have hn : NIntV w7 _ _ _ := ⟨A7, k7, rfl, hn7⟩
   exact (dm_put (hn.below hb8) (fun b hb => Nat.le_trans hBQ.size hb) lt2 lt3 (Nat.le_of_lt lt0) _ _ _ _).cast (by have := HDM.out.1; simpa using this)
  ·have hn : NIntV w8 _ _ _ := ⟨A8, k8, rfl, hn8⟩
   exact (dm_put hn (fun b hb => Nat.le_trans hB7.size hb) lt2 lt3 (Nat.le_of_lt lt0) _ _ _ _).cast (by rw [← HDM.out.2]; rfl)
  ·exact ((((hbW.trans (hB8.mono (Nat.le_of_lt lt0))).setCell (by show w.heap.size ≤ R; omega) _).setCell (by show w.heap.size ≤ R; omega) _).setCell (by show w.heap.size ≤ S; omega) _).setCell (by show w.heap.size ≤ S; omega) _
 ·have hdm := divmod_plain (n2 := neg') (n1 := neg) (a := a) HV.out (.inl hneg)
  have HDM := Lib.hid hdm
  clear hdm
  subst hneg
  go_enter Tryz.func150, Tryz.ntmps150
  go_wp2_with (first
   | (go_at_call 165; rw [← HWW.out, ← HSS.out, ← HRR.out, ← HPP.out]; go_must (with_reducible refine (size_any (h'.below hbW)).mono ?_); rintro e w1 ⟨rfl, hb1⟩; rw [HB.out]; have hd1 := hT'.below (hbW.trans (hb1.mono (Nat.le_of_lt lt0))); obtain ⟨q1, z1⟩ := bcell hb1)
   | (go_at_call 165; go_must (with_reducible refine (size_any (h.below (hbW.trans (hb1.mono (by omega))))).mono ?_); rintro e w2 ⟨rfl, hb2⟩; rw [HA.out]; have hB2 := hb1.trans (hb2.mono hb1.size); have hd2 := hT.below (hbW.trans (hB2.mono (Nat.le_of_lt lt0))); obtain ⟨q2, z2⟩ := bcell hB2)
   | (go_at_call 210; go_must (with_reducible refine (divide_any hd2 (hd1.below hb2) (trim_dig (by omega) _) (trim_dig (by omega) _) (by rw [val_dig (by omega)]; exact HV.out) (by omega)).mono ?_); rintro e w3 ⟨v3, v4, rfl, ⟨A3, k3, rfl, hd3⟩, ⟨A4, k4, rfl, hd4⟩, hb3⟩; simp only [val_dig_w] at hd3 hd4 ⊢; have hB3 := hB2.trans (hb3.mono hB2.size); obtain ⟨q3, z3⟩ := bcell hB3)
   | (go_at_call 146; ((with_reducible refine (made_any hd3 (by rw [trim_dig (by omega)]; omega)).mono ?_)); rintro e w7 ⟨v7, rfl, ⟨A7, k7, rfl, hn7⟩, hb7⟩; simp only [val_dig_w] at hn7 ⊢; have hB7 := hB3.trans (hb7.mono hB3.size); have hBQ := hB3; obtain ⟨q7, z7⟩ := bcell hB7)
   | (go_at_call 146; go_must (with_reducible refine (made_any (hd4.below hb7) (by rw [trim_dig (by omega)]; omega)).mono ?_); rintro e w8 ⟨v8, rfl, ⟨A8, k8, rfl, hn8⟩, hb8⟩; simp only [val_dig_w] at hn8 ⊢; have hB8 := hB7.trans (hb8.mono hB7.size); obtain ⟨q8, z8⟩ := bcell hB8))
  have k0 := (q8 R 0 lt2).trans r0
  have k1 := (q8 R 1 lt2).trans r1
  have k2 := (q8 S 0 lt3).trans s0
  have k3 := (q8 S 1 lt3).trans s1
  refine bodyPost_ret (v := .tuple #[.agg #[.bool _, .slice A7 _ k7], .agg #[.bool _, .slice A8 _ k8], .int .i64 0]) (by simp [results, Tryz.results150, go_sem, k0, k1, k2, k3]; exact ⟨⟨rfl, rfl⟩, rfl, rfl⟩) rfl ⟨_, _, rfl, ?_, ?_, ?_⟩
  ·have hn : NIntV w7 _ _ _ := ⟨A7, k7, rfl, hn7⟩
   exact (dm_put (hn.below hb8) (fun b hb => Nat.le_trans hBQ.size hb) lt2 lt3 (Nat.le_of_lt lt0) _ _ _ _).cast (by have := HDM.out.1; simpa using this)
  ·have hn : NIntV w8 _ _ _ := ⟨A8, k8, rfl, hn8⟩
   exact (dm_put hn (fun b hb => Nat.le_trans hB7.size hb) lt2 lt3 (Nat.le_of_lt lt0) _ _ _ _).cast (by rw [← HDM.out.2]; rfl)
  ·exact ((((hbW.trans (hB8.mono (Nat.le_of_lt lt0))).setCell (by show w.heap.size ≤ R; omega) _).setCell (by show w.heap.size ≤ R; omega) _).setCell (by show w.heap.size ≤ S; omega) _).setCell (by show w.heap.size ≤ S; omega) _
set_option maxHeartbeats 1000000 in
theorem wQuo_any {D D' : Nat → Prop} {v v' : Value} {x y : Int} {w : World} (h : IntV w D v x) (h' : IntV w D' v' y) (hl : wl x.natAbs ≤ 900000000000) (hl' : wl y.natAbs ≤ 900000000000) (hy : y ≠ 0) :
  Calls Tryz.prog 133 #[v, v'] w (Gives w fun w' v => NIntV w' (w.heap.size ≤ ·) v (x / y)) := by
 have hdm := fun w' (hb : Below w.heap.size w w') => DivMod_any (h.below hb) (h'.below hb) hl hl' hy
 generalize hq : x / y = q at *
 generalize hr : x % y = r at *
 have HDM := Lib.hid hdm
 clear hdm hq hr hy hl hl'
 obtain ⟨neg, A, n, c, l, rfl, h, hx⟩ := h
 obtain ⟨neg', A', n', c', l', rfl, h', hy⟩ := h'
 clear hx hy
 obtain ⟨W, P, R, hW, hP, hR, hbW, HR, c0, c1, d0, d1, hlt, hlt2⟩ := boxes2 w (.bool neg) (.slice A n c) (.bool neg') (.slice A' n' c')
 have HWW := Lib.hid hW
 have HPP := Lib.hid hP
 have HRR := Lib.hid hR
 clear hW hP hR
 go_enter Tryz.func133, Tryz.ntmps133
 go_wp2_with (go_at_call 150; rw [← HWW.out, ← HRR.out, ← HPP.out]; go_must (refine (HDM.out _ hbW).mono ?_); rintro e w2 ⟨v2, v3, rfl, ⟨A2, c2, rfl, hwd2⟩, ⟨A3, c3, rfl, hwd3⟩, hb2⟩; have hh1 := Held.self HR.out; have hl2 := hh1.lt; have hh := (Held.call hb2 hh1).2; obtain ⟨u0, u1, hr0, hr1, hf0, hf1⟩ := hh.cells; have hlt3 := hh.lt)
 refine bodyPost_ret (v := .agg #[.bool _, .slice A2 _ c2]) (by simp [results, Tryz.results133, go_sem, hr0, hr1, hlt3]; exact ⟨rfl, rfl⟩) rfl ⟨_, rfl, ?_, ?_⟩
 ·exact (nint_put (w := w) hl2 hwd2 (by omega) _ _).below (((Below.refl _ _).alloc (Nat.le_refl _) _).alloc (by simp) _)
 ·have hp := hh.put hbW (Nat.le_of_lt hlt) (.bool (decide (q < 0))) (.slice A2 (wl q.natAbs) c2)
  exact (hp.alloc hp.size _).alloc (by have := hp.size; simp at this ⊢; omega) _
set_option maxRecDepth 100000 in
set_option maxHeartbeats 2000000 in
theorem Gcd_any {D D' : Nat → Prop} {v v' : Value} {x y : Int} {w : World} (h : IntV w D v x) (h' : IntV w D' v' y) (hl : wl x.natAbs ≤ 900000000000) (hl' : wl y.natAbs ≤ 900000000000) :
  Calls Tryz.prog 162 #[v, v'] w (Gives w fun w' v => NIntV w' (w.heap.size ≤ ·) v (Int.gcd x y : Int)) := by
 replace h := h.t
 replace h' := h'.t
 obtain ⟨neg, A, n, c, l, rfl, h, rfl⟩ := h
 obtain ⟨neg', A', n', c', l', rfl, h', rfl⟩ := h'
 rw [sg_natAbs] at hl hl'
 unfold wl at hl hl'
 have hg : ((Int.gcd (sg neg (val 4294967296 l)) (sg neg' (val 4294967296 l')) : Nat) : Int) = (Nat.gcd (val 4294967296 l) (val 4294967296 l') : Nat) := by unfold Int.gcd; rw [sg_natAbs, sg_natAbs]
 rw [hg]
 clear hg
 have hV := trim_eq_dig (b := 4294967296) (by omega) h.small
 have hV' := trim_eq_dig (b := 4294967296) (by omega) h'.small
 generalize val 4294967296 l = a at *
 generalize val 4294967296 l' = b at *
 have hT := wd_dg h hV
 have hT' := wd_dg h' hV'
 have HA := Lib.hid hV
 have HB := Lib.hid hV'
 clear hV hV'
 go_enter Tryz.func162, Tryz.ntmps162
 go_wp2_with fail
 obtain ⟨W, P, R, hW, hP, hR, hbW, HR, c0, c1, d0, d1, hlt, hlt2⟩ := boxes2 w (.bool neg) (.slice A n c) (.bool neg') (.slice A' n' c')
 rw [← hW, ← hR, ← hP]
 clear hW hP hR
 go_region_held3 (fun w' => (∀ b o, b < R → w'.cell? ⟨b, o, none⟩ = W.cell? ⟨b, o, none⟩) ∧ Held R W w')
  (first | exact Held.init _ _ HR.out | (go_split_ands; exact Held.call (by assumption) (by assumption)) | (go_split_ands; exact Held.again (by assumption)) | (go_split_ands; exact Held.store (by assumption) _ _))
  (first
   | (go_at_call 165; go_split_ands; ((with_reducible refine (size_any (h.below (Held.from (R := R) (W := W) (by assumption) hbW (by omega)))).mono ?_)); rintro e w1 ⟨rfl, hb1⟩; rw [HA.out])
   | (go_at_call 165; go_split_ands; ((with_reducible refine (size_any (h'.below (Held.from (R := R) (W := W) (by assumption) hbW (by omega)))).mono ?_)); rintro e w2 ⟨rfl, hb2⟩; rw [HB.out]))
 go_split_ands
 have hh2 : Held R W w2 := by assumption
 have hB2 : Below w.heap.size w w2 := Held.from (R := R) (W := W) (by assumption) hbW (by omega)
 have hdA := hT.below hB2
 have hdB := hT'.below hB2
 clear hT hT' h h' hb1 hb2
 go_wp2_with fail
 go_loopg [5, 6] b (fun y p q wr => ∃ (x : Nat) (A3 A4 : Option Addr) (c3 c4 : Nat), p = .slice A3 (dig 4294967296 x).length c3 ∧ q = .slice A4 (dig 4294967296 y).length c4 ∧ Wd wr (fun _ => True) A3 (dig 4294967296 x).length c3 (dig 4294967296 x) ∧ Wd wr (fun _ => True) A4 (dig 4294967296 y).length c4 (dig 4294967296 y) ∧
   Hid (Nat.gcd x y = Nat.gcd a b) ∧ (dig 4294967296 x).length ≤ 900000000000 ∧ (dig 4294967296 y).length ≤ 900000000000 ∧ Below w2.heap.size w2 wr)
 case atStart =>
  exact ⟨a, A, A', _, _, rfl, rfl, hdA, hdB, rfl, by omega, by omega, Below.refl _ _⟩
 case round =>
  obtain ⟨x, A3, A4, c3, c4, rfl, rfl, hx, hy, hgcd, hlx, hly, hbr⟩ := hrel
  obtain ⟨rr, hh3⟩ := Held.call hbr hh2
  rcases Nat.eq_zero_or_pos gk with h0 | h0
  ·subst h0
   have e0 : (dig 4294967296 0).length = 0 := rfl
   rw [e0]
   clear e0
   go_wp2_with (go_at_call 146; go_must (refine (made_any hx (by rw [trim_dig (by omega)]; omega)).mono ?_); rintro e w3 ⟨v3, rfl, ⟨A5, c5, rfl, hwd2⟩, hb2⟩; simp only [val_dig_w] at hwd2 ⊢; have hl2 := hh3.lt; have hh := (Held.call hb2 hh3).2; obtain ⟨u0, u1, hr0, hr1, hf0, hf1⟩ := hh.cells)
   refine bodyPost_ret (v := .agg #[.bool _, .slice A5 _ c5]) (by simp [results, Tryz.results162, go_sem, hr0, hr1]; exact ⟨rfl, rfl⟩) rfl ⟨_, rfl, ?_, hh.put hbW (Nat.le_of_lt hlt) _ _⟩
   exact (nint_put (w := w) hl2 hwd2 (by omega) _ _).cast (by have := hgcd.out; rw [Nat.gcd_zero_right] at this; rw [this]; rfl)
  ·have hpos : 0 < (dig 4294967296 gk).length := by
    rcases Nat.eq_zero_or_pos (dig 4294967296 gk).length with e | e
    ·exact absurd ((dig_eq_nil (b := 4294967296) (by omega)).1 (List.eq_nil_of_length_eq_zero e)) (by omega)
    ·exact e
   have H0 := Lib.hid h0
   clear h0
   go_wp2_with (go_at_call 210; go_must (with_reducible refine (divide_any hx hy (trim_dig (by omega) _) (trim_dig (by omega) _) (by rw [val_dig_w]; exact H0.out) hlx).mono ?_); rintro e w3 ⟨v3, v4, rfl, ⟨A5, k5, rfl, hd5⟩, ⟨A6, k6, rfl, hd6⟩, hb3⟩; simp only [val_dig_w] at hd5 hd6 ⊢)
   go_roundg (x % gk)
   case measure => exact Nat.mod_lt _ H0.out
   case rel =>
    refine ⟨gk, A4, A6, c4, k6, rfl, rfl, hy.below hb3, hd6, ?_, hly, ?_, hbr.trans (hb3.mono hbr.size)⟩
    ·show _ = _
     rw [← hgcd.out, Nat.gcd_comm, ← Nat.gcd_rec, Nat.gcd_comm]
    ·have := dlw_le (Nat.le_of_lt (Nat.mod_lt x H0.out))
     omega
end Go.Proofs.YtdjpeimecfhdjaaGreat
