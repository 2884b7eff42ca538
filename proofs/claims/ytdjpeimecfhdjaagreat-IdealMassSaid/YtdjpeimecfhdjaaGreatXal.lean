/- Class numbers (plain): the sum over b, then a, and the sum over a, then b, are one. Plain: the numbers behind the trace: exponents, the Jacobi symbol step by step, the conductor, the class numbers that are changed at a prime. Package brandt, package integer: gcd, lowest, rowSum, RowSum, valuation, mod, jacobi. Plain: weights of classes as integers (Eisenstein). Package brandt: Eisenstein. Package brandt: Eisenstein of a list that is refused. The reference's CheckEisenstein. The reference's Eisenstein, RowSum. Equal lists (Ints). -/
import Derived.Lib.Hide
import Derived.Test.YtdjpeimecfhdjaaGreatXac
import Derived.Test.YtdjpeimecfhdjaaGreatXf
import Derived.Test.YtdjpeimecfhdjaaGreatXi
import Derived.Test.YtdjpeimecfhdjaaGreatXk
namespace Go.Proofs.YtdjpeimecfhdjaaGreat
end Go.Proofs.YtdjpeimecfhdjaaGreat

namespace Go.Proofs.YtdjpeimecfhdjaaGreat
open Go.RowKit
def vaF : Nat → Nat → Nat → Nat × Nat
 | 0, n, _ => (0, n)
 | f + 1, n, p => if n % p = 0 then ((vaF f (n / p) p).1 + 1, (vaF f (n / p) p).2) else (0, n)
end Go.Proofs.YtdjpeimecfhdjaaGreat

namespace Go.Proofs.YtdjpeimecfhdjaaGreat
open Go.RowKit
theorem tmodB (x y : Nat) : (x : Int).tmod (y : Int) = ((x % y : Nat) : Int) := by
 rw [Int.tmod_eq_emod_of_nonneg (by omega)]; rfl
theorem tdivB (x y : Nat) : (x : Int).tdiv (y : Int) = ((x / y : Nat) : Int) := by
 rw [Int.tdiv_eq_ediv_of_nonneg (by omega)]; rfl
theorem btrN {w w' w'' : World} (h : Below w.heap.size w w') (h2 : Below w'.heap.size w' w'') : Below w.heap.size w w'' := h.trans (h2.mono h.size)
def lwBN (k d : Int) : Int := k / (Int.gcd k d : Int)
def lwBD (k d : Int) : Int := d / (Int.gcd k d : Int)
theorem va_succ (f n p : Nat) : vaF (f + 1) n p = if n % p = 0 then ((vaF f (n / p) p).1 + 1, (vaF f (n / p) p).2) else (0, n) := rfl
theorem va_pos : ∀ (f n p : Nat), 2 ≤ p → 0 < n → 0 < (vaF f n p).2 ∧ (vaF f n p).2 ≤ n ∧ (vaF f n p).1 ≤ n
 | 0, n, p, hp, hn => ⟨hn, Nat.le_refl _, Nat.zero_le _⟩
 | f + 1, n, p, hp, hn => by
  by_cases h : n % p = 0
  ·have e : vaF (f + 1) n p = ((vaF f (n / p) p).1 + 1, (vaF f (n / p) p).2) := by rw [va_succ, if_pos h]
   have hpos : 0 < n / p := Nat.div_pos (Nat.le_of_dvd hn (Nat.dvd_of_mod_eq_zero h)) (by omega)
   have hlt : n / p < n := Nat.div_lt_self hn (by omega)
   obtain ⟨h1, h2, h3⟩ := va_pos f (n / p) p hp hpos
   rw [e]
   exact ⟨h1, by simp only; omega, by simp only; omega⟩
  ·have e : vaF (f + 1) n p = (0, n) := by rw [va_succ, if_neg h]
   rw [e]
   exact ⟨hn, Nat.le_refl _, Nat.zero_le _⟩
theorem va_step {f n p : Nat} (h : n % p = 0) : vaF (f + 1) n p = ((vaF f (n / p) p).1 + 1, (vaF f (n / p) p).2) := by rw [va_succ, if_pos h]
theorem va_end {f n p : Nat} (h : n % p ≠ 0) : vaF (f + 1) n p = (0, n) := by rw [va_succ, if_neg h]
set_option maxHeartbeats 1000000 in
theorem valuation_any {n p : Nat} {w : World} (hn : 0 < n) (hn2 : n ≤ 1000000000000000000) (hp : 2 ≤ p) (hp2 : p ≤ 1000000000000000000) :
  Calls Tryz.prog 195 #[.int .i64 n, .int .i64 p] w fun e w' => e = .returned (.tuple #[.int .i64 ((vaF n n p).1 : Nat), .int .i64 ((vaF n n p).2 : Nat)]) ∧ Below w.heap.size w w' := by
 have d0 : ((p : Int) == 0) = false := by rw [beq_eq_false_iff_ne]; omega
 have d1 : ((p : Int) == -1) = false := by rw [beq_eq_false_iff_ne]; omega
 have dn0 : ¬ (p : Int) = 0 := by omega
 have hp0 : 0 < p := by omega
 go_enter Tryz.func195, Tryz.ntmps195
 go_wp2_with fail
 go_loopw [0, 6] (fun mv kv wr => ∃ m k f : Nat, mv = .int .i64 m ∧ kv = .int .i64 k ∧ 0 < m ∧ m ≤ f ∧ m + k ≤ n ∧ Hid ((vaF n n p).1 = k + (vaF f m p).1 ∧ (vaF n n p).2 = (vaF f m p).2) ∧ Below w.heap.size w wr) (fun mv _ _ => (intOf mv).toNat)
 case atStart => exact ⟨n, 0, n, rfl, rfl, hn, Nat.le_refl _, by omega, Lib.hid ⟨by omega, rfl⟩, Below.refl _ _⟩
 case round =>
  obtain ⟨m, k, f, rfl, rfl, hm, hf, hmk, HE, hbr⟩ := hrel
  obtain ⟨f, rfl⟩ : ∃ g, f = g + 1 := ⟨f - 1, by omega⟩
  have HT := Lib.hid (tmodB m p)
  have HD := Lib.hid (tdivB m p)
  by_cases h : m % p = 0
  ·have hlt : m / p < m := Nat.div_lt_self hm (by omega)
   have hpos : 0 < m / p := Nat.div_pos (Nat.le_of_dvd hm (Nat.dvd_of_mod_eq_zero h)) hp0
   have t1 : ((m : Int).tmod (p : Int) == 0) = true := by rw [HT.out, h]; rfl
   have t2 : ((m : Int) % (p : Int) == 0) = true := by rw [← Int.natCast_emod, h]; rfl
   have HS := Lib.hid (show (vaF n n p).1 = (k + 1) + (vaF f (m / p) p).1 ∧ (vaF n n p).2 = (vaF f (m / p) p).2 by
    have := HE.out
    rw [va_step h] at this
    exact ⟨by rw [this.1]; simp only; omega, this.2⟩)
   clear HE h
   go_wp2_with fail
   go_roundw
   case rel => exact ⟨m / p, k + 1, f, by first | (rw [Int.natCast_ediv]) | (rw [HD.out]) | rfl, by first | (rw [Int.natCast_succ]) | rfl, hpos, by omega, by omega, HS, hbr⟩
   case measure => simp [intOf]; omega
  ·have t1 : ((m : Int).tmod (p : Int) == 0) = false := by rw [HT.out, beq_eq_false_iff_ne]; omega
   have t2 : ((m : Int) % (p : Int) == 0) = false := by rw [← Int.natCast_emod, beq_eq_false_iff_ne]; omega
   have HS := Lib.hid (show (vaF n n p).1 = k ∧ (vaF n n p).2 = m by
    have := HE.out
    rw [va_end h] at this
    exact ⟨this.1, this.2⟩)
   clear HE h
   go_wp2_with fail
   go_ret2
   exact ⟨by rw [HS.out.1, HS.out.2]; rfl, hbr⟩
end Go.Proofs.YtdjpeimecfhdjaaGreat

namespace Go.Proofs.YtdjpeimecfhdjaaGreat
end Go.Proofs.YtdjpeimecfhdjaaGreat

namespace Go.Proofs.YtdjpeimecfhdjaaGreat
open Go.RowKit
def nz (l : List Nat) : List Value := l.map fun x : Nat => .int .i64 (x : Nat)
theorem nz_snoc (l : List Nat) (y : Nat) : nz (l ++ [y]) = nz l ++ [.int .i64 (y : Nat)] := by simp [nz]
def OwnZ (w : World) (base : Nat) (v : Value) (l : List Nat) : Prop := w.ownsRow base 3 1 v l.length (nz l)
section
variable {w w' : World} {base : Nat} {v : Value} {l : List Nat}
theorem OwnZ.nil (w : World) (base : Nat) : OwnZ w base (.slice none 0 0) [] := World.ownsRow_nil _ _ _ _
theorem OwnZ.slice (h : OwnZ w base v l) : ∃ A c, v = .slice A l.length c ∧ l.length ≤ c ∧ c ≤ maxLen := own_slice h
theorem OwnZ.isd (h : OwnZ w base v l) : IsD w (fun _ => True) v (l.map fun x : Nat => (x : Int)) := by
 obtain ⟨A, c, rfl, h1, h2⟩ := h.slice
 refine ⟨A, c, by simp, by simpa using h1, h2, fun hn => ?_⟩
 rw [List.length_map] at hn
 obtain ⟨g, cap, e, _, _, _, _, hc⟩ := own_cells h hn
 injection e with e1 e2 e3
 subst e1
 refine ⟨g, 0, rfl, trivial, fun j hj => ?_⟩
 rw [List.length_map] at hj
 rw [Nat.zero_add]
 refine hc j _ ?_
 unfold nz
 rw [List.getElem?_map, List.getElem?_eq_getElem hj]
 unfold gz List.getD
 rw [List.getElem?_map, List.getElem?_eq_getElem hj]
 rfl
end
section
variable (w0 : World)
theorem info_intz : (Tryz.prog.info? 3).map (fun i => (i.zero, i.size, i.bytes)) = some (some (.int .i64 0), 1, 8) := by kernel_rfl
theorem wpList_pushZ {ops : Array Oper} {rest : List Oper} {o : Oper} {a : Act} {Q : Exit → Act → World → Prop} (hgd : o.guard = none) (s x : Operand)
  (ho : o.op = .call { callee := .builtin .append, args := #[s, x], argTypes := #[48, 48] })
  (base : Nat) (v : Value) (l : List Nat) (n : Nat) (hln : l.length = n) (hs : a.eval s = v) (hown : OwnZ w0 base v l)
  (y : Nat) (k : Int) (hk : k = (y : Int)) (hx : a.eval x = .slice (some ⟨w0.heap.size, 0, none⟩) 1 1) (h63 : n + 1 ≤ 1000000000) (hbase : base ≤ w0.heap.size)
  (h : ∀ A' c' w', OwnZ w' base (.slice A' (n + 1) c') (l ++ [y]) → Below base w0 w' → wpList Tryz.prog ops Q rest (a.put o.dst (.slice A' (n + 1) c')) w') :
  wpList Tryz.prog ops Q (o :: rest) a (w0.alloc (.cells #[.int .i64 k] 3)) := by
 subst hk hln
 refine wpList_app _ hgd s x 48 48 ho base 3 3 (.int .i64 0) 1 8 Tryz.underlying48 Tryz.underlying48 info_intz rfl (by omega) v l.length (nz l) hs (World.ownsRow.alloc hown _) _ 1 1 [.int .i64 (y : Int)] hx (src_block (heap_alloc_new w0 _) 1 1 rfl) (by simp [Value.oneCell']) (by unfold maxLen; omega) (by omega) (by simp; omega) ?_
 intro v' w' hown' hg hob
 obtain ⟨A', c', rfl, _, _⟩ := own_slice hown'
 have hb1 : Below base w0 (w0.alloc (.cells #[.int .i64 (y : Int)] 3)) := (Below.refl _ _).alloc hbase _
 have hb2 : Below base (w0.alloc (.cells #[.int .i64 (y : Int)] 3)) w' := (Below.refl _ _).grown hg (by simp; omega) (fun k hk => (World.ownsRow.lt hown k hk).1)
 refine h A' c' w' ?_ (hb1.trans hb2)
 unfold OwnZ; rw [nz_snoc, List.length_append]; exact hown'
end
end Go.Proofs.YtdjpeimecfhdjaaGreat

namespace Go.Proofs.YtdjpeimecfhdjaaGreat
open Go.RowKit
end Go.Proofs.YtdjpeimecfhdjaaGreat

namespace Go.Proofs.YtdjpeimecfhdjaaGreat
open Go.RowKit
theorem bAbs_any {w : World} (t : Int) (h1 : -9000000000000000000 ≤ t) (h2 : t ≤ 9000000000000000000) : Calls Tryz.prog 35 #[.int .i64 t] w fun e w' => e = .returned (.int .i64 (t.natAbs : Int)) ∧ w = w' := by
 have hw : IntKind.i64.wrap (-t) = -t := IntWalk.i64_in _ (by omega)
 by_cases h : t < 0
 ·have hd : decide (t < 0) = true := decide_eq_true h
  have e : ((t.natAbs : Nat) : Int) = -t := by omega
  rw [e]
  clear e
  go_enter Tryz.func35, Tryz.ntmps35
  go_wp2_with fail
  go_ret
  exact ⟨rfl, rfl⟩
 ·have hd : decide (t < 0) = false := decide_eq_false h
  have e : ((t.natAbs : Nat) : Int) = t := by omega
  rw [e]
  clear e
  go_enter Tryz.func35, Tryz.ntmps35
  go_wp2_with fail
  go_ret
  exact ⟨rfl, rfl⟩
theorem gcd_stepI (x y : Int) : Int.gcd y (x.tmod y) = Int.gcd x y := by
 rw [Int.gcd, Int.natAbs_tmod, Int.gcd, Nat.gcd_comm x.natAbs, Nat.gcd_comm y.natAbs, ← Nat.gcd_rec]
set_option maxHeartbeats 1000000 in
theorem bGcd_any {a b : Int} {w : World} (ha : a.natAbs ≤ 9000000000000000000) (hb : b.natAbs ≤ 9000000000000000000) :
  Calls Tryz.prog 83 #[.int .i64 a, .int .i64 b] w fun e w' => e = .returned (.int .i64 (Int.gcd a b : Nat)) ∧ Below w.heap.size w w' := by
 go_enter Tryz.func83, Tryz.ntmps83
 go_wp2_with fail
 go_loopw [0, 1] (fun av bv wr => ∃ x y : Int, av = .int .i64 x ∧ bv = .int .i64 y ∧ x.natAbs ≤ 9000000000000000000 ∧ y.natAbs ≤ 9000000000000000000 ∧ Hid (Int.gcd x y = Int.gcd a b) ∧ Below w.heap.size w wr) (fun _ bv _ => (intOf bv).natAbs)
 case atStart => exact ⟨a, b, rfl, rfl, ha, hb, Lib.hid rfl, Below.refl _ _⟩
 case round =>
  clear ha hb
  obtain ⟨x, y, rfl, rfl, hx, hy, HG, hbr⟩ := hrel
  by_cases h0 : y = 0
  ·subst h0
   have HE := Lib.hid (show Int.gcd a b = x.natAbs by rw [← HG.out, Int.gcd_zero_right])
   have HA := Lib.hid (bAbs_any (w := wr) x (by omega) (by omega))
   clear HG hy
   go_wp2_with (go_at_call 35; go_must (refine HA.out.mono ?_); rintro e w2 ⟨rfl, rfl⟩)
   go_ret
   exact ⟨by rw [HE.out]; rfl, hbr⟩
  ·have HS := Lib.hid (show Int.gcd y (x.tmod y) = Int.gcd a b by rw [gcd_stepI, HG.out])
   have hlt : (x.tmod y).natAbs < y.natAbs := by rw [Int.natAbs_tmod]; exact Nat.mod_lt _ (by omega)
   have y0 : (y == 0) = false := by simpa using h0
   have y1 : (y != 0) = true := by simpa using h0
   have hw : IntKind.i64.wrap (x.tmod y) = x.tmod y := IntWalk.i64_in _ (by omega)
   clear HG h0
   go_wp2_with fail
   go_quiet (fail)
   go_wp2_with fail
   exact ⟨⟨y, x.tmod y, rfl, rfl, hy, by omega, HS, below_drewN' hbr _⟩, by simp only [intOf]; exact hlt⟩
end Go.Proofs.YtdjpeimecfhdjaaGreat
