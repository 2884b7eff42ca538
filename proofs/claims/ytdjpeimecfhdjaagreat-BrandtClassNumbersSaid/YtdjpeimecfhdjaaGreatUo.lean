/- (pruned) -/
import Derived.Test.YtdjpeimecfhdjaaGreatUn
import Derived.Test.YtdjpeimecfhdjaaGreatUk
import Derived.Test.YtdjpeimecfhdjaaGreatSf
namespace Go.Proofs.YtdjpeimecfhdjaaGreat
open Go.RowKit
theorem tmodB (x y : Nat) : (x : Int).tmod (y : Int) = ((x % y : Nat) : Int) := by
 rw [Int.tmod_eq_emod_of_nonneg (by omega)]; rfl
theorem tdivB (x y : Nat) : (x : Int).tdiv (y : Int) = ((x / y : Nat) : Int) := by
 rw [Int.tdiv_eq_ediv_of_nonneg (by omega)]; rfl
theorem btrN {w w' w'' : World} (h : Below w.heap.size w w') (h2 : Below w'.heap.size w' w'') : Below w.heap.size w w'' := h.trans (h2.mono h.size)
set_option maxHeartbeats 1000000 in
theorem gcdB_any {a b : Nat} {w : World} (ha : a ≤ 9000000000000000000) (hb : b ≤ 9000000000000000000) :
  Calls Tryz.prog 82 #[.int .i64 a, .int .i64 b] w fun e w' => e = .returned (.int .i64 (Nat.gcd a b : Nat)) ∧ Below w.heap.size w w' := by
 go_enter Tryz.func82, Tryz.ntmps82
 go_wp2_with fail
 go_loopw [0, 1] (fun av bv wr => ∃ x y : Nat, av = .int .i64 x ∧ bv = .int .i64 y ∧ x ≤ 9000000000000000000 ∧ y ≤ 9000000000000000000 ∧ Hid (Nat.gcd x y = Nat.gcd a b) ∧ Below w.heap.size w wr) (fun _ bv _ => (intOf bv).toNat)
 case atStart => exact ⟨a, b, rfl, rfl, ha, hb, Lib.hid rfl, Below.refl _ _⟩
 case round =>
  clear ha hb
  obtain ⟨x, y, rfl, rfl, hx, hy, HG, hbr⟩ := hrel
  by_cases h0 : 0 < y
  ·have HS := Lib.hid (show Nat.gcd y (x % y) = Nat.gcd a b by rw [← HG.out, Nat.gcd_comm x y, Nat.gcd_rec y x, Nat.gcd_comm])
   have hlt := Nat.mod_lt x h0
   have HT := Lib.hid (tmodB x y)
   have y0 : ((y : Int) == 0) = false := by simp; omega
   go_wp2_with fail
   go_quiet (fail)
   go_wp2_with fail
   exact ⟨⟨y, x % y, rfl, by rw [Int.natCast_emod], hy, by omega, HS, below_drewN' hbr _⟩, by simp [intOf]; omega⟩
  ·obtain rfl : y = 0 := by omega
   have HE := Lib.hid (show Nat.gcd a b = x by rw [← HG.out, Nat.gcd_zero_right])
   go_wp2_with fail
   go_ret
   exact ⟨by rw [HE.out]; rfl, hbr⟩
def lwBN (k d : Int) : Int := k / (Int.gcd k d : Int)
def lwBD (k d : Int) : Int := d / (Int.gcd k d : Int)
set_option maxHeartbeats 1000000 in
theorem lowestB_any {k d : Int} {w : World} (hk : k.natAbs ≤ 9000000000000000000) (h0 : 0 < d) (hd : d ≤ 9000000000000000000) :
  Calls Tryz.prog 74 #[.int .i64 k, .int .i64 d] w fun e w' => e = .returned (.agg #[.int .i64 (lwBN k d), .int .i64 (lwBD k d)]) ∧ Below w.heap.size w w' := by
 have hg0 : 0 < Int.gcd k d := Int.gcd_pos_of_ne_zero_right _ (by omega)
 have hgd : Int.gcd k d ≤ d.natAbs := Int.gcd_le_natAbs_right _ (by omega)
 have HN := Lib.hid (show k.tdiv (Int.gcd k d : Int) = lwBN k d from Int.tdiv_eq_ediv_of_dvd (Int.gcd_dvd_left ..))
 have HD := Lib.hid (show d.tdiv (Int.gcd k d : Int) = lwBD k d from Int.tdiv_eq_ediv_of_dvd (Int.gcd_dvd_right ..))
 have HC := Lib.hid (show ∀ m : Int, m = (k.natAbs : Int) → ∀ w, Calls Tryz.prog 82 #[.int .i64 m, .int .i64 d] w fun e w' => e = .returned (.int .i64 (Int.gcd k d : Nat)) ∧ Below w.heap.size w w' from fun m hm w => by
  have h1 := @gcdB_any k.natAbs d.natAbs w hk (by omega)
  rw [← hm, show ((d.natAbs : Nat) : Int) = d by omega] at h1
  exact h1)
 generalize lwBN k d = x at *
 generalize lwBD k d = y at *
 generalize hg : Int.gcd k d = g at *
 have Hg := Lib.hid hg
 clear hg
 have g0 : ((g : Int) == 0) = false := by simp; omega
 have g1 : ((g : Int) == -1) = false := by simp
 go_enter Tryz.func74, Tryz.ntmps74
 go_wp2_with (go_at_call 82; go_must (refine (HC.out _ (by omega) _).mono ?_); rintro e w1 ⟨rfl, hb1⟩)
 all_goals
  have q0 : w1.cell? ⟨w.heap.size, 0, none⟩ = some (.int .i64 0) := keepB hb1 (by go_simp)
  have q1 : w1.cell? ⟨w.heap.size, 1, none⟩ = some (.int .i64 0) := keepB hb1 (by go_simp)
  have z0 : w1.frozen? ⟨w.heap.size, 0, none⟩ = false := ((bcell hb1).2 _ _ (by simp)).trans (by go_simp)
  have z1 : w1.frozen? ⟨w.heap.size, 1, none⟩ = false := ((bcell hb1).2 _ _ (by simp)).trans (by go_simp)
  go_region
  go_wp2_with fail
  have hb2 : Below w.heap.size w w1 := ((Below.refl _ _).alloc (Nat.le_refl _) _).trans (hb1.mono (by simp))
  have HX : k / (g : Int) = x := by rw [← Hg.out, ← Int.tdiv_eq_ediv_of_dvd (Int.gcd_dvd_left ..), Hg.out]; exact HN.out
  have HY : d / (g : Int) = y := by rw [← Hg.out, ← Int.tdiv_eq_ediv_of_dvd (Int.gcd_dvd_right ..), Hg.out]; exact HD.out
  have HZ := HN.out
  have c0 : ((w1.setCell ⟨w.heap.size, 0, none⟩ (.int .i64 x)).setCell ⟨w.heap.size, 1, none⟩ (.int .i64 y)).cell? ⟨w.heap.size, 0, none⟩ = some (.int .i64 x) := by go_simp
  have c1 : ((w1.setCell ⟨w.heap.size, 0, none⟩ (.int .i64 x)).setCell ⟨w.heap.size, 1, none⟩ (.int .i64 y)).cell? ⟨w.heap.size, 1, none⟩ = some (.int .i64 y) := by go_simp
  try rw [HX]
  try rw [HZ]
  rw [HY]
  generalize hW : (w1.setCell ⟨w.heap.size, 0, none⟩ (.int .i64 x)).setCell ⟨w.heap.size, 1, none⟩ (.int .i64 y) = W at *
  have hb3 : Below w.heap.size w W.drew := by rw [← hW]; exact ((hb2.setCell (by simp) _).setCell (by simp) _).drew
  refine bodyPost_ret (v := .agg #[.int .i64 x, .int .i64 y]) (by simp [results, Tryz.results74, go_sem, c0, c1]) rfl ⟨rfl, hb3⟩
set_option maxHeartbeats 1000000 in
theorem rowSumB_any {disc n : Nat} {w : World} (h1 : disc ≤ 1000000) (hn : n ≤ 1000000) :
  Calls Tryz.prog 81 #[.int .i64 disc, .int .i64 n] w fun e w' => e = .returned (.int .i64 (rsP disc n n : Nat)) ∧ Below w.heap.size w w' := by
 have HC := Lib.hid (fun (d : Nat) (hd : d ≤ 1000000) (w : World) => @gcdB_any d disc w (by omega) (by omega))
 go_enter Tryz.func81, Tryz.ntmps81
 go_wp2_with fail
 go_loopw [5, 6] (fun sv dv wr => ∃ k : Nat, sv = .int .i64 (rsP disc n k : Nat) ∧ dv = .int .i64 ((k + 1 : Nat) : Int) ∧ k ≤ n ∧ Below w.heap.size w wr) (fun _ dv _ => n + 1 - (intOf dv).toNat)
 case atStart => exact ⟨0, rfl, rfl, by omega, Below.refl _ _⟩
 case round =>
  obtain ⟨k, rfl, rfl, hk, hbr⟩ := hrel
  have hle := rsP_le disc n k
  have hkk : k * k ≤ 1000000 * 1000000 := Nat.mul_le_mul (by omega) (by omega)
  obtain ⟨d, hd⟩ : ∃ d, d = k + 1 := ⟨_, rfl⟩
  have HD := Lib.hid hd
  rw [← hd]
  rcases Nat.lt_or_ge n d with hlt | hge
  ·have z1 : ¬ d ≤ n := by omega
   have HE := Lib.hid (show k = n by omega)
   go_wp2_with fail
   go_ret
   exact ⟨by first | rfl | (rw [HE.out]; rfl), hbr⟩
  ·have z1 : d ≤ n := hge
   have d0 : ((d : Int) == 0) = false := by simp; omega
   have hd0 : 0 < d := by omega
   have HT := Lib.hid (tmodB n d)
   have HS := Lib.hid (show rsP disc n d = rsP disc n k + (if n % d = 0 ∧ Nat.gcd d disc = 1 then d else 0) by rw [hd]; rfl)
   clear hd
   generalize rsP disc n k = s at *
   by_cases hm : n % d = 0
   ·have t1 : ((n : Int).tmod (d : Int) == 0) = true := by rw [HT.out, hm]; rfl
    have t2 : ((n : Int) % (d : Int) == 0) = true := by rw [← Int.natCast_emod, hm]; rfl
    by_cases hg : Nat.gcd d disc = 1
    ·have HC2 := Lib.hid (HC.out d (by omega))
     rw [hg] at HC2
     have HS2 := HS.out
     rw [if_pos ⟨hm, hg⟩] at HS2
     have HS3 := Lib.hid HS2
     clear HS2 hm hg
     go_wp2_with (go_at_call 82; go_must (refine (HC2.out _).mono ?_); rintro e w1 ⟨rfl, hb1⟩)
     go_roundw
     case rel => exact ⟨d, by rw [HS3.out]; go_num, by go_num, by omega, btrN hbr hb1⟩
     case measure => simp [intOf]; omega
    ·obtain ⟨gg, hgg⟩ : ∃ gg, gg = Nat.gcd d disc := ⟨_, rfl⟩
     have HC2 := HC.out d (by omega)
     rw [← hgg] at HC2
     have HC3 := Lib.hid HC2
     have HS2 := HS.out
     rw [if_neg (fun h => hg h.2)] at HS2
     have HS3 := Lib.hid HS2
     have t3 : ((gg : Int) == 1) = false := by rw [beq_eq_false_iff_ne]; omega
     clear HS2 hm hg hgg HC2
     go_wp2_with (go_at_call 82; go_must (refine (HC3.out _).mono ?_); rintro e w1 ⟨rfl, hb1⟩)
     go_roundw
     case rel => exact ⟨d, by rw [HS3.out]; go_num, by go_num, by omega, btrN hbr hb1⟩
     case measure => simp [intOf]; omega
   ·have t1 : ((n : Int).tmod (d : Int) == 0) = false := by rw [HT.out, beq_eq_false_iff_ne]; omega
    have t2 : ((n : Int) % (d : Int) == 0) = false := by rw [← Int.natCast_emod, beq_eq_false_iff_ne]; omega
    have HS2 := HS.out
    rw [if_neg (fun h => hm h.1)] at HS2
    have HS3 := Lib.hid HS2
    clear HS2 hm
    go_wp2_with fail
    go_roundw
    case rel => exact ⟨d, by rw [HS3.out]; go_num, by go_num, by omega, hbr⟩
    case measure => simp [intOf]; omega
theorem va_succ (f n p : Nat) : vaF (f + 1) n p = if n % p = 0 then ((vaF f (n / p) p).1 + 1, (vaF f (n / p) p).2) else (0, n) := rfl
theorem va_pos : ∀ (f n p : Nat), 2 ≤ p → 0 < n → 0 < (vaF f n p).2 ∧ (vaF f n p).2 ≤ n ∧ (vaF f n p).1 ≤ n
 | 0, n, p, hp, hn => ⟨hn, Nat.le_refl _, Nat.zero_le _⟩
 | f + 1, n, p, hp, hn => by
  by_cases h : n % p = 0
  ·have e : vaF (f + 1) n p = ((vaF f (n / p) p).1 + 1, (vaF f (n / p) p).2) := by rw [va_succ, if_pos h]
   have hpos : 0 < n / p := Nat.div_pos (Nat.le_of_dvd hn (Nat.dvd_of_mod_eq_zero h)) (by omega)
   have hlt : n / p < n := Nat.div_lt_self hn (by omega)
   obtain ⟨h1, h2, h3⟩ := va_pos f (n / p) p hp hpos
   rw [e]
   exact ⟨h1, by simp only; omega, by simp only; omega⟩
  ·have e : vaF (f + 1) n p = (0, n) := by rw [va_succ, if_neg h]
   rw [e]
   exact ⟨hn, Nat.le_refl _, Nat.zero_le _⟩
theorem va_step {f n p : Nat} (h : n % p = 0) : vaF (f + 1) n p = ((vaF f (n / p) p).1 + 1, (vaF f (n / p) p).2) := by rw [va_succ, if_pos h]
theorem va_end {f n p : Nat} (h : n % p ≠ 0) : vaF (f + 1) n p = (0, n) := by rw [va_succ, if_neg h]
set_option maxHeartbeats 1000000 in
theorem valuation_any {n p : Nat} {w : World} (hn : 0 < n) (hn2 : n ≤ 1000000000000000000) (hp : 2 ≤ p) (hp2 : p ≤ 1000000000000000000) :
  Calls Tryz.prog 195 #[.int .i64 n, .int .i64 p] w fun e w' => e = .returned (.tuple #[.int .i64 ((vaF n n p).1 : Nat), .int .i64 ((vaF n n p).2 : Nat)]) ∧ Below w.heap.size w w' := by
 have d0 : ((p : Int) == 0) = false := by rw [beq_eq_false_iff_ne]; omega
 have d1 : ((p : Int) == -1) = false := by rw [beq_eq_false_iff_ne]; omega
 have dn0 : ¬ (p : Int) = 0 := by omega
 have hp0 : 0 < p := by omega
 go_enter Tryz.func195, Tryz.ntmps195
 go_wp2_with fail
 go_loopw [0, 6] (fun mv kv wr => ∃ m k f : Nat, mv = .int .i64 m ∧ kv = .int .i64 k ∧ 0 < m ∧ m ≤ f ∧ m + k ≤ n ∧ Hid ((vaF n n p).1 = k + (vaF f m p).1 ∧ (vaF n n p).2 = (vaF f m p).2) ∧ Below w.heap.size w wr) (fun mv _ _ => (intOf mv).toNat)
 case atStart => exact ⟨n, 0, n, rfl, rfl, hn, Nat.le_refl _, by omega, Lib.hid ⟨by omega, rfl⟩, Below.refl _ _⟩
 case round =>
  obtain ⟨m, k, f, rfl, rfl, hm, hf, hmk, HE, hbr⟩ := hrel
  obtain ⟨f, rfl⟩ : ∃ g, f = g + 1 := ⟨f - 1, by omega⟩
  have HT := Lib.hid (tmodB m p)
  have HD := Lib.hid (tdivB m p)
  by_cases h : m % p = 0
  ·have hlt : m / p < m := Nat.div_lt_self hm (by omega)
   have hpos : 0 < m / p := Nat.div_pos (Nat.le_of_dvd hm (Nat.dvd_of_mod_eq_zero h)) hp0
   have t1 : ((m : Int).tmod (p : Int) == 0) = true := by rw [HT.out, h]; rfl
   have t2 : ((m : Int) % (p : Int) == 0) = true := by rw [← Int.natCast_emod, h]; rfl
   have HS := Lib.hid (show (vaF n n p).1 = (k + 1) + (vaF f (m / p) p).1 ∧ (vaF n n p).2 = (vaF f (m / p) p).2 by
    have := HE.out
    rw [va_step h] at this
    exact ⟨by rw [this.1]; simp only; omega, this.2⟩)
   clear HE h
   go_wp2_with fail
   go_roundw
   case rel => exact ⟨m / p, k + 1, f, by first | (rw [Int.natCast_ediv]) | (rw [HD.out]) | rfl, by first | (rw [Int.natCast_succ]) | rfl, hpos, by omega, by omega, HS, hbr⟩
   case measure => simp [intOf]; omega
  ·have t1 : ((m : Int).tmod (p : Int) == 0) = false := by rw [HT.out, beq_eq_false_iff_ne]; omega
   have t2 : ((m : Int) % (p : Int) == 0) = false := by rw [← Int.natCast_emod, beq_eq_false_iff_ne]; omega
   have HS := Lib.hid (show (vaF n n p).1 = k ∧ (vaF n n p).2 = m by
    have := HE.out
    rw [va_end h] at this
    exact ⟨this.1, this.2⟩)
   clear HE h
   go_wp2_with fail
   go_ret2
   exact ⟨by rw [HS.out.1, HS.out.2]; rfl, hbr⟩
theorem mod_any {a : Int} {n : Nat} {w : World} (hn : 0 < n) (hn2 : n ≤ 1000000000000000000) :
  Calls Tryz.prog 215 #[.int .i64 a, .int .i64 n] w fun e w' => e = .returned (.int .i64 (a % (n : Int))) ∧ Below w.heap.size w w' := by
 have hr0 := Int.emod_nonneg a (show (n : Int) ≠ 0 by omega)
 have hr1 := Int.emod_lt_of_pos a (show (0 : Int) < (n : Int) by omega)
 have d0 : ((n : Int) == 0) = false := by rw [beq_eq_false_iff_ne]; omega
 have d1 : ((n : Int) == -1) = false := by rw [beq_eq_false_iff_ne]; omega
 have dn0 : ¬ (n : Int) = 0 := by omega
 obtain ⟨r, hr⟩ : ∃ r, r = a.tmod (n : Int) := ⟨_, rfl⟩
 have hrb : -(n : Int) < r ∧ r < n ∧ ((r < 0 ∧ r + n = a % (n : Int)) ∨ (¬ r < 0 ∧ r = a % (n : Int))) := by
  have h1 := Int.tmod_eq_emod (a := a) (b := (n : Int))
  rw [hr, h1]
  split <;> omega
 go_enter Tryz.func215, Tryz.ntmps215
 rcases hrb with ⟨h1, h2, ⟨h3, h4⟩ | ⟨h3, h4⟩⟩
 ·go_wp2_with fail
  rw [← hr]
  go_wp2_with fail
  go_ret
  refine ⟨?_, Below.refl _ _⟩
  first
   | rfl
   | (rw [h4]; rfl)
 ·go_wp2_with fail
  rw [← hr]
  go_wp2_with fail
  go_ret
  refine ⟨?_, Below.refl _ _⟩
  first
   | rfl
   | (rw [h4]; rfl)
end Go.Proofs.YtdjpeimecfhdjaaGreat
namespace Go.Proofs.YtdjpeimecfhdjaaGreat
open Go.RowKit
theorem jc_zero {f a n : Nat} {o : Int} (h : a = 0) : jcF (f + 1) a n o = if n = 1 then o else 0 := by
 subst h
 rfl
theorem jc_step {f a n k m : Nat} {o : Int} (h : a ≠ 0) (hk : (vaF a a 2).1 = k) (hm : (vaF a a 2).2 = m) : jcF (f + 1) a n o = jcF f (n % m) m ((if m % 4 = 3 ∧ n % 4 = 3 then -1 else 1) * ((if k % 2 = 1 ∧ (n % 8 = 3 ∨ n % 8 = 5) then -1 else 1) * o)) := by
 subst hk hm
 show (if a = 0 then _ else _) = _
 rw [if_neg h]
def UnI (o : Int) : Prop := o = 1 ∨ o = -1
set_option maxHeartbeats 4000000 in
theorem jacobi_any {a : Int} {n : Nat} {w : World} (hn : 0 < n) (hn2 : n ≤ 1000000000000000000) :
  Calls Tryz.prog 237 #[.int .i64 a, .int .i64 n] w fun e w' => e = .returned (.int .i64 (jcP a n)) ∧ Below w.heap.size w w' := by
 have HM := Lib.hid (@mod_any a n w hn hn2)
 have HV := Lib.hid (fun (m : Nat) (h1 : 0 < m) (h2 : m ≤ 1000000000000000000) (w : World) => @valuation_any m 2 w h1 h2 (by omega) (by omega))
 have hr0 := Int.emod_nonneg a (show (n : Int) ≠ 0 by omega)
 have hr1 := Int.emod_lt_of_pos a (show (0 : Int) < (n : Int) by omega)
 obtain ⟨R, hR⟩ : ∃ R, R = jcP a n := ⟨_, rfl⟩
 rw [← hR]
 have HR := Lib.hid (show jcF (n + 1) (a % (n : Int)).toNat n 1 = R from hR.symm)
 clear hR
 obtain ⟨r, hr⟩ : ∃ r : Nat, (r : Int) = a % (n : Int) := ⟨(a % (n : Int)).toNat, Int.toNat_of_nonneg hr0⟩
 rw [← hr] at HM HR hr1
 rw [Int.toNat_natCast] at HR
 have hrn : r < n := by omega
 clear hr hr0 hr1
 go_enter Tryz.func237, Tryz.ntmps237
 go_wp2_with (go_at_call 215; go_must (refine HM.out.mono ?_); rintro e w1 ⟨rfl, hb1⟩)
 go_loopw [0, 1, 5] (fun av nv ov wr => ∃ (a m f : Nat) (o : Int), av = .int .i64 a ∧ nv = .int .i64 m ∧ ov = .int .i64 o ∧ 0 < m ∧ m ≤ n ∧ m ≤ f ∧ a < m ∧ UnI o ∧ Hid (jcF (f + 1) a m o = R) ∧ Below w.heap.size w wr) (fun _ nv _ _ => (intOf nv).toNat)
 case atStart => exact ⟨r, n, n, 1, rfl, rfl, rfl, hn, Nat.le_refl _, Nat.le_refl _, hrn, .inl rfl, HR, hb1⟩
 case round =>
  clear hb1 HM hrn HR
  obtain ⟨a, m, f, o, rfl, rfl, rfl, hm, hmn, hmf, ham, ho, HE, hbr⟩ := hrel
  have hoo : -1 ≤ o ∧ o ≤ 1 := by rcases ho with rfl | rfl <;> omega
  by_cases h0 : a = 0
  ·have HS := Lib.hid (show (if m = 1 then o else 0) = R by rw [← HE.out, jc_zero h0])
   have hz : ((a : Int) == 0) = true := by rw [h0]; rfl
   clear HE
   subst h0
   by_cases h1 : m = 1
   ·have HS2 := HS.out
    rw [if_pos h1] at HS2
    have HS3 := Lib.hid HS2
    clear HS HS2
    subst h1
    go_wp2_with fail
    go_ret
    exact ⟨by rw [← HS3.out]; rfl, hbr⟩
   ·have HS2 := HS.out
    rw [if_neg h1] at HS2
    have HS3 := Lib.hid HS2
    have h2 : ((m : Int) == 1) = false := by rw [beq_eq_false_iff_ne]; omega
    clear HS HS2
    go_wp2_with fail
    go_ret
    exact ⟨by rw [← HS3.out]; rfl, hbr⟩
  ·obtain ⟨f, rfl⟩ : ∃ g, f = g + 1 := ⟨f - 1, by omega⟩
   have hapos : 0 < a := by omega
   obtain ⟨k, hk⟩ : ∃ k, (vaF a a 2).1 = k := ⟨_, rfl⟩
   obtain ⟨d, hd⟩ : ∃ d, (vaF a a 2).2 = d := ⟨_, rfl⟩
   obtain ⟨v1, v2, v3⟩ := va_pos a a 2 (by omega) hapos
   rw [hd] at v1 v2
   rw [hk] at v3
   have HS := Lib.hid ((jc_step h0 hk hd).symm.trans HE.out)
   have HV2 := HV.out a hapos (by omega)
   rw [hk, hd] at HV2
   have HV3 := Lib.hid HV2
   have hz : ((a : Int) == 0) = false := by rw [beq_eq_false_iff_ne]; omega
   have hlt := Nat.mod_lt m v1
   have hdz : ((d : Int) == 0) = false := by rw [beq_eq_false_iff_ne]; omega
   clear HE hk hd HV2
   go_upto_region 6 with (go_at_call 195; go_must (refine (HV3.out _).mono ?_); rintro e w1 ⟨rfl, hb1⟩)
   have hb9 : Below w.heap.size w w1 := btrN hbr hb1
   clear hbr hb1 HV3
   have e1 : (k % 2 = 1 ∧ (((k : Nat) : Int) % 2 == 1) = true) ∨ (k % 2 ≠ 1 ∧ (((k : Nat) : Int) % 2 == 1) = false) := by
    rcases Nat.decEq (k % 2) 1 with h | h
    ·exact .inr ⟨h, by rw [beq_eq_false_iff_ne]; omega⟩
    ·exact .inl ⟨h, by rw [beq_iff_eq]; omega⟩
   have e4 : (d % 4 = 3 ∧ (((d : Nat) : Int) % 4 == 3) = true) ∨ (d % 4 ≠ 3 ∧ (((d : Nat) : Int) % 4 == 3) = false) := by
    rcases Nat.decEq (d % 4) 3 with h | h
    ·exact .inr ⟨h, by rw [beq_eq_false_iff_ne]; omega⟩
    ·exact .inl ⟨h, by rw [beq_iff_eq]; omega⟩
   have e5 : (m % 4 = 3 ∧ (((m : Nat) : Int) % 4 == 3) = true) ∨ (m % 4 ≠ 3 ∧ (((m : Nat) : Int) % 4 == 3) = false) := by
    rcases Nat.decEq (m % 4) 3 with h | h
    ·exact .inr ⟨h, by rw [beq_eq_false_iff_ne]; omega⟩
    ·exact .inl ⟨h, by rw [beq_iff_eq]; omega⟩
   have e2 : (m % 8 = 3 ∧ (((m : Nat) : Int) % 8 == 3) = true) ∨ (m % 8 ≠ 3 ∧ (((m : Nat) : Int) % 8 == 3) = false) := by
    rcases Nat.decEq (m % 8) 3 with h | h
    ·exact .inr ⟨h, by rw [beq_eq_false_iff_ne]; omega⟩
    ·exact .inl ⟨h, by rw [beq_iff_eq]; omega⟩
   have e3 : (m % 8 = 5 ∧ (((m : Nat) : Int) % 8 == 5) = true) ∨ (m % 8 ≠ 5 ∧ (((m : Nat) : Int) % 8 == 5) = false) := by
    rcases Nat.decEq (m % 8) 5 with h | h
    ·exact .inr ⟨h, by rw [beq_eq_false_iff_ne]; omega⟩
    ·exact .inl ⟨h, by rw [beq_iff_eq]; omega⟩
   have hw1 : -1 ≤ -o ∧ -o ≤ 1 := by omega
   have c1 : UnI o := ho
   have c2 : UnI (-o) := by rcases ho with rfl | rfl <;> simp [UnI]
   have c3 : UnI (- -o) := by rw [Int.neg_neg]; exact ho
   clear ho
   rcases e1 with ⟨h1, t1⟩ | ⟨h1, t1⟩ <;> rcases e2 with ⟨h2, t2⟩ | ⟨h2, t2⟩ <;> rcases e3 with ⟨h3, t3⟩ | ⟨h3, t3⟩ <;> (try (exfalso; omega)) <;> rcases e4 with ⟨h4, t4⟩ | ⟨h4, t4⟩ <;> rcases e5 with ⟨h5, t5⟩ | ⟨h5, t5⟩ <;> (try (exfalso; omega))
   all_goals
    have HS2 := HS.out
    simp [h1, h2, h3, h4, h5] at HS2
    have HS3 := Lib.hid HS2
    clear HS2 h1 h2 h3 h4 h5
    go_wp2_with fail
    go_roundw
    case rel => exact ⟨m % d, d, f, _, by rw [Int.natCast_emod], rfl, rfl, v1, by omega, by omega, hlt, by first | exact c1 | exact c2 | exact c3, HS3, hb9⟩
    case measure => simp [intOf]; omega
end Go.Proofs.YtdjpeimecfhdjaaGreat
namespace Go.Proofs.YtdjpeimecfhdjaaGreat
open Go.RowKit
theorem Legendre_any {a : Int} {p : Nat} {w : World} (hp : 2 < p) (hp2 : p ≤ 1000) (hpr : Pr p) :
  Calls Tryz.prog 197 #[.int .i64 a, .int .i64 p] w fun e w' => e = .returned (.tuple #[.int .i64 (jcP a p), .int .i64 0]) ∧ Below w.heap.size w w' := by
 have HP := Lib.hid (fun w : World => @IsPrime_any w (p : Int) (by omega))
 have HT := Lib.hid (primeI_true (by omega) (by omega) hpr)
 have HJ := Lib.hid (fun w : World => @jacobi_any a p w (by omega) (by omega))
 have z1 : ((p : Int) == 2) = false := by rw [beq_eq_false_iff_ne]; omega
 go_enter Tryz.func197, Tryz.ntmps197
 go_wp2_with (first
  | (go_at_call 78; go_must (refine (HP.out _).mono ?_); rintro e w1 ⟨rfl, rfl⟩; rw [HT.out])
  | (go_at_call 237; go_must (refine (HJ.out _).mono ?_); rintro e w2 ⟨rfl, hb2⟩))
 go_ret2
 exact ⟨rfl, hb2⟩
theorem symbol_any {d p : Nat} {w : World} (hd : d ≤ 1000000) (hp : 2 ≤ p) (hp2 : p ≤ 1000) (hpr : Pr p) :
  Calls Tryz.prog 136 #[.int .i64 d, .int .i64 p] w fun e w' => e = .returned (.int .i64 (symP d p)) ∧ Below w.heap.size w w' := by
 rcases Nat.lt_or_ge 2 p with h | h
 ·have HL := Lib.hid (fun w : World => @Legendre_any (-(d : Int)) p w h hp2 hpr)
  have HE := Lib.hid (show symP d p = jcP (-(d : Int)) p by unfold symP; rw [if_pos h])
  go_enter Tryz.func136, Tryz.ntmps136
  go_wp2_with (go_at_call 197; go_must (refine (HL.out _).mono ?_); rintro e w1 ⟨rfl, hb1⟩)
  go_ret
  exact ⟨by rw [HE.out]; rfl, hb1⟩
 ·have hp3 : ¬ 2 < p := by omega
  have e1 : (d % 8 = 7 ∧ (((d : Nat) : Int) % 8 == 7) = true) ∨ (d % 8 ≠ 7 ∧ (((d : Nat) : Int) % 8 == 7) = false) := by
   rcases Nat.decEq (d % 8) 7 with h | h
   ·exact .inr ⟨h, by rw [beq_eq_false_iff_ne]; omega⟩
   ·exact .inl ⟨h, by rw [beq_iff_eq]; omega⟩
  have e2 : (d % 8 = 3 ∧ (((d : Nat) : Int) % 8 == 3) = true) ∨ (d % 8 ≠ 3 ∧ (((d : Nat) : Int) % 8 == 3) = false) := by
   rcases Nat.decEq (d % 8) 3 with h | h
   ·exact .inr ⟨h, by rw [beq_eq_false_iff_ne]; omega⟩
   ·exact .inl ⟨h, by rw [beq_iff_eq]; omega⟩
  rcases e1 with ⟨h1, t1⟩ | ⟨h1, t1⟩ <;> rcases e2 with ⟨h2, t2⟩ | ⟨h2, t2⟩ <;> (try (exfalso; omega))
  all_goals
   have HE : symP d p = symP d p := rfl
   conv at HE => rhs; unfold symP
   simp [hp3, h1, h2] at HE
   have HF := Lib.hid HE
   clear HE h1 h2 h hp2 hpr hp hd
   go_enter Tryz.func136, Tryz.ntmps136
   go_wp2_with fail
   go_ret
   exact ⟨by rw [HF.out]; rfl, Below.refl _ _⟩
set_option maxHeartbeats 1000000 in
theorem conductor_any {d : Nat} {w : World} (hd : 0 < d) (hd2 : d ≤ 1000000) :
  Calls Tryz.prog 135 #[.int .i64 d] w fun e w' => e = .returned (.int .i64 (cndP d : Nat)) ∧ Below w.heap.size w w' := by
 go_enter Tryz.func135, Tryz.ntmps135
 go_wp2_with fail
 go_loopw [3, 4] (fun ov fv wr => ∃ k : Nat, ov = .int .i64 (cnd d k : Nat) ∧ fv = .int .i64 ((k + 1 : Nat) : Int) ∧ k * k ≤ d ∧ Below w.heap.size w wr) (fun _ fv _ => d + 2 - (intOf fv).toNat)
 case atStart => exact ⟨0, rfl, rfl, by omega, Below.refl _ _⟩
 case round =>
  obtain ⟨k, rfl, rfl, hk, hbr⟩ := hrel
  obtain ⟨f, hf⟩ : ∃ f, f = k + 1 := ⟨_, rfl⟩
  rw [← hf]
  obtain ⟨q, hq⟩ : ∃ q, q = f * f := ⟨_, rfl⟩
  have hqi : (f : Int) * (f : Int) = ((q : Nat) : Int) := by rw [hq]; exact (Int.natCast_mul f f).symm
  have hfq : f ≤ q := by rw [hq]; exact Nat.le_mul_of_pos_left f (by omega)
  have hkd : k ≤ d := Nat.le_trans (by rcases Nat.eq_zero_or_pos k with h | h; · rw [h]; omega
                                       ·exact Nat.le_mul_of_pos_left k h) hk
  have hq1 : q = k * k + 2 * k + 1 := by rw [hq, hf, Nat.succ_mul, Nat.mul_succ]; omega
  have hqb : q ≤ 4000000 := by omega
  rcases Nat.lt_or_ge d q with hlt | hge
  ·have z1 : ¬ q ≤ d := by omega
   have HE := Lib.hid (show cnd d k = cndP d from (cnd_more hd hkd (by rw [← hf, ← hq]; exact hlt)).symm)
   clear hf hq hq1
   go_wp2_with fail
   go_ret
   exact ⟨by first | rfl | (rw [HE.out]; rfl), hbr⟩
  ·have z1 : q ≤ d := hge
   have q0 : ((q : Int) == 0) = false := by rw [beq_eq_false_iff_ne]; omega
   have q1 : ((q : Int) == -1) = false := by rw [beq_eq_false_iff_ne]; omega
   have qn : ¬ (q : Int) = 0 := by omega
   have HT := Lib.hid (tmodB d q)
   have HD := Lib.hid (tdivB d q)
   have HS : cnd d f = if d % q = 0 ∧ (d / q % 4 = 0 ∨ d / q % 4 = 3) then f else cnd d k := by rw [hq, hf]; exact cnd_succ d k
   have hfq2 : f * f ≤ d := by rw [← hq]; exact hge
   have hfd : f ≤ d := by omega
   obtain ⟨m, hm⟩ : ∃ m, m = d / q := ⟨_, rfl⟩
   have hm2 : (d : Int) / (q : Int) = (m : Int) := by rw [hm, Int.natCast_ediv]
   rw [← hm] at HS
   have hmd : m ≤ d := by rw [hm]; exact Nat.div_le_self _ _
   have e1 : (d % q = 0 ∧ (((d : Nat) : Int) % (q : Int) == 0) = true) ∨ (d % q ≠ 0 ∧ (((d : Nat) : Int) % (q : Int) == 0) = false) := by
    rcases Nat.decEq (d % q) 0 with h | h
    ·exact .inr ⟨h, by rw [← Int.natCast_emod, beq_eq_false_iff_ne]; omega⟩
    ·exact .inl ⟨h, by rw [← Int.natCast_emod, h]; rfl⟩
   have e2 : (m % 4 = 0 ∧ ((m : Int) % 4 == 0) = true) ∨ (m % 4 ≠ 0 ∧ ((m : Int) % 4 == 0) = false) := by
    rcases Nat.decEq (m % 4) 0 with h | h
    ·exact .inr ⟨h, by rw [beq_eq_false_iff_ne]; omega⟩
    ·exact .inl ⟨h, by rw [beq_iff_eq]; omega⟩
   have e3 : (m % 4 = 3 ∧ ((m : Int) % 4 == 3) = true) ∨ (m % 4 ≠ 3 ∧ ((m : Int) % 4 == 3) = false) := by
    rcases Nat.decEq (m % 4) 3 with h | h
    ·exact .inr ⟨h, by rw [beq_eq_false_iff_ne]; omega⟩
    ·exact .inl ⟨h, by rw [beq_iff_eq]; omega⟩
   clear hm hq hq1 hfq hkd hf
   generalize cnd d k = c at *
   rcases e1 with ⟨h1, t1⟩ | ⟨h1, t1⟩ <;> rcases e2 with ⟨h2, t2⟩ | ⟨h2, t2⟩ <;> rcases e3 with ⟨h3, t3⟩ | ⟨h3, t3⟩ <;> (try (exfalso; omega))
   all_goals
    simp [h1, h2, h3] at HS
    have HS3 := Lib.hid HS
    clear HS h1 h2 h3
    go_wp2_with fail
    go_roundw
    case rel => exact ⟨f, by rw [HS3.out], by go_num, hfq2, hbr⟩
    case measure => simp [intOf]; omega
end Go.Proofs.YtdjpeimecfhdjaaGreat
