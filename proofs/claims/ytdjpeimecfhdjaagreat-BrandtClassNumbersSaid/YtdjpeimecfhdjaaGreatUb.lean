/- (pruned) -/
import Derived.Test.YtdjpeimecfhdjaaGreatUn
import Derived.Test.YtdjpeimecfhdjaaGreatUo
import Derived.Test.YtdjpeimecfhdjaaGreatSi
import Derived.Test.YtdjpeimecfhdjaaGreatSk
namespace Go.Proofs.YtdjpeimecfhdjaaGreat
end Go.Proofs.YtdjpeimecfhdjaaGreat
namespace Go.Proofs.YtdjpeimecfhdjaaGreat
open Go.RowKit
section
variable {w w' : World} {base : Nat} {v : Value} {l : List Nat}
end
section
variable (w0 : World)
end
end Go.Proofs.YtdjpeimecfhdjaaGreat
namespace Go.Proofs.YtdjpeimecfhdjaaGreat
open Go.RowKit
theorem Within_any {n lo hi : Int} {b : Bool} (h : decide (lo ≤ n ∧ n ≤ hi) = b) (w : World) : Calls Tryz.prog 15 #[.int .i64 n, .int .i64 lo, .int .i64 hi] w fun e w' => e = .returned (.bool b) ∧ w = w' := by
 by_cases h1 : lo ≤ n
 ·by_cases h2 : n ≤ hi
  ·have e : b = true := by rw [← h]; simp [h1, h2]
   subst e
   clear h
   go_enter Tryz.func15, Tryz.ntmps15
   go_wp2
   go_ret
   exact ⟨rfl, rfl⟩
  ·have e : b = false := by rw [← h]; simp; omega
   subst e
   clear h
   have hd : decide (n ≤ hi) = false := by simpa using h2
   go_enter Tryz.func15, Tryz.ntmps15
   go_wp2
   go_ret
   exact ⟨rfl, rfl⟩
 ·have e : b = false := by rw [← h]; simp; omega
  subst e
  clear h
  have hd : decide (lo ≤ n) = false := by simpa using h1
  go_enter Tryz.func15, Tryz.ntmps15
  go_wp2
  go_ret
  exact ⟨rfl, rfl⟩
end Go.Proofs.YtdjpeimecfhdjaaGreat
namespace Go.Proofs.YtdjpeimecfhdjaaGreat
open Go.RowKit
theorem bAbs_any {w : World} (t : Int) (h1 : -9000000000000000000 ≤ t) (h2 : t ≤ 9000000000000000000) : Calls Tryz.prog 35 #[.int .i64 t] w fun e w' => e = .returned (.int .i64 (t.natAbs : Int)) ∧ w = w' := by
 have hw : IntKind.i64.wrap (-t) = -t := IntWalk.i64_in _ (by omega)
 by_cases h : t < 0
 ·have hd : decide (t < 0) = true := decide_eq_true h
  have e : ((t.natAbs : Nat) : Int) = -t := by omega
  rw [e]
  clear e
  go_enter Tryz.func35, Tryz.ntmps35
  go_wp2_with fail
  go_ret
  exact ⟨rfl, rfl⟩
 ·have hd : decide (t < 0) = false := decide_eq_false h
  have e : ((t.natAbs : Nat) : Int) = t := by omega
  rw [e]
  clear e
  go_enter Tryz.func35, Tryz.ntmps35
  go_wp2_with fail
  go_ret
  exact ⟨rfl, rfl⟩
theorem gcd_stepI (x y : Int) : Int.gcd y (x.tmod y) = Int.gcd x y := by
 rw [Int.gcd, Int.natAbs_tmod, Int.gcd, Nat.gcd_comm x.natAbs, Nat.gcd_comm y.natAbs, ← Nat.gcd_rec]
set_option maxHeartbeats 1000000 in
theorem bGcd_any {a b : Int} {w : World} (ha : a.natAbs ≤ 9000000000000000000) (hb : b.natAbs ≤ 9000000000000000000) :
  Calls Tryz.prog 83 #[.int .i64 a, .int .i64 b] w fun e w' => e = .returned (.int .i64 (Int.gcd a b : Nat)) ∧ Below w.heap.size w w' := by
 go_enter Tryz.func83, Tryz.ntmps83
 go_wp2_with fail
 go_loopw [0, 1] (fun av bv wr => ∃ x y : Int, av = .int .i64 x ∧ bv = .int .i64 y ∧ x.natAbs ≤ 9000000000000000000 ∧ y.natAbs ≤ 9000000000000000000 ∧ Hid (Int.gcd x y = Int.gcd a b) ∧ Below w.heap.size w wr) (fun _ bv _ => (intOf bv).natAbs)
 case atStart => exact ⟨a, b, rfl, rfl, ha, hb, Lib.hid rfl, Below.refl _ _⟩
 case round =>
  clear ha hb
  obtain ⟨x, y, rfl, rfl, hx, hy, HG, hbr⟩ := hrel
  by_cases h0 : y = 0
  ·subst h0
   have HE := Lib.hid (show Int.gcd a b = x.natAbs by rw [← HG.out, Int.gcd_zero_right])
   have HA := Lib.hid (bAbs_any (w := wr) x (by omega) (by omega))
   clear HG hy
   go_wp2_with (go_at_call 35; go_must (refine HA.out.mono ?_); rintro e w2 ⟨rfl, rfl⟩)
   go_ret
   exact ⟨by rw [HE.out]; rfl, hbr⟩
  ·have HS := Lib.hid (show Int.gcd y (x.tmod y) = Int.gcd a b by rw [gcd_stepI, HG.out])
   have hlt : (x.tmod y).natAbs < y.natAbs := by rw [Int.natAbs_tmod]; exact Nat.mod_lt _ (by omega)
   have y0 : (y == 0) = false := by simpa using h0
   have y1 : (y != 0) = true := by simpa using h0
   have hw : IntKind.i64.wrap (x.tmod y) = x.tmod y := IntWalk.i64_in _ (by omega)
   clear HG h0
   go_wp2_with fail
   go_quiet (fail)
   go_wp2_with fail
   exact ⟨⟨y, x.tmod y, rfl, rfl, hy, by omega, HS, below_drewN' hbr _⟩, by simp only [intOf]; exact hlt⟩
theorem Ints_isd {w : World} {A B : Option Addr} {n c c' : Nat} {l : List Int} (h : IsD w (fun _ => True) (.slice A n c) l) (h' : IsD w (fun _ => True) (.slice B n c') l) (hn : n ≤ 1000000) :
  Calls Tryz.prog 21 #[.slice A n c, .slice B n c'] w fun e w' => e = .returned (.bool true) ∧ Below w.heap.size w w' := by
 have HA := Lib.hid h
 have HB := Lib.hid h'
 clear h h'
 have hb : ((n : Int) != (n : Int)) = false := by simp
 go_enter Tryz.func21, Tryz.ntmps21
 go_wp2_with fail
 go_loopw [5] (fun iv wr => ∃ k : Nat, iv = .int .i64 (k : Nat) ∧ k ≤ n ∧ Below w.heap.size w wr) (fun iv _ => n - (intOf iv).toNat)
 case atStart => exact ⟨0, rfl, Nat.zero_le _, Below.refl _ _⟩
 case round =>
  obtain ⟨k, rfl, hk, hbr⟩ := hrel
  rcases Nat.lt_or_ge k n with hkn | hkn
  ·obtain ⟨b, off, rfl, _, c0⟩ := HA.out.at hkn
   obtain ⟨b', off', rfl, _, c1⟩ := HB.out.at hkn
   replace c0 := keepB hbr c0
   replace c1 := keepB hbr c1
   generalize gz l k = x at *
   have hx : (x != x) = false := by simp
   have k1 : (k : Int) < (n : Int) := by omega
   have k2 : (0 : Int) ≤ (k : Int) := by omega
   go_wp2_with fail
   go_quiet (fail)
   go_wp2_with fail
   exact ⟨⟨k + 1, by go_num, by omega, below_drewN' hbr _⟩, by simp [intOf]; omega⟩
  ·obtain rfl : k = n := by omega
   have k1 : ¬ (k : Int) < (k : Int) := by omega
   go_wp2_with fail
   go_ret
   exact ⟨rfl, hbr⟩
end Go.Proofs.YtdjpeimecfhdjaaGreat
