/- (pruned) -/
import Derived.Test.YtdjpeimecfhdjaaGreatUn
import Derived.Test.YtdjpeimecfhdjaaGreatUk
namespace Go.Proofs.YtdjpeimecfhdjaaGreat
def euN (a p : Nat) : Int := if a ^ ((p - 1) / 2) % p = 0 then 0 else if a ^ ((p - 1) / 2) % p = 1 then 1 else -1
def ngQ (d p : Nat) : Nat := (p - d % p) % p
theorem ngQ_eq {d p : Nat} (hp : 0 < p) : ((-(d : Int)) % (p : Int)).toNat = ngQ d p := by
 unfold ngQ
 have h1 := Nat.mod_lt d hp
 have h2 : (d : Int) = (p : Int) * ((d / p : Nat) : Int) + ((d % p : Nat) : Int) := by exact_mod_cast (Nat.div_add_mod d p).symm
 generalize d % p = r at *
 generalize d / p = k at *
 have h3 : (-(d : Int)) % (p : Int) = (-(r : Int)) % (p : Int) := by
  rw [h2, show -((p : Int) * (k : Int) + (r : Int)) = -(r : Int) + (p : Int) * (-(k : Int)) by rw [Int.mul_neg]; omega, Int.add_mul_emod_self_left]
 rw [h3]
 rcases Nat.eq_zero_or_pos r with rfl | hr
 ·simp
 ·have h4 : (-(r : Int)) % (p : Int) = ((p - r : Nat) : Int) := by
   rw [show (-(r : Int)) = ((p - r : Nat) : Int) + (p : Int) * (-1) by omega, Int.add_mul_emod_self_left]
   exact_mod_cast Nat.mod_eq_of_lt (show p - r < p by omega)
  rw [h4, Nat.mod_eq_of_lt (show p - r < p by omega)]
  rfl
def euT (p d : Nat) : Bool := decide (jcF (p + 1) (ngQ d p) p 1 = euN (ngQ d p) p)
def euR (p : Nat) : Bool := Nat.ble p 2 || !isTr p || (List.range 241).all (fun d => Nat.beq (d % 4) 1 || Nat.beq (d % 4) 2 || euT p d)
theorem tabE0 : rg euR 6 0 = true := by decide +kernel
theorem tabE1 : rg euR 6 64 = true := by decide +kernel
theorem tabE2 : rg euR 6 128 = true := by decide +kernel
theorem tabE3 : rg euR 6 192 = true := by decide +kernel
theorem tabE4 : rg euR 6 256 = true := by decide +kernel
theorem tabE5 : rg euR 6 320 = true := by decide +kernel
theorem tabE6 : rg euR 6 384 = true := by decide +kernel
theorem tabE7 : rg euR 6 448 = true := by decide +kernel
theorem tabE8 : rg euR 6 512 = true := by decide +kernel
theorem tabE9 : rg euR 6 576 = true := by decide +kernel
theorem tabE10 : rg euR 6 640 = true := by decide +kernel
theorem tabE11 : rg euR 6 704 = true := by decide +kernel
theorem tabE12 : rg euR 6 768 = true := by decide +kernel
theorem tabE13 : rg euR 6 832 = true := by decide +kernel
theorem tabE14 : rg euR 6 896 = true := by decide +kernel
theorem tabE15 : rg euR 6 960 = true := by decide +kernel
theorem tabE {p : Nat} (h : p < 1024) : euR p = true := by
 rcases Nat.lt_or_ge p 64 with h0 | h0
 ·exact rg_spec 6 0 tabE0 p (by omega) (by omega)
 rcases Nat.lt_or_ge p 128 with h1 | h1
 ·exact rg_spec 6 64 tabE1 p (by omega) (by omega)
 rcases Nat.lt_or_ge p 192 with h2 | h2
 ·exact rg_spec 6 128 tabE2 p (by omega) (by omega)
 rcases Nat.lt_or_ge p 256 with h3 | h3
 ·exact rg_spec 6 192 tabE3 p (by omega) (by omega)
 rcases Nat.lt_or_ge p 320 with h4 | h4
 ·exact rg_spec 6 256 tabE4 p (by omega) (by omega)
 rcases Nat.lt_or_ge p 384 with h5 | h5
 ·exact rg_spec 6 320 tabE5 p (by omega) (by omega)
 rcases Nat.lt_or_ge p 448 with h6 | h6
 ·exact rg_spec 6 384 tabE6 p (by omega) (by omega)
 rcases Nat.lt_or_ge p 512 with h7 | h7
 ·exact rg_spec 6 448 tabE7 p (by omega) (by omega)
 rcases Nat.lt_or_ge p 576 with h8 | h8
 ·exact rg_spec 6 512 tabE8 p (by omega) (by omega)
 rcases Nat.lt_or_ge p 640 with h9 | h9
 ·exact rg_spec 6 576 tabE9 p (by omega) (by omega)
 rcases Nat.lt_or_ge p 704 with h10 | h10
 ·exact rg_spec 6 640 tabE10 p (by omega) (by omega)
 rcases Nat.lt_or_ge p 768 with h11 | h11
 ·exact rg_spec 6 704 tabE11 p (by omega) (by omega)
 rcases Nat.lt_or_ge p 832 with h12 | h12
 ·exact rg_spec 6 768 tabE12 p (by omega) (by omega)
 rcases Nat.lt_or_ge p 896 with h13 | h13
 ·exact rg_spec 6 832 tabE13 p (by omega) (by omega)
 rcases Nat.lt_or_ge p 960 with h14 | h14
 ·exact rg_spec 6 896 tabE14 p (by omega) (by omega)
 exact rg_spec 6 960 tabE15 p (by omega) (by omega)
theorem isTr_of {p : Nat} (h : Pr p) : isTr p = true := by
 refine List.all_eq_true.mpr fun d hd => ?_
 rw [List.mem_range] at hd
 rcases Nat.lt_or_ge p ((d + 2) * (d + 2)) with h1 | h1
 ·have : Nat.ble p ((d + 2) * (d + 2) - 1) = true := Nat.ble_eq.mpr (by omega)
  rw [this]; rfl
 ·have h2 := trial_of_pr h (d + 2) (by omega) h1
  have : Nat.beq (p % (d + 2)) 0 = false := by
   cases hq : Nat.beq (p % (d + 2)) 0 with
   | false => rfl
   | true => exact absurd (Nat.eq_of_beq_eq_true hq) h2
  rw [this]
  simp
theorem eu_jc {p d : Nat} (h : Pr p) (h2 : 2 < p) (hp : p ≤ 1000) (hd : d ≤ 240) (h4 : d % 4 ≠ 1 ∧ d % 4 ≠ 2) : jcP (-(d : Int)) p = euN (ngQ d p) p := by
 have hT := tabE (p := p) (by omega)
 unfold euR at hT
 rw [isTr_of h] at hT
 have hb : Nat.ble p 2 = false := by
  cases hq : Nat.ble p 2 with
  | false => rfl
  | true => have := Nat.le_of_ble_eq_true hq; omega
 rw [hb] at hT
 simp only [Bool.not_true, Bool.false_or] at hT
 have hA := List.all_eq_true.mp hT d (List.mem_range.mpr (by omega))
 have hx : ∀ k, d % 4 ≠ k → Nat.beq (d % 4) k = false := fun k hk => by
  cases hq : Nat.beq (d % 4) k with
  | false => rfl
  | true => exact absurd (Nat.eq_of_beq_eq_true hq) hk
 rw [hx 1 h4.1, hx 2 h4.2] at hA
 have hE : decide (jcF (p + 1) (ngQ d p) p 1 = euN (ngQ d p) p) = true := hA
 have := of_decide_eq_true hE
 unfold jcP
 rw [ngQ_eq (by omega)]
 exact this
end Go.Proofs.YtdjpeimecfhdjaaGreat
