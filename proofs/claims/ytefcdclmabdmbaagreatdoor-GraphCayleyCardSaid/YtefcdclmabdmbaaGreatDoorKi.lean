/- Plain lists: the generators of a good prime. No program in sight. Cayley graphs at q = 5 (plain): classes, their product, the vertices, the rows. No program in sight. -/
import Derived.Test.YtefcdclmabdmbaaGreatDoorKg
namespace Go.Proofs.YtefcdclmabdmbaaGreatDoor

/-- What f gives at lo, lo + s, .. (n of them), one behind the other. -/
def gfl {α : Type} (f : Int → List α) (lo s : Int) : Nat → List α
  | 0 => []
  | n + 1 => gfl f lo s n ++ f (lo + s * n)
section
variable {α : Type}
theorem gfl_succ (f : Int → List α) (lo s : Int) (n : Nat) : gfl f lo s (n + 1) = gfl f lo s n ++ f (lo + s * n) := rfl
theorem gfl_nil {f : Int → List α} {lo s : Int} : ∀ n : Nat, (∀ k : Nat, k < n → f (lo + s * k) = []) → gfl f lo s n = []
  | 0, _ => rfl
  | n + 1, h => by rw [gfl_succ, gfl_nil n (fun k hk => h k (by omega)), h n (by omega)]; rfl
theorem gfl_congr {f g : Int → List α} {lo s : Int} : ∀ n : Nat, (∀ k : Nat, k < n → f (lo + s * k) = g (lo + s * k)) → gfl f lo s n = gfl g lo s n
  | 0, _ => rfl
  | n + 1, h => by rw [gfl_succ, gfl_succ, gfl_congr n (fun k hk => h k (by omega)), h n (by omega)]
theorem gfl_add (f : Int → List α) (lo s : Int) (a : Nat) : ∀ b : Nat, gfl f lo s (a + b) = gfl f lo s a ++ gfl f (lo + s * a) s b
  | 0 => by simp [gfl]
  | b + 1 => by
    rw [show a + (b + 1) = (a + b) + 1 by omega, gfl_succ, gfl_add f lo s a b, gfl_succ, List.append_assoc]
    congr 3
    rw [Int.natCast_add, Int.mul_add]
    omega
theorem gfl_mem {f : Int → List α} {lo s : Int} {x : α} : ∀ n : Nat, x ∈ gfl f lo s n ↔ ∃ k : Nat, k < n ∧ x ∈ f (lo + s * k)
  | 0 => by simp [gfl]
  | n + 1 => by
    rw [gfl_succ, List.mem_append, gfl_mem n]
    constructor
    · rintro (⟨k, h1, h2⟩ | h)
      · exact ⟨k, by omega, h2⟩
      · exact ⟨n, by omega, h⟩
    · rintro ⟨k, h1, h2⟩
      rcases Nat.lt_or_ge k n with h3 | h3
      · exact .inl ⟨k, h3, h2⟩
      · obtain rfl : k = n := by omega
        exact .inr h2
/-- The even ones alone. -/
def gev (g : Int → List α) (y : Int) : List α := if y % 2 = 0 then g y else []
theorem gev_even {g : Int → List α} {y : Int} (h : y % 2 = 0) : gev g y = g y := if_pos h
theorem gev_odd {g : Int → List α} {y : Int} (h : y % 2 ≠ 0) : gev g y = [] := if_neg h
theorem gfl_ev (g : Int → List α) {lo : Int} (hlo : lo % 2 = 0) : ∀ n : Nat, gfl (gev g) lo 1 (2 * n + 1) = gfl g lo 2 (n + 1)
  | 0 => by simp [gfl, gev, hlo]
  | n + 1 => by
    rw [show 2 * (n + 1) + 1 = (2 * n + 1) + 1 + 1 by omega, gfl_succ, gfl_succ, gfl_ev g hlo n, gfl_succ g lo 2 (n + 1), gev_odd (by omega), gev_even (by omega), List.append_nil]
    congr 2
    omega
theorem gfl_wide {f : Int → List α} {a : Nat} (ha : a ≤ 400) (h : ∀ y : Int, y < -(a : Int) ∨ (a : Int) < y → f y = []) : gfl f (-400) 1 801 = gfl f (-(a : Int)) 1 (2 * a + 1) := by
  rw [show 801 = (400 - a) + ((2 * a + 1) + (400 - a)) by omega, gfl_add, gfl_add]
  rw [gfl_nil (400 - a) (fun k hk => h _ (by omega)), gfl_nil (400 - a) (fun k hk => h _ (by omega)), List.nil_append, List.append_nil]
  congr 1
  omega
theorem gfl_20 {g : Int → List α} {p : Nat} (hp : p ≤ 400) (h20 : ∀ y : Int, y < -20 ∨ 20 < y → g y = []) (h : ∀ y : Int, y < -(p : Int) ∨ (p : Int) < y → g y = []) : gfl (gev g) (-(p : Int)) 1 (2 * p + 1) = gfl g (-20) 2 21 := by
  have hev : ∀ y, g y = [] → gev g y = [] := fun y hy => by unfold gev; split <;> simp [hy]
  rw [← gfl_wide hp (fun y hy => hev y (h y hy)), gfl_wide (a := 20) (by omega) (fun y hy => hev y (h20 y (by omega)))]
  exact gfl_ev g (by decide) 20
end

/-- A quaternion w + x i + y j + z k. -/
abbrev Qt := Int × Int × Int × Int
def gqz (p w x y z : Int) : List Qt := if w * w + x * x + y * y + z * z = p then [(w, x, y, z)] else []
def gqy (p w x y : Int) : List Qt := gfl (gqz p w x y) (-20) 2 21
def gqx (p w x : Int) : List Qt := gfl (gqy p w x) (-20) 2 21
def gqw (p w : Int) : List Qt := gfl (gqx p w) (-20) 2 21
def gqs (p : Int) : List Qt := gfl (gqw p) 1 2 10

theorem gqz_nil {p w x y z : Int} (h : w * w + x * x + y * y + z * z ≠ p) : gqz p w x y z = [] := if_neg h
theorem gsq_nonneg (x : Int) : 0 ≤ x * x := by
  rcases Int.le_total 0 x with h | h
  · exact Int.mul_nonneg h h
  · exact Int.mul_nonneg_of_nonpos_of_nonpos h h
theorem gsq_big {x a : Int} (ha : 0 ≤ a) (h : x < -a ∨ a < x) : (a + 1) * (a + 1) ≤ x * x := by
  rcases h with h | h
  · have := Int.mul_le_mul (show a + 1 ≤ -x by omega) (show a + 1 ≤ -x by omega) (by omega) (by omega)
    rw [Int.neg_mul_neg] at this
    exact this
  · exact Int.mul_le_mul (by omega) (by omega) (by omega) (by omega)
theorem gqy_nil {p w x y : Int} (h : p < w * w + x * x + y * y) : gqy p w x y = [] := gfl_nil _ fun k _ => gqz_nil (by have := gsq_nonneg (-20 + 2 * (k : Int)); omega)
theorem gqx_nil {p w x : Int} (h : p < w * w + x * x) : gqx p w x = [] := gfl_nil _ fun k _ => gqy_nil (by have := gsq_nonneg (-20 + 2 * (k : Int)); omega)
theorem gqw_nil {p w : Int} (h : p < w * w) : gqw p w = [] := gfl_nil _ fun k _ => gqx_nil (by have := gsq_nonneg (-20 + 2 * (k : Int)); omega)
/-- The loops over -p .. p see the same. -/
theorem gqx_loop {p : Nat} (hp : p < 400) (w x : Int) : gfl (gev (gqy p w x)) (-(p : Int)) 1 (2 * p + 1) = gqx p w x := by
  refine gfl_20 (by omega) (fun y hy => gqy_nil ?_) (fun y hy => gqy_nil ?_)
  · have h1 := gsq_big (by omega) hy
    have h2 := gsq_nonneg w
    have h3 := gsq_nonneg x
    omega
  · have h1 := gsq_big (by omega) hy
    have h2 := gsq_nonneg w
    have h3 := gsq_nonneg x
    have h4 : (p : Int) + 1 ≤ ((p : Int) + 1) * ((p : Int) + 1) := by
      have := Int.mul_le_mul_of_nonneg_left (show (1 : Int) ≤ (p : Int) + 1 by omega) (show (0 : Int) ≤ (p : Int) + 1 by omega)
      omega
    omega
theorem gqw_loop {p : Nat} (hp : p < 400) (w : Int) : gfl (gev (gqx p w)) (-(p : Int)) 1 (2 * p + 1) = gqw p w := by
  refine gfl_20 (by omega) (fun y hy => gqx_nil ?_) (fun y hy => gqx_nil ?_)
  · have h1 := gsq_big (by omega) hy
    have h2 := gsq_nonneg w
    omega
  · have h1 := gsq_big (by omega) hy
    have h2 := gsq_nonneg w
    have h4 : (p : Int) + 1 ≤ ((p : Int) + 1) * ((p : Int) + 1) := by
      have := Int.mul_le_mul_of_nonneg_left (show (1 : Int) ≤ (p : Int) + 1 by omega) (show (0 : Int) ≤ (p : Int) + 1 by omega)
      omega
    omega
/-- The loop over w ends. -/
theorem gqs_loop {p : Int} {n : Nat} (hn : n ≤ 10) (h : p < (2 * (n : Int) + 1) * (2 * (n : Int) + 1)) : gfl (gqw p) 1 2 n = gqs p := by
  unfold gqs
  rw [show 10 = n + (10 - n) by omega, gfl_add, gfl_nil (10 - n), List.append_nil]
  intro k _
  refine gqw_nil (Int.lt_of_lt_of_le h ?_)
  exact Int.mul_le_mul (by omega) (by omega) (by omega) (by omega)

/-- The last loop: z = 2 m is the first even number with z^2 at least the rest. -/
theorem gqy_r {p w x y r : Int} (hr : r = p - w * w - x * x - y * y) : gqz p w x y = fun z => if z * z = r then [(w, x, y, z)] else [] := by
  funext z
  unfold gqz
  by_cases h : z * z = r
  · rw [if_pos h, if_pos (by omega)]
  · rw [if_neg h, if_neg (by omega)]
theorem gqy_hit {p w x y : Int} {m : Nat} (hm : m ≤ 10) (h : (2 * (m : Int)) * (2 * (m : Int)) = p - w * w - x * x - y * y) : gqy p w x y = if m = 0 then [(w, x, y, 0)] else [(w, x, y, -(2 * (m : Int))), (w, x, y, 2 * (m : Int))] := by
  unfold gqy
  rw [gqy_r h]
  have hc : m = 0 ∨ m = 1 ∨ m = 2 ∨ m = 3 ∨ m = 4 ∨ m = 5 ∨ m = 6 ∨ m = 7 ∨ m = 8 ∨ m = 9 ∨ m = 10 := by omega
  clear h
  rcases hc with rfl | rfl | rfl | rfl | rfl | rfl | rfl | rfl | rfl | rfl | rfl <;> simp [gfl]
theorem gqy_miss {p w x y : Int} {m : Nat} (h1 : p - w * w - x * x - y * y < (2 * (m : Int)) * (2 * (m : Int))) (h2 : m = 0 ∨ (2 * ((m - 1 : Nat) : Int)) * (2 * ((m - 1 : Nat) : Int)) < p - w * w - x * x - y * y) : gqy p w x y = [] := by
  refine gfl_nil _ fun k hk => gqz_nil fun e => ?_
  obtain ⟨t, ht⟩ : ∃ t : Int, t = -10 + (k : Int) := ⟨_, rfl⟩
  have e2 : -20 + 2 * (k : Int) = 2 * t := by omega
  rw [e2] at e
  obtain ⟨j, hj⟩ : ∃ j : Nat, t = j ∨ t = -(j : Int) := ⟨t.natAbs, by omega⟩
  have e3 : 2 * t * (2 * t) = 2 * (j : Int) * (2 * (j : Int)) := by
    rcases hj with rfl | rfl
    · rfl
    · rw [show (2 : Int) * -(j : Int) = -(2 * (j : Int)) by omega, Int.neg_mul_neg]
  rw [e3] at e
  rcases Nat.lt_or_ge j m with h3 | h3
  · rcases h2 with h2 | h2
    · omega
    · have := Int.mul_le_mul (show 2 * (j : Int) ≤ 2 * ((m - 1 : Nat) : Int) by omega) (show 2 * (j : Int) ≤ 2 * ((m - 1 : Nat) : Int) by omega) (by omega) (by omega)
      omega
  · have := Int.mul_le_mul (show 2 * (m : Int) ≤ 2 * (j : Int) by omega) (show 2 * (m : Int) ≤ 2 * (j : Int) by omega) (by omega) (by omega)
    omega

/-- What is in the list. -/
theorem gqs_mem {p : Int} {q : Qt} (h : q ∈ gqs p) : ∃ a b c d : Nat, a < 10 ∧ b < 21 ∧ c < 21 ∧ d < 21 ∧ q = (1 + 2 * (a : Int), -20 + 2 * (b : Int), -20 + 2 * (c : Int), -20 + 2 * (d : Int)) ∧ q.1 * q.1 + q.2.1 * q.2.1 + q.2.2.1 * q.2.2.1 + q.2.2.2 * q.2.2.2 = p := by
  obtain ⟨a, ha, h⟩ := (gfl_mem _).1 h
  obtain ⟨b, hb, h⟩ := (gfl_mem _).1 h
  obtain ⟨c, hc, h⟩ := (gfl_mem _).1 h
  obtain ⟨d, hd, h⟩ := (gfl_mem _).1 h
  unfold gqz at h
  split at h
  · rename_i he
    rw [List.mem_singleton] at h
    subst h
    exact ⟨a, b, c, d, ha, hb, hc, hd, rfl, he⟩
  · cases h
theorem gqs_small {p : Int} {q : Qt} (h : q ∈ gqs p) : (1 ≤ q.1 ∧ q.1 ≤ 20) ∧ (-20 ≤ q.2.1 ∧ q.2.1 ≤ 20) ∧ (-20 ≤ q.2.2.1 ∧ q.2.2.1 ≤ 20) ∧ (-20 ≤ q.2.2.2 ∧ q.2.2.2 ≤ 20) := by
  obtain ⟨a, b, c, d, ha, hb, hc, hd, rfl, _⟩ := gqs_mem h
  dsimp only
  omega

end Go.Proofs.YtefcdclmabdmbaaGreatDoor

namespace Go.Proofs.YtefcdclmabdmbaaGreatDoor
open Go.RowKit

abbrev Nq := Nat × Nat × Nat × Nat
def inv5 : Nat → Nat
  | 1 => 1
  | 2 => 3
  | 3 => 2
  | 4 => 4
  | _ => 0
def det5 (m : Nq) : Nat := (m.1 * m.2.2.2 + 4 * (m.2.1 * m.2.2.1)) % 5
def tms5 (m n : Nq) : Nq := ((m.1 * n.1 + m.2.1 * n.2.2.1) % 5, (m.1 * n.2.1 + m.2.1 * n.2.2.2) % 5, (m.2.2.1 * n.1 + m.2.2.2 * n.2.2.1) % 5, (m.2.2.1 * n.2.1 + m.2.2.2 * n.2.2.2) % 5)
def ld5 (m : Nq) : Nat := bif Nat.beq m.1 0 then bif Nat.beq m.2.1 0 then bif Nat.beq m.2.2.1 0 then m.2.2.2 else m.2.2.1 else m.2.1 else m.1
def by5 (m : Nq) : Nat := inv5 (ld5 m)
def nrm5 (m : Nq) : Nq := (m.1 * by5 m % 5, m.2.1 * by5 m % 5, m.2.2.1 * by5 m % 5, m.2.2.2 * by5 m % 5)
def code5 (m : Nq) : Nat := ((m.1 * 5 + m.2.1) * 5 + m.2.2.1) * 5 + m.2.2.2
def In5 (m : Nq) : Prop := m.1 < 5 ∧ m.2.1 < 5 ∧ m.2.2.1 < 5 ∧ m.2.2.2 < 5
theorem inv5_lt (n : Nat) : inv5 n < 5 := by unfold inv5; split <;> omega
theorem tms5_in (m n : Nq) : In5 (tms5 m n) := ⟨Nat.mod_lt _ (by decide), Nat.mod_lt _ (by decide), Nat.mod_lt _ (by decide), Nat.mod_lt _ (by decide)⟩
theorem nrm5_in (m : Nq) : In5 (nrm5 m) := ⟨Nat.mod_lt _ (by decide), Nat.mod_lt _ (by decide), Nat.mod_lt _ (by decide), Nat.mod_lt _ (by decide)⟩
theorem code5_inj {m n : Nq} (hm : In5 m) (hn : In5 n) (h : code5 m = code5 n) : m = n := by
  obtain ⟨a, b, c, d⟩ := m
  obtain ⟨a', b', c', d'⟩ := n
  obtain ⟨h1, h2, h3, h4⟩ := hm
  obtain ⟨k1, k2, k3, k4⟩ := hn
  unfold code5 at h
  simp only at *
  have e1 : a = a' := by omega
  have e2 : b = b' := by omega
  have e3 : c = c' := by omega
  have e4 : d = d' := by omega
  rw [e1, e2, e3, e4]

/-- f 0 ++ .. ++ f (n - 1). -/
def fl5 {α : Type} (f : Nat → List α) : Nat → List α
  | 0 => []
  | n + 1 => fl5 f n ++ f n
def cz5 (i k : Nat) : List Nq := if i = 0 then [] else [(0, 1, i, k)]
def co5 (i k j : Nat) : List Nq := if det5 (1, i, k, j) = 0 then [] else [(1, i, k, j)]
def ck5 (b i k : Nat) : List Nq := if b = 0 then cz5 i k else fl5 (co5 i k) 5
def cls5 : List Nq := fl5 (fun b => fl5 (fun i => fl5 (ck5 b i) 5) 5) 2
def sq5 (n : Nat) : Bool := Nat.beq n 1 || Nat.beq n 4
def all5 (half : Bool) : List Nq := cls5.filter fun m => !half || sq5 (det5 m)

/-- The first place of a number in a list, or the length. -/
def posC : List Nat → Nat → Nat
  | [], _ => 0
  | x :: l, c => bif Nat.beq x c then 0 else posC l c + 1
def insC (x : Nat) : List Nat → List Nat
  | [] => [x]
  | y :: l => bif Nat.ble x y then x :: y :: l else y :: insC x l
def sortC : List Nat → List Nat
  | [] => []
  | x :: l => insC x (sortC l)

/-! sorted lists -/
theorem insC_perm (x : Nat) : ∀ l : List Nat, (insC x l).Perm (x :: l)
  | [] => List.Perm.refl _
  | y :: l => by
    unfold insC
    cases Nat.ble x y
    · exact ((insC_perm x l).cons y).trans (List.Perm.swap x y l)
    · exact List.Perm.refl _
theorem sortC_perm : ∀ l : List Nat, (sortC l).Perm l
  | [] => List.Perm.refl _
  | x :: l => (insC_perm x _).trans ((sortC_perm l).cons x)
theorem insC_asc (x : Nat) : ∀ {l : List Nat}, l.Pairwise (· ≤ ·) → (insC x l).Pairwise (· ≤ ·)
  | [], _ => by simp [insC]
  | y :: l, h => by
    unfold insC
    obtain ⟨h1, h2⟩ := List.pairwise_cons.1 h
    cases e : Nat.ble x y
    · have e' : ¬ x ≤ y := fun hh => by rw [Nat.ble_eq_true_of_le hh] at e; cases e
      refine List.pairwise_cons.2 ⟨fun z hz => ?_, insC_asc x h2⟩
      rcases List.mem_cons.1 ((insC_perm x l).mem_iff.1 hz) with rfl | hz
      · omega
      · exact h1 z hz
    · have e' := Nat.le_of_ble_eq_true e
      exact List.pairwise_cons.2 ⟨fun z hz => by
        rcases List.mem_cons.1 hz with rfl | hz
        · exact e'
        · exact Nat.le_trans e' (h1 z hz), h⟩
theorem sortC_asc : ∀ l : List Nat, (sortC l).Pairwise (· ≤ ·)
  | [] => List.Pairwise.nil
  | x :: l => insC_asc x (sortC_asc l)
theorem asc_eq : ∀ {l m : List Nat}, l.Perm m → l.Pairwise (· ≤ ·) → m.Pairwise (· ≤ ·) → l = m
  | [], m, h, _, _ => (List.Perm.nil_eq h)
  | x :: l, [], h, _, _ => absurd h.length_eq (by simp)
  | x :: l, y :: m, h, h1, h2 => by
    obtain ⟨a1, a2⟩ := List.pairwise_cons.1 h1
    obtain ⟨b1, b2⟩ := List.pairwise_cons.1 h2
    have e : x = y := by
      rcases List.mem_cons.1 (h.mem_iff.1 (List.mem_cons_self (a := x) (l := l))) with e | hx
      · exact e
      · rcases List.mem_cons.1 (h.mem_iff.2 (List.mem_cons_self (a := y) (l := m))) with e | hy
        · exact e.symm
        · have := a1 y hy; have := b1 x hx; omega
    subst e
    rw [asc_eq ((List.perm_cons x).1 h) a2 b2]
theorem sortC_of {l m : List Nat} (h : l.Perm m) (hl : l.Pairwise (· ≤ ·)) : l = sortC m := asc_eq (h.trans (sortC_perm m).symm) hl (sortC_asc m)

/-- The rows: the neighbours of each vertex. -/
def rowC5 (codes : List Nat) (m : Nq) (gs : List Nq) : List Nat := gs.map fun g => posC codes (code5 (nrm5 (tms5 m g)))
def rowsC (codes : List Nat) (gs A : List Nq) : List (List Nat) := A.map fun m => sortC (rowC5 codes m gs)
/-- The class of a quaternion. -/
def cg5 (q : Qt) : Nq := (((q.1 + 2 * q.2.1) % 5).toNat, ((q.2.2.1 + 2 * q.2.2.2) % 5).toNat, ((-q.2.2.1 + 2 * q.2.2.2) % 5).toNat, ((q.1 - 2 * q.2.1) % 5).toNat)
theorem cg5_in (q : Qt) : In5 (cg5 q) := by
  have key : ∀ x : Int, (x % 5).toNat < 5 := fun x => by omega
  exact ⟨key _, key _, key _, key _⟩

/-! the generators of a small prime, evaluated -/
theorem gfl_mid {α : Type} {f : Int → List α} (h : ∀ x : Int, (x ≤ -8 ∨ 8 ≤ x) → f x = []) : gfl f (-20) 2 21 = gfl f (-6) 2 7 := by
  rw [show (21 : Nat) = 7 + (7 + 7) from rfl, gfl_add, gfl_add, gfl_nil 7 (f := f) (fun k hk => h _ (by omega)), gfl_nil (lo := -20 + 2 * ((7 : Nat) : Int) + 2 * ((7 : Nat) : Int)) 7 (fun k hk => h _ (by omega))]
  simp
def gqf (p : Int) : List Qt := gfl (fun w => gfl (fun x => gfl (fun y => gfl (gqz p w x y) (-6) 2 7) (-6) 2 7) (-6) 2 7) 1 2 3
theorem sq8 {x : Int} (h : x ≤ -8 ∨ 8 ≤ x) : 64 ≤ x * x := by
  have := gsq_big (x := x) (a := 7) (by omega) (by omega)
  omega
theorem gqy_f {p : Int} (hp : p ≤ 41) (w x y : Int) : gqy p w x y = gfl (gqz p w x y) (-6) 2 7 := by
  have h1 := gsq_nonneg w
  have h2 := gsq_nonneg x
  have h3 := gsq_nonneg y
  exact gfl_mid fun z hz => gqz_nil (by have := sq8 hz; omega)
theorem gqx_f {p : Int} (hp : p ≤ 41) (w x : Int) : gqx p w x = gfl (fun y => gfl (gqz p w x y) (-6) 2 7) (-6) 2 7 := by
  have h1 := gsq_nonneg w
  have h2 := gsq_nonneg x
  exact (gfl_mid (f := gqy p w x) fun z hz => gqy_nil (by have := sq8 hz; omega)).trans (gfl_congr 7 fun k _ => gqy_f hp _ _ _)
theorem gqw_f {p : Int} (hp : p ≤ 41) (w : Int) : gqw p w = gfl (fun x => gfl (fun y => gfl (gqz p w x y) (-6) 2 7) (-6) 2 7) (-6) 2 7 := by
  have h1 := gsq_nonneg w
  exact (gfl_mid (f := gqx p w) fun z hz => gqx_nil (by have := sq8 hz; omega)).trans (gfl_congr 7 fun k _ => gqx_f hp _ _)
theorem gqs_fast {p : Int} (hp : p ≤ 41) : gqs p = gqf p := by
  have h1 : gfl (gqw p) 1 2 3 = gqs p := gqs_loop (n := 3) (by omega) (by omega)
  exact h1.symm.trans (gfl_congr 3 fun k _ => gqw_f hp _)
end Go.Proofs.YtefcdclmabdmbaaGreatDoor
