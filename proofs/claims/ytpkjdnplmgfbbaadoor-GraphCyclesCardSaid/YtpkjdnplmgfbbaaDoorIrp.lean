/- Plain graphs: irreducible matrices, their row sums. No program in sight. -/
import Derived.Test.YtpkjdnplmgfbbaaDoorMx
namespace Go.Proofs.YtpkjdnplmgfbbaaDoor

theorem sm_zero : ∀ n, sm (fun _ => 0) n = 0
  | 0 => rfl
  | n + 1 => by rw [sm, sm_zero n]; rfl
theorem sm_add (f g : Nat → Int) : ∀ n, sm (fun j => f j + g j) n = sm f n + sm g n
  | 0 => rfl
  | n + 1 => by rw [sm, sm, sm, sm_add f g n]; omega
theorem sm_sub (f g : Nat → Int) : ∀ n, sm (fun j => f j - g j) n = sm f n - sm g n
  | 0 => rfl
  | n + 1 => by rw [sm, sm, sm, sm_sub f g n]; omega
theorem sm_mul (c : Int) (f : Nat → Int) : ∀ n, sm (fun j => c * f j) n = c * sm f n
  | 0 => by simp [sm]
  | n + 1 => by rw [sm, sm, sm_mul c f n, Int.mul_add]
theorem sm_mul' (c : Int) (f : Nat → Int) (n : Nat) : sm (fun j => f j * c) n = sm f n * c := by
  rw [Int.mul_comm, ← sm_mul]
  exact sm_ext n fun j _ => Int.mul_comm _ _
theorem sm_swap (f : Nat → Nat → Int) (m : Nat) : ∀ n, sm (fun j => sm (fun k => f j k) m) n = sm (fun k => sm (fun j => f j k) n) m
  | 0 => by
    have : (fun k => sm (fun j => f j k) 0) = fun _ => 0 := rfl
    rw [this, sm_zero]; rfl
  | n + 1 => by
    rw [sm, sm_swap f m n, ← sm_add]
    rfl
theorem sm_one (i : Nat) : ∀ n, sm (fun k => mu 1 i k) n = if i < n then 1 else 0
  | 0 => by simp [sm]
  | n + 1 => by
    rw [sm, sm_one i n, mu]
    by_cases h : i < n
    · rw [if_pos h, if_neg (by omega), if_pos (by omega)]; rfl
    · by_cases e : i = n
      · rw [if_neg h, if_pos e, if_pos (by omega)]; rfl
      · rw [if_neg h, if_neg e, if_neg (by omega)]; rfl
/-- How many of a list are below n. -/
theorem sm_count (l : List Nat) : ∀ n, sm (fun k => ((l.count k : Nat) : Int)) n = ((l.filter fun x => decide (x < n)).length : Nat)
  | 0 => by
    have : (l.filter fun x => decide (x < 0)) = [] := List.filter_eq_nil_iff.2 fun x _ => by simp
    rw [this]; rfl
  | n + 1 => by
    rw [sm, sm_count l n]
    have : ∀ m : List Nat, (m.filter fun x => decide (x < n + 1)).length = (m.filter fun x => decide (x < n)).length + m.count n := by
      intro m
      induction m with
      | nil => rfl
      | cons x r ih =>
        rw [List.filter_cons, List.filter_cons, List.count_cons]
        rcases Nat.lt_trichotomy x n with h | h | h
        · have h1 : x < n + 1 := by omega
          have h2 : (x == n) = false := by simp; omega
          simp [h, h1, h2, ih]; omega
        · subst h
          simp [ih]; omega
        · have h1 : ¬ x < n + 1 := by omega
          have h2 : ¬ x < n := by omega
          have h3 : (x == n) = false := by simp; omega
          simp [h1, h2, h3, ih]
    rw [this l]; omega
theorem sm_row {E : List (List Nat)} (hE : Valid E) {i : Nat} (hi : i < E.length) : sm (fun k => ma E i k) E.length = ((gr E i).length : Nat) := by
  unfold ma
  rw [sm_count]
  have : (gr E i).filter (fun x => decide (x < E.length)) = gr E i := List.filter_eq_self.2 fun x hx => by simpa using hE i hi x hx
  rw [this]

/-- The factor of a step. -/
def byI (d : Int) (n : Nat) : Int := if n = 0 then d else d - 1
/-- The irreducible matrices. -/
def irr (E : List (List Nat)) (d : Int) : Nat → Nat → Nat → Int
  | 0 => mu 1
  | 1 => ma E
  | n + 2 => fun i k => mm E.length (ma E) (irr E d (n + 1)) i k - irr E d n i k * byI d n
/-- Their row sums. -/
def rsm (d : Int) : Nat → Int
  | 0 => 1
  | n + 1 => rsm d n * byI d n
theorem irr_row {E : List (List Nat)} (hE : Valid E) {d : Nat} (hd : ∀ i, i < E.length → (gr E i).length = d) : ∀ n i, i < E.length → sm (fun k => irr E d n i k) E.length = rsm d n
  | 0, i, hi => by
    show sm (fun k => mu 1 i k) E.length = 1
    rw [sm_one, if_pos hi]
  | 1, i, hi => by
    show sm (fun k => ma E i k) E.length = 1 * byI d 0
    rw [sm_row hE hi, hd i hi, byI, if_pos rfl]; omega
  | n + 2, i, hi => by
    have h1 := irr_row hE hd (n + 1)
    have h2 := irr_row hE hd n i hi
    show sm (fun k => mm E.length (ma E) (irr E d (n + 1)) i k - irr E d n i k * byI d n) E.length = rsm d (n + 1) * byI d (n + 1)
    rw [sm_sub, sm_mul', h2]
    have h3 : sm (fun k => mm E.length (ma E) (irr E d (n + 1)) i k) E.length = d * rsm d (n + 1) := by
      unfold mm
      rw [← sm_swap (fun j k => ma E i j * irr E d (n + 1) j k)]
      rw [sm_ext (g := fun j => ma E i j * rsm d (n + 1)) E.length (fun j hj => by rw [sm_mul, h1 j hj])]
      rw [sm_mul', sm_row hE hi, hd i hi]
    rw [h3]
    show (d : Int) * rsm d (n + 1) - rsm d (n + 1) = _
    rw [byI, if_neg (by omega), Int.mul_sub, Int.mul_comm]
    omega
theorem irr_le {E : List (List Nat)} {d : Nat} (hd : d ≤ 400) (hn : E.length ≤ 60) (hg : ∀ v, (gr E v).length ≤ 400) : ∀ n i k, i < E.length → k < E.length → (irr E d n i k).natAbs ≤ 2 ^ (30 * n)
  | 0, i, k, _, _ => by
    show (mu 1 i k).natAbs ≤ 1
    unfold mu
    split <;> simp
  | 1, i, k, _, _ => by
    show (ma E i k).natAbs ≤ 2 ^ 30
    unfold ma
    have := List.count_le_length (a := k) (l := gr E i)
    have := hg i
    rw [Int.natAbs_natCast]; omega
  | n + 2, i, k, hi, hk => by
    have h1 := irr_le hd hn hg (n + 1)
    have h2 := irr_le hd hn hg n i k hi hk
    have hm : ∀ i k, i < E.length → k < E.length → (ma E i k).natAbs ≤ 2 ^ 9 := fun i k _ _ => by
      unfold ma
      have := List.count_le_length (a := k) (l := gr E i)
      have := hg i
      rw [Int.natAbs_natCast]; omega
    have h3 := mm_le (by omega) hm h1 i k E.length hi hk (Nat.le_refl _)
    have h4 : (irr E d n i k * byI d n).natAbs ≤ 2 ^ (30 * n) * 2 ^ 9 := by
      rw [Int.natAbs_mul]
      refine Nat.mul_le_mul h2 ?_
      unfold byI
      split <;> omega
    show (mm E.length (ma E) (irr E d (n + 1)) i k - irr E d n i k * byI d n).natAbs ≤ 2 ^ (30 * (n + 2))
    have h5 : (mm E.length (ma E) (irr E d (n + 1)) i k).natAbs ≤ 2 ^ (9 + 30 * (n + 1) + 12) := h3
    have e1 : 2 ^ (9 + 30 * (n + 1) + 12) = 2 ^ (30 * n) * 2 ^ 51 := by rw [← Nat.pow_add]; congr 1 <;> omega
    have e2 : 2 ^ (30 * (n + 2)) = 2 ^ (30 * n) * 2 ^ 60 := by rw [← Nat.pow_add]; congr 1 <;> omega
    rw [e1] at h5
    rw [e2]
    have : 0 < 2 ^ (30 * n) := Nat.pow_pos (by omega)
    omega
end Go.Proofs.YtpkjdnplmgfbbaaDoor
