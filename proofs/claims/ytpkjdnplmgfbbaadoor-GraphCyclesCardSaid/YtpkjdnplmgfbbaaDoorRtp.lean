/- Plain graphs: walks that never go back at once are counted by the irreducible matrices. No program in sight. -/
import Derived.Test.YtpkjdnplmgfbbaaDoorIrp
namespace Go.Proofs.YtpkjdnplmgfbbaaDoor

/-- The sum of numbers over a list. -/
def ls (f : Nat → Int) : List Nat → Int
  | [] => 0
  | v :: r => f v + ls f r
theorem ls_snoc (f : Nat → Int) (l : List Nat) (v : Nat) : ls f (l ++ [v]) = ls f l + f v := by
  induction l with
  | nil => simp [ls]
  | cons x r ih => simp only [List.cons_append, ls, ih]; omega
theorem sm_pick (f : Nat → Int) (v : Nat) : ∀ n, sm (fun k => (if k = v then 1 else 0) * f k) n = if v < n then f v else 0
  | 0 => by simp [sm]
  | n + 1 => by
    rw [sm, sm_pick f v n]
    by_cases h : v < n
    · rw [if_pos h, if_neg (by omega), if_pos (by omega)]; omega
    · by_cases e : n = v
      · subst e; rw [if_neg h, if_pos rfl, if_pos (by omega)]; omega
      · rw [if_neg h, if_neg e, if_neg (by omega)]; omega
theorem ls_sm (f : Nat → Int) {n : Nat} : ∀ l : List Nat, (∀ x ∈ l, x < n) → ls f l = sm (fun k => ((l.count k : Nat) : Int) * f k) n
  | [], _ => by
    rw [ls]
    exact (sm_zero n).symm.trans (sm_ext n fun j _ => by simp)
  | v :: r, h => by
    have ih := ls_sm f r fun x hx => h x (by simp [hx])
    have hv := h v (by simp)
    rw [ls, ih]
    have := sm_pick f v n
    rw [if_pos hv] at this
    rw [← this, ← sm_add]
    refine sm_ext n fun j _ => ?_
    rw [List.count_cons]
    by_cases e : v = j
    · subst e; simp; rw [Int.add_mul]; omega
    · have e2 : ¬ j = v := fun h => e h.symm
      simp [e, e2]

/-- The walks of length n that go on from a vertex and never go back at once; prev is where the last step came from. -/
def rt (E : List (List Nat)) (tg : Nat) : Nat → Option Nat → Nat → Int
  | 0, _, last => if last = tg then 1 else 0
  | n + 1, prev, last => ls (fun v => if prev = some v then 0 else rt E tg n (some last) v) (gr E last)

/-- A graph whose irreducible matrices count such walks. -/
structure Simple (E : List (List Nat)) (d : Nat) : Prop where
  valid : Valid E
  deg : ∀ i, i < E.length → (gr E i).length = d
  und : ∀ i k, i < E.length → k < E.length → ma E i k = ma E k i
  few : ∀ i k, i < E.length → k < E.length → ma E i k = 0 ∨ ma E i k = 1

section
variable {E : List (List Nat)} {d : Nat}
theorem rt_none (h : Simple E d) (tg n : Nat) {i : Nat} (hi : i < E.length) : rt E tg (n + 1) none i = sm (fun v => ma E i v * rt E tg n (some i) v) E.length := by
  rw [rt, ls_sm (n := E.length) _ _ (h.valid i hi)]
  exact sm_ext _ fun j _ => by simp [ma]
/-- Without the step back. -/
theorem rt_some (h : Simple E d) (tg n p : Nat) {i : Nat} (hi : i < E.length) (hp : p < E.length) : rt E tg (n + 1) (some p) i = rt E tg (n + 1) none i - ma E i p * rt E tg n (some i) p := by
  have h1 : rt E tg (n + 1) (some p) i = sm (fun v => ma E i v * (if v = p then 0 else rt E tg n (some i) v)) E.length := by
    rw [rt, ls_sm (n := E.length) _ _ (h.valid i hi)]
    refine sm_ext _ fun j _ => ?_
    simp only [ma, Option.some.injEq]
    by_cases e : p = j
    · subst e; simp
    · rw [if_neg e, if_neg (fun h => e h.symm)]
  have h2 := sm_pick (fun v => ma E i v * rt E tg n (some i) v) p E.length
  rw [if_pos hp] at h2
  rw [h1, rt_none h tg n hi, ← h2, ← sm_sub]
  refine sm_ext _ fun j _ => ?_
  by_cases e : j = p
  · subst e; simp
  · simp [e]
theorem rt_back (h : Simple E d) (tg n : Nat) {i : Nat} (hi : i < E.length) : sm (fun v => ma E i v * rt E tg n (some v) i) E.length = byI d n * rt E tg n none i := by
  cases n with
  | zero =>
    have : (fun v => ma E i v * rt E tg 0 (some v) i) = fun v => ma E i v * rt E tg 0 none i := rfl
    rw [this, sm_mul', sm_row h.valid hi, h.deg i hi, byI, if_pos rfl]
  | succ m =>
    have e1 : sm (fun v => ma E i v * rt E tg (m + 1) (some v) i) E.length = sm (fun v => ma E i v * rt E tg (m + 1) none i - ma E i v * rt E tg m (some i) v) E.length := by
      refine sm_ext _ fun v hv => ?_
      rw [rt_some h tg m v hi hv]
      rcases h.few i v hi hv with e | e
      · rw [e]; simp
      · rw [e]; simp
    rw [e1, sm_sub, sm_mul', sm_row h.valid hi, h.deg i hi, ← rt_none h tg m hi, byI, if_neg (by omega), Int.sub_mul]
    omega
theorem rt_irr (h : Simple E d) (tg : Nat) (ht : tg < E.length) : ∀ n i, i < E.length → irr E d n i tg = rt E tg n none i
  | 0, i, hi => rfl
  | 1, i, hi => by
    show ma E i tg = _
    rw [rt_none h tg 0 hi]
    have : sm (fun v => ma E i v * rt E tg 0 (some i) v) E.length = sm (fun k => (if k = tg then 1 else 0) * ma E i k) E.length := sm_ext _ fun j _ => by
      show ma E i j * (if j = tg then 1 else 0) = _
      rw [Int.mul_comm]
    rw [this, sm_pick, if_pos ht]
  | n + 2, i, hi => by
    have h1 := rt_irr h tg ht (n + 1)
    have h2 := rt_irr h tg ht n i hi
    show mm E.length (ma E) (irr E d (n + 1)) i tg - irr E d n i tg * byI d n = _
    rw [h2]
    have h3 : mm E.length (ma E) (irr E d (n + 1)) i tg = rt E tg (n + 2) none i + sm (fun v => ma E i v * rt E tg n (some v) i) E.length := by
      unfold mm
      rw [rt_none h tg (n + 1) hi, ← sm_add]
      refine sm_ext _ fun v hv => ?_
      rw [h1 v hv, rt_some h tg n i hv hi]
      rcases h.few i v hi hv with e | e
      · rw [e]; simp
      · have e2 := h.und i v hi hv
        rw [e] at e2
        rw [e, ← e2]; omega
    rw [h3, rt_back h tg n hi, Int.mul_comm]
    omega
theorem rt_le (h : ∀ v, (gr E v).length ≤ 4) (tg : Nat) : ∀ n p i, 0 ≤ rt E tg n p i ∧ rt E tg n p i ≤ 4 ^ n
  | 0, p, i => by
    show 0 ≤ (if i = tg then (1 : Int) else 0) ∧ (if i = tg then (1 : Int) else 0) ≤ 4 ^ 0
    split <;> simp
  | n + 1, p, i => by
    have ih := rt_le h tg n
    have hl : ∀ l : List Nat, 0 ≤ ls (fun v => if p = some v then 0 else rt E tg n (some i) v) l ∧ ls (fun v => if p = some v then 0 else rt E tg n (some i) v) l ≤ l.length * 4 ^ n := by
      intro l
      induction l with
      | nil => simp [ls]
      | cons v r ihl =>
        have := ih (some i) v
        have hp : (0 : Int) < 4 ^ n := Int.pow_pos (by omega)
        simp only [ls, List.length_cons]
        have e : (((r.length + 1 : Nat) : Int)) * 4 ^ n = r.length * 4 ^ n + 4 ^ n := by rw [Int.natCast_add, Int.add_mul]; simp
        rw [e]
        split <;> omega
    have h1 := hl (gr E i)
    have h2 : ((gr E i).length : Int) * 4 ^ n ≤ 4 * 4 ^ n := Int.mul_le_mul_of_nonneg_right (by have := h i; omega) (Int.le_of_lt (Int.pow_pos (by omega)))
    show 0 ≤ ls _ (gr E i) ∧ ls _ (gr E i) ≤ 4 ^ (n + 1)
    rw [Int.pow_succ]
    omega
end
end Go.Proofs.YtpkjdnplmgfbbaaDoor
