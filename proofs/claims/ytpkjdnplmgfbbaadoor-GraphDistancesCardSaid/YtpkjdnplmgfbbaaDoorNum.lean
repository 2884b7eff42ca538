/- Numbers as lists of digits: values, canonical digits, lists without zeros at the end. Plain Lean. -/
import Derived.Test.YtpkjdnplmgfbbaaDoorBase
namespace Go.Proofs.YtpkjdnplmgfbbaaDoor

/-- The element of a list, 0 behind its end. -/
def gw (l : List Nat) (j : Nat) : Nat := l.getD j 0

theorem gw_nil (j : Nat) : gw [] j = 0 := by simp [gw]
theorem gw_cons_zero (x : Nat) (l : List Nat) : gw (x :: l) 0 = x := rfl
theorem gw_cons_succ (x : Nat) (l : List Nat) (j : Nat) : gw (x :: l) (j + 1) = gw l j := rfl
theorem gw_lt {l : List Nat} {j : Nat} (h : j < l.length) : l[j]? = some (gw l j) := by
  simp [gw, List.getD, List.getElem?_eq_getElem h]
theorem gw_ge {l : List Nat} {j : Nat} (h : l.length ≤ j) : gw l j = 0 := by
  simp [gw, List.getD, List.getElem?_eq_none h]
theorem gw_mem {l : List Nat} {j : Nat} (h : j < l.length) : gw l j ∈ l := by
  have := gw_lt h
  exact List.mem_of_getElem? this
theorem gw_bound {l : List Nat} {b : Nat} (h : ∀ x ∈ l, x < b) (hb : 0 < b) (j : Nat) : gw l j < b := by
  rcases Nat.lt_or_ge j l.length with hj | hj
  · exact h _ (gw_mem hj)
  · rw [gw_ge hj]; exact hb
theorem gw_take {l : List Nat} {j k : Nat} (h : j < k) : gw (l.take k) j = gw l j := by
  simp [gw, List.getD, h]
theorem gw_append_left {l m : List Nat} {j : Nat} (h : j < l.length) : gw (l ++ m) j = gw l j := by
  simp [gw, List.getD, List.getElem?_append_left h]
theorem gw_append_at (l : List Nat) (x : Nat) (m : List Nat) : gw (l ++ x :: m) l.length = x := by
  simp [gw, List.getD]
theorem gw_drop (l : List Nat) (k j : Nat) : gw (l.drop k) j = gw l (k + j) := by
  simp [gw, List.getD, List.getElem?_drop]

/-- Without zeros at the end. -/
def trim : List Nat → List Nat
  | [] => []
  | x :: r => match trim r with
    | [] => if x = 0 then [] else [x]
    | y :: s => x :: y :: s

theorem trim_length_le (l : List Nat) : (trim l).length ≤ l.length := by
  induction l with
  | nil => simp [trim]
  | cons x r ih =>
    unfold trim
    split
    · split <;> simp
    · rename_i y s h; rw [h] at ih; simp at ih ⊢; omega

theorem trim_eq_take (l : List Nat) : trim l = l.take (trim l).length := by
  induction l with
  | nil => simp [trim]
  | cons x r ih =>
    unfold trim
    split
    · split <;> simp
    · rename_i y s h; rw [h] at ih; simp only [List.length_cons, List.take_succ_cons]; rw [← List.length_cons (a := y), ← ih]

theorem trim_snoc_zero (l : List Nat) : trim (l ++ [0]) = trim l := by
  induction l with
  | nil => simp [trim]
  | cons x r ih => simp only [List.cons_append]; unfold trim; rw [ih]

theorem trim_snoc_ne (l : List Nat) (x : Nat) (h : x ≠ 0) : trim (l ++ [x]) = l ++ [x] := by
  induction l with
  | nil => simp [trim, h]
  | cons y r ih =>
    simp only [List.cons_append]
    unfold trim
    rw [ih]
    cases r <;> simp

theorem take_succ_gw {l : List Nat} {k : Nat} (h : k < l.length) : l.take (k + 1) = l.take k ++ [gw l k] := by
  rw [List.take_add_one, gw_lt h]; simp

theorem trim_take_zero {l : List Nat} {k : Nat} (h : k < l.length) (h0 : gw l k = 0) : trim (l.take (k + 1)) = trim (l.take k) := by
  rw [take_succ_gw h, h0, trim_snoc_zero]
theorem trim_take_ne {l : List Nat} {k : Nat} (h : k < l.length) (h0 : gw l k ≠ 0) : trim (l.take (k + 1)) = l.take (k + 1) := by
  rw [take_succ_gw h, trim_snoc_ne _ _ h0]

theorem trim_mem {l : List Nat} {x : Nat} (h : x ∈ trim l) : x ∈ l := by
  rw [trim_eq_take] at h
  exact List.mem_of_mem_take h

/-- The value of digits to a base. -/
def val (b : Nat) : List Nat → Nat
  | [] => 0
  | x :: r => x + b * val b r

theorem val_append (b : Nat) (l m : List Nat) : val b (l ++ m) = val b l + b ^ l.length * val b m := by
  induction l with
  | nil => simp [val]
  | cons x r ih => simp only [List.cons_append, val, ih, List.length_cons, Nat.pow_succ]; rw [Nat.mul_add, Nat.add_assoc]; congr 2; rw [Nat.mul_comm (b ^ r.length) b, Nat.mul_assoc]

theorem val_snoc (b : Nat) (l : List Nat) (x : Nat) : val b (l ++ [x]) = val b l + b ^ l.length * x := by
  rw [val_append]; simp [val]

theorem val_trim (b : Nat) (l : List Nat) : val b (trim l) = val b l := by
  induction l with
  | nil => rfl
  | cons x r ih =>
    unfold trim
    split
    · rename_i h; rw [h] at ih; simp only [val] at ih ⊢; rw [← ih]; clear ih h; split <;> simp_all [val]
    · rename_i y s h; rw [h] at ih; simp only [val] at ih ⊢; rw [← ih]

theorem val_lt {b : Nat} {l : List Nat} (h : ∀ x ∈ l, x < b) : val b l < b ^ l.length := by
  induction l with
  | nil => simp [val]
  | cons x r ih =>
    have h1 := ih (fun y hy => h y (List.mem_cons_of_mem _ hy))
    have h2 := h x (List.mem_cons_self ..)
    simp only [val, List.length_cons, Nat.pow_succ]
    calc x + b * val b r < b + b * val b r := by omega
      _ = b * (val b r + 1) := by rw [Nat.mul_add]; omega
      _ ≤ b * b ^ r.length := Nat.mul_le_mul_left _ h1
      _ = b ^ r.length * b := Nat.mul_comm _ _

/-- The canonical digits of a number, with fuel. -/
def digF (b : Nat) : Nat → Nat → List Nat
  | 0, _ => []
  | f + 1, n => if n = 0 then [] else (n % b) :: digF b f (n / b)
def dig (b n : Nat) : List Nat := digF b n n

theorem digF_enough {b : Nat} (hb : 2 ≤ b) : ∀ (f g n : Nat), n ≤ f → n ≤ g → digF b f n = digF b g n := by
  intro f
  induction f with
  | zero => intro g n hf _; obtain rfl : n = 0 := by omega
            cases g <;> simp [digF]
  | succ f ih =>
    intro g n hf hg
    cases g with
    | zero => obtain rfl : n = 0 := by omega
              simp [digF]
    | succ g =>
      simp only [digF]
      split
      · rfl
      · rename_i hn
        have : n / b < n := Nat.div_lt_self (by omega) hb
        rw [ih g (n / b) (by omega) (by omega)]

theorem dig_zero (b : Nat) : dig b 0 = [] := rfl
theorem dig_pos {b n : Nat} (hb : 2 ≤ b) (hn : n ≠ 0) : dig b n = (n % b) :: dig b (n / b) := by
  unfold dig
  obtain ⟨m, rfl⟩ : ∃ m, n = m + 1 := ⟨n - 1, by omega⟩
  simp only [digF, if_neg hn]
  rw [digF_enough hb m ((m + 1) / b) ((m + 1) / b) _ (Nat.le_refl _)]
  have : (m + 1) / b < m + 1 := Nat.div_lt_self (by omega) hb
  omega

theorem trim_eq_dig {b : Nat} (hb : 2 ≤ b) {l : List Nat} (h : ∀ x ∈ l, x < b) : trim l = dig b (val b l) := by
  induction l with
  | nil => rfl
  | cons x r ih =>
    have h1 := ih (fun y hy => h y (List.mem_cons_of_mem _ hy))
    have h2 := h x (List.mem_cons_self ..)
    simp only [val]
    have hv := val_trim b r
    unfold trim
    split
    · rename_i e
      rw [e] at hv
      simp only [val] at hv
      rw [← hv]
      split
      · subst_vars; rfl
      · rename_i hx
        have e1 : (x + b * 0) = x := by omega
        rw [e1, dig_pos hb hx, Nat.mod_eq_of_lt h2, Nat.div_eq_of_lt h2, dig_zero]
    · rename_i y s e
      have hne : val b r ≠ 0 := by
        intro h0
        rw [h0, dig_zero] at h1
        rw [h1] at e
        cases e
      have hn : x + b * val b r ≠ 0 := by
        have : 0 < b * val b r := Nat.mul_pos (by omega) (by omega)
        omega
      rw [dig_pos hb hn, Nat.add_mul_mod_self_left, Nat.mod_eq_of_lt h2, Nat.add_mul_div_left _ _ (by omega), Nat.div_eq_of_lt h2, Nat.zero_add, ← h1, e]

theorem dig_lt {b : Nat} (hb : 2 ≤ b) : ∀ (n : Nat), ∀ x ∈ dig b n, x < b := by
  intro n
  induction n using Nat.strongRecOn with
  | ind n ih =>
    intro x hx
    by_cases hn : n = 0
    · subst hn; simp [dig_zero] at hx
    · rw [dig_pos hb hn] at hx
      rcases List.mem_cons.1 hx with rfl | hx
      · exact Nat.mod_lt _ (by omega)
      · exact ih (n / b) (Nat.div_lt_self (by omega) hb) x hx

theorem val_dig {b : Nat} (hb : 2 ≤ b) : ∀ (n : Nat), val b (dig b n) = n := by
  intro n
  induction n using Nat.strongRecOn with
  | ind n ih =>
    by_cases hn : n = 0
    · subst hn; rfl
    · rw [dig_pos hb hn]
      simp only [val]
      rw [ih (n / b) (Nat.div_lt_self (by omega) hb)]
      exact Nat.mod_add_div n b

theorem trim_dig {b : Nat} (hb : 2 ≤ b) (n : Nat) : trim (dig b n) = dig b n := by
  rw [trim_eq_dig hb (dig_lt hb n), val_dig hb]

theorem dig_eq_nil {b : Nat} (hb : 2 ≤ b) {n : Nat} : dig b n = [] ↔ n = 0 := by
  constructor
  · intro h
    have := val_dig hb n
    rw [h] at this
    exact this.symm
  · rintro rfl; rfl

theorem dig_inj {b : Nat} (hb : 2 ≤ b) {m n : Nat} (h : dig b m = dig b n) : m = n := by
  rw [← val_dig hb m, h, val_dig hb]

theorem dig_length_le {b : Nat} (hb : 2 ≤ b) {n k : Nat} (h : n < b ^ k) : (dig b n).length ≤ k := by
  induction k generalizing n with
  | zero => obtain rfl : n = 0 := by simp at h; omega
            simp [dig_zero]
  | succ k ih =>
    by_cases hn : n = 0
    · subst hn; simp [dig_zero]
    · rw [dig_pos hb hn, List.length_cons]
      have : n / b < b ^ k := Nat.div_lt_of_lt_mul (by rw [Nat.pow_succ] at h; rw [Nat.mul_comm]; exact h)
      have := ih this
      omega

end Go.Proofs.YtpkjdnplmgfbbaaDoor
