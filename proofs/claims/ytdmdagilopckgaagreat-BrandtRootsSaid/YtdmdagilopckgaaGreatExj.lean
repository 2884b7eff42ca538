/- Package brandt: what CheckEnclosures answers (plain); more laws for regions that draw. -/
import Derived.Test.YtdmdagilopckgaaGreatB5
namespace Go.Proofs.YtdmdagilopckgaaGreat
open Go.RowKit

section
variable {P : Program} {ops : Array Oper} {Q : Exit → Act → World → Prop} {md : Region.Mode} {S : World → Prop} {Z : List Nat}
theorem goG_skip (d : Nat) {i : Nat} {o : Oper} {r : Trg} {a : Act} {w : World} (hS : S w) (ho : ops[i]? = some o) (hd : o.dst = some d) (hw : Region.wanted o (yielded ops a.tmps) = false) (h : goG P ops Q S Z r { a with tmps := a.tmps.setIfInBounds d undef } w) : goG P ops Q S Z (.read i r) a w :=
  ⟨hS, o, undef, ho, .inr ⟨hw, rfl⟩, by rw [put_some hd]; exact h⟩
theorem goG_stepSkip (d : Nat) {i : Nat} {o : Oper} {r : Trg} {a : Act} {w : World} (hS : S w) (ho : ops[i]? = some o) (hd : o.dst = some d) (hw : Region.wanted o (yielded ops a.tmps) = false) (h : goG P ops Q S Z r { a with tmps := a.tmps.setIfInBounds d undef } w) : goG P ops Q S Z (.step i r) a w := by
  refine ⟨o, ho, ?_⟩
  unfold wpList
  rw [if_neg (by rw [hw]; simp)]
  unfold wpList
  refine ⟨fun _ => hS, ?_⟩
  rw [put_some hd]
  exact h
/-- A call of a region that draws its order; it may be guarded. -/
theorem goG_call (d : Nat) {i : Nat} {o : Oper} {r : Trg} {a : Act} {w : World} {f : FuncId} {args : Array Value} (ho : ops[i]? = some o) (hd : o.dst = some d) (hw : Region.wanted o (yielded ops a.tmps) = true) (hrun : (execOp a.eval o).run P w = .ok (.enter f args) w)
    {post : Ending → World → Prop} (hc : Calls P f args w post) (h : ∀ e w', post e w' → ∃ v, e = .returned v ∧ (Z.contains i = false → S w') ∧ goG P ops Q S Z r { a with tmps := a.tmps.setIfInBounds d v } w') : goG P ops Q S Z (.step i r) a w := by
  refine ⟨o, ho, ?_⟩
  unfold wpList
  rw [if_pos hw]
  left
  unfold Oper.wp
  rw [hrun]
  refine Calls.mono hc ?_
  intro e w' hp
  obtain ⟨v, rfl, h1, h2⟩ := h e w' hp
  show wpList P ops _ [] (a.put o.dst v) w'
  unfold wpList
  rw [put_some hd]
  exact ⟨h1, h2⟩
end

/-- The first error of the fractions. -/
def frE : List En → Int
  | [] => 0
  | q :: r => if twE q.1 q.2.1 q.2.2.1 q.2.2.2.1 ≠ 0 then twE q.1 q.2.1 q.2.2.1 q.2.2.2.1 else frE r
theorem frE_append (A B : List En) : frE (A ++ B) = if frE A ≠ 0 then frE A else frE B := by
  induction A with
  | nil => simp [frE]
  | cons q r ih =>
    rw [List.cons_append, frE, frE, ih]
    split
    · rfl
    · rfl
theorem frE_mem : ∀ {L : List En}, frE L = 0 → ∀ q ∈ L, twE q.1 q.2.1 q.2.2.1 q.2.2.2.1 = 0
  | [], _, q, hq => by cases hq
  | p :: r, h, q, hq => by
    rw [frE] at h
    split at h
    · rename_i h1; exact absurd h h1
    · rename_i h1
      rcases List.mem_cons.1 hq with rfl | hq
      · exact Decidable.not_not.1 h1
      · exact frE_mem h q hq
theorem take_at {L : List En} {k : Nat} {q : En} (h : L[k]? = some q) : L = L.take k ++ q :: L.drop (k + 1) ∧ k < L.length := by
  have hk : k < L.length := by
    rcases Nat.lt_or_ge k L.length with h1 | h1
    · exact h1
    · rw [List.getElem?_eq_none h1] at h; cases h
  refine ⟨?_, hk⟩
  have e : L.drop k = q :: L.drop (k + 1) := by
    rw [List.drop_eq_getElem_cons hk]
    congr 1
    rw [List.getElem?_eq_getElem hk] at h
    injection h
  rw [← e, List.take_append_drop]
theorem frE_first {L : List En} {k : Nat} {q : En} (h : L[k]? = some q) (h0 : frE (L.take k) = 0) (hd : twE q.1 q.2.1 q.2.2.1 q.2.2.2.1 ≠ 0) : frE L = twE q.1 q.2.1 q.2.2.1 q.2.2.2.1 := by
  conv => lhs; rw [(take_at h).1]
  rw [frE_append, if_neg (by rw [h0]; simp), frE, if_pos hd]
theorem frE_next {L : List En} {k : Nat} {q : En} (h : L[k]? = some q) (h0 : frE (L.take k) = 0) (hd : twE q.1 q.2.1 q.2.2.1 q.2.2.2.1 = 0) : frE (L.take (k + 1)) = 0 := by
  rw [List.take_add_one, h, frE_append, if_neg (by rw [h0]; simp)]
  simp [frE, hd]
theorem twE_zero {a b c d : Int} (h1 : cfE a b = 0) (h2 : cfE c d = 0) : twE a b c d = 0 := by unfold twE; rw [if_neg (by rw [h1]; simp), h2]
theorem twE_inv {a b c d : Int} (h : twE a b c d = 0) : cfE a b = 0 ∧ cfE c d = 0 := by
  unfold twE at h
  split at h
  · rename_i h1; exact absurd h h1
  · rename_i h1; exact ⟨Decidable.not_not.1 h1, h⟩
theorem twE_one {a b c d x : Int} (h1 : cfE a b = x) (hx : x ≠ 0) : twE a b c d = x := by unfold twE; rw [if_pos (by rw [h1]; exact hx), h1]
theorem twE_two {a b c d x : Int} (h1 : cfE a b = 0) (h2 : cfE c d = x) : twE a b c d = x := by unfold twE; rw [if_neg (by rw [h1]; simp), h2]

/-- The lower end does not lie below the upper one. -/
def b1 (q : En) : Bool := !decide (q.1 * q.2.2.2.1 < q.2.2.1 * q.2.1)
/-- It begins ahead of the end of p. -/
def b2 (p q : En) : Bool := decide (q.1 * p.2.2.2.1 < p.2.2.1 * q.2.1)
/-- It counts something else. -/
def b4 (t : List Int) (q : En) : Bool := chA q.1 q.2.1 (ch t) - chA q.2.2.1 q.2.2.2.1 (ch t) != q.2.2.2.2
/-- An enclosure that is refused, behind p. -/
def badQ (t : List Int) (p : Option En) (q : En) : Bool := b1 q || (match p with | none => false | some p => b2 p q) || decide (q.2.2.2.2 < 1) || b4 t q
def badF (t : List Int) : Option En → List En → Bool
  | _, [] => false
  | p, q :: r => badQ t p q || badF t (some q) r
def sumC (L : List En) : Int := (L.map (·.2.2.2.2)).sum
/-- The error of CheckEnclosures. -/
def ceE (l : List Int) (L : List En) : Int :=
  if rdE l ≠ 0 then rdE l else if 61 < L.length then 8 else if frE L ≠ 0 then frE L else if badF (tz l) none L = true then 18 else if sumC L = allR (ch (tz l)) then 0 else 18
/-- What stands ahead of the k-th. -/
def pre (L : List En) (k : Nat) : Option En := if k = 0 then none else L[k - 1]?
theorem badF_append (t : List Int) : ∀ (p : Option En) (A B : List En), badF t p (A ++ B) = (badF t p A || badF t (match A.getLast? with | none => p | some q => some q) B)
  | p, [], B => by simp [badF]
  | p, q :: r, B => by
    rw [List.cons_append, badF, badF, badF_append t (some q) r B, Bool.or_assoc]
    rcases r with _ | ⟨q2, r2⟩
    · simp
    · obtain ⟨z, hz⟩ : ∃ z, (q2 :: r2).getLast? = some z := ⟨_, List.getLast?_eq_some_getLast (by simp)⟩
      rw [List.getLast?_cons_cons, hz]
theorem pre_take {L : List En} {k : Nat} (hk : k ≤ L.length) : (match (L.take k).getLast? with | none => none | some q => some q) = pre L k := by
  unfold pre
  rcases Nat.eq_zero_or_pos k with h | h
  · subst h; simp
  · rw [if_neg (by omega), List.getLast?_eq_getElem?, List.length_take, List.getElem?_take]
    have e : min k L.length - 1 = k - 1 := by omega
    rw [e, if_pos (by omega)]
    cases L[k - 1]? <;> rfl
theorem badF_first {t : List Int} {L : List En} {k : Nat} {q : En} (h : L[k]? = some q) (hb : badQ t (pre L k) q = true) : badF t none L = true := by
  obtain ⟨e, hk⟩ := take_at h
  rw [e, badF_append, pre_take (by omega), badF, hb]
  simp
theorem badF_next {t : List Int} {L : List En} {k : Nat} {q : En} (h : L[k]? = some q) (h0 : badF t none (L.take k) = false) (hb : badQ t (pre L k) q = false) : badF t none (L.take (k + 1)) = false := by
  have hk := (take_at h).2
  rw [List.take_add_one, h, badF_append, pre_take (by omega), h0]
  simp [badF, hb]
theorem sumC_next {L : List En} {k : Nat} {q : En} (h : L[k]? = some q) : sumC (L.take (k + 1)) = sumC (L.take k) + q.2.2.2.2 := by
  unfold sumC
  rw [List.take_add_one, h]
  simp
end Go.Proofs.YtdmdagilopckgaaGreat
