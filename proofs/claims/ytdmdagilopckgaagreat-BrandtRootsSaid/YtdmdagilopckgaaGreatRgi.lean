/- A region that draws its order, gone through by what holds whatever has been done so far. -/
import Derived.Test.YtdmdagilopckgaaGreatRg
namespace Go.Proofs.YtdmdagilopckgaaGreat
open Go.RowKit

/-- The number of operations that are still to be done. -/
def todo (l : List Bool) : Nat := l.countP (! ·)
theorem todo_set : ∀ (l : List Bool) (i : Nat), l[i]? = some false → todo (l.set i true) + 1 = todo l
  | [], i, h => by simp at h
  | b :: r, 0, h => by
    simp at h
    subst h
    simp [todo]
  | b :: r, i + 1, h => by
    have := todo_set r i (by simpa using h)
    unfold todo at *
    rw [List.set_cons_succ, List.countP_cons, List.countP_cons]
    omega
theorem todo_zero : ∀ (l : List Bool), todo l = 0 → ∀ (i : Nat), l[i]? ≠ some false
  | [], _, i, h => by simp at h
  | b :: r, h0, 0, h => by
    simp at h
    subst h
    simp [todo] at h0
  | b :: r, h0, i + 1, h => by
    unfold todo at h0
    rw [List.countP_cons] at h0
    exact todo_zero r (by unfold todo; omega) i (by simpa using h)

/-- Each operation waits only for ones before it in the list. -/
def inOrder (md : Region.Mode) (ops : Array Oper) : Bool := (List.range ops.size).all fun i => match ops[i]? with | none => true | some o => o.after.all fun e => !Region.binds md e || decide (e.on < i)

section
variable {P : Program} {ops : Array Oper} {Q : Exit → Act → World → Prop} {md : Region.Mode}
theorem getD_false {listed : Array Bool} {i : Nat} (h : listed.getD i true = false) : listed.toList[i]? = some false := by
  rcases Nat.lt_or_ge i listed.size with h1 | h1
  · simp [h1] at h ⊢; exact h
  · simp [Array.getElem?_eq_none h1] at h
theorem wpAny_inv (Inv : Array Bool → Act → World → Prop) (hord : inOrder md ops = true)
    (hin : ∀ (listed : Array Bool) (a : Act) (w : World), Inv listed a w → ∀ i o, ops[i]? = some o → listed.getD i true = false → (o.after.all fun e => !Region.binds md e || listed.getD e.on false) = true → wpOp P ops Q i (fun a' w' => Inv (listed.setIfInBounds i true) a' w') a w)
    (hend : ∀ (listed : Array Bool) (a : Act) (w : World), Inv listed a w → (∀ i, i < ops.size → listed.getD i true = true) → Q .normal a w) :
    ∀ (fuel : Nat) (listed : Array Bool) (a : Act) (w : World), listed.size = ops.size → todo listed.toList ≤ fuel → Inv listed a w → wpAny P md ops Q fuel listed a w := by
  have hnone : ∀ (listed : Array Bool), listed.size = ops.size → Region.ready md ops listed = [] → ∀ i, i < ops.size → listed.getD i true = true := by
    intro listed hsz h0 i
    induction i using Nat.strongRecOn with
    | ind i ih =>
      intro hi
      cases hl : listed.getD i true
      · exfalso
        have hmem : i ∈ Region.ready md ops listed := by
          unfold Region.ready
          rw [List.mem_filter]
          refine ⟨List.mem_range.2 hi, ?_⟩
          obtain ⟨o, ho⟩ : ∃ o, ops[i]? = some o := ⟨_, Array.getElem?_eq_getElem hi⟩
          rw [hl, ho]
          simp only [Bool.not_false, Bool.true_and, Option.map_some, Option.getD_some]
          have h1 := List.all_eq_true.1 hord i (List.mem_range.2 hi)
          rw [ho] at h1
          rw [Array.all_eq_true] at h1 ⊢
          intro k hk
          have h2 := h1 k hk
          rw [Bool.or_eq_true] at h2 ⊢
          rcases h2 with h2 | h2
          · exact .inl h2
          · right
            have h3 := of_decide_eq_true h2
            have h4 := ih _ h3 (by omega)
            rcases Nat.lt_or_ge (o.after[k]).on listed.size with h5 | h5
            · simp [h5] at h4 ⊢; exact h4
            · omega
        rw [h0] at hmem
        cases hmem
      · rfl
  intro fuel
  induction fuel with
  | zero =>
    intro listed a w hsz ht hI
    have hall : ∀ i, i < ops.size → listed.getD i true = true := fun i hi => by
      cases hl : listed.getD i true
      · exact absurd (getD_false hl) (todo_zero _ (by omega) i)
      · rfl
    refine ⟨?_, hend _ _ _ hI hall⟩
    refine List.eq_nil_iff_forall_not_mem.2 fun i hi => ?_
    obtain ⟨h1, o, ho, _⟩ := mem_ready.1 hi
    have h2 := hall i (by rcases Nat.lt_or_ge i ops.size with h | h; exact h; rw [Array.getElem?_eq_none h] at ho; cases ho)
    rw [h1] at h2
    cases h2
  | succ fuel ih =>
    intro listed a w hsz ht hI
    refine ⟨fun h0 => hend _ _ _ hI (hnone listed hsz h0), fun i hi => ?_⟩
    have hi2 := hi
    unfold Region.ready at hi2
    rw [List.mem_filter] at hi2
    obtain ⟨h1, o, ho, _⟩ := mem_ready.1 hi
    have h3 := hi2.2
    rw [h1, ho] at h3
    simp only [Bool.not_false, Bool.true_and, Option.map_some, Option.getD_some] at h3
    refine wpOp_mono (fun a' w' h' => ih _ a' w' (by simpa using hsz) ?_ h') (hin _ _ _ hI i o ho h1 h3)
    have := todo_set listed.toList i (getD_false h1)
    rw [Array.toList_setIfInBounds]
    omega
/-- A region that draws its order, by what holds whatever has been done. -/
theorem wp_region_inv {id : Nat} {a : Act} {w : World} {L : List Oper} (Inv : Array Bool → Act → World → Prop) (hm : P.follows .mixedOrders = true) (hord : inOrder .any L.toArray = true)
    (hin : ∀ (listed : Array Bool) (a : Act) (w : World), Inv listed a w → ∀ i o, L.toArray[i]? = some o → listed.getD i true = false → (o.after.all fun e => !Region.binds .any e || listed.getD e.on false) = true → wpOp P L.toArray Q i (fun a' w' => Inv (listed.setIfInBounds i true) a' w') a w)
    (hend : ∀ (listed : Array Bool) (a : Act) (w : World), Inv listed a w → (∀ i, i < L.length → listed.getD i true = true) → Q .normal a w)
    (h0 : Inv (Array.replicate L.length false) a w.drew) : (Code.region id L.toArray true).wp P Q a w := by
  refine wp_region_any hm ?_
  have hsz : L.toArray.size = L.length := by simp
  refine wpAny_inv Inv hord hin (fun l a w h1 h2 => hend l a w h1 (by rw [← hsz]; exact h2)) _ _ _ _ (by simp) ?_ (by rw [hsz]; exact h0)
  have : ∀ n, todo (List.replicate n false) = n := fun n => by
    induction n with
    | zero => rfl
    | succ n ih => unfold todo at *; rw [List.replicate_succ, List.countP_cons, ih]; simp
  rw [Array.toList_replicate, this]
  exact Nat.le_refl _
end
end Go.Proofs.YtdmdagilopckgaaGreat
