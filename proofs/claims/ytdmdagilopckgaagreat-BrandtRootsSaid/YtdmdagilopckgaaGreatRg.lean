/- Regions that draw their order, gone through by a tree; some operations (the stores at the end) need not keep what was read. -/
import Derived.Test.YtdmdagilopckgaaGreatA1
import Derived.Deep.RegionHeld
namespace Go.Proofs.YtdmdagilopckgaaGreat
open Go.RowKit

section
variable {P : Program} {ops : Array Oper} {Q : Exit → Act → World → Prop} {md : Region.Mode}
theorem upon_then (o : Oper) (a : Act) (next R : Act → World → Prop) (r : Result Next) (h : o.upon P a next (Exit.then R Q) r) : o.upon P a next Q r := by
  unfold Oper.upon at h ⊢
  split at h <;> first | exact h | skip
  all_goals
    refine Calls.mono h ?_
    intro e w'' hh
    cases e <;> exact hh
theorem wpOp_of_list {o : Oper} {k : Nat} {a : Act} {w : World} {R : Act → World → Prop} {rest : List Oper} (ho : ops[k]? = some o) (h : wpList P ops (Exit.then R Q) (o :: rest) a w) : wpOp P ops Q k (wpList P ops (Exit.then R Q) rest) a w := by
  unfold wpOp
  simp only [ho]
  unfold wpList at h
  split
  · rename_i hw
    rw [if_pos hw] at h
    rcases h with h | ⟨h1, h2⟩
    · exact .inl (upon_then o a _ R _ h)
    · exact .inr ⟨h1, h2⟩
  · rename_i hw
    rw [if_neg hw] at h
    exact h
theorem then_upon (o : Oper) (a : Act) (next R : Act → World → Prop) (r : Result Next) (h : o.upon P a next Q r) : o.upon P a next (Exit.then R Q) r := by
  unfold Oper.upon at h ⊢
  split at h <;> first | exact h | skip
  all_goals
    refine Calls.mono h ?_
    intro e w'' hh
    cases e <;> exact hh
theorem wpList_then_mono {R R' : Act → World → Prop} (hR : ∀ a w, R a w → R' a w) : ∀ (l' : List Oper) (a' : Act) (w' : World), wpList P ops (Exit.then R Q) l' a' w' → wpList P ops (Exit.then R' Q) l' a' w'
  | [], _, _, hh => hR _ _ hh
  | o :: l', a', w', hh => by
    unfold wpList at hh ⊢
    split
    · rename_i hw
      rw [if_pos hw] at hh
      rcases hh with hh | ⟨hh, hh2⟩
      · exact .inl (then_upon o a' _ R' _ (Oper.wp_mono (fun a w hh => wpList_then_mono hR l' a w hh) (upon_then o a' _ R _ hh)))
      · exact .inr ⟨hh, hh2⟩
    · rename_i hw
      rw [if_neg hw] at hh
      exact wpList_then_mono hR l' _ _ hh
end
theorem put_some {a : Act} {o : Oper} {d : Nat} {v : Value} (hd : o.dst = some d) : a.put o.dst v = { a with tmps := a.tmps.setIfInBounds d v } := by rw [hd]; rfl
inductive Trg where
  | nil
  | pure (i : Nat) (r : Trg)
  | read (i : Nat) (r : Trg)
  | step (i : Nat) (r : Trg)
  | two (i j : Nat) (r s : Trg)
def Trg.deep : Trg → Nat
  | .nil => 0
  | .pure _ r => r.deep + 1
  | .read _ r => r.deep + 1
  | .step _ r => r.deep + 1
  | .two _ _ r _ => r.deep + 1
section
variable {P : Program} {ops : Array Oper} {Q : Exit → Act → World → Prop} {md : Region.Mode} {S : World → Prop} {Z : List Nat}
/-- Whatever order is picked, and S holds behind each operation but those of Z. -/
def wpAnyG (P : Program) (md : Region.Mode) (ops : Array Oper) (Q : Exit → Act → World → Prop) (S : World → Prop) (Z : List Nat) : Nat → Array Bool → Act → World → Prop
  | 0, listed, a, w => Region.ready md ops listed = [] ∧ Q .normal a w
  | fuel + 1, listed, a, w =>
    (Region.ready md ops listed = [] → Q .normal a w) ∧
    ∀ i ∈ Region.ready md ops listed, wpOp P ops Q i (fun a' w' => (Z.contains i = false → S w') ∧ wpAnyG P md ops Q S Z fuel (listed.setIfInBounds i true) a' w') a w
theorem wpAny_of_G : ∀ (fuel : Nat) (listed : Array Bool) (a : Act) (w : World), wpAnyG P md ops Q S Z fuel listed a w → wpAny P md ops Q fuel listed a w
  | 0, _, _, _, h => h
  | fuel + 1, _, _, _, h => ⟨h.1, fun i hi => wpOp_mono (fun a' w' h' => wpAny_of_G fuel _ a' w' h'.2) (h.2 i hi)⟩
/-- Each operation of Z has been done, or waits for number i. -/
def waitB (md : Region.Mode) (ops : Array Oper) (Z : List Nat) (listed : Array Bool) (i : Nat) : Bool :=
  Z.all fun z => listed.getD z true || (match ops[z]? with | none => true | some o => o.after.any fun e => Region.binds md e && e.on == i)
theorem waitB_spec {listed : Array Bool} {i j : Nat} (h : waitB md ops Z listed i = true) (hun : listed.getD i true = false) (hj : j ∈ Region.ready md ops listed) : Z.contains j = false := by
  cases hz : Z.contains j
  · rfl
  · obtain ⟨hju, o, ho, hall⟩ := mem_ready.1 hj
    have h1 := List.all_eq_true.1 h j (by simpa using hz)
    rw [hju, ho] at h1
    simp only [Bool.false_or] at h1
    obtain ⟨e, he, h2⟩ := Array.any_eq_true'.1 h1
    simp only [Bool.and_eq_true, beq_iff_eq] at h2
    have h3 := hall e he h2.1
    rw [h2.2] at h3
    rcases Nat.lt_or_ge i listed.size with h' | h'
    · simp [h'] at hun h3; rw [hun] at h3; cases h3
    · simp [Array.getElem?_eq_none h'] at h3
theorem waitB_mono {listed : Array Bool} {i j : Nat} (h : waitB md ops Z listed i = true) : waitB md ops Z (listed.setIfInBounds j true) i = true := by
  refine List.all_eq_true.2 fun z hz => ?_
  have h1 := List.all_eq_true.1 h z hz
  rw [Bool.or_eq_true] at h1 ⊢
  rcases h1 with h1 | h1
  · left
    by_cases hjz : j = z
    · subst hjz
      rcases Nat.lt_or_ge j listed.size with h' | h'
      · simp [h']
      · simp
    · rw [getD_set_ne true hjz]; exact h1
  · exact .inr h1

theorem wpAnyG_first {T : World → Prop} {i : Nat} {oi : Oper} {v : Value} (hi : ops[i]? = some oi) (hsel : ∀ (j : Nat) (o : Oper) cs b, ops[j]? = some o → o.op ≠ .select cs b)
    (hQ : ∀ c a w, Q (.panic c) (a.put oi.dst v) w → Q (.panic c) a w) (W : Array Bool → Prop)
    (hW : ∀ listed j, W listed → W (listed.setIfInBounds j true)) (hT : ∀ (listed : Array Bool) (j : Nat) (w' : World), W listed → i ∈ Region.ready md ops listed → j ∈ Region.ready md ops listed → (Z.contains j = false → S w') → T w') (hown : ∀ w', T w' → Z.contains i = false → S w') :
    ∀ (fuel : Nat) (listed : Array Bool) (a : Act) (w : World), W listed →
      (∀ j oj, ops[j]? = some oj → j ≠ i → listed.getD j true = false → (∀ e ∈ oj.after, Region.binds md e = true → e.on ≠ i) → oi.apart ops oj = true) →
      i ∈ Region.ready md ops listed → YieldsIf P ops T oi v a → T w →
      wpAnyG P md ops Q S Z fuel (listed.setIfInBounds i true) (a.put oi.dst v) w → wpAnyG P md ops Q S Z (fuel + 1) listed a w := by
  intro fuel
  induction fuel with
  | zero =>
    intro listed a w _ _ hr hy hS H
    refine ⟨fun h => (by rw [h] at hr; cases hr), fun j hj => ?_⟩
    by_cases hji : j = i
    · subst hji; exact hy.wpOp hi hS ⟨hown w hS, H⟩
    · have := ready_mono hj hji
      rw [H.1] at this
      cases this
  | succ fuel ih =>
    intro listed a w hWl hfree hr hy hS H
    refine ⟨fun h => (by rw [h] at hr; cases hr), fun j hj => ?_⟩
    by_cases hji : j = i
    · subst hji; exact hy.wpOp hi hS ⟨hown w hS, H⟩
    · have h1 := H.2 j (ready_mono hj hji)
      obtain ⟨hjun, oj, hoj, hall⟩ := mem_ready.1 hj
      have hnot : ∀ e ∈ oj.after, Region.binds md e = true → e.on ≠ i := fun e he hb heq => by
        have h1 := hall e he hb
        have h0 := (mem_ready.1 hr).1
        rw [heq] at h1
        rcases Nat.lt_or_ge i listed.size with h' | h'
        · simp [h'] at h0 h1; rw [h0] at h1; cases h1
        · simp [Array.getElem?_eq_none h'] at h1
      have h2 := wpOp_putIf hoj (hfree j oj hoj hji hjun hnot) (fun cs b => hsel i oi cs b hi) (fun cs b => hsel j oj cs b hoj) hQ hy h1
      have hfree' : ∀ k ok, ops[k]? = some ok → k ≠ i → (listed.setIfInBounds j true).getD k true = false →
          (∀ e ∈ ok.after, Region.binds md e = true → e.on ≠ i) → oi.apart ops ok = true := fun k ok hk hki hun hno => by
        refine hfree k ok hk hki ?_ hno
        by_cases hjk : j = k
        · subst hjk; exact hjun
        · rw [getD_set_ne true hjk] at hun; exact hun
      refine wpOp_mono (fun a' w' h3 => ⟨h3.2.1, ih (listed.setIfInBounds j true) a' w' (hW _ _ hWl) hfree' (ready_mono hr (Ne.symm hji)) h3.1 (hT listed j w' hWl hr hj h3.2.1) ?_⟩) h2
      rw [Array.setIfInBounds_comm _ _ hji]
      exact h3.2.2

def goG (P : Program) (ops : Array Oper) (Q : Exit → Act → World → Prop) (S : World → Prop) (Z : List Nat) : Trg → Act → World → Prop
  | .nil, a, w => Q .normal a w
  | .pure i r, a, w => ∃ o v, ops[i]? = some o ∧ YieldsIf P ops (fun _ => True) o v a ∧ goG P ops Q S Z r (a.put o.dst v) w
  | .read i r, a, w => S w ∧ ∃ o v, ops[i]? = some o ∧ YieldsIf P ops S o v a ∧ goG P ops Q S Z r (a.put o.dst v) w
  | .step i r, a, w => ∃ o, ops[i]? = some o ∧ wpList P ops (Exit.then (fun a' w' => (Z.contains i = false → S w') ∧ goG P ops Q S Z r a' w') Q) [o] a w
  | .two i j r s, a, w => ∃ o p, ops[i]? = some o ∧ ops[j]? = some p ∧ wpList P ops (Exit.then (fun a' w' => (Z.contains i = false → S w') ∧ goG P ops Q S Z r a' w') Q) [o] a w ∧ wpList P ops (Exit.then (fun a' w' => (Z.contains j = false → S w') ∧ goG P ops Q S Z s a' w') Q) [p] a w
def planG (md : Region.Mode) (ops : Array Oper) (Z : List Nat) : Trg → Array Bool → Bool
  | .nil, listed => (Region.ready md ops listed).isEmpty
  | .pure i r, listed => (Region.ready md ops listed).contains i && Region.free md ops listed i && Z.contains i && planG md ops Z r (listed.setIfInBounds i true)
  | .read i r, listed => (Region.ready md ops listed).contains i && Region.free md ops listed i && waitB md ops Z listed i && planG md ops Z r (listed.setIfInBounds i true)
  | .step i r, listed => decide (Region.ready md ops listed = [i]) && planG md ops Z r (listed.setIfInBounds i true)
  | .two i j r s, listed => decide (Region.ready md ops listed = [i, j]) && decide (r.deep = s.deep) && planG md ops Z r (listed.setIfInBounds i true) && planG md ops Z s (listed.setIfInBounds j true)
theorem wpAnyG_tre (hs : Region.noSelect ops = true) (hQ : ∀ c a t v w, Q (.panic c) (Act.put a (some t) v) w → Q (.panic c) a w) : ∀ (t : Trg) (listed : Array Bool) (a : Act) (w : World), planG md ops Z t listed = true → goG P ops Q S Z t a w → wpAnyG P md ops Q S Z t.deep listed a w
  | .nil, listed, a, w, hB, h => ⟨by simpa [planG] using hB, h⟩
  | .pure i r, listed, a, w, hB, h => by
    simp only [planG, Bool.and_eq_true] at hB
    obtain ⟨⟨⟨h1, h2⟩, h3⟩, h4⟩ := hB
    obtain ⟨o, v, ho, hy, hr⟩ := h
    exact wpAnyG_first (T := fun _ => True) ho (Region.noSelect_spec hs) (fun c a w hh => by cases hd : o.dst with | none => (rw [hd] at hh; exact hh) | some t => (rw [hd] at hh; exact hQ c a t v w hh)) (fun _ => True) (fun _ _ _ => trivial) (fun _ _ _ _ _ _ _ => trivial) (fun _ _ hz => by rw [hz] at h3; cases h3) _ listed a w trivial (Region.free_spec ho h2) (by simpa using h1) hy trivial (wpAnyG_tre hs hQ r _ _ _ h4 hr)
  | .read i r, listed, a, w, hB, h => by
    simp only [planG, Bool.and_eq_true] at hB
    obtain ⟨⟨⟨h1, h2⟩, h3⟩, h4⟩ := hB
    obtain ⟨hS, o, v, ho, hy, hr⟩ := h
    exact wpAnyG_first (T := S) ho (Region.noSelect_spec hs) (fun c a w hh => by cases hd : o.dst with | none => (rw [hd] at hh; exact hh) | some t => (rw [hd] at hh; exact hQ c a t v w hh)) (fun listed => waitB md ops Z listed i = true) (fun _ _ h => waitB_mono h) (fun listed j w' hw hi hj hh => hh (waitB_spec hw (mem_ready.1 hi).1 hj)) (fun _ hw _ => hw) _ listed a w h3 (Region.free_spec ho h2) (by simpa using h1) hy hS (wpAnyG_tre hs hQ r _ _ _ h4 hr)
  | .step i r, listed, a, w, hB, h => by
    simp only [planG, Bool.and_eq_true, decide_eq_true_eq] at hB
    obtain ⟨h1, h4⟩ := hB
    obtain ⟨o, ho, hw⟩ := h
    refine ⟨fun h0 => (by rw [h1] at h0; cases h0), fun j hj => ?_⟩
    rw [h1] at hj
    have hji : j = i := by simpa using hj
    subst hji
    refine wpOp_mono (fun a' w' h' => ?_) (wpOp_of_list ho hw)
    have h'' : (Z.contains j = false → S w') ∧ goG P ops Q S Z r a' w' := h'
    exact ⟨h''.1, wpAnyG_tre hs hQ r _ _ _ h4 h''.2⟩
  | .two i j r s, listed, a, w, hB, h => by
    simp only [planG, Bool.and_eq_true, decide_eq_true_eq] at hB
    obtain ⟨⟨⟨h1, h5⟩, h4⟩, h6⟩ := hB
    obtain ⟨o, p, ho, hp, hw, hw2⟩ := h
    refine ⟨fun h0 => (by rw [h1] at h0; cases h0), fun k hk => ?_⟩
    rw [h1] at hk
    rcases List.mem_cons.1 hk with rfl | hk
    · refine wpOp_mono (fun a' w' h' => ?_) (wpOp_of_list ho hw)
      have h'' : (Z.contains k = false → S w') ∧ goG P ops Q S Z r a' w' := h'
      exact ⟨h''.1, wpAnyG_tre hs hQ r _ _ _ h4 h''.2⟩
    · rw [List.mem_singleton] at hk
      subst hk
      refine wpOp_mono (fun a' w' h' => ?_) (wpOp_of_list hp hw2)
      have h'' : (Z.contains k = false → S w') ∧ goG P ops Q S Z s a' w' := h'
      have key := wpAnyG_tre hs hQ s _ _ _ h6 h''.2
      rw [← h5] at key
      exact ⟨h''.1, key⟩
theorem goG_pure (d : Nat) {i : Nat} {o : Oper} {r : Trg} {a : Act} {w : World} (ho : ops[i]? = some o) (hd : o.dst = some d) (v : Value) (hw : Region.wanted o (yielded ops a.tmps) = true) (hy : ∀ w, (execOp a.eval o).run P w = .ok (.value v) w) (h : goG P ops Q S Z r { a with tmps := a.tmps.setIfInBounds d v } w) : goG P ops Q S Z (.pure i r) a w :=
  ⟨o, v, ho, .inl ⟨hw, fun w _ => hy w⟩, by rw [put_some hd]; exact h⟩
theorem goG_read (d : Nat) {i : Nat} {o : Oper} {r : Trg} {a : Act} {w : World} (hS : S w) (ho : ops[i]? = some o) (hd : o.dst = some d) (v : Value) (hw : Region.wanted o (yielded ops a.tmps) = true) (hy : ∀ w, S w → (execOp a.eval o).run P w = .ok (.value v) w) (h : goG P ops Q S Z r { a with tmps := a.tmps.setIfInBounds d v } w) : goG P ops Q S Z (.read i r) a w :=
  ⟨hS, o, v, ho, .inl ⟨hw, hy⟩, by rw [put_some hd]; exact h⟩
theorem goG_step {i : Nat} {o : Oper} {r : Trg} {a : Act} {w : World} (ho : ops[i]? = some o) (h : wpList P ops (Exit.then (fun a' w' => (Z.contains i = false → S w') ∧ goG P ops Q S Z r a' w') Q) [o] a w) : goG P ops Q S Z (.step i r) a w := ⟨o, ho, h⟩
theorem goG_two {i j : Nat} {o p : Oper} {r s : Trg} {a : Act} {w : World} (ho : ops[i]? = some o) (hp : ops[j]? = some p) (h : wpList P ops (Exit.then (fun a' w' => (Z.contains i = false → S w') ∧ goG P ops Q S Z r a' w') Q) [o] a w) (h2 : wpList P ops (Exit.then (fun a' w' => (Z.contains j = false → S w') ∧ goG P ops Q S Z s a' w') Q) [p] a w) : goG P ops Q S Z (.two i j r s) a w := ⟨o, p, ho, hp, h, h2⟩
end
/-- A region that draws its order. -/
theorem wp_region_trg {P : Program} {Q : Exit → Act → World → Prop} {id : Nat} {a : Act} {w : World} {L : List Oper} (t : Trg) (Z : List Nat) (hm : P.follows .mixedOrders = true) (hl : t.deep = L.length) (hs : Region.noSelect L.toArray = true) (hB : planG .any L.toArray Z t (Array.replicate L.length false) = true)
    (hQ : ∀ c a t v w, Q (.panic c) (Act.put a (some t) v) w → Q (.panic c) a w) (S : World → Prop) (h : goG P L.toArray Q S Z t a w.drew) : (Code.region id L.toArray true).wp P Q a w := by
  refine wp_region_any hm (wpAny_of_G (S := S) (Z := Z) _ _ _ _ ?_)
  have hsz : L.toArray.size = L.length := by simp
  rw [hsz, ← hl]
  rw [← hl] at hB
  exact wpAnyG_tre hs hQ t _ a w.drew hB h
end Go.Proofs.YtdmdagilopckgaaGreat
