/- Regions that draw their order, gone through by a tree; what is read is read ahead of an exempt operation if that waits for it, at once or through others. -/
import Derived.Test.YtdmdagilopckgaaGreatRg
namespace Go.Proofs.YtdmdagilopckgaaGreat
open Go.RowKit

inductive Tr5 where
  | nil
  | pure (i : Nat) (r : Tr5)
  | read (i : Nat) (r : Tr5)
  | step (i : Nat) (r : Tr5)
  | two (i j : Nat) (r s : Tr5)
  | three (i j k : Nat) (r s t : Tr5)
def Tr5.deep : Tr5 → Nat
  | .nil => 0
  | .pure _ r => r.deep + 1
  | .read _ r => r.deep + 1
  | .step _ r => r.deep + 1
  | .two _ _ r _ => r.deep + 1
  | .three _ _ _ r _ _ => r.deep + 1
section
variable {P : Program} {ops : Array Oper} {Q : Exit → Act → World → Prop} {md : Region.Mode} {S : World → Prop} {Z : List Nat}
/-- Whatever order is picked, and S holds behind each operation but those of Z. -/
def wpAnyU (P : Program) (md : Region.Mode) (ops : Array Oper) (Q : Exit → Act → World → Prop) (S : World → Prop) (Z : List Nat) : Nat → Array Bool → Act → World → Prop
  | 0, listed, a, w => Region.ready md ops listed = [] ∧ Q .normal a w
  | fuel + 1, listed, a, w =>
    (Region.ready md ops listed = [] → Q .normal a w) ∧
    ∀ i ∈ Region.ready md ops listed, wpOp P ops Q i (fun a' w' => (Z.contains i = false → S w') ∧ wpAnyU P md ops Q S Z fuel (listed.setIfInBounds i true) a' w') a w
theorem wpAny_of_U : ∀ (fuel : Nat) (listed : Array Bool) (a : Act) (w : World), wpAnyU P md ops Q S Z fuel listed a w → wpAny P md ops Q fuel listed a w
  | 0, _, _, _, h => h
  | fuel + 1, _, _, _, h => ⟨h.1, fun i hi => wpOp_mono (fun a' w' h' => wpAny_of_U fuel _ a' w' h'.2) (h.2 i hi)⟩
/-- What has been done is closed: what it waited for has been done. -/
def Closed (md : Region.Mode) (ops : Array Oper) (listed : Array Bool) : Prop := ∀ (j : Nat) (o : Oper), ops[j]? = some o → listed.getD j false = true → ∀ e ∈ o.after, Region.binds md e = true → listed.getD e.on false = true
theorem getD_mono {listed : Array Bool} {x j : Nat} (h : listed.getD x false = true) : (listed.setIfInBounds j true).getD x false = true := by
  by_cases hjx : j = x
  · subst hjx
    rcases Nat.lt_or_ge j listed.size with h' | h'
    · simp [h']
    · simp [Array.getElem?_eq_none h'] at h
  · rw [getD_set_ne false hjx]; exact h
theorem Closed.set {listed : Array Bool} {j : Nat} (h : Closed md ops listed) (hj : j ∈ Region.ready md ops listed) : Closed md ops (listed.setIfInBounds j true) := by
  intro k o ho hk e he hb
  by_cases hjk : j = k
  · subst hjk
    obtain ⟨_, o', ho', hall⟩ := mem_ready.1 hj
    rw [ho] at ho'
    injection ho' with ho'
    subst ho'
    exact getD_mono (by simpa using hall e he hb)
  · rw [getD_set_ne false hjk] at hk
    exact getD_mono (h k o ho hk e he hb)
/-- Number z waits for number i, through at most n others. -/
def needsB (md : Region.Mode) (ops : Array Oper) (i : Nat) : Nat → Nat → Bool
  | 0, _ => false
  | n + 1, z => match ops[z]? with | none => false | some o => o.after.any fun e => Region.binds md e && (e.on == i || needsB md ops i n e.on)
theorem needsB_listed {listed : Array Bool} {i : Nat} (h : Closed md ops listed) : ∀ (n z : Nat), needsB md ops i n z = true → listed.getD z false = true → listed.getD i false = true
  | 0, z, h1, _ => by cases h1
  | n + 1, z, h1, h2 => by
    rw [needsB] at h1
    split at h1
    · cases h1
    · rename_i o ho
      obtain ⟨e, he, h3⟩ := Array.any_eq_true'.1 h1
      simp only [Bool.and_eq_true, Bool.or_eq_true, beq_iff_eq] at h3
      have h4 := h z o ho h2 e he h3.1
      rcases h3.2 with h5 | h5
      · rw [← h5]; exact h4
      · exact needsB_listed h n e.on h5 h4
/-- Each operation of Z has been done, or waits for number i. -/
def waitU (md : Region.Mode) (ops : Array Oper) (Z : List Nat) (listed : Array Bool) (i : Nat) : Bool := Z.all fun z => listed.getD z true || needsB md ops i 20 z
theorem waitU_spec {listed : Array Bool} {i j : Nat} (hc : Closed md ops listed) (h : waitU md ops Z listed i = true) (hun : listed.getD i true = false) (hj : j ∈ Region.ready md ops listed) : Z.contains j = false := by
  cases hz : Z.contains j
  · rfl
  · obtain ⟨hju, o, ho, hall⟩ := mem_ready.1 hj
    have h1 := List.all_eq_true.1 h j (by simpa using hz)
    rw [hju, Bool.false_or, needsB, ho] at h1
    obtain ⟨e, he, h2⟩ := Array.any_eq_true'.1 h1
    simp only [Bool.and_eq_true, Bool.or_eq_true, beq_iff_eq] at h2
    have h3 : listed.getD e.on false = true := by simpa using hall e he h2.1
    have h4 : listed.getD i false = true := by
      rcases h2.2 with h5 | h5
      · rw [← h5]; exact h3
      · exact needsB_listed hc _ _ h5 h3
    rcases Nat.lt_or_ge i listed.size with h' | h'
    · simp [h'] at hun h4; rw [hun] at h4; cases h4
    · simp [Array.getElem?_eq_none h'] at h4
theorem waitU_mono {listed : Array Bool} {i j : Nat} (h : waitU md ops Z listed i = true) : waitU md ops Z (listed.setIfInBounds j true) i = true := by
  refine List.all_eq_true.2 fun z hz => ?_
  have h1 := List.all_eq_true.1 h z hz
  rw [Bool.or_eq_true] at h1 ⊢
  rcases h1 with h1 | h1
  · left
    by_cases hjz : j = z
    · subst hjz
      rcases Nat.lt_or_ge j listed.size with h' | h'
      · simp [h']
      · simp
    · rw [getD_set_ne true hjz]; exact h1
  · exact .inr h1
theorem wpAnyU_first {T : World → Prop} {i : Nat} {oi : Oper} {v : Value} (hi : ops[i]? = some oi) (hsel : ∀ (j : Nat) (o : Oper) cs b, ops[j]? = some o → o.op ≠ .select cs b)
    (hQ : ∀ c a w, Q (.panic c) (a.put oi.dst v) w → Q (.panic c) a w) (W : Array Bool → Prop)
    (hW : ∀ listed j, W listed → j ∈ Region.ready md ops listed → W (listed.setIfInBounds j true)) (hT : ∀ (listed : Array Bool) (j : Nat) (w' : World), W listed → i ∈ Region.ready md ops listed → j ∈ Region.ready md ops listed → (Z.contains j = false → S w') → T w') (hown : ∀ w', T w' → Z.contains i = false → S w') :
    ∀ (fuel : Nat) (listed : Array Bool) (a : Act) (w : World), W listed →
      (∀ j oj, ops[j]? = some oj → j ≠ i → listed.getD j true = false → (∀ e ∈ oj.after, Region.binds md e = true → e.on ≠ i) → oi.apart ops oj = true) →
      i ∈ Region.ready md ops listed → YieldsIf P ops T oi v a → T w →
      wpAnyU P md ops Q S Z fuel (listed.setIfInBounds i true) (a.put oi.dst v) w → wpAnyU P md ops Q S Z (fuel + 1) listed a w := by
  intro fuel
  induction fuel with
  | zero =>
    intro listed a w _ _ hr hy hS H
    refine ⟨fun h => (by rw [h] at hr; cases hr), fun j hj => ?_⟩
    by_cases hji : j = i
    · subst hji; exact hy.wpOp hi hS ⟨hown w hS, H⟩
    · have := ready_mono hj hji
      rw [H.1] at this
      cases this
  | succ fuel ih =>
    intro listed a w hWl hfree hr hy hS H
    refine ⟨fun h => (by rw [h] at hr; cases hr), fun j hj => ?_⟩
    by_cases hji : j = i
    · subst hji; exact hy.wpOp hi hS ⟨hown w hS, H⟩
    · have h1 := H.2 j (ready_mono hj hji)
      obtain ⟨hjun, oj, hoj, hall⟩ := mem_ready.1 hj
      have hnot : ∀ e ∈ oj.after, Region.binds md e = true → e.on ≠ i := fun e he hb heq => by
        have h1 := hall e he hb
        have h0 := (mem_ready.1 hr).1
        rw [heq] at h1
        rcases Nat.lt_or_ge i listed.size with h' | h'
        · simp [h'] at h0 h1; rw [h0] at h1; cases h1
        · simp [Array.getElem?_eq_none h'] at h1
      have h2 := wpOp_putIf hoj (hfree j oj hoj hji hjun hnot) (fun cs b => hsel i oi cs b hi) (fun cs b => hsel j oj cs b hoj) hQ hy h1
      have hfree' : ∀ k ok, ops[k]? = some ok → k ≠ i → (listed.setIfInBounds j true).getD k true = false →
          (∀ e ∈ ok.after, Region.binds md e = true → e.on ≠ i) → oi.apart ops ok = true := fun k ok hk hki hun hno => by
        refine hfree k ok hk hki ?_ hno
        by_cases hjk : j = k
        · subst hjk; exact hjun
        · rw [getD_set_ne true hjk] at hun; exact hun
      refine wpOp_mono (fun a' w' h3 => ⟨h3.2.1, ih (listed.setIfInBounds j true) a' w' (hW _ _ hWl hj) hfree' (ready_mono hr (Ne.symm hji)) h3.1 (hT listed j w' hWl hr hj h3.2.1) ?_⟩) h2
      rw [Array.setIfInBounds_comm _ _ hji]
      exact h3.2.2

def goU (P : Program) (ops : Array Oper) (Q : Exit → Act → World → Prop) (S : World → Prop) (Z : List Nat) : Tr5 → Act → World → Prop
  | .nil, a, w => Q .normal a w
  | .pure i r, a, w => ∃ o v, ops[i]? = some o ∧ YieldsIf P ops (fun _ => True) o v a ∧ goU P ops Q S Z r (a.put o.dst v) w
  | .read i r, a, w => S w ∧ ∃ o v, ops[i]? = some o ∧ YieldsIf P ops S o v a ∧ goU P ops Q S Z r (a.put o.dst v) w
  | .step i r, a, w => ∃ o, ops[i]? = some o ∧ wpList P ops (Exit.then (fun a' w' => (Z.contains i = false → S w') ∧ goU P ops Q S Z r a' w') Q) [o] a w
  | .two i j r s, a, w => ∃ o p, ops[i]? = some o ∧ ops[j]? = some p ∧ wpList P ops (Exit.then (fun a' w' => (Z.contains i = false → S w') ∧ goU P ops Q S Z r a' w') Q) [o] a w ∧ wpList P ops (Exit.then (fun a' w' => (Z.contains j = false → S w') ∧ goU P ops Q S Z s a' w') Q) [p] a w
  | .three i j k r s u, a, w => ∃ o p q, ops[i]? = some o ∧ ops[j]? = some p ∧ ops[k]? = some q ∧ wpList P ops (Exit.then (fun a' w' => (Z.contains i = false → S w') ∧ goU P ops Q S Z r a' w') Q) [o] a w ∧ wpList P ops (Exit.then (fun a' w' => (Z.contains j = false → S w') ∧ goU P ops Q S Z s a' w') Q) [p] a w ∧ wpList P ops (Exit.then (fun a' w' => (Z.contains k = false → S w') ∧ goU P ops Q S Z u a' w') Q) [q] a w
def planU (md : Region.Mode) (ops : Array Oper) (Z : List Nat) : Tr5 → Array Bool → Bool
  | .nil, listed => (Region.ready md ops listed).isEmpty
  | .pure i r, listed => (Region.ready md ops listed).contains i && Region.free md ops listed i && Z.contains i && planU md ops Z r (listed.setIfInBounds i true)
  | .read i r, listed => (Region.ready md ops listed).contains i && Region.free md ops listed i && waitU md ops Z listed i && planU md ops Z r (listed.setIfInBounds i true)
  | .step i r, listed => decide (Region.ready md ops listed = [i]) && planU md ops Z r (listed.setIfInBounds i true)
  | .two i j r s, listed => decide (Region.ready md ops listed = [i, j]) && decide (r.deep = s.deep) && planU md ops Z r (listed.setIfInBounds i true) && planU md ops Z s (listed.setIfInBounds j true)
  | .three i j k r s u, listed => decide (Region.ready md ops listed = [i, j, k]) && decide (r.deep = s.deep) && decide (r.deep = u.deep) && planU md ops Z r (listed.setIfInBounds i true) && planU md ops Z s (listed.setIfInBounds j true) && planU md ops Z u (listed.setIfInBounds k true)
theorem wpAnyU_tre (hs : Region.noSelect ops = true) (hQ : ∀ c a t v w, Q (.panic c) (Act.put a (some t) v) w → Q (.panic c) a w) : ∀ (t : Tr5) (listed : Array Bool) (a : Act) (w : World), Closed md ops listed → planU md ops Z t listed = true → goU P ops Q S Z t a w → wpAnyU P md ops Q S Z t.deep listed a w
  | .nil, listed, a, w, hC, hB, h => ⟨by simpa [planU] using hB, h⟩
  | .pure i r, listed, a, w, hC, hB, h => by
    simp only [planU, Bool.and_eq_true] at hB
    obtain ⟨⟨⟨h1, h2⟩, h3⟩, h4⟩ := hB
    obtain ⟨o, v, ho, hy, hr⟩ := h
    exact wpAnyU_first (T := fun _ => True) ho (Region.noSelect_spec hs) (fun c a w hh => by cases hd : o.dst with | none => (rw [hd] at hh; exact hh) | some t => (rw [hd] at hh; exact hQ c a t v w hh)) (fun _ => True) (fun _ _ _ _ => trivial) (fun _ _ _ _ _ _ _ => trivial) (fun _ _ hz => by rw [hz] at h3; cases h3) _ listed a w trivial (Region.free_spec ho h2) (by simpa using h1) hy trivial (wpAnyU_tre hs hQ r _ _ _ (hC.set (by simpa using h1)) h4 hr)
  | .read i r, listed, a, w, hC, hB, h => by
    simp only [planU, Bool.and_eq_true] at hB
    obtain ⟨⟨⟨h1, h2⟩, h3⟩, h4⟩ := hB
    obtain ⟨hS, o, v, ho, hy, hr⟩ := h
    exact wpAnyU_first (T := S) ho (Region.noSelect_spec hs) (fun c a w hh => by cases hd : o.dst with | none => (rw [hd] at hh; exact hh) | some t => (rw [hd] at hh; exact hQ c a t v w hh)) (fun listed => Closed md ops listed ∧ waitU md ops Z listed i = true) (fun _ _ h hj => ⟨h.1.set hj, waitU_mono h.2⟩) (fun listed j w' hw hi hj hh => hh (waitU_spec hw.1 hw.2 (mem_ready.1 hi).1 hj)) (fun _ hw _ => hw) _ listed a w ⟨hC, h3⟩ (Region.free_spec ho h2) (by simpa using h1) hy hS (wpAnyU_tre hs hQ r _ _ _ (hC.set (by simpa using h1)) h4 hr)
  | .step i r, listed, a, w, hC, hB, h => by
    simp only [planU, Bool.and_eq_true, decide_eq_true_eq] at hB
    obtain ⟨h1, h4⟩ := hB
    obtain ⟨o, ho, hw⟩ := h
    refine ⟨fun h0 => (by rw [h1] at h0; cases h0), fun j hj => ?_⟩
    rw [h1] at hj
    have hji : j = i := by simpa using hj
    subst hji
    refine wpOp_mono (fun a' w' h' => ?_) (wpOp_of_list ho hw)
    have h'' : (Z.contains j = false → S w') ∧ goU P ops Q S Z r a' w' := h'
    exact ⟨h''.1, wpAnyU_tre hs hQ r _ _ _ (hC.set (by rw [h1]; simp)) h4 h''.2⟩
  | .two i j r s, listed, a, w, hC, hB, h => by
    simp only [planU, Bool.and_eq_true, decide_eq_true_eq] at hB
    obtain ⟨⟨⟨h1, h5⟩, h4⟩, h6⟩ := hB
    obtain ⟨o, p, ho, hp, hw, hw2⟩ := h
    refine ⟨fun h0 => (by rw [h1] at h0; cases h0), fun k hk => ?_⟩
    rw [h1] at hk
    rcases List.mem_cons.1 hk with rfl | hk
    · refine wpOp_mono (fun a' w' h' => ?_) (wpOp_of_list ho hw)
      have h'' : (Z.contains k = false → S w') ∧ goU P ops Q S Z r a' w' := h'
      exact ⟨h''.1, wpAnyU_tre hs hQ r _ _ _ (hC.set (by rw [h1]; simp)) h4 h''.2⟩
    · rw [List.mem_singleton] at hk
      subst hk
      refine wpOp_mono (fun a' w' h' => ?_) (wpOp_of_list hp hw2)
      have h'' : (Z.contains k = false → S w') ∧ goU P ops Q S Z s a' w' := h'
      have key := wpAnyU_tre hs hQ s _ _ _ (hC.set (by rw [h1]; simp)) h6 h''.2
      rw [← h5] at key
      exact ⟨h''.1, key⟩
  | .three i j k r s u, listed, a, w, hC, hB, h => by
    simp only [planU, Bool.and_eq_true, decide_eq_true_eq] at hB
    obtain ⟨⟨⟨⟨⟨h1, h5⟩, h7⟩, h4⟩, h6⟩, h8⟩ := hB
    obtain ⟨o, p, q, ho, hp, hq, hw, hw2, hw3⟩ := h
    refine ⟨fun h0 => (by rw [h1] at h0; cases h0), fun x hx => ?_⟩
    rw [h1] at hx
    rcases List.mem_cons.1 hx with rfl | hx
    · refine wpOp_mono (fun a' w' h' => ?_) (wpOp_of_list ho hw)
      have h'' : (Z.contains x = false → S w') ∧ goU P ops Q S Z r a' w' := h'
      exact ⟨h''.1, wpAnyU_tre hs hQ r _ _ _ (hC.set (by rw [h1]; simp)) h4 h''.2⟩
    · rcases List.mem_cons.1 hx with rfl | hx
      · refine wpOp_mono (fun a' w' h' => ?_) (wpOp_of_list hp hw2)
        have h'' : (Z.contains x = false → S w') ∧ goU P ops Q S Z s a' w' := h'
        have key := wpAnyU_tre hs hQ s _ _ _ (hC.set (by rw [h1]; simp)) h6 h''.2
        rw [← h5] at key
        exact ⟨h''.1, key⟩
      · rw [List.mem_singleton] at hx
        subst hx
        refine wpOp_mono (fun a' w' h' => ?_) (wpOp_of_list hq hw3)
        have h'' : (Z.contains x = false → S w') ∧ goU P ops Q S Z u a' w' := h'
        have key := wpAnyU_tre hs hQ u _ _ _ (hC.set (by rw [h1]; simp)) h8 h''.2
        rw [← h7] at key
        exact ⟨h''.1, key⟩
theorem goU_pure (d : Nat) {i : Nat} {o : Oper} {r : Tr5} {a : Act} {w : World} (ho : ops[i]? = some o) (hd : o.dst = some d) (v : Value) (hw : Region.wanted o (yielded ops a.tmps) = true) (hy : ∀ w, (execOp a.eval o).run P w = .ok (.value v) w) (h : goU P ops Q S Z r { a with tmps := a.tmps.setIfInBounds d v } w) : goU P ops Q S Z (.pure i r) a w :=
  ⟨o, v, ho, .inl ⟨hw, fun w _ => hy w⟩, by rw [put_some hd]; exact h⟩
theorem goU_read (d : Nat) {i : Nat} {o : Oper} {r : Tr5} {a : Act} {w : World} (hS : S w) (ho : ops[i]? = some o) (hd : o.dst = some d) (v : Value) (hw : Region.wanted o (yielded ops a.tmps) = true) (hy : ∀ w, S w → (execOp a.eval o).run P w = .ok (.value v) w) (h : goU P ops Q S Z r { a with tmps := a.tmps.setIfInBounds d v } w) : goU P ops Q S Z (.read i r) a w :=
  ⟨hS, o, v, ho, .inl ⟨hw, hy⟩, by rw [put_some hd]; exact h⟩
theorem goU_step {i : Nat} {o : Oper} {r : Tr5} {a : Act} {w : World} (ho : ops[i]? = some o) (h : wpList P ops (Exit.then (fun a' w' => (Z.contains i = false → S w') ∧ goU P ops Q S Z r a' w') Q) [o] a w) : goU P ops Q S Z (.step i r) a w := ⟨o, ho, h⟩
theorem goU_two {i j : Nat} {o p : Oper} {r s : Tr5} {a : Act} {w : World} (ho : ops[i]? = some o) (hp : ops[j]? = some p) (h : wpList P ops (Exit.then (fun a' w' => (Z.contains i = false → S w') ∧ goU P ops Q S Z r a' w') Q) [o] a w) (h2 : wpList P ops (Exit.then (fun a' w' => (Z.contains j = false → S w') ∧ goU P ops Q S Z s a' w') Q) [p] a w) : goU P ops Q S Z (.two i j r s) a w := ⟨o, p, ho, hp, h, h2⟩
theorem goU_three {i j k : Nat} {o p q : Oper} {r s u : Tr5} {a : Act} {w : World} (ho : ops[i]? = some o) (hp : ops[j]? = some p) (hq : ops[k]? = some q) (h : wpList P ops (Exit.then (fun a' w' => (Z.contains i = false → S w') ∧ goU P ops Q S Z r a' w') Q) [o] a w) (h2 : wpList P ops (Exit.then (fun a' w' => (Z.contains j = false → S w') ∧ goU P ops Q S Z s a' w') Q) [p] a w) (h3 : wpList P ops (Exit.then (fun a' w' => (Z.contains k = false → S w') ∧ goU P ops Q S Z u a' w') Q) [q] a w) : goU P ops Q S Z (.three i j k r s u) a w := ⟨o, p, q, ho, hp, hq, h, h2, h3⟩
end
/-- A region that draws its order. -/
theorem wp_region_tr5 {P : Program} {Q : Exit → Act → World → Prop} {id : Nat} {a : Act} {w : World} {L : List Oper} (t : Tr5) (Z : List Nat) (hm : P.follows .mixedOrders = true) (hl : t.deep = L.length) (hs : Region.noSelect L.toArray = true) (hB : planU .any L.toArray Z t (Array.replicate L.length false) = true)
    (hQ : ∀ c a t v w, Q (.panic c) (Act.put a (some t) v) w → Q (.panic c) a w) (S : World → Prop) (h : goU P L.toArray Q S Z t a w.drew) : (Code.region id L.toArray true).wp P Q a w := by
  refine wp_region_any hm (wpAny_of_U (S := S) (Z := Z) _ _ _ _ ?_)
  have hsz : L.toArray.size = L.length := by simp
  rw [hsz, ← hl]
  rw [← hl] at hB
  refine wpAnyU_tre hs hQ t _ a w.drew ?_ hB h
  intro j o _ hl
  rcases Nat.lt_or_ge j t.deep with h' | h'
  · simp [h'] at hl
  · simp [Nat.not_lt.2 h'] at hl
end Go.Proofs.YtdmdagilopckgaaGreat
