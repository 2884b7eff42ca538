/- Regions that draw their order, gone through by a tree in which three operations may come up. -/
import Derived.Test.YtdmdagilopckgaaGreatRg
namespace Go.Proofs.YtdmdagilopckgaaGreat
open Go.RowKit

inductive Tr4 where
  | nil
  | pure (i : Nat) (r : Tr4)
  | read (i : Nat) (r : Tr4)
  | step (i : Nat) (r : Tr4)
  | two (i j : Nat) (r s : Tr4)
  | three (i j k : Nat) (r s t : Tr4)
def Tr4.deep : Tr4 → Nat
  | .nil => 0
  | .pure _ r => r.deep + 1
  | .read _ r => r.deep + 1
  | .step _ r => r.deep + 1
  | .two _ _ r _ => r.deep + 1
  | .three _ _ _ r _ _ => r.deep + 1
section
variable {P : Program} {ops : Array Oper} {Q : Exit → Act → World → Prop} {md : Region.Mode} {S : World → Prop} {Z : List Nat}
/-- Whatever order is picked, and S holds behind each operation but those of Z. -/
def wpAnyT (P : Program) (md : Region.Mode) (ops : Array Oper) (Q : Exit → Act → World → Prop) (S : World → Prop) (Z : List Nat) : Nat → Array Bool → Act → World → Prop
  | 0, listed, a, w => Region.ready md ops listed = [] ∧ Q .normal a w
  | fuel + 1, listed, a, w =>
    (Region.ready md ops listed = [] → Q .normal a w) ∧
    ∀ i ∈ Region.ready md ops listed, wpOp P ops Q i (fun a' w' => (Z.contains i = false → S w') ∧ wpAnyT P md ops Q S Z fuel (listed.setIfInBounds i true) a' w') a w
theorem wpAny_of_T : ∀ (fuel : Nat) (listed : Array Bool) (a : Act) (w : World), wpAnyT P md ops Q S Z fuel listed a w → wpAny P md ops Q fuel listed a w
  | 0, _, _, _, h => h
  | fuel + 1, _, _, _, h => ⟨h.1, fun i hi => wpOp_mono (fun a' w' h' => wpAny_of_T fuel _ a' w' h'.2) (h.2 i hi)⟩
theorem wpAnyT_first {T : World → Prop} {i : Nat} {oi : Oper} {v : Value} (hi : ops[i]? = some oi) (hsel : ∀ (j : Nat) (o : Oper) cs b, ops[j]? = some o → o.op ≠ .select cs b)
    (hQ : ∀ c a w, Q (.panic c) (a.put oi.dst v) w → Q (.panic c) a w) (W : Array Bool → Prop)
    (hW : ∀ listed j, W listed → W (listed.setIfInBounds j true)) (hT : ∀ (listed : Array Bool) (j : Nat) (w' : World), W listed → i ∈ Region.ready md ops listed → j ∈ Region.ready md ops listed → (Z.contains j = false → S w') → T w') (hown : ∀ w', T w' → Z.contains i = false → S w') :
    ∀ (fuel : Nat) (listed : Array Bool) (a : Act) (w : World), W listed →
      (∀ j oj, ops[j]? = some oj → j ≠ i → listed.getD j true = false → (∀ e ∈ oj.after, Region.binds md e = true → e.on ≠ i) → oi.apart ops oj = true) →
      i ∈ Region.ready md ops listed → YieldsIf P ops T oi v a → T w →
      wpAnyT P md ops Q S Z fuel (listed.setIfInBounds i true) (a.put oi.dst v) w → wpAnyT P md ops Q S Z (fuel + 1) listed a w := by
  intro fuel
  induction fuel with
  | zero =>
    intro listed a w _ _ hr hy hS H
    refine ⟨fun h => (by rw [h] at hr; cases hr), fun j hj => ?_⟩
    by_cases hji : j = i
    · subst hji; exact hy.wpOp hi hS ⟨hown w hS, H⟩
    · have := ready_mono hj hji
      rw [H.1] at this
      cases this
  | succ fuel ih =>
    intro listed a w hWl hfree hr hy hS H
    refine ⟨fun h => (by rw [h] at hr; cases hr), fun j hj => ?_⟩
    by_cases hji : j = i
    · subst hji; exact hy.wpOp hi hS ⟨hown w hS, H⟩
    · have h1 := H.2 j (ready_mono hj hji)
      obtain ⟨hjun, oj, hoj, hall⟩ := mem_ready.1 hj
      have hnot : ∀ e ∈ oj.after, Region.binds md e = true → e.on ≠ i := fun e he hb heq => by
        have h1 := hall e he hb
        have h0 := (mem_ready.1 hr).1
        rw [heq] at h1
        rcases Nat.lt_or_ge i listed.size with h' | h'
        · simp [h'] at h0 h1; rw [h0] at h1; cases h1
        · simp [Array.getElem?_eq_none h'] at h1
      have h2 := wpOp_putIf hoj (hfree j oj hoj hji hjun hnot) (fun cs b => hsel i oi cs b hi) (fun cs b => hsel j oj cs b hoj) hQ hy h1
      have hfree' : ∀ k ok, ops[k]? = some ok → k ≠ i → (listed.setIfInBounds j true).getD k true = false →
          (∀ e ∈ ok.after, Region.binds md e = true → e.on ≠ i) → oi.apart ops ok = true := fun k ok hk hki hun hno => by
        refine hfree k ok hk hki ?_ hno
        by_cases hjk : j = k
        · subst hjk; exact hjun
        · rw [getD_set_ne true hjk] at hun; exact hun
      refine wpOp_mono (fun a' w' h3 => ⟨h3.2.1, ih (listed.setIfInBounds j true) a' w' (hW _ _ hWl) hfree' (ready_mono hr (Ne.symm hji)) h3.1 (hT listed j w' hWl hr hj h3.2.1) ?_⟩) h2
      rw [Array.setIfInBounds_comm _ _ hji]
      exact h3.2.2

def goT (P : Program) (ops : Array Oper) (Q : Exit → Act → World → Prop) (S : World → Prop) (Z : List Nat) : Tr4 → Act → World → Prop
  | .nil, a, w => Q .normal a w
  | .pure i r, a, w => ∃ o v, ops[i]? = some o ∧ YieldsIf P ops (fun _ => True) o v a ∧ goT P ops Q S Z r (a.put o.dst v) w
  | .read i r, a, w => S w ∧ ∃ o v, ops[i]? = some o ∧ YieldsIf P ops S o v a ∧ goT P ops Q S Z r (a.put o.dst v) w
  | .step i r, a, w => ∃ o, ops[i]? = some o ∧ wpList P ops (Exit.then (fun a' w' => (Z.contains i = false → S w') ∧ goT P ops Q S Z r a' w') Q) [o] a w
  | .two i j r s, a, w => ∃ o p, ops[i]? = some o ∧ ops[j]? = some p ∧ wpList P ops (Exit.then (fun a' w' => (Z.contains i = false → S w') ∧ goT P ops Q S Z r a' w') Q) [o] a w ∧ wpList P ops (Exit.then (fun a' w' => (Z.contains j = false → S w') ∧ goT P ops Q S Z s a' w') Q) [p] a w
  | .three i j k r s u, a, w => ∃ o p q, ops[i]? = some o ∧ ops[j]? = some p ∧ ops[k]? = some q ∧ wpList P ops (Exit.then (fun a' w' => (Z.contains i = false → S w') ∧ goT P ops Q S Z r a' w') Q) [o] a w ∧ wpList P ops (Exit.then (fun a' w' => (Z.contains j = false → S w') ∧ goT P ops Q S Z s a' w') Q) [p] a w ∧ wpList P ops (Exit.then (fun a' w' => (Z.contains k = false → S w') ∧ goT P ops Q S Z u a' w') Q) [q] a w
def planT (md : Region.Mode) (ops : Array Oper) (Z : List Nat) : Tr4 → Array Bool → Bool
  | .nil, listed => (Region.ready md ops listed).isEmpty
  | .pure i r, listed => (Region.ready md ops listed).contains i && Region.free md ops listed i && Z.contains i && planT md ops Z r (listed.setIfInBounds i true)
  | .read i r, listed => (Region.ready md ops listed).contains i && Region.free md ops listed i && waitB md ops Z listed i && planT md ops Z r (listed.setIfInBounds i true)
  | .step i r, listed => decide (Region.ready md ops listed = [i]) && planT md ops Z r (listed.setIfInBounds i true)
  | .two i j r s, listed => decide (Region.ready md ops listed = [i, j]) && decide (r.deep = s.deep) && planT md ops Z r (listed.setIfInBounds i true) && planT md ops Z s (listed.setIfInBounds j true)
  | .three i j k r s u, listed => decide (Region.ready md ops listed = [i, j, k]) && decide (r.deep = s.deep) && decide (r.deep = u.deep) && planT md ops Z r (listed.setIfInBounds i true) && planT md ops Z s (listed.setIfInBounds j true) && planT md ops Z u (listed.setIfInBounds k true)
theorem wpAnyT_tre (hs : Region.noSelect ops = true) (hQ : ∀ c a t v w, Q (.panic c) (Act.put a (some t) v) w → Q (.panic c) a w) : ∀ (t : Tr4) (listed : Array Bool) (a : Act) (w : World), planT md ops Z t listed = true → goT P ops Q S Z t a w → wpAnyT P md ops Q S Z t.deep listed a w
  | .nil, listed, a, w, hB, h => ⟨by simpa [planT] using hB, h⟩
  | .pure i r, listed, a, w, hB, h => by
    simp only [planT, Bool.and_eq_true] at hB
    obtain ⟨⟨⟨h1, h2⟩, h3⟩, h4⟩ := hB
    obtain ⟨o, v, ho, hy, hr⟩ := h
    exact wpAnyT_first (T := fun _ => True) ho (Region.noSelect_spec hs) (fun c a w hh => by cases hd : o.dst with | none => (rw [hd] at hh; exact hh) | some t => (rw [hd] at hh; exact hQ c a t v w hh)) (fun _ => True) (fun _ _ _ => trivial) (fun _ _ _ _ _ _ _ => trivial) (fun _ _ hz => by rw [hz] at h3; cases h3) _ listed a w trivial (Region.free_spec ho h2) (by simpa using h1) hy trivial (wpAnyT_tre hs hQ r _ _ _ h4 hr)
  | .read i r, listed, a, w, hB, h => by
    simp only [planT, Bool.and_eq_true] at hB
    obtain ⟨⟨⟨h1, h2⟩, h3⟩, h4⟩ := hB
    obtain ⟨hS, o, v, ho, hy, hr⟩ := h
    exact wpAnyT_first (T := S) ho (Region.noSelect_spec hs) (fun c a w hh => by cases hd : o.dst with | none => (rw [hd] at hh; exact hh) | some t => (rw [hd] at hh; exact hQ c a t v w hh)) (fun listed => waitB md ops Z listed i = true) (fun _ _ h => waitB_mono h) (fun listed j w' hw hi hj hh => hh (waitB_spec hw (mem_ready.1 hi).1 hj)) (fun _ hw _ => hw) _ listed a w h3 (Region.free_spec ho h2) (by simpa using h1) hy hS (wpAnyT_tre hs hQ r _ _ _ h4 hr)
  | .step i r, listed, a, w, hB, h => by
    simp only [planT, Bool.and_eq_true, decide_eq_true_eq] at hB
    obtain ⟨h1, h4⟩ := hB
    obtain ⟨o, ho, hw⟩ := h
    refine ⟨fun h0 => (by rw [h1] at h0; cases h0), fun j hj => ?_⟩
    rw [h1] at hj
    have hji : j = i := by simpa using hj
    subst hji
    refine wpOp_mono (fun a' w' h' => ?_) (wpOp_of_list ho hw)
    have h'' : (Z.contains j = false → S w') ∧ goT P ops Q S Z r a' w' := h'
    exact ⟨h''.1, wpAnyT_tre hs hQ r _ _ _ h4 h''.2⟩
  | .two i j r s, listed, a, w, hB, h => by
    simp only [planT, Bool.and_eq_true, decide_eq_true_eq] at hB
    obtain ⟨⟨⟨h1, h5⟩, h4⟩, h6⟩ := hB
    obtain ⟨o, p, ho, hp, hw, hw2⟩ := h
    refine ⟨fun h0 => (by rw [h1] at h0; cases h0), fun k hk => ?_⟩
    rw [h1] at hk
    rcases List.mem_cons.1 hk with rfl | hk
    · refine wpOp_mono (fun a' w' h' => ?_) (wpOp_of_list ho hw)
      have h'' : (Z.contains k = false → S w') ∧ goT P ops Q S Z r a' w' := h'
      exact ⟨h''.1, wpAnyT_tre hs hQ r _ _ _ h4 h''.2⟩
    · rw [List.mem_singleton] at hk
      subst hk
      refine wpOp_mono (fun a' w' h' => ?_) (wpOp_of_list hp hw2)
      have h'' : (Z.contains k = false → S w') ∧ goT P ops Q S Z s a' w' := h'
      have key := wpAnyT_tre hs hQ s _ _ _ h6 h''.2
      rw [← h5] at key
      exact ⟨h''.1, key⟩
  | .three i j k r s u, listed, a, w, hB, h => by
    simp only [planT, Bool.and_eq_true, decide_eq_true_eq] at hB
    obtain ⟨⟨⟨⟨⟨h1, h5⟩, h7⟩, h4⟩, h6⟩, h8⟩ := hB
    obtain ⟨o, p, q, ho, hp, hq, hw, hw2, hw3⟩ := h
    refine ⟨fun h0 => (by rw [h1] at h0; cases h0), fun x hx => ?_⟩
    rw [h1] at hx
    rcases List.mem_cons.1 hx with rfl | hx
    · refine wpOp_mono (fun a' w' h' => ?_) (wpOp_of_list ho hw)
      have h'' : (Z.contains x = false → S w') ∧ goT P ops Q S Z r a' w' := h'
      exact ⟨h''.1, wpAnyT_tre hs hQ r _ _ _ h4 h''.2⟩
    · rcases List.mem_cons.1 hx with rfl | hx
      · refine wpOp_mono (fun a' w' h' => ?_) (wpOp_of_list hp hw2)
        have h'' : (Z.contains x = false → S w') ∧ goT P ops Q S Z s a' w' := h'
        have key := wpAnyT_tre hs hQ s _ _ _ h6 h''.2
        rw [← h5] at key
        exact ⟨h''.1, key⟩
      · rw [List.mem_singleton] at hx
        subst hx
        refine wpOp_mono (fun a' w' h' => ?_) (wpOp_of_list hq hw3)
        have h'' : (Z.contains x = false → S w') ∧ goT P ops Q S Z u a' w' := h'
        have key := wpAnyT_tre hs hQ u _ _ _ h8 h''.2
        rw [← h7] at key
        exact ⟨h''.1, key⟩
theorem goT_pure (d : Nat) {i : Nat} {o : Oper} {r : Tr4} {a : Act} {w : World} (ho : ops[i]? = some o) (hd : o.dst = some d) (v : Value) (hw : Region.wanted o (yielded ops a.tmps) = true) (hy : ∀ w, (execOp a.eval o).run P w = .ok (.value v) w) (h : goT P ops Q S Z r { a with tmps := a.tmps.setIfInBounds d v } w) : goT P ops Q S Z (.pure i r) a w :=
  ⟨o, v, ho, .inl ⟨hw, fun w _ => hy w⟩, by rw [put_some hd]; exact h⟩
theorem goT_read (d : Nat) {i : Nat} {o : Oper} {r : Tr4} {a : Act} {w : World} (hS : S w) (ho : ops[i]? = some o) (hd : o.dst = some d) (v : Value) (hw : Region.wanted o (yielded ops a.tmps) = true) (hy : ∀ w, S w → (execOp a.eval o).run P w = .ok (.value v) w) (h : goT P ops Q S Z r { a with tmps := a.tmps.setIfInBounds d v } w) : goT P ops Q S Z (.read i r) a w :=
  ⟨hS, o, v, ho, .inl ⟨hw, hy⟩, by rw [put_some hd]; exact h⟩
theorem goT_step {i : Nat} {o : Oper} {r : Tr4} {a : Act} {w : World} (ho : ops[i]? = some o) (h : wpList P ops (Exit.then (fun a' w' => (Z.contains i = false → S w') ∧ goT P ops Q S Z r a' w') Q) [o] a w) : goT P ops Q S Z (.step i r) a w := ⟨o, ho, h⟩
theorem goT_two {i j : Nat} {o p : Oper} {r s : Tr4} {a : Act} {w : World} (ho : ops[i]? = some o) (hp : ops[j]? = some p) (h : wpList P ops (Exit.then (fun a' w' => (Z.contains i = false → S w') ∧ goT P ops Q S Z r a' w') Q) [o] a w) (h2 : wpList P ops (Exit.then (fun a' w' => (Z.contains j = false → S w') ∧ goT P ops Q S Z s a' w') Q) [p] a w) : goT P ops Q S Z (.two i j r s) a w := ⟨o, p, ho, hp, h, h2⟩
theorem goT_three {i j k : Nat} {o p q : Oper} {r s u : Tr4} {a : Act} {w : World} (ho : ops[i]? = some o) (hp : ops[j]? = some p) (hq : ops[k]? = some q) (h : wpList P ops (Exit.then (fun a' w' => (Z.contains i = false → S w') ∧ goT P ops Q S Z r a' w') Q) [o] a w) (h2 : wpList P ops (Exit.then (fun a' w' => (Z.contains j = false → S w') ∧ goT P ops Q S Z s a' w') Q) [p] a w) (h3 : wpList P ops (Exit.then (fun a' w' => (Z.contains k = false → S w') ∧ goT P ops Q S Z u a' w') Q) [q] a w) : goT P ops Q S Z (.three i j k r s u) a w := ⟨o, p, q, ho, hp, hq, h, h2, h3⟩
end
/-- A region that draws its order. -/
theorem wp_region_tr4 {P : Program} {Q : Exit → Act → World → Prop} {id : Nat} {a : Act} {w : World} {L : List Oper} (t : Tr4) (Z : List Nat) (hm : P.follows .mixedOrders = true) (hl : t.deep = L.length) (hs : Region.noSelect L.toArray = true) (hB : planT .any L.toArray Z t (Array.replicate L.length false) = true)
    (hQ : ∀ c a t v w, Q (.panic c) (Act.put a (some t) v) w → Q (.panic c) a w) (S : World → Prop) (h : goT P L.toArray Q S Z t a w.drew) : (Code.region id L.toArray true).wp P Q a w := by
  refine wp_region_any hm (wpAny_of_T (S := S) (Z := Z) _ _ _ _ ?_)
  have hsz : L.toArray.size = L.length := by simp
  rw [hsz, ← hl]
  rw [← hl] at hB
  exact wpAnyT_tre hs hQ t _ a w.drew hB h
end Go.Proofs.YtdmdagilopckgaaGreat
