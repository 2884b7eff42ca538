/- Regions that draw their order, gone through by a tree of the operations' numbers, with no operation that must be the last one: what has been read holds behind each. -/
import Derived.Test.YtpkjdnplmgfbbaaGreatDoorZu
import Derived.Test.YtpkjdnplmgfbbaaGreatDoorZv
namespace Go.Proofs.YtpkjdnplmgfbbaaGreatDoor
open Go.RowKit
section
variable {P : Program} {ops : Array Oper} {Q : Exit → Act → World → Prop} {md : Region.Mode} {S : World → Prop}
def goU (P : Program) (ops : Array Oper) (Q : Exit → Act → World → Prop) (S : World → Prop) : Tre → Act → World → Prop
  | .nil, a, w => S w ∧ Q .normal a w
  | .read i r, a, w => S w ∧ ∃ o v, ops[i]? = some o ∧ YieldsIf P ops S o v a ∧ goU P ops Q S r (a.put o.dst v) w
  | .step i r, a, w => S w ∧ ∃ o, ops[i]? = some o ∧ wpList P ops (Exit.then (fun a' w' => goU P ops Q S r a' w') Q) [o] a w
  | .two i j r s, a, w => S w ∧ ∃ o p, ops[i]? = some o ∧ ops[j]? = some p ∧ wpList P ops (Exit.then (fun a' w' => goU P ops Q S r a' w') Q) [o] a w ∧ wpList P ops (Exit.then (fun a' w' => goU P ops Q S s a' w') Q) [p] a w
def planU (md : Region.Mode) (ops : Array Oper) : Tre → Array Bool → Bool
  | .nil, listed => (Region.ready md ops listed).isEmpty
  | .read i r, listed => (Region.ready md ops listed).contains i && Region.free md ops listed i && planU md ops r (listed.setIfInBounds i true)
  | .step i r, listed => decide (Region.ready md ops listed = [i]) && planU md ops r (listed.setIfInBounds i true)
  | .two i j r s, listed => decide (Region.ready md ops listed = [i, j]) && decide (r.deep = s.deep) && planU md ops r (listed.setIfInBounds i true) && planU md ops s (listed.setIfInBounds j true)
theorem goU.s {t : Tre} {a : Act} {w : World} (h : goU P ops Q S t a w) : S w := by
  cases t with
  | nil => exact h.1
  | read i r => exact h.1
  | step i r => exact h.1
  | two i j r s => exact h.1
theorem wpAnyH_tre (hs : Region.noSelect ops = true) (hQ : ∀ c a t v w, Q (.panic c) (Act.put a (some t) v) w → Q (.panic c) a w) : ∀ (t : Tre) (listed : Array Bool) (a : Act) (w : World), planU md ops t listed = true → goU P ops Q S t a w → wpAnyH P md ops Q S t.deep listed a w
  | .nil, listed, a, w, hB, h => ⟨by simpa [planU] using hB, h.2⟩
  | .read i r, listed, a, w, hB, h => by
    simp only [planU, Bool.and_eq_true] at hB
    obtain ⟨⟨h1, h2⟩, h4⟩ := hB
    obtain ⟨hS, o, v, ho, hy, hr⟩ := h
    exact wpAnyH_take ho hs h2 h1 (fun c a w hh => by cases hd : o.dst with | none => (rw [hd] at hh; exact hh) | some t => (rw [hd] at hh; exact hQ c a t v w hh)) hy hS (wpAnyH_tre hs hQ r _ _ _ h4 hr)
  | .step i r, listed, a, w, hB, h => by
    simp only [planU, Bool.and_eq_true, decide_eq_true_eq] at hB
    obtain ⟨h1, h4⟩ := hB
    obtain ⟨hS, o, ho, hw⟩ := h
    refine ⟨fun h0 => (by rw [h1] at h0; cases h0), fun j hj => ?_⟩
    rw [h1] at hj
    have hji : j = i := by simpa using hj
    subst hji
    refine wpOp_mono (fun a' w' h' => ?_) (wpOp_of_list ho hw)
    have h'' : goU P ops Q S r a' w' := h'
    exact ⟨h''.s, wpAnyH_tre hs hQ r _ _ _ h4 h''⟩
  | .two i j r s, listed, a, w, hB, h => by
    simp only [planU, Bool.and_eq_true, decide_eq_true_eq] at hB
    obtain ⟨⟨⟨h1, h5⟩, h4⟩, h6⟩ := hB
    obtain ⟨hS, o, p, ho, hp, hw, hw2⟩ := h
    refine ⟨fun h0 => (by rw [h1] at h0; cases h0), fun k hk => ?_⟩
    rw [h1] at hk
    rcases List.mem_cons.1 hk with rfl | hk
    · refine wpOp_mono (fun a' w' h' => ?_) (wpOp_of_list ho hw)
      have h'' : goU P ops Q S r a' w' := h'
      exact ⟨h''.s, wpAnyH_tre hs hQ r _ _ _ h4 h''⟩
    · rw [List.mem_singleton] at hk
      subst hk
      refine wpOp_mono (fun a' w' h' => ?_) (wpOp_of_list hp hw2)
      have h'' : goU P ops Q S s a' w' := h'
      have key := wpAnyH_tre hs hQ s _ _ _ h6 h''
      rw [← h5] at key
      exact ⟨h''.s, key⟩
/-- A region that draws its order, by a tree of orders; no operation need be the last. -/
theorem wp_region_trj {id : Nat} {a : Act} {w : World} {l : List Oper} (t : Tre) (hm : P.follows .mixedOrders = true) (hl : t.deep = l.length) (hs : Region.noSelect l.toArray = true) (hB : planU .any l.toArray t (Array.replicate l.length false) = true) (hQ : ∀ c a t v w, Q (.panic c) (Act.put a (some t) v) w → Q (.panic c) a w) (S : World → Prop)
    (h : goU P l.toArray Q S t a w.drew) : (Code.region id l.toArray true).wp P Q a w := by
  refine wp_region_held (S := S) hm ?_
  have hsz : l.toArray.size = l.length := by simp
  rw [hsz, ← hl]
  rw [← hl] at hB
  exact wpAnyH_tre hs hQ t _ a w.drew hB h
theorem goU_read {i : Nat} {o : Oper} {r : Tre} {a : Act} {w : World} (hS : S w) (ho : ops[i]? = some o) (v : Value) (hw : Region.wanted o (yielded ops a.tmps) = true) (hy : ∀ w, S w → (execOp a.eval o).run P w = .ok (.value v) w) (h : goU P ops Q S r (a.put o.dst v) w) : goU P ops Q S (.read i r) a w := ⟨hS, o, v, ho, .inl ⟨hw, hy⟩, h⟩
theorem goU_skip {i : Nat} {o : Oper} {r : Tre} {a : Act} {w : World} (hS : S w) (ho : ops[i]? = some o) (hw : Region.wanted o (yielded ops a.tmps) = false) (h : goU P ops Q S r (a.put o.dst undef) w) : goU P ops Q S (.read i r) a w := ⟨hS, o, undef, ho, .inr ⟨hw, rfl⟩, h⟩
theorem goU_step {i : Nat} {o : Oper} {r : Tre} {a : Act} {w : World} (hS : S w) (ho : ops[i]? = some o) (h : wpList P ops (Exit.then (fun a' w' => goU P ops Q S r a' w') Q) [o] a w) : goU P ops Q S (.step i r) a w := ⟨hS, o, ho, h⟩
theorem goU_two {i j : Nat} {o p : Oper} {r s : Tre} {a : Act} {w : World} (hS : S w) (ho : ops[i]? = some o) (hp : ops[j]? = some p) (h : wpList P ops (Exit.then (fun a' w' => goU P ops Q S r a' w') Q) [o] a w) (h2 : wpList P ops (Exit.then (fun a' w' => goU P ops Q S s a' w') Q) [p] a w) : goU P ops Q S (.two i j r s) a w := ⟨hS, o, p, ho, hp, h, h2⟩
theorem wpList_skip {a : Act} {w : World} {rest : List Oper} {o : Oper} (hw : Region.wanted o (yielded ops a.tmps) = false) (h : wpList P ops Q rest (a.put o.dst undef) w) : wpList P ops Q (o :: rest) a w := by
  unfold wpList
  rw [if_neg (by rw [hw]; simp)]
  exact h
theorem goU_stepSkip {i : Nat} {o : Oper} {r : Tre} {a : Act} {w : World} (hS : S w) (ho : ops[i]? = some o) (hw : Region.wanted o (yielded ops a.tmps) = false) (h : goU P ops Q S r (a.put o.dst undef) w) : goU P ops Q S (.step i r) a w := goU_step hS ho (wpList_skip hw h)
theorem goU_twoSkip {i j : Nat} {o p : Oper} {r s : Tre} {a : Act} {w : World} (hS : S w) (ho : ops[i]? = some o) (hp : ops[j]? = some p) (hw : Region.wanted o (yielded ops a.tmps) = false) (hw2 : Region.wanted p (yielded ops a.tmps) = false) (h : goU P ops Q S r (a.put o.dst undef) w) (h2 : goU P ops Q S s (a.put p.dst undef) w) : goU P ops Q S (.two i j r s) a w := goU_two hS ho hp (wpList_skip hw h) (wpList_skip hw2 h2)
theorem put_some {a : Act} {o : Oper} {d : Nat} {v : Value} (hd : o.dst = some d) : a.put o.dst v = { a with tmps := a.tmps.setIfInBounds d v } := by rw [hd]; rfl
theorem goU_readA (d : Nat) {i : Nat} {o : Oper} {r : Tre} {a : Act} {w : World} (hS : S w) (ho : ops[i]? = some o) (hd : o.dst = some d) (v : Value) (hw : Region.wanted o (yielded ops a.tmps) = true) (hy : ∀ w, S w → (execOp a.eval o).run P w = .ok (.value v) w) (h : goU P ops Q S r { a with tmps := a.tmps.setIfInBounds d v } w) : goU P ops Q S (.read i r) a w := goU_read hS ho v hw hy (by rw [put_some hd]; exact h)
theorem goU_skipA (d : Nat) {i : Nat} {o : Oper} {r : Tre} {a : Act} {w : World} (hS : S w) (ho : ops[i]? = some o) (hd : o.dst = some d) (hw : Region.wanted o (yielded ops a.tmps) = false) (h : goU P ops Q S r { a with tmps := a.tmps.setIfInBounds d undef } w) : goU P ops Q S (.read i r) a w := goU_skip hS ho hw (by rw [put_some hd]; exact h)
theorem goU_stepSkipA (d : Nat) {i : Nat} {o : Oper} {r : Tre} {a : Act} {w : World} (hS : S w) (ho : ops[i]? = some o) (hd : o.dst = some d) (hw : Region.wanted o (yielded ops a.tmps) = false) (h : goU P ops Q S r { a with tmps := a.tmps.setIfInBounds d undef } w) : goU P ops Q S (.step i r) a w := goU_stepSkip hS ho hw (by rw [put_some hd]; exact h)
theorem goU_twoSkipA (d d2 : Nat) {i j : Nat} {o p : Oper} {r s : Tre} {a : Act} {w : World} (hS : S w) (ho : ops[i]? = some o) (hp : ops[j]? = some p) (hd : o.dst = some d) (hd2 : p.dst = some d2) (hw : Region.wanted o (yielded ops a.tmps) = false) (hw2 : Region.wanted p (yielded ops a.tmps) = false) (h : goU P ops Q S r { a with tmps := a.tmps.setIfInBounds d undef } w) (h2 : goU P ops Q S s { a with tmps := a.tmps.setIfInBounds d2 undef } w) : goU P ops Q S (.two i j r s) a w := goU_twoSkip hS ho hp hw hw2 (by rw [put_some hd]; exact h) (by rw [put_some hd2]; exact h2)
theorem goU_nil {a : Act} {w : World} (hS : S w) (h : Q .normal a w) : goU P ops Q S .nil a w := ⟨hS, h⟩
end
inductive Tr3 where
  | nil
  | read (i : Nat) (r : Tr3)
  | step (i : Nat) (r : Tr3)
  | two (i j : Nat) (r s : Tr3)
  | thr (i j k : Nat) (r s t : Tr3)
def Tr3.deep : Tr3 → Nat
  | .nil => 0
  | .read _ r => r.deep + 1
  | .step _ r => r.deep + 1
  | .two _ _ r _ => r.deep + 1
  | .thr _ _ _ r _ _ => r.deep + 1
section
variable {P : Program} {ops : Array Oper} {Q : Exit → Act → World → Prop} {md : Region.Mode} {S : World → Prop}
def goV (P : Program) (ops : Array Oper) (Q : Exit → Act → World → Prop) (S : World → Prop) : Tr3 → Act → World → Prop
  | .nil, a, w => S w ∧ Q .normal a w
  | .read i r, a, w => S w ∧ ∃ o v, ops[i]? = some o ∧ YieldsIf P ops S o v a ∧ goV P ops Q S r (a.put o.dst v) w
  | .step i r, a, w => S w ∧ ∃ o, ops[i]? = some o ∧ wpList P ops (Exit.then (fun a' w' => goV P ops Q S r a' w') Q) [o] a w
  | .two i j r s, a, w => S w ∧ ∃ o p, ops[i]? = some o ∧ ops[j]? = some p ∧ wpList P ops (Exit.then (fun a' w' => goV P ops Q S r a' w') Q) [o] a w ∧ wpList P ops (Exit.then (fun a' w' => goV P ops Q S s a' w') Q) [p] a w
  | .thr i j k r s t, a, w => S w ∧ ∃ o p q, ops[i]? = some o ∧ ops[j]? = some p ∧ ops[k]? = some q ∧ wpList P ops (Exit.then (fun a' w' => goV P ops Q S r a' w') Q) [o] a w ∧ wpList P ops (Exit.then (fun a' w' => goV P ops Q S s a' w') Q) [p] a w ∧ wpList P ops (Exit.then (fun a' w' => goV P ops Q S t a' w') Q) [q] a w
def planV (md : Region.Mode) (ops : Array Oper) : Tr3 → Array Bool → Bool
  | .nil, listed => (Region.ready md ops listed).isEmpty
  | .read i r, listed => (Region.ready md ops listed).contains i && Region.free md ops listed i && planV md ops r (listed.setIfInBounds i true)
  | .step i r, listed => decide (Region.ready md ops listed = [i]) && planV md ops r (listed.setIfInBounds i true)
  | .two i j r s, listed => decide (Region.ready md ops listed = [i, j]) && decide (r.deep = s.deep) && planV md ops r (listed.setIfInBounds i true) && planV md ops s (listed.setIfInBounds j true)
  | .thr i j k r s t, listed => decide (Region.ready md ops listed = [i, j, k]) && decide (r.deep = s.deep) && decide (r.deep = t.deep) && planV md ops r (listed.setIfInBounds i true) && planV md ops s (listed.setIfInBounds j true) && planV md ops t (listed.setIfInBounds k true)
theorem goV.s {t : Tr3} {a : Act} {w : World} (h : goV P ops Q S t a w) : S w := by
  cases t with
  | nil => exact h.1
  | read i r => exact h.1
  | step i r => exact h.1
  | two i j r s => exact h.1
  | thr i j k r s t => exact h.1
theorem wpAnyH_tr3 (hs : Region.noSelect ops = true) (hQ : ∀ c a t v w, Q (.panic c) (Act.put a (some t) v) w → Q (.panic c) a w) : ∀ (t : Tr3) (listed : Array Bool) (a : Act) (w : World), planV md ops t listed = true → goV P ops Q S t a w → wpAnyH P md ops Q S t.deep listed a w
  | .nil, listed, a, w, hB, h => ⟨by simpa [planV] using hB, h.2⟩
  | .read i r, listed, a, w, hB, h => by
    simp only [planV, Bool.and_eq_true] at hB
    obtain ⟨⟨h1, h2⟩, h4⟩ := hB
    obtain ⟨hS, o, v, ho, hy, hr⟩ := h
    exact wpAnyH_take ho hs h2 h1 (fun c a w hh => by cases hd : o.dst with | none => (rw [hd] at hh; exact hh) | some t => (rw [hd] at hh; exact hQ c a t v w hh)) hy hS (wpAnyH_tr3 hs hQ r _ _ _ h4 hr)
  | .step i r, listed, a, w, hB, h => by
    simp only [planV, Bool.and_eq_true, decide_eq_true_eq] at hB
    obtain ⟨h1, h4⟩ := hB
    obtain ⟨hS, o, ho, hw⟩ := h
    refine ⟨fun h0 => (by rw [h1] at h0; cases h0), fun j hj => ?_⟩
    rw [h1] at hj
    have hji : j = i := by simpa using hj
    subst hji
    refine wpOp_mono (fun a' w' h' => ?_) (wpOp_of_list ho hw)
    have h'' : goV P ops Q S r a' w' := h'
    exact ⟨h''.s, wpAnyH_tr3 hs hQ r _ _ _ h4 h''⟩
  | .two i j r s, listed, a, w, hB, h => by
    simp only [planV, Bool.and_eq_true, decide_eq_true_eq] at hB
    obtain ⟨⟨⟨h1, h5⟩, h4⟩, h6⟩ := hB
    obtain ⟨hS, o, p, ho, hp, hw, hw2⟩ := h
    refine ⟨fun h0 => (by rw [h1] at h0; cases h0), fun k hk => ?_⟩
    rw [h1] at hk
    rcases List.mem_cons.1 hk with rfl | hk
    · refine wpOp_mono (fun a' w' h' => ?_) (wpOp_of_list ho hw)
      have h'' : goV P ops Q S r a' w' := h'
      exact ⟨h''.s, wpAnyH_tr3 hs hQ r _ _ _ h4 h''⟩
    · rw [List.mem_singleton] at hk
      subst hk
      refine wpOp_mono (fun a' w' h' => ?_) (wpOp_of_list hp hw2)
      have h'' : goV P ops Q S s a' w' := h'
      have key := wpAnyH_tr3 hs hQ s _ _ _ h6 h''
      rw [← h5] at key
      exact ⟨h''.s, key⟩
  | .thr i j k r s t, listed, a, w, hB, h => by
    simp only [planV, Bool.and_eq_true, decide_eq_true_eq] at hB
    obtain ⟨⟨⟨⟨⟨h1, h5⟩, h7⟩, h4⟩, h6⟩, h8⟩ := hB
    obtain ⟨hS, o, p, q, ho, hp, hq, hw, hw2, hw3⟩ := h
    refine ⟨fun h0 => (by rw [h1] at h0; cases h0), fun m hk => ?_⟩
    rw [h1] at hk
    rcases List.mem_cons.1 hk with rfl | hk
    · refine wpOp_mono (fun a' w' h' => ?_) (wpOp_of_list ho hw)
      have h'' : goV P ops Q S r a' w' := h'
      exact ⟨h''.s, wpAnyH_tr3 hs hQ r _ _ _ h4 h''⟩
    · rcases List.mem_cons.1 hk with rfl | hk
      · refine wpOp_mono (fun a' w' h' => ?_) (wpOp_of_list hp hw2)
        have h'' : goV P ops Q S s a' w' := h'
        have key := wpAnyH_tr3 hs hQ s _ _ _ h6 h''
        rw [← h5] at key
        exact ⟨h''.s, key⟩
      · rw [List.mem_singleton] at hk
        subst hk
        refine wpOp_mono (fun a' w' h' => ?_) (wpOp_of_list hq hw3)
        have h'' : goV P ops Q S t a' w' := h'
        have key := wpAnyH_tr3 hs hQ t _ _ _ h8 h''
        rw [← h7] at key
        exact ⟨h''.s, key⟩
/-- A region that draws its order, by a tree of orders. -/
theorem wp_region_tr3 {id : Nat} {a : Act} {w : World} {l : List Oper} (t : Tr3) (hm : P.follows .mixedOrders = true) (hl : t.deep = l.length) (hs : Region.noSelect l.toArray = true) (hB : planV .any l.toArray t (Array.replicate l.length false) = true) (hQ : ∀ c a t v w, Q (.panic c) (Act.put a (some t) v) w → Q (.panic c) a w) (S : World → Prop)
    (h : goV P l.toArray Q S t a w.drew) : (Code.region id l.toArray true).wp P Q a w := by
  refine wp_region_held (S := S) hm ?_
  have hsz : l.toArray.size = l.length := by simp
  rw [hsz, ← hl]
  rw [← hl] at hB
  exact wpAnyH_tr3 hs hQ t _ a w.drew hB h
theorem goV_read (d : Nat) {i : Nat} {o : Oper} {r : Tr3} {a : Act} {w : World} (hS : S w) (ho : ops[i]? = some o) (hd : o.dst = some d) (v : Value) (hw : Region.wanted o (yielded ops a.tmps) = true) (hy : ∀ w, S w → (execOp a.eval o).run P w = .ok (.value v) w) (h : goV P ops Q S r { a with tmps := a.tmps.setIfInBounds d v } w) : goV P ops Q S (.read i r) a w := ⟨hS, o, v, ho, .inl ⟨hw, hy⟩, by rw [put_some hd]; exact h⟩
theorem goV_step {i : Nat} {o : Oper} {r : Tr3} {a : Act} {w : World} (hS : S w) (ho : ops[i]? = some o) (h : wpList P ops (Exit.then (fun a' w' => goV P ops Q S r a' w') Q) [o] a w) : goV P ops Q S (.step i r) a w := ⟨hS, o, ho, h⟩
theorem goV_two {i j : Nat} {o p : Oper} {r s : Tr3} {a : Act} {w : World} (hS : S w) (ho : ops[i]? = some o) (hp : ops[j]? = some p) (h : wpList P ops (Exit.then (fun a' w' => goV P ops Q S r a' w') Q) [o] a w) (h2 : wpList P ops (Exit.then (fun a' w' => goV P ops Q S s a' w') Q) [p] a w) : goV P ops Q S (.two i j r s) a w := ⟨hS, o, p, ho, hp, h, h2⟩
theorem goV_thr {i j k : Nat} {o p q : Oper} {r s t : Tr3} {a : Act} {w : World} (hS : S w) (ho : ops[i]? = some o) (hp : ops[j]? = some p) (hq : ops[k]? = some q) (h : wpList P ops (Exit.then (fun a' w' => goV P ops Q S r a' w') Q) [o] a w) (h2 : wpList P ops (Exit.then (fun a' w' => goV P ops Q S s a' w') Q) [p] a w) (h3 : wpList P ops (Exit.then (fun a' w' => goV P ops Q S t a' w') Q) [q] a w) : goV P ops Q S (.thr i j k r s t) a w := ⟨hS, o, p, q, ho, hp, hq, h, h2, h3⟩
theorem goV_nil {a : Act} {w : World} (hS : S w) (h : Q .normal a w) : goV P ops Q S .nil a w := ⟨hS, h⟩
end
end Go.Proofs.YtpkjdnplmgfbbaaGreatDoor
