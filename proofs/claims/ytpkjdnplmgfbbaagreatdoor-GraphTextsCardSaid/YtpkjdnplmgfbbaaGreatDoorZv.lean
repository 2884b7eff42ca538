/- Regions that draw their order, gone through by a list of the operations' numbers; what has been read holds behind each. -/
import Derived.Test.YtpkjdnplmgfbbaaGreatDoorZs
namespace Go.Proofs.YtpkjdnplmgfbbaaGreatDoor
open Go.RowKit
section
variable {P : Program} {ops : Array Oper} {Q : Exit → Act → World → Prop} {md : Region.Mode} {S : World → Prop}
def goJ (P : Program) (ops : Array Oper) (Q : Exit → Act → World → Prop) (S : World → Prop) : List (Nat × Bool) → Act → World → Prop
  | [], a, w => S w ∧ Q .normal a w
  | (i, true) :: r, a, w => S w ∧ ∃ o v, ops[i]? = some o ∧ YieldsIf P ops S o v a ∧ goJ P ops Q S r (a.put o.dst v) w
  | (i, false) :: r, a, w => S w ∧ ∃ o, ops[i]? = some o ∧ wpList P ops (Exit.then (fun a' w' => goJ P ops Q S r a' w') Q) [o] a w
def planJ (md : Region.Mode) (ops : Array Oper) : List (Nat × Bool) → Array Bool → Bool
  | [], listed => (Region.ready md ops listed).isEmpty
  | (i, true) :: r, listed => (Region.ready md ops listed).contains i && Region.free md ops listed i && planJ md ops r (listed.setIfInBounds i true)
  | (i, false) :: r, listed => decide (Region.ready md ops listed = [i]) && planJ md ops r (listed.setIfInBounds i true)
theorem goJ.s {l : List (Nat × Bool)} {a : Act} {w : World} (h : goJ P ops Q S l a w) : S w := by
  cases l with
  | nil => exact h.1
  | cons p r =>
    obtain ⟨i, b⟩ := p
    cases b with
    | true => exact h.1
    | false => exact h.1
theorem wpAnyH_idx (hs : Region.noSelect ops = true) (hQ : ∀ c a t v w, Q (.panic c) (Act.put a (some t) v) w → Q (.panic c) a w) : ∀ (pl : List (Nat × Bool)) (listed : Array Bool) (a : Act) (w : World), planJ md ops pl listed = true → goJ P ops Q S pl a w → wpAnyH P md ops Q S pl.length listed a w
  | [], listed, a, w, hB, h => ⟨by simpa [planJ] using hB, h.2⟩
  | (i, true) :: r, listed, a, w, hB, h => by
    simp only [planJ, Bool.and_eq_true] at hB
    obtain ⟨⟨h1, h2⟩, h4⟩ := hB
    obtain ⟨hS, o, v, ho, hy, hr⟩ := h
    exact wpAnyH_take ho hs h2 h1 (fun c a w hh => by cases hd : o.dst with | none => (rw [hd] at hh; exact hh) | some t => (rw [hd] at hh; exact hQ c a t v w hh)) hy hS (wpAnyH_idx hs hQ r _ _ _ h4 hr)
  | (i, false) :: r, listed, a, w, hB, h => by
    simp only [planJ, Bool.and_eq_true, decide_eq_true_eq] at hB
    obtain ⟨h1, h4⟩ := hB
    obtain ⟨hS, o, ho, hw⟩ := h
    refine ⟨fun h0 => (by rw [h1] at h0; cases h0), fun j hj => ?_⟩
    rw [h1] at hj
    have hji : j = i := by simpa using hj
    subst hji
    refine wpOp_mono (fun a' w' h' => ?_) (wpOp_of_list ho hw)
    have h'' : goJ P ops Q S r a' w' := h'
    exact ⟨h''.s, wpAnyH_idx hs hQ r _ _ _ h4 h''⟩
/-- A region that draws its order: the order of the plan stands for all; those marked only read. -/
theorem wp_region_jdx {id : Nat} {a : Act} {w : World} {l : List Oper} (pl : List (Nat × Bool)) (hm : P.follows .mixedOrders = true) (hl : pl.length = l.length) (hs : Region.noSelect l.toArray = true) (hB : planJ .any l.toArray pl (Array.replicate l.length false) = true) (hQ : ∀ c a t v w, Q (.panic c) (Act.put a (some t) v) w → Q (.panic c) a w) (S : World → Prop)
    (h : goJ P l.toArray Q S pl a w.drew) : (Code.region id l.toArray true).wp P Q a w := by
  refine wp_region_held (S := S) hm ?_
  have hsz : l.toArray.size = l.length := by simp
  rw [hsz, ← hl]
  rw [← hl] at hB
  exact wpAnyH_idx hs hQ pl _ a w.drew hB h
theorem goJ_read {i : Nat} {o : Oper} {r : List (Nat × Bool)} {a : Act} {w : World} (hS : S w) (ho : ops[i]? = some o) (v : Value) (hw : Region.wanted o (yielded ops a.tmps) = true) (hy : ∀ w, S w → (execOp a.eval o).run P w = .ok (.value v) w) (h : goJ P ops Q S r (a.put o.dst v) w) : goJ P ops Q S ((i, true) :: r) a w := ⟨hS, o, v, ho, .inl ⟨hw, hy⟩, h⟩
theorem goJ_skip {i : Nat} {o : Oper} {r : List (Nat × Bool)} {a : Act} {w : World} (hS : S w) (ho : ops[i]? = some o) (hw : Region.wanted o (yielded ops a.tmps) = false) (h : goJ P ops Q S r (a.put o.dst undef) w) : goJ P ops Q S ((i, true) :: r) a w := ⟨hS, o, undef, ho, .inr ⟨hw, rfl⟩, h⟩
theorem goJ_step {i : Nat} {o : Oper} {r : List (Nat × Bool)} {a : Act} {w : World} (hS : S w) (ho : ops[i]? = some o) (h : wpList P ops (Exit.then (fun a' w' => goJ P ops Q S r a' w') Q) [o] a w) : goJ P ops Q S ((i, false) :: r) a w := ⟨hS, o, ho, h⟩
theorem goJ_nil {a : Act} {w : World} (hS : S w) (h : Q .normal a w) : goJ P ops Q S [] a w := ⟨hS, h⟩
end
end Go.Proofs.YtpkjdnplmgfbbaaGreatDoor
