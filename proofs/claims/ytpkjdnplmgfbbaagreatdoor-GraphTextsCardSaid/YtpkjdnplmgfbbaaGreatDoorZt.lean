/- Regions that draw their order, gone through by a list of the operations' numbers; the last one waits for all and may write what has been read. -/
import Derived.Test.YtpkjdnplmgfbbaaGreatDoorZs
namespace Go.Proofs.YtpkjdnplmgfbbaaGreatDoor
open Go.RowKit
section
variable {P : Program} {ops : Array Oper} {Q : Exit → Act → World → Prop} {md : Region.Mode} {S : World → Prop} {z : Nat}

/-- true: it only reads. -/
def goI (P : Program) (ops : Array Oper) (Q : Exit → Act → World → Prop) (S : World → Prop) : List (Nat × Bool) → Act → World → Prop
  | [], a, w => Q .normal a w
  | (i, true) :: r, a, w => S w ∧ ∃ o v, ops[i]? = some o ∧ YieldsIf P ops S o v a ∧ goI P ops Q S r (a.put o.dst v) w
  | (i, false) :: r, a, w => S w ∧ ∃ o, ops[i]? = some o ∧ wpList P ops (Exit.then (fun a' w' => goI P ops Q S r a' w') Q) [o] a w
def planI (md : Region.Mode) (ops : Array Oper) (z : Nat) : List (Nat × Bool) → Array Bool → Bool
  | [], listed => (Region.ready md ops listed).isEmpty
  | (i, true) :: r, listed => (Region.ready md ops listed).contains i && Region.free md ops listed i && decide (i ≠ z) && planI md ops z r (listed.setIfInBounds i true)
  | (i, false) :: r, listed => decide (Region.ready md ops listed = [i]) && (decide (i = z) || !r.isEmpty) && planI md ops z r (listed.setIfInBounds i true)
theorem goI.s {p : Nat × Bool} {r : List (Nat × Bool)} {a : Act} {w : World} (h : goI P ops Q S (p :: r) a w) : S w := by
  obtain ⟨i, b⟩ := p
  cases b with
  | true => exact h.1
  | false => exact h.1
theorem wpAnyZ_idx (hz : lastB md ops z = true) (hs : Region.noSelect ops = true) (hQ : ∀ c a t v w, Q (.panic c) (Act.put a (some t) v) w → Q (.panic c) a w) : ∀ (pl : List (Nat × Bool)) (listed : Array Bool) (a : Act) (w : World), planI md ops z pl listed = true → goI P ops Q S pl a w → wpAnyZ P md ops Q S z pl.length listed a w
  | [], listed, a, w, hB, h => ⟨by simpa [planI] using hB, h⟩
  | (i, true) :: r, listed, a, w, hB, h => by
    simp only [planI, Bool.and_eq_true, decide_eq_true_eq] at hB
    obtain ⟨⟨⟨h1, h2⟩, h3⟩, h4⟩ := hB
    obtain ⟨hS, o, v, ho, hy, hr⟩ := h
    exact wpAnyZ_first hz h3 ho (Region.noSelect_spec hs) (fun c a w hh => by cases hd : o.dst with | none => (rw [hd] at hh; exact hh) | some t => (rw [hd] at hh; exact hQ c a t v w hh)) _ listed a w (Region.free_spec ho h2) (by simpa using h1) hy hS (wpAnyZ_idx hz hs hQ r _ _ _ h4 hr)
  | (i, false) :: r, listed, a, w, hB, h => by
    simp only [planI, Bool.and_eq_true, decide_eq_true_eq, Bool.or_eq_true] at hB
    obtain ⟨⟨h1, h2⟩, h4⟩ := hB
    obtain ⟨hS, o, ho, hw⟩ := h
    refine ⟨fun h0 => (by rw [h1] at h0; cases h0), fun j hj => ?_⟩
    rw [h1] at hj
    have hji : j = i := by simpa using hj
    subst hji
    refine wpOp_mono (fun a' w' h' => ?_) (wpOp_of_list ho hw)
    have h'' : goI P ops Q S r a' w' := h'
    refine ⟨fun hne => ?_, wpAnyZ_idx hz hs hQ r _ _ _ h4 h''⟩
    rcases h2 with h2 | h2
    · exact absurd h2 hne
    · cases r with
      | nil => simp at h2
      | cons p r => exact h''.s
/-- A region that draws its order: the order of the plan stands for all; those marked only read. -/
theorem wp_region_idx {id : Nat} {a : Act} {w : World} {l : List Oper} (z : Nat) (pl : List (Nat × Bool)) (hm : P.follows .mixedOrders = true) (hl : pl.length = l.length) (hz : lastB .any l.toArray z = true) (hs : Region.noSelect l.toArray = true) (hB : planI .any l.toArray z pl (Array.replicate l.length false) = true) (hQ : ∀ c a t v w, Q (.panic c) (Act.put a (some t) v) w → Q (.panic c) a w) (S : World → Prop)
    (h : goI P l.toArray Q S pl a w.drew) : (Code.region id l.toArray true).wp P Q a w := by
  refine wp_region_any hm (wpAny_of_Z (S := S) (z := z) _ _ _ _ ?_)
  have hsz : l.toArray.size = l.length := by simp
  rw [hsz, ← hl]
  rw [← hl] at hB
  exact wpAnyZ_idx hz hs hQ pl _ a w.drew hB h
theorem goI_read {i : Nat} {o : Oper} {r : List (Nat × Bool)} {a : Act} {w : World} (hS : S w) (ho : ops[i]? = some o) (v : Value) (hw : Region.wanted o (yielded ops a.tmps) = true) (hy : ∀ w, S w → (execOp a.eval o).run P w = .ok (.value v) w) (h : goI P ops Q S r (a.put o.dst v) w) : goI P ops Q S ((i, true) :: r) a w := ⟨hS, o, v, ho, .inl ⟨hw, hy⟩, h⟩
theorem goI_skip {i : Nat} {o : Oper} {r : List (Nat × Bool)} {a : Act} {w : World} (hS : S w) (ho : ops[i]? = some o) (hw : Region.wanted o (yielded ops a.tmps) = false) (h : goI P ops Q S r (a.put o.dst undef) w) : goI P ops Q S ((i, true) :: r) a w := ⟨hS, o, undef, ho, .inr ⟨hw, rfl⟩, h⟩
theorem goI_step {i : Nat} {o : Oper} {r : List (Nat × Bool)} {a : Act} {w : World} (hS : S w) (ho : ops[i]? = some o) (h : wpList P ops (Exit.then (fun a' w' => goI P ops Q S r a' w') Q) [o] a w) : goI P ops Q S ((i, false) :: r) a w := ⟨hS, o, ho, h⟩
theorem goI_nil {a : Act} {w : World} (h : Q .normal a w) : goI P ops Q S [] a w := h
end
end Go.Proofs.YtpkjdnplmgfbbaaGreatDoor
