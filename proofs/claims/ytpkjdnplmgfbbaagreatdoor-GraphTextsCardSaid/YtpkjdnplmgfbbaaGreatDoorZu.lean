/- Regions that draw their order, gone through by a tree of the operations' numbers: where two may come up, both ways are gone. -/
import Derived.Test.YtpkjdnplmgfbbaaGreatDoorZt
namespace Go.Proofs.YtpkjdnplmgfbbaaGreatDoor
open Go.RowKit
inductive Tre where
  | nil | read (i : Nat) (r : Tre) | step (i : Nat) (r : Tre) | two (i j : Nat) (r s : Tre)
def Tre.deep : Tre → Nat
  | .nil => 0 | .read _ r => r.deep + 1 | .step _ r => r.deep + 1 | .two _ _ r _ => r.deep + 1
def Tre.isNil : Tre → Bool
  | .nil => true | _ => false
section
variable {P : Program} {ops : Array Oper} {Q : Exit → Act → World → Prop} {md : Region.Mode} {S : World → Prop} {z : Nat}
def goT (P : Program) (ops : Array Oper) (Q : Exit → Act → World → Prop) (S : World → Prop) : Tre → Act → World → Prop
  | .nil, a, w => Q .normal a w
  | .read i r, a, w => S w ∧ ∃ o v, ops[i]? = some o ∧ YieldsIf P ops S o v a ∧ goT P ops Q S r (a.put o.dst v) w
  | .step i r, a, w => S w ∧ ∃ o, ops[i]? = some o ∧ wpList P ops (Exit.then (fun a' w' => goT P ops Q S r a' w') Q) [o] a w
  | .two i j r s, a, w => S w ∧ ∃ o p, ops[i]? = some o ∧ ops[j]? = some p ∧ wpList P ops (Exit.then (fun a' w' => goT P ops Q S r a' w') Q) [o] a w ∧ wpList P ops (Exit.then (fun a' w' => goT P ops Q S s a' w') Q) [p] a w
def planT (md : Region.Mode) (ops : Array Oper) (z : Nat) : Tre → Array Bool → Bool
  | .nil, listed => (Region.ready md ops listed).isEmpty
  | .read i r, listed => (Region.ready md ops listed).contains i && Region.free md ops listed i && decide (i ≠ z) && planT md ops z r (listed.setIfInBounds i true)
  | .step i r, listed => decide (Region.ready md ops listed = [i]) && (decide (i = z) || !r.isNil) && planT md ops z r (listed.setIfInBounds i true)
  | .two i j r s, listed => decide (Region.ready md ops listed = [i, j]) && !r.isNil && !s.isNil && decide (r.deep = s.deep) && planT md ops z r (listed.setIfInBounds i true) && planT md ops z s (listed.setIfInBounds j true)
theorem goT.s {t : Tre} {a : Act} {w : World} (ht : t.isNil = false) (h : goT P ops Q S t a w) : S w := by
  cases t with
  | nil => cases ht
  | read i r => exact h.1
  | step i r => exact h.1
  | two i j r s => exact h.1
theorem wpAnyZ_tre (hz : lastB md ops z = true) (hs : Region.noSelect ops = true) (hQ : ∀ c a t v w, Q (.panic c) (Act.put a (some t) v) w → Q (.panic c) a w) : ∀ (t : Tre) (listed : Array Bool) (a : Act) (w : World), planT md ops z t listed = true → goT P ops Q S t a w → wpAnyZ P md ops Q S z t.deep listed a w
  | .nil, listed, a, w, hB, h => ⟨by simpa [planT] using hB, h⟩
  | .read i r, listed, a, w, hB, h => by
    simp only [planT, Bool.and_eq_true, decide_eq_true_eq] at hB
    obtain ⟨⟨⟨h1, h2⟩, h3⟩, h4⟩ := hB
    obtain ⟨hS, o, v, ho, hy, hr⟩ := h
    exact wpAnyZ_first hz h3 ho (Region.noSelect_spec hs) (fun c a w hh => by cases hd : o.dst with | none => (rw [hd] at hh; exact hh) | some t => (rw [hd] at hh; exact hQ c a t v w hh)) _ listed a w (Region.free_spec ho h2) (by simpa using h1) hy hS (wpAnyZ_tre hz hs hQ r _ _ _ h4 hr)
  | .step i r, listed, a, w, hB, h => by
    simp only [planT, Bool.and_eq_true, decide_eq_true_eq, Bool.or_eq_true, Bool.not_eq_true'] at hB
    obtain ⟨⟨h1, h2⟩, h4⟩ := hB
    obtain ⟨hS, o, ho, hw⟩ := h
    refine ⟨fun h0 => (by rw [h1] at h0; cases h0), fun j hj => ?_⟩
    rw [h1] at hj
    have hji : j = i := by simpa using hj
    subst hji
    refine wpOp_mono (fun a' w' h' => ?_) (wpOp_of_list ho hw)
    have h'' : goT P ops Q S r a' w' := h'
    refine ⟨fun hne => ?_, wpAnyZ_tre hz hs hQ r _ _ _ h4 h''⟩
    rcases h2 with h2 | h2
    · exact absurd h2 hne
    · exact h''.s h2
  | .two i j r s, listed, a, w, hB, h => by
    simp only [planT, Bool.and_eq_true, decide_eq_true_eq, Bool.not_eq_true'] at hB
    obtain ⟨⟨⟨⟨⟨h1, h2⟩, h3⟩, h5⟩, h4⟩, h6⟩ := hB
    obtain ⟨hS, o, p, ho, hp, hw, hw2⟩ := h
    refine ⟨fun h0 => (by rw [h1] at h0; cases h0), fun k hk => ?_⟩
    rw [h1] at hk
    rcases List.mem_cons.1 hk with rfl | hk
    · refine wpOp_mono (fun a' w' h' => ?_) (wpOp_of_list ho hw)
      have h'' : goT P ops Q S r a' w' := h'
      exact ⟨fun _ => h''.s h2, wpAnyZ_tre hz hs hQ r _ _ _ h4 h''⟩
    · rw [List.mem_singleton] at hk
      subst hk
      refine wpOp_mono (fun a' w' h' => ?_) (wpOp_of_list hp hw2)
      have h'' : goT P ops Q S s a' w' := h'
      have key := wpAnyZ_tre hz hs hQ s _ _ _ h6 h''
      rw [← h5] at key
      exact ⟨fun _ => h''.s h3, key⟩
/-- A region that draws its order, by a tree of orders. -/
theorem wp_region_tre {id : Nat} {a : Act} {w : World} {l : List Oper} (z : Nat) (t : Tre) (hm : P.follows .mixedOrders = true) (hl : t.deep = l.length) (hz : lastB .any l.toArray z = true) (hs : Region.noSelect l.toArray = true) (hB : planT .any l.toArray z t (Array.replicate l.length false) = true) (hQ : ∀ c a t v w, Q (.panic c) (Act.put a (some t) v) w → Q (.panic c) a w) (S : World → Prop)
    (h : goT P l.toArray Q S t a w.drew) : (Code.region id l.toArray true).wp P Q a w := by
  refine wp_region_any hm (wpAny_of_Z (S := S) (z := z) _ _ _ _ ?_)
  have hsz : l.toArray.size = l.length := by simp
  rw [hsz, ← hl]
  rw [← hl] at hB
  exact wpAnyZ_tre hz hs hQ t _ a w.drew hB h
theorem goT_read {i : Nat} {o : Oper} {r : Tre} {a : Act} {w : World} (hS : S w) (ho : ops[i]? = some o) (v : Value) (hw : Region.wanted o (yielded ops a.tmps) = true) (hy : ∀ w, S w → (execOp a.eval o).run P w = .ok (.value v) w) (h : goT P ops Q S r (a.put o.dst v) w) : goT P ops Q S (.read i r) a w := ⟨hS, o, v, ho, .inl ⟨hw, hy⟩, h⟩
theorem goT_step {i : Nat} {o : Oper} {r : Tre} {a : Act} {w : World} (hS : S w) (ho : ops[i]? = some o) (h : wpList P ops (Exit.then (fun a' w' => goT P ops Q S r a' w') Q) [o] a w) : goT P ops Q S (.step i r) a w := ⟨hS, o, ho, h⟩
theorem goT_two {i j : Nat} {o p : Oper} {r s : Tre} {a : Act} {w : World} (hS : S w) (ho : ops[i]? = some o) (hp : ops[j]? = some p) (h : wpList P ops (Exit.then (fun a' w' => goT P ops Q S r a' w') Q) [o] a w) (h2 : wpList P ops (Exit.then (fun a' w' => goT P ops Q S s a' w') Q) [p] a w) : goT P ops Q S (.two i j r s) a w := ⟨hS, o, p, ho, hp, h, h2⟩
theorem goT_nil {a : Act} {w : World} (h : Q .normal a w) : goT P ops Q S .nil a w := h
end
end Go.Proofs.YtpkjdnplmgfbbaaGreatDoor
