/- Regions that draw their order, in pieces: some only read (any of their operations may be taken first), the others stand in one order. -/
import Derived.Test.YtpkjdnplmgfbbaaGreatDoorZr
namespace Go.Proofs.YtpkjdnplmgfbbaaGreatDoor
open Go.RowKit
section
variable {P : Program} {ops : Array Oper} {Q : Exit → Act → World → Prop} {md : Region.Mode} {S : World → Prop}

def loadsC (md : Region.Mode) (ops : Array Oper) : Nat → Nat → Array Bool → Bool
  | 0, _, _ => true
  | n + 1, k, listed => (Region.ready md ops listed).contains k && Region.free md ops listed k && loadsC md ops n (k + 1) (listed.setIfInBounds k true)
/-- One order; S holds ahead of each, and at the end. -/
def seqS (P : Program) (ops : Array Oper) (Q : Exit → Act → World → Prop) (S : World → Prop) (K : Act → World → Prop) : List Oper → Act → World → Prop
  | [], a, w => S w ∧ K a w
  | o :: r, a, w => S w ∧ wpList P ops (Exit.then (seqS P ops Q S K r) Q) [o] a w
theorem seqS.s {K : Act → World → Prop} {tl : List Oper} {a : Act} {w : World} (h : seqS P ops Q S K tl a w) : S w := by
  cases tl with
  | nil => exact h.1
  | cons o r => exact h.1
/-- The pieces; true: reads only. -/
def goM (P : Program) (ops : Array Oper) (Q : Exit → Act → World → Prop) (S : World → Prop) : List (List Oper × Bool) → Act → World → Prop
  | [], a, w => S w ∧ Q .normal a w
  | (sg, true) :: r, a, w => S w ∧ loadsZ P ops S sg a (fun a' => goM P ops Q S r a' w)
  | (sg, false) :: r, a, w => seqS P ops Q S (fun a' w' => goM P ops Q S r a' w') sg a w
def planM (md : Region.Mode) (ops : Array Oper) : List (Nat × Bool) → Nat → Array Bool → Bool
  | [], _, listed => (Region.ready md ops listed).isEmpty
  | (n, true) :: r, k, listed => loadsC md ops n k listed && planM md ops r (k + n) (aft n k listed)
  | (n, false) :: r, k, listed => seqN md ops n k listed && planM md ops r (k + n) (aft n k listed)
theorem loads_anyC {g : Nat} (hs : Region.noSelect ops = true) (hQ : ∀ c a t v w, Q (.panic c) (Act.put a (some t) v) w → Q (.panic c) a w) :
    ∀ (pre : List Oper) (k : Nat) (listed : Array Bool) (a : Act) (w : World), (∀ j, j < pre.length → pre[j]? = ops[k + j]?) → loadsC md ops pre.length k listed = true → S w →
    loadsZ P ops S pre a (fun a' => wpAnyH P md ops Q S g (aft pre.length k listed) a' w) → wpAnyH P md ops Q S (g + pre.length) listed a w
  | [], _, _, _, _, _, _, _, h => h
  | o :: r, k, listed, a, w, hl, hB, hS, h => by
    have h0 : ops[k]? = some o := by simpa using (hl 0 (by simp)).symm
    simp only [List.length_cons, loadsC, Bool.and_eq_true] at hB
    obtain ⟨⟨h1, h2⟩, h4⟩ := hB
    obtain ⟨v, hy, h⟩ := h
    refine wpAnyH_take h0 hs h2 h1 (fun c a w hh => by cases hd : o.dst with | none => (rw [hd] at hh; exact hh) | some t => (rw [hd] at hh; exact hQ c a t v w hh)) hy hS ?_
    exact loads_anyC hs hQ r (k + 1) _ _ w (fun j hj => by have := hl (j + 1) (by simp; omega); simpa [Nat.add_assoc, Nat.add_comm 1 j] using this) h4 hS h
theorem seq_anyC {g : Nat} {K : Act → World → Prop} : ∀ (tl : List Oper) (k : Nat) (listed : Array Bool) (a : Act) (w : World), (∀ j, j < tl.length → tl[j]? = ops[k + j]?) → seqN md ops tl.length k listed = true →
    (∀ a' w', K a' w' → wpAnyH P md ops Q S g (aft tl.length k listed) a' w') → seqS P ops Q S K tl a w → wpAnyH P md ops Q S (g + tl.length) listed a w
  | [], _, _, _, _, _, _, hK, h => hK _ _ h.2
  | o :: r, k, listed, a, w, hl, hB, hK, h => by
    have h0 : ops[k]? = some o := by simpa using (hl 0 (by simp)).symm
    simp only [List.length_cons, seqN, Bool.and_eq_true, decide_eq_true_eq] at hB
    refine ⟨fun h1 => (by rw [hB.1] at h1; cases h1), fun i hi => ?_⟩
    rw [hB.1] at hi
    have hik : i = k := by simpa using hi
    subst hik
    refine wpOp_mono (fun a' w' h' => ?_) (wpOp_of_list h0 h.2)
    have h'' : seqS P ops Q S K r a' w' := h'
    exact ⟨h''.s, seq_anyC r (i + 1) _ a' w' (fun j hj => by have := hl (j + 1) (by simp; omega); simpa [Nat.add_assoc, Nat.add_comm 1 j] using this) hB.2 hK h''⟩
theorem loadsZ_imp : ∀ (pre : List Oper) (a : Act) (K K' : Act → Prop), (∀ a, K a → K' a) → loadsZ P ops S pre a K → loadsZ P ops S pre a K'
  | [], _, _, _, hk, hh => hk _ hh
  | _ :: r, _, K, K', hk, hh => by obtain ⟨v, hy, hh⟩ := hh; exact ⟨v, hy, loadsZ_imp r _ K K' hk hh⟩
theorem wpAny_mix (hs : Region.noSelect ops = true) (hQ : ∀ c a t v w, Q (.panic c) (Act.put a (some t) v) w → Q (.panic c) a w) (pl : List (List Oper × Bool)) : ∀ (k : Nat) (listed : Array Bool) (a : Act) (w : World), (∀ j, (pl.flatMap (·.1))[j]? = ops[k + j]?) → planM md ops (pl.map fun p => (p.1.length, p.2)) k listed = true → goM P ops Q S pl a w → wpAnyH P md ops Q S (total pl) listed a w := by
  induction pl with
  | nil => intro k listed a w _ hB h; exact ⟨by simpa [planM] using hB, h.2⟩
  | cons p r ih =>
    intro k listed a w hl hB h
    obtain ⟨sg, b⟩ := p
    have ht := flat_tail hl
    have hh := flat_head hl
    rw [total]
    cases b with
    | true =>
      rw [goM] at h
      simp only [List.map_cons, planM, Bool.and_eq_true] at hB
      exact loads_anyC hs hQ sg k listed a w (fun j hj => hh j hj) hB.1 h.1 (loadsZ_imp _ _ _ _ (fun a' h' => ih _ _ a' w ht hB.2 h') h.2)
    | false =>
      rw [goM] at h
      simp only [List.map_cons, planM, Bool.and_eq_true] at hB
      exact seq_anyC sg k listed a w (fun j hj => hh j hj) hB.1 (fun a' w' h' => ih _ _ a' w' ht hB.2 h') h
/-- A region that draws its order, in pieces: those marked only read, the others stand in one order; what has been read holds behind each. -/
theorem wp_region_mix {id : Nat} {a : Act} {w : World} {l : List Oper} (pl : List (Nat × Bool)) (hm : P.follows .mixedOrders = true) (hc : covers pl l.length = true) (hs : Region.noSelect l.toArray = true) (hB : planM .any l.toArray pl 0 (Array.replicate l.length false) = true) (hQ : ∀ c a t v w, Q (.panic c) (Act.put a (some t) v) w → Q (.panic c) a w) (S : World → Prop)
    (h : goM P l.toArray Q S (segs l pl) a w.drew) : (Code.region id l.toArray true).wp P Q a w := by
  obtain ⟨h1, h2, h3⟩ := segs_flat pl l hc
  refine wp_region_held (S := S) hm ?_
  have hsz : l.toArray.size = l.length := by simp
  have := wpAny_mix (P := P) (Q := Q) (md := .any) (ops := l.toArray) hs hQ (segs l pl) 0 (Array.replicate l.length false) a w.drew (fun j => by rw [h1]; simp) (by rw [h3]; exact hB) h
  rw [h2] at this
  rw [hsz]
  exact this
theorem goM_reads {sg : List Oper} {r : List (List Oper × Bool)} {a : Act} {w : World} (hS : S w) (h : loadsZ P ops S sg a (fun a' => goM P ops Q S r a' w)) : goM P ops Q S ((sg, true) :: r) a w := ⟨hS, h⟩
theorem goM_one {o : Oper} {r : List (List Oper × Bool)} {a : Act} {w : World} (hS : S w) (h : wpList P ops (Exit.then (fun a' w' => S w' ∧ goM P ops Q S r a' w') Q) [o] a w) : goM P ops Q S (([o], false) :: r) a w := ⟨hS, h⟩
theorem goM_nil {a : Act} {w : World} (hS : S w) (h : Q .normal a w) : goM P ops Q S [] a w := ⟨hS, h⟩
theorem goM.s : ∀ {l : List (List Oper × Bool)} {a : Act} {w : World}, goM P ops Q S l a w → S w
  | [], _, _, h => h.1
  | (_, true) :: _, _, _, h => h.1
  | (_, false) :: _, _, _, h => seqS.s h
theorem goM_step {o : Oper} {r : List (List Oper × Bool)} {a : Act} {w : World} (hS : S w) (h : wpList P ops (Exit.then (fun a' w' => goM P ops Q S r a' w') Q) [o] a w) : goM P ops Q S (([o], false) :: r) a w :=
  ⟨hS, wpList_then_mono (fun _ _ h' => ⟨h'.s, h'⟩) [o] a w h⟩
theorem loadsZ_skip {o : Oper} {r : List Oper} {a : Act} {K : Act → Prop} (hw : Region.wanted o (yielded ops a.tmps) = false) (h : loadsZ P ops S r (a.put o.dst undef) K) : loadsZ P ops S (o :: r) a K := ⟨undef, .inr ⟨hw, rfl⟩, h⟩
theorem loadsZ_nil {a : Act} {K : Act → Prop} (h : K a) : loadsZ P ops S [] a K := h
end
end Go.Proofs.YtpkjdnplmgfbbaaGreatDoor
