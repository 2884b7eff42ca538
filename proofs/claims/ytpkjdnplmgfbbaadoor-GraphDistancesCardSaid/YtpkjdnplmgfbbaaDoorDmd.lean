/- A region that draws its order, in which two neighbours alone may change places. -/
import Derived.Test.YtpkjdnplmgfbbaaDoorBase
import Derived.StillTailTactics
namespace Go.Proofs.YtpkjdnplmgfbbaaDoor
open Go.RowKit

def swap2 {α : Type} : List α → List α
  | a :: b :: r => b :: a :: r
  | l => l
def seqN (md : Region.Mode) (ops : Array Oper) : Nat → Nat → Array Bool → Bool
  | 0, _, _ => true
  | f + 1, k, listed => decide (Region.ready md ops listed = [k]) && seqN md ops f (k + 1) (listed.setIfInBounds k true)
def aft : Nat → Nat → Array Bool → Array Bool
  | 0, _, listed => listed
  | f + 1, k, listed => aft f (k + 1) (listed.setIfInBounds k true)

section
variable {P : Program} {ops : Array Oper} {Q : Exit → Act → World → Prop} {md : Region.Mode}
theorem upon_then (o : Oper) (a : Act) (next R : Act → World → Prop) (r : Result Next) (h : o.upon P a next (Exit.then R Q) r) : o.upon P a next Q r := by
  unfold Oper.upon at h ⊢
  split at h <;> first | exact h | skip
  all_goals
    refine Calls.mono h ?_
    intro e w'' hh
    cases e <;> exact hh
theorem wpOp_of_list {o : Oper} {k : Nat} {a : Act} {w : World} {R : Act → World → Prop} {rest : List Oper} (ho : ops[k]? = some o) (h : wpList P ops (Exit.then R Q) (o :: rest) a w) : wpOp P ops Q k (wpList P ops (Exit.then R Q) rest) a w := by
  unfold wpOp
  simp only [ho]
  unfold wpList at h
  split
  · rename_i hw
    rw [if_pos hw] at h
    rcases h with h | ⟨h1, h2⟩
    · exact .inl (upon_then o a _ R _ h)
    · exact .inr ⟨h1, h2⟩
  · rename_i hw
    rw [if_neg hw] at h
    exact h
theorem wpAny_pre {g : Nat} : ∀ (pre : List Oper) (k : Nat) (listed : Array Bool) (a : Act) (w : World), (∀ j, j < pre.length → pre[j]? = ops[k + j]?) → seqN md ops pre.length k listed = true →
    wpList P ops (Exit.then (fun a' w' => wpAny P md ops Q g (aft pre.length k listed) a' w') Q) pre a w → wpAny P md ops Q (g + pre.length) listed a w
  | [], _, _, _, _, _, _, h => h
  | o :: l, k, listed, a, w, hl, hB, h => by
    have h0 : ops[k]? = some o := by simpa using (hl 0 (by simp)).symm
    simp only [List.length_cons, seqN, Bool.and_eq_true, decide_eq_true_eq] at hB
    refine ⟨fun h1 => (by rw [hB.1] at h1; cases h1), fun i hi => ?_⟩
    rw [hB.1] at hi
    have hik : i = k := by simpa using hi
    subst hik
    exact wpOp_mono (fun a' w' h' => wpAny_pre l (i + 1) _ a' w' (fun j hj => by have := hl (j + 1) (by simp; omega); simpa [Nat.add_assoc, Nat.add_comm 1 j] using this) hB.2 h') (wpOp_of_list h0 h)

theorem then_upon (o : Oper) (a : Act) (next R : Act → World → Prop) (r : Result Next) (h : o.upon P a next Q r) : o.upon P a next (Exit.then R Q) r := by
  unfold Oper.upon at h ⊢
  split at h <;> first | exact h | skip
  all_goals
    refine Calls.mono h ?_
    intro e w'' hh
    cases e <;> exact hh
theorem wpList_then_mono {R R' : Act → World → Prop} (hR : ∀ a w, R a w → R' a w) : ∀ (l' : List Oper) (a' : Act) (w' : World), wpList P ops (Exit.then R Q) l' a' w' → wpList P ops (Exit.then R' Q) l' a' w'
  | [], _, _, hh => hR _ _ hh
  | o :: l', a', w', hh => by
    unfold wpList at hh ⊢
    split
    · rename_i hw
      rw [if_pos hw] at hh
      rcases hh with hh | ⟨hh, hh2⟩
      · exact .inl (then_upon o a' _ R' _ (Oper.wp_mono (fun a w hh => wpList_then_mono hR l' a w hh) (upon_then o a' _ R _ hh)))
      · exact .inr ⟨hh, hh2⟩
    · rename_i hw
      rw [if_neg hw] at hh
      exact wpList_then_mono hR l' _ _ hh

/-- Two neighbours that may change places. -/
theorem wpAny_dia {g n : Nat} {listed : Array Bool} {o1 o2 : Oper} {a : Act} {w : World} (g1 : ops[n]? = some o1) (g2 : ops[n + 1]? = some o2) (hr : Region.ready md ops listed = [n, n + 1]) (hr1 : Region.ready md ops (listed.setIfInBounds n true) = [n + 1]) (hr2 : Region.ready md ops (listed.setIfInBounds (n + 1) true) = [n])
    (h1 : wpList P ops (Exit.then (fun a' w' => wpAny P md ops Q g ((listed.setIfInBounds n true).setIfInBounds (n + 1) true) a' w') Q) [o1, o2] a w)
    (h2 : wpList P ops (Exit.then (fun a' w' => wpAny P md ops Q g ((listed.setIfInBounds n true).setIfInBounds (n + 1) true) a' w') Q) [o2, o1] a w) : wpAny P md ops Q (g + 2) listed a w := by
  refine ⟨fun hh => (by rw [hr] at hh; cases hh), fun i hi => ?_⟩
  rw [hr] at hi
  simp only [List.mem_cons, List.not_mem_nil, or_false] at hi
  rcases hi with rfl | rfl
  · refine wpOp_mono (fun a2 w2 hw2 => ?_) (wpOp_of_list g1 h1)
    refine ⟨fun hh => (by rw [hr1] at hh; cases hh), fun j hj => ?_⟩
    rw [hr1] at hj
    have hin : j = i + 1 := by simpa using hj
    subst hin
    exact wpOp_mono (fun a3 w3 hw3 => hw3) (wpOp_of_list g2 hw2)
  · refine wpOp_mono (fun a2 w2 hw2 => ?_) (wpOp_of_list g2 h2)
    refine ⟨fun hh => (by rw [hr2] at hh; cases hh), fun j hj => ?_⟩
    rw [hr2] at hj
    have hin : j = n := by simpa using hj
    subst hin
    refine wpOp_mono (fun a3 w3 hw3 => ?_) (wpOp_of_list g1 hw2)
    rw [Array.setIfInBounds_comm _ _ (show j + 1 ≠ j by omega)]
    exact hw3

/-- A region in pieces: each is gone through in its order; of those that are marked, the two operations in either order. -/
def planW (P : Program) (ops : Array Oper) (Q : Exit → Act → World → Prop) : List (List Oper × Bool) → Act → World → Prop
  | [], a, w => Q .normal a w
  | (seg, b) :: r, a, w => wpList P ops (Exit.then (planW P ops Q r) Q) seg a w ∧ (b = true → wpList P ops (Exit.then (planW P ops Q r) Q) (swap2 seg) a w)
def planB (md : Region.Mode) (ops : Array Oper) : List (Nat × Bool) → Nat → Array Bool → Bool
  | [], _, listed => (Region.ready md ops listed).isEmpty
  | (n, false) :: r, k, listed => seqN md ops n k listed && planB md ops r (k + n) (aft n k listed)
  | (n, true) :: r, k, listed => decide (n = 2) && decide (Region.ready md ops listed = [k, k + 1]) && decide (Region.ready md ops (listed.setIfInBounds k true) = [k + 1]) && decide (Region.ready md ops (listed.setIfInBounds (k + 1) true) = [k]) && planB md ops r (k + n) (aft n k listed)
def total : List (List Oper × Bool) → Nat
  | [] => 0
  | p :: r => total r + p.1.length
theorem flat_tail {seg : List Oper} {b : Bool} {r : List (List Oper × Bool)} {k : Nat} (hl : ∀ j, (((seg, b) :: r).flatMap (·.1))[j]? = ops[k + j]?) : ∀ j, (r.flatMap (·.1))[j]? = ops[k + seg.length + j]? := by
  intro j
  have h := hl (seg.length + j)
  rw [List.flatMap_cons] at h
  have h2 : (seg ++ r.flatMap (·.1))[seg.length + j]? = (r.flatMap (·.1))[j]? := by rw [List.getElem?_append_right (by omega), Nat.add_sub_cancel_left]
  rw [← h2, Nat.add_assoc]
  exact h
theorem flat_head {seg : List Oper} {b : Bool} {r : List (List Oper × Bool)} {k : Nat} (hl : ∀ j, (((seg, b) :: r).flatMap (·.1))[j]? = ops[k + j]?) : ∀ j, j < seg.length → seg[j]? = ops[k + j]? := by
  intro j hj
  have h := hl j
  rw [List.flatMap_cons] at h
  have h2 : (seg ++ r.flatMap (·.1))[j]? = seg[j]? := List.getElem?_append_left hj
  rw [← h2]
  exact h
theorem two_of {seg : List Oper} (h : seg.length = 2) : ∃ o1 o2, seg = [o1, o2] := by
  rcases seg with _ | ⟨o1, _ | ⟨o2, _ | ⟨o3, r⟩⟩⟩
  · simp at h
  · simp at h
  · exact ⟨o1, o2, rfl⟩
  · simp at h
theorem wpAny_plan (pl : List (List Oper × Bool)) : ∀ (k : Nat) (listed : Array Bool) (a : Act) (w : World), (∀ j, (pl.flatMap (·.1))[j]? = ops[k + j]?) → planB md ops (pl.map fun p => (p.1.length, p.2)) k listed = true → planW P ops Q pl a w → wpAny P md ops Q (total pl) listed a w := by
  induction pl with
  | nil => intro k listed a w _ hB h; exact ⟨by simpa [planB] using hB, h⟩
  | cons p r ih =>
    intro k listed a w hl hB h
    obtain ⟨seg, b⟩ := p
    have ht := flat_tail hl
    have hh := flat_head hl
    rw [planW] at h
    rw [total]
    cases b with
    | false =>
      simp only [List.map_cons, planB, Bool.and_eq_true] at hB
      exact wpAny_pre seg k listed a w hh hB.1 (wpList_then_mono (fun a' w' h' => ih _ _ a' w' ht hB.2 h') seg a w h.1)
    | true =>
      simp only [List.map_cons, planB, Bool.and_eq_true, decide_eq_true_eq] at hB
      obtain ⟨⟨⟨⟨h2, hr⟩, hr1⟩, hr2⟩, hB⟩ := hB
      obtain ⟨o1, o2, rfl⟩ := two_of h2
      have himp : ∀ a' w', planW P ops Q r a' w' → wpAny P md ops Q (total r) ((listed.setIfInBounds k true).setIfInBounds (k + 1) true) a' w' := fun a' w' h' => ih _ _ a' w' ht hB h'
      exact wpAny_dia (hh 0 (by simp)).symm (hh 1 (by simp)).symm hr hr1 hr2 (wpList_then_mono himp _ a w h.1) (wpList_then_mono himp _ a w (h.2 rfl))

def segs : List Oper → List (Nat × Bool) → List (List Oper × Bool)
  | _, [] => []
  | l, (n, b) :: r => (l.take n, b) :: segs (l.drop n) r
def covers : List (Nat × Bool) → Nat → Bool
  | [], n => n == 0
  | (m, _) :: r, n => decide (m ≤ n) && covers r (n - m)
theorem segs_flat : ∀ (pl : List (Nat × Bool)) (l : List Oper), covers pl l.length = true → (segs l pl).flatMap (·.1) = l ∧ total (segs l pl) = l.length ∧ (segs l pl).map (fun p => (p.1.length, p.2)) = pl
  | [], l, h => by
    have : l = [] := by cases l with
      | nil => rfl
      | cons a r => simp [covers] at h
    subst this; exact ⟨rfl, rfl, rfl⟩
  | (m, b) :: r, l, h => by
    simp only [covers, Bool.and_eq_true, decide_eq_true_eq] at h
    obtain ⟨i1, i2, i3⟩ := segs_flat r (l.drop m) (by rw [List.length_drop]; exact h.2)
    have hlen : (l.take m).length = m := by rw [List.length_take]; omega
    refine ⟨by simp only [segs, List.flatMap_cons, i1, List.take_append_drop], ?_, ?_⟩
    · simp only [segs, total, i2, hlen, List.length_drop]; omega
    · simp only [segs, List.map_cons, i3, hlen]

/-- A region that draws its order, by a plan: the lengths of its pieces, those marked in which two neighbours may change places. -/
theorem wp_region_plan {id : Nat} {a : Act} {w : World} {l : List Oper} (pl : List (Nat × Bool)) (hm : P.follows .mixedOrders = true) (hc : covers pl l.length = true) (hB : planB .any l.toArray pl 0 (Array.replicate l.length false) = true)
    (h : planW P l.toArray Q (segs l pl) a { w with drawn := w.drawn + 1 }) : (Code.region id l.toArray true).wp P Q a w := by
  obtain ⟨h1, h2, h3⟩ := segs_flat pl l hc
  refine wp_region_any hm ?_
  have hsz : l.toArray.size = l.length := by simp
  have := wpAny_plan (P := P) (Q := Q) (md := .any) (ops := l.toArray) (segs l pl) 0 (Array.replicate l.length false) a { w with drawn := w.drawn + 1 } (fun j => by rw [h1]; simp) (by rw [h3]; exact hB) h
  rw [h2] at this
  rw [hsz]
  exact this
theorem planW_seg {seg : List Oper} {r : List (List Oper × Bool)} {a : Act} {w : World} (h : wpList P ops (Exit.then (planW P ops Q r) Q) seg a w) : planW P ops Q ((seg, false) :: r) a w := ⟨h, fun h => by cases h⟩
theorem planW_two {o1 o2 : Oper} {r : List (List Oper × Bool)} {a : Act} {w : World} (h1 : wpList P ops (Exit.then (planW P ops Q r) Q) [o1, o2] a w) (h2 : wpList P ops (Exit.then (planW P ops Q r) Q) [o2, o1] a w) : planW P ops Q (([o1, o2], true) :: r) a w := ⟨h1, fun _ => h2⟩
theorem planW_nil {a : Act} {w : World} (h : Q .normal a w) : planW P ops Q [] a w := h
end
end Go.Proofs.YtpkjdnplmgfbbaaDoor
