/- Regions that draw their order, hold loads beside calls, and end with a store into what they load: all that reads is taken first, the rest goes in its order. -/
import Derived.Test.YtpkjdnplmgfbbaaGreatDoorG10
import Derived.Deep.RegionHeld
namespace Go.Proofs.YtpkjdnplmgfbbaaGreatDoor
open Go.RowKit

/-- What a world has of the cells of another one. -/
def Same (w w' : World) : Prop := (∀ b o, b < w.heap.size → w'.cell? ⟨b, o, none⟩ = w.cell? ⟨b, o, none⟩) ∧ w.heap.size ≤ w'.heap.size
theorem same_drew (w : World) : Same w w.drew := ⟨fun _ _ _ => rfl, Nat.le_refl _⟩
theorem same_below {w w' : World} (h : Below w.heap.size w w') : Same w w' := ⟨fun b o hb => h.cell (p := ⟨b, o, none⟩) hb, h.size⟩

section
variable {P : Program} {ops : Array Oper} {Q : Exit → Act → World → Prop} {md : Region.Mode} {S : World → Prop} {z : Nat}

/-- Whatever order is picked, and S holds behind each operation but number z. -/
def wpAnyZ (P : Program) (md : Region.Mode) (ops : Array Oper) (Q : Exit → Act → World → Prop) (S : World → Prop) (z : Nat) : Nat → Array Bool → Act → World → Prop
  | 0, listed, a, w => Region.ready md ops listed = [] ∧ Q .normal a w
  | fuel + 1, listed, a, w =>
    (Region.ready md ops listed = [] → Q .normal a w) ∧
    ∀ i ∈ Region.ready md ops listed, wpOp P ops Q i (fun a' w' => (i ≠ z → S w') ∧ wpAnyZ P md ops Q S z fuel (listed.setIfInBounds i true) a' w') a w

theorem wpAny_of_Z : ∀ (fuel : Nat) (listed : Array Bool) (a : Act) (w : World), wpAnyZ P md ops Q S z fuel listed a w → wpAny P md ops Q fuel listed a w
  | 0, _, _, _, h => h
  | fuel + 1, _, _, _, h => ⟨h.1, fun i hi => wpOp_mono (fun a' w' h' => wpAny_of_Z fuel _ a' w' h'.2) (h.2 i hi)⟩

/-- Number z waits for all the others. -/
def lastB (md : Region.Mode) (ops : Array Oper) (z : Nat) : Bool :=
  match ops[z]? with
  | none => false
  | some o => (List.range ops.size).all fun i => i == z || o.after.any fun e => Region.binds md e && e.on == i
theorem lastB_spec (h : lastB md ops z = true) {i j : Nat} {listed : Array Bool} (hi : i < ops.size) (hiz : i ≠ z) (hun : listed.getD i true = false) (hj : j ∈ Region.ready md ops listed) : j ≠ z := by
  intro e
  subst e
  obtain ⟨_, o, ho, hall⟩ := mem_ready.1 hj
  unfold lastB at h
  rw [ho] at h
  have h1 := List.all_eq_true.1 h i (List.mem_range.2 hi)
  simp only [Bool.or_eq_true, beq_iff_eq] at h1
  rcases h1 with h1 | h1
  · exact hiz h1
  · obtain ⟨e, he, h2⟩ := Array.any_eq_true'.1 h1
    simp only [Bool.and_eq_true, beq_iff_eq] at h2
    have h3 := hall e he h2.1
    rw [h2.2] at h3
    rcases Nat.lt_or_ge i listed.size with h' | h'
    · simp [h'] at hun h3; rw [hun] at h3; cases h3
    · simp [Array.getElem?_eq_none h'] at h3

theorem wpAnyZ_first {i : Nat} {oi : Oper} {v : Value} (hz : lastB md ops z = true) (hiz : i ≠ z) (hi : ops[i]? = some oi) (hsel : ∀ (j : Nat) (o : Oper) cs b, ops[j]? = some o → o.op ≠ .select cs b)
    (hQ : ∀ c a w, Q (.panic c) (a.put oi.dst v) w → Q (.panic c) a w) :
    ∀ (fuel : Nat) (listed : Array Bool) (a : Act) (w : World),
      (∀ j oj, ops[j]? = some oj → j ≠ i → listed.getD j true = false → (∀ e ∈ oj.after, Region.binds md e = true → e.on ≠ i) → oi.apart ops oj = true) →
      i ∈ Region.ready md ops listed → YieldsIf P ops S oi v a → S w →
      wpAnyZ P md ops Q S z fuel (listed.setIfInBounds i true) (a.put oi.dst v) w → wpAnyZ P md ops Q S z (fuel + 1) listed a w := by
  have his : i < ops.size := (Array.getElem?_eq_some_iff.1 hi).1
  intro fuel
  induction fuel with
  | zero =>
    intro listed a w _ hr hy hS H
    refine ⟨fun h => (by rw [h] at hr; cases hr), fun j hj => ?_⟩
    by_cases hji : j = i
    · subst hji; exact hy.wpOp hi hS ⟨fun _ => hS, H⟩
    · have := ready_mono hj hji
      rw [H.1] at this
      cases this
  | succ fuel ih =>
    intro listed a w hfree hr hy hS H
    refine ⟨fun h => (by rw [h] at hr; cases hr), fun j hj => ?_⟩
    by_cases hji : j = i
    · subst hji; exact hy.wpOp hi hS ⟨fun _ => hS, H⟩
    · have hjz : j ≠ z := lastB_spec hz his hiz (mem_ready.1 hr).1 hj
      have h1 := H.2 j (ready_mono hj hji)
      obtain ⟨hjun, oj, hoj, hall⟩ := mem_ready.1 hj
      have hnot : ∀ e ∈ oj.after, Region.binds md e = true → e.on ≠ i := fun e he hb heq => by
        have h1 := hall e he hb
        have h0 := (mem_ready.1 hr).1
        rw [heq] at h1
        rcases Nat.lt_or_ge i listed.size with h' | h'
        · simp [h'] at h0 h1; rw [h0] at h1; cases h1
        · simp [Array.getElem?_eq_none h'] at h1
      have h2 := wpOp_putIf hoj (hfree j oj hoj hji hjun hnot) (fun cs b => hsel i oi cs b hi) (fun cs b => hsel j oj cs b hoj) hQ hy h1
      have hfree' : ∀ k ok, ops[k]? = some ok → k ≠ i → (listed.setIfInBounds j true).getD k true = false →
          (∀ e ∈ ok.after, Region.binds md e = true → e.on ≠ i) → oi.apart ops ok = true := fun k ok hk hki hun hno => by
        refine hfree k ok hk hki ?_ hno
        by_cases hjk : j = k
        · subst hjk; exact hjun
        · rw [getD_set_ne true hjk] at hun; exact hun
      refine wpOp_mono (fun a' w' h3 => ⟨h3.2.1, ih (listed.setIfInBounds j true) a' w' hfree' (ready_mono hr (Ne.symm hji)) h3.1 (h3.2.1 hjz) ?_⟩) h2
      rw [Array.setIfInBounds_comm _ _ hji]
      exact h3.2.2

/-- Each of these operations yields in every world that meets S. -/
def loadsZ (P : Program) (ops : Array Oper) (S : World → Prop) : List Oper → Act → (Act → Prop) → Prop
  | [], a, K => K a
  | o :: r, a, K => ∃ v, YieldsIf P ops S o v a ∧ loadsZ P ops S r (a.put o.dst v) K
def loadsB (md : Region.Mode) (ops : Array Oper) : Nat → Nat → Array Bool → Bool
  | 0, _, _ => true
  | n + 1, k, listed => (Region.ready md ops listed).contains k && Region.free md ops listed k && decide (k + 1 < ops.size) && loadsB md ops n (k + 1) (listed.setIfInBounds k true)
/-- The rest, in its order; S holds ahead of each. -/
def tailZ (P : Program) (ops : Array Oper) (Q : Exit → Act → World → Prop) (S : World → Prop) : List Oper → Act → World → Prop
  | [], a, w => Q .normal a w
  | o :: r, a, w => S w ∧ wpList P ops (Exit.then (tailZ P ops Q S r) Q) [o] a w

theorem loads_any {g : Nat} (hz : lastB md ops (ops.size - 1) = true) (hs : Region.noSelect ops = true) (hQ : ∀ c a t v w, Q (.panic c) (Act.put a (some t) v) w → Q (.panic c) a w) :
    ∀ (pre : List Oper) (k : Nat) (listed : Array Bool) (a : Act) (w : World), (∀ j, j < pre.length → pre[j]? = ops[k + j]?) → loadsB md ops pre.length k listed = true → S w →
    loadsZ P ops S pre a (fun a' => wpAnyZ P md ops Q S (ops.size - 1) g (aft pre.length k listed) a' w) → wpAnyZ P md ops Q S (ops.size - 1) (g + pre.length) listed a w
  | [], _, _, _, _, _, _, _, h => h
  | o :: r, k, listed, a, w, hl, hB, hS, h => by
    have h0 : ops[k]? = some o := by simpa using (hl 0 (by simp)).symm
    simp only [List.length_cons, loadsB, Bool.and_eq_true, decide_eq_true_eq] at hB
    obtain ⟨⟨⟨h1, h2⟩, h3⟩, h4⟩ := hB
    obtain ⟨v, hy, h⟩ := h
    refine wpAnyZ_first hz (by omega) h0 (Region.noSelect_spec hs) (fun c a w hh => by cases hd : o.dst with | none => (rw [hd] at hh; exact hh) | some t => (rw [hd] at hh; exact hQ c a t v w hh)) _ listed a w (Region.free_spec h0 h2) (by simpa using h1) hy hS ?_
    exact loads_any hz hs hQ r (k + 1) _ _ w (fun j hj => by have := hl (j + 1) (by simp; omega); simpa [Nat.add_assoc, Nat.add_comm 1 j] using this) h4 hS h

theorem tail_any : ∀ (tl : List Oper) (k : Nat) (listed : Array Bool) (a : Act) (w : World), (∀ j, j < tl.length → tl[j]? = ops[k + j]?) → k + tl.length = ops.size → seqN md ops tl.length k listed = true → Region.ready md ops (aft tl.length k listed) = [] →
    tailZ P ops Q S tl a w → wpAnyZ P md ops Q S (ops.size - 1) tl.length listed a w
  | [], _, _, _, _, _, _, _, hr, h => ⟨hr, h⟩
  | o :: r, k, listed, a, w, hl, hk, hB, hr, h => by
    have h0 : ops[k]? = some o := by simpa using (hl 0 (by simp)).symm
    simp only [List.length_cons] at hk
    simp only [List.length_cons, seqN, Bool.and_eq_true, decide_eq_true_eq] at hB
    refine ⟨fun h1 => (by rw [hB.1] at h1; cases h1), fun i hi => ?_⟩
    rw [hB.1] at hi
    have hik : i = k := by simpa using hi
    subst hik
    refine wpOp_mono (fun a' w' h' => ?_) (wpOp_of_list h0 h.2)
    have h'' : tailZ P ops Q S r a' w' := h'
    refine ⟨fun hne => ?_, tail_any r (i + 1) _ a' w' (fun j hj => by have := hl (j + 1) (by simp; omega); simpa [Nat.add_assoc, Nat.add_comm 1 j] using this) (by omega) hB.2 hr h''⟩
    cases r with
    | nil => simp only [List.length_nil] at hk; omega
    | cons o2 r2 => exact h''.1

def planZ (l : List Oper) (n : Nat) : Bool :=
  decide (n ≤ l.length) && lastB .any l.toArray (l.toArray.size - 1) && Region.noSelect l.toArray && loadsB .any l.toArray n 0 (Array.replicate l.length false) && seqN .any l.toArray (l.length - n) n (aft n 0 (Array.replicate l.length false)) &&
    (Region.ready .any l.toArray (aft (l.length - n) n (aft n 0 (Array.replicate l.length false)))).isEmpty

/-- A region that draws its order: the first n operations read only; the others stand in one order, the last behind all. -/
theorem wp_region_loads {id : Nat} {a : Act} {w : World} {l : List Oper} (n : Nat) (hm : P.follows .mixedOrders = true) (hB : planZ l n = true) (hQ : ∀ c a t v w, Q (.panic c) (Act.put a (some t) v) w → Q (.panic c) a w) (S : World → Prop) (hS : S w.drew)
    (h : loadsZ P l.toArray S (l.take n) a fun a' => tailZ P l.toArray Q S (l.drop n) a' w.drew) : (Code.region id l.toArray true).wp P Q a w := by
  unfold planZ at hB
  simp only [Bool.and_eq_true, decide_eq_true_eq, List.isEmpty_iff] at hB
  obtain ⟨⟨⟨⟨⟨hn, h1⟩, h2⟩, h3⟩, h4⟩, h5⟩ := hB
  refine wp_region_any hm (wpAny_of_Z (S := S) (z := l.toArray.size - 1) _ _ _ _ ?_)
  have hsz : l.toArray.size = l.length := by simp
  have ht : (l.take n).length = n := by rw [List.length_take]; omega
  have hd : (l.drop n).length = l.length - n := List.length_drop
  have key := loads_any (P := P) (Q := Q) (S := S) (md := .any) (ops := l.toArray) (g := (l.drop n).length) h1 h2 hQ (l.take n) 0 (Array.replicate l.length false) a w.drew
    (fun j hj => by rw [Nat.zero_add, List.getElem?_take, if_pos (by omega)]; simp) (by rw [ht]; exact h3) hS ?_
  · rw [ht, hd] at key
    rw [hsz]
    rw [show l.length = l.length - n + n by omega]
    rw [show l.length - n + n = l.length by omega] at *
    exact key
  · have himp : ∀ (pre : List Oper) (a : Act) (K K' : Act → Prop), (∀ a, K a → K' a) → loadsZ P l.toArray S pre a K → loadsZ P l.toArray S pre a K' := by
      intro pre
      induction pre with
      | nil => intro a K K' hk hh; exact hk _ hh
      | cons o r ih => intro a K K' hk hh; obtain ⟨v, hy, hh⟩ := hh; exact ⟨v, hy, ih _ K K' hk hh⟩
    refine himp _ _ _ _ (fun a' ha' => ?_) h
    refine tail_any (l.drop n) n _ a' w.drew (fun j hj => by rw [List.getElem?_drop]; simp) (by rw [hd, hsz]; omega) (by rw [hd, ht]; exact h4) (by rw [hd, ht]; exact h5) ha'
theorem loadsZ_cons {o : Oper} {r : List Oper} {a : Act} {K : Act → Prop} (v : Value) (hw : Region.wanted o (yielded ops a.tmps) = true) (hy : ∀ w, S w → (execOp a.eval o).run P w = .ok (.value v) w) (h : loadsZ P ops S r (a.put o.dst v) K) : loadsZ P ops S (o :: r) a K := ⟨v, .inl ⟨hw, hy⟩, h⟩
theorem tailZ_cons {o : Oper} {r : List Oper} {a : Act} {w : World} (hS : S w) (h : wpList P ops (Exit.then (tailZ P ops Q S r) Q) [o] a w) : tailZ P ops Q S (o :: r) a w := ⟨hS, h⟩
theorem tailZ_nil {a : Act} {w : World} (h : Q .normal a w) : tailZ P ops Q S [] a w := h

/-- The rest, in its order; S holds ahead of each, and at the end. -/
def tailY (P : Program) (ops : Array Oper) (Q : Exit → Act → World → Prop) (S : World → Prop) : List Oper → Act → World → Prop
  | [], a, w => S w ∧ Q .normal a w
  | o :: r, a, w => S w ∧ wpList P ops (Exit.then (tailY P ops Q S r) Q) [o] a w
theorem tailY.s {tl : List Oper} {a : Act} {w : World} (h : tailY P ops Q S tl a w) : S w := by
  cases tl with
  | nil => exact h.1
  | cons o r => exact h.1
theorem loads_anyH {g : Nat} (hs : Region.noSelect ops = true) (hQ : ∀ c a t v w, Q (.panic c) (Act.put a (some t) v) w → Q (.panic c) a w) :
    ∀ (pre : List Oper) (k : Nat) (listed : Array Bool) (a : Act) (w : World), (∀ j, j < pre.length → pre[j]? = ops[k + j]?) → loadsB md ops pre.length k listed = true → S w →
    loadsZ P ops S pre a (fun a' => wpAnyH P md ops Q S g (aft pre.length k listed) a' w) → wpAnyH P md ops Q S (g + pre.length) listed a w
  | [], _, _, _, _, _, _, _, h => h
  | o :: r, k, listed, a, w, hl, hB, hS, h => by
    have h0 : ops[k]? = some o := by simpa using (hl 0 (by simp)).symm
    simp only [List.length_cons, loadsB, Bool.and_eq_true, decide_eq_true_eq] at hB
    obtain ⟨⟨⟨h1, h2⟩, _⟩, h4⟩ := hB
    obtain ⟨v, hy, h⟩ := h
    refine wpAnyH_take h0 hs h2 h1 (fun c a w hh => by cases hd : o.dst with | none => (rw [hd] at hh; exact hh) | some t => (rw [hd] at hh; exact hQ c a t v w hh)) hy hS ?_
    exact loads_anyH hs hQ r (k + 1) _ _ w (fun j hj => by have := hl (j + 1) (by simp; omega); simpa [Nat.add_assoc, Nat.add_comm 1 j] using this) h4 hS h
theorem tail_anyH : ∀ (tl : List Oper) (k : Nat) (listed : Array Bool) (a : Act) (w : World), (∀ j, j < tl.length → tl[j]? = ops[k + j]?) → seqN md ops tl.length k listed = true → Region.ready md ops (aft tl.length k listed) = [] →
    tailY P ops Q S tl a w → wpAnyH P md ops Q S tl.length listed a w
  | [], _, _, _, _, _, _, hr, h => ⟨hr, h.2⟩
  | o :: r, k, listed, a, w, hl, hB, hr, h => by
    have h0 : ops[k]? = some o := by simpa using (hl 0 (by simp)).symm
    simp only [List.length_cons, seqN, Bool.and_eq_true, decide_eq_true_eq] at hB
    refine ⟨fun h1 => (by rw [hB.1] at h1; cases h1), fun i hi => ?_⟩
    rw [hB.1] at hi
    have hik : i = k := by simpa using hi
    subst hik
    refine wpOp_mono (fun a' w' h' => ?_) (wpOp_of_list h0 h.2)
    have h'' : tailY P ops Q S r a' w' := h'
    exact ⟨h''.s, tail_anyH r (i + 1) _ a' w' (fun j hj => by have := hl (j + 1) (by simp; omega); simpa [Nat.add_assoc, Nat.add_comm 1 j] using this) hB.2 hr h''⟩
def planY (l : List Oper) (n : Nat) : Bool :=
  decide (n ≤ l.length) && Region.noSelect l.toArray && loadsB .any l.toArray n 0 (Array.replicate l.length false) && seqN .any l.toArray (l.length - n) n (aft n 0 (Array.replicate l.length false)) &&
    (Region.ready .any l.toArray (aft (l.length - n) n (aft n 0 (Array.replicate l.length false)))).isEmpty
/-- A region that draws its order: the first n operations read only; the others stand in one order and keep what has been read. -/
theorem wp_region_reads {id : Nat} {a : Act} {w : World} {l : List Oper} (n : Nat) (hm : P.follows .mixedOrders = true) (hB : planY l n = true) (hQ : ∀ c a t v w, Q (.panic c) (Act.put a (some t) v) w → Q (.panic c) a w) (S : World → Prop) (hS : S w.drew)
    (h : loadsZ P l.toArray S (l.take n) a fun a' => tailY P l.toArray Q S (l.drop n) a' w.drew) : (Code.region id l.toArray true).wp P Q a w := by
  unfold planY at hB
  simp only [Bool.and_eq_true, decide_eq_true_eq, List.isEmpty_iff] at hB
  obtain ⟨⟨⟨⟨hn, h2⟩, h3⟩, h4⟩, h5⟩ := hB
  refine wp_region_held (S := S) hm ?_
  have hsz : l.toArray.size = l.length := by simp
  have ht : (l.take n).length = n := by rw [List.length_take]; omega
  have hd : (l.drop n).length = l.length - n := List.length_drop
  have key := loads_anyH (P := P) (Q := Q) (S := S) (md := .any) (ops := l.toArray) (g := (l.drop n).length) h2 hQ (l.take n) 0 (Array.replicate l.length false) a w.drew
    (fun j hj => by rw [Nat.zero_add, List.getElem?_take, if_pos (by omega)]; simp) (by rw [ht]; exact h3) hS ?_
  · rw [ht, hd] at key
    rw [hsz]
    rw [show l.length - n + n = l.length by omega] at key
    exact key
  · have himp : ∀ (pre : List Oper) (a : Act) (K K' : Act → Prop), (∀ a, K a → K' a) → loadsZ P l.toArray S pre a K → loadsZ P l.toArray S pre a K' := by
      intro pre
      induction pre with
      | nil => intro a K K' hk hh; exact hk _ hh
      | cons o r ih => intro a K K' hk hh; obtain ⟨v, hy, hh⟩ := hh; exact ⟨v, hy, ih _ K K' hk hh⟩
    refine himp _ _ _ _ (fun a' ha' => ?_) h
    exact tail_anyH (l.drop n) n _ a' w.drew (fun j hj => by rw [List.getElem?_drop]; simp) (by rw [hd, ht]; exact h4) (by rw [hd, ht]; exact h5) ha'
theorem tailY_cons {o : Oper} {r : List Oper} {a : Act} {w : World} (hS : S w) (h : wpList P ops (Exit.then (tailY P ops Q S r) Q) [o] a w) : tailY P ops Q S (o :: r) a w := ⟨hS, h⟩
theorem tailY_nil {a : Act} {w : World} (hS : S w) (h : Q .normal a w) : tailY P ops Q S [] a w := ⟨hS, h⟩
end
end Go.Proofs.YtpkjdnplmgfbbaaGreatDoor
