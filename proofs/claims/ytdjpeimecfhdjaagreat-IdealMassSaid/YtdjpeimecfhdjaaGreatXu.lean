/- Regions that draw their order in which one operation is a call of a yield: the others are walked as ever. Package wide: the walk over short vectors: in plain lists, and what lies in memory meanwhile. Package wide: the end of the walk: a vector is yielded. -/
import Derived.Test.YtdjpeimecfhdjaaGreatXf
import Derived.RangeFuncSeq
import Derived.OrdersIn
import Derived.Test.YtdjpeimecfhdjaaGreatXt
import Derived.Test.YtdjpeimecfhdjaaGreatXq
namespace Go.Proofs.YtdjpeimecfhdjaaGreat
open Go.RowKit
theorem op_wide {P : Program} {o : Oper} {a : Act} {w : World} {K : Act → World → Prop} {Q : Exit → Act → World → Prop} {n : Nat} (h : o.wp P a w K Q) : o.wpIn Fence.wide n P a w K Q := by
 refine ⟨fun _ _ => trivial, ?_⟩
 show o.uponIn Fence.wide n P a K Q ((o.semAt none a.eval).run P w)
 rw [Oper.semAt_none]
 have h2 : o.upon P a K Q ((execOp a.eval o).run P w) := h
 generalize (execOp a.eval o).run P w = r at h2
 cases r with
 | ok x w' =>
  cases x with
  | value v => exact h2
  | skip => exact h2
  | defer d => exact h2
  | enter f args =>
   refine ⟨fun h => (by cases h), callsIn_wide.2 ?_⟩
   exact Calls.mono h2 fun e w'' he => (by cases e <;> exact he)
  | row row args =>
   exact ⟨fun h => (by cases h), fun c cs _ => let ⟨v, w'', r, st⟩ := h2 c cs; ⟨v, w'', r, stepsIn_wide.2 st⟩⟩
  | _ => exact h2.elim
 | halt x w' => cases x <;> first | exact h2 | exact h2.elim
inductive Tr6 where
 | nil
 | read (i : Nat) (r : Tr6)
 | step (i : Nat) (r : Tr6)
 | yld (i : Nat) (r : Tr6)
def Tr6.deep : Tr6 → Nat
 | .nil => 0
 | .read _ r => r.deep + 1
 | .step _ r => r.deep + 1
 | .yld _ r => r.deep + 1
def onlyN (Q : Exit → Act → World → Prop) : Exit → Act → World → Prop
 | .normal, a, w => Q .normal a w
 | _, _, _ => False
section
variable {P : Program} {ops : Array Oper} {Q : Exit → Act → World → Prop} {md : Region.Mode} {S : World → Prop} {Z : List Nat} {n : Nat}
theorem wpOp_wide (hQ : ¬ LetsOut Q) {i : Nat} {K : Act → World → Prop} {a : Act} {w : World} (h : wpOp P ops Q i K a w) : wpOpIn Fence.wide n P ops Q i K a w := by
 unfold wpOp at h
 unfold wpOpIn
 cases ho : ops[i]? with
 | none => rw [ho] at h; exact h
 | some o =>
  rw [ho] at h
  dsimp only at h ⊢
  by_cases hw : Region.wanted o (yielded ops a.tmps) = true
  ·rw [if_pos hw] at h ⊢
   rcases h with h | h
   ·exact op_wide h
   ·exact absurd h.2 hQ
  ·rw [if_neg hw] at h ⊢
   exact ⟨fun _ _ => trivial, h⟩
def wpOpM (n : Nat) (P : Program) (ops : Array Oper) (Q : Exit → Act → World → Prop) (Z : List Nat) (i : Nat) (K : Act → World → Prop) (a : Act) (w : World) : Prop :=
 wpOp P ops Q i K a w ∨ (Z.contains i = true ∧ wpOpIn Fence.wide n P ops Q i K a w)
def wpAnyM (n : Nat) (P : Program) (md : Region.Mode) (ops : Array Oper) (Q : Exit → Act → World → Prop) (S : World → Prop) (Z : List Nat) : Nat → Array Bool → Act → World → Prop
 | 0, listed, a, w => Region.ready md ops listed = [] ∧ Q .normal a w
 | fuel + 1, listed, a, w =>
  (Region.ready md ops listed = [] → Q .normal a w) ∧
  ∀ i ∈ Region.ready md ops listed, wpOpM n P ops Q Z i (fun a' w' => (Z.contains i = false → S w') ∧ wpAnyM n P md ops Q S Z fuel (listed.setIfInBounds i true) a' w') a w
theorem wpAnyIn_of_M (hQ : ¬ LetsOut Q) : ∀ (fuel : Nat) (listed : Array Bool) (a : Act) (w : World), wpAnyM n P md ops Q S Z fuel listed a w → wpAnyIn Fence.wide n P md ops Q fuel listed a w
 | 0, _, _, _, h => h
 | fuel + 1, _, _, _, h => ⟨h.1, fun i hi => by
  rcases h.2 i hi with h2 | ⟨_, h2⟩
  ·exact wpOpIn_mono (fun a' w' h' => wpAnyIn_of_M hQ fuel _ a' w' h'.2) (wpOp_wide hQ h2)
  ·exact wpOpIn_mono (fun a' w' h' => wpAnyIn_of_M hQ fuel _ a' w' h'.2) h2⟩
theorem wpAnyM_first {i : Nat} {oi : Oper} {v : Value} (hi : ops[i]? = some oi) (hsel : ∀ (j : Nat) (o : Oper) cs b, ops[j]? = some o → o.op ≠ .select cs b)
  (hQ : ∀ c a w, Q (.panic c) (a.put oi.dst v) w → Q (.panic c) a w) :
  ∀ (fuel : Nat) (listed : Array Bool) (a : Act) (w : World), Closed md ops listed → waitU md ops Z listed i = true →
   (∀ j oj, ops[j]? = some oj → j ≠ i → listed.getD j true = false → (∀ e ∈ oj.after, Region.binds md e = true → e.on ≠ i) → oi.apart ops oj = true) →
   i ∈ Region.ready md ops listed → YieldsIf P ops S oi v a → S w →
   wpAnyM n P md ops Q S Z fuel (listed.setIfInBounds i true) (a.put oi.dst v) w → wpAnyM n P md ops Q S Z (fuel + 1) listed a w := by
 intro fuel
 induction fuel with
 | zero =>
  intro listed a w _ _ _ hr hy hS H
  refine ⟨fun h => (by rw [h] at hr; cases hr), fun j hj => ?_⟩
  by_cases hji : j = i
  ·subst hji; exact .inl (hy.wpOp hi hS ⟨fun _ => hS, H⟩)
  ·have := ready_mono hj hji
   rw [H.1] at this
   cases this
 | succ fuel ih =>
  intro listed a w hC hWl hfree hr hy hS H
  refine ⟨fun h => (by rw [h] at hr; cases hr), fun j hj => ?_⟩
  by_cases hji : j = i
  ·subst hji; exact .inl (hy.wpOp hi hS ⟨fun _ => hS, H⟩)
  ·have hzj := waitU_spec hC hWl (mem_ready.1 hr).1 hj
   have h1 : wpOp P ops Q j _ _ _ := (H.2 j (ready_mono hj hji)).resolve_right fun h => by rw [hzj] at h; cases h.1
   obtain ⟨hjun, oj, hoj, hall⟩ := mem_ready.1 hj
   have hnot : ∀ e ∈ oj.after, Region.binds md e = true → e.on ≠ i := fun e he hb heq => by
    have h1 := hall e he hb
    have h0 := (mem_ready.1 hr).1
    rw [heq] at h1
    rcases Nat.lt_or_ge i listed.size with h' | h'
    ·simp [h'] at h0 h1; rw [h0] at h1; cases h1
    ·simp [Array.getElem?_eq_none h'] at h1
   have h2 := wpOp_putIf hoj (hfree j oj hoj hji hjun hnot) (fun cs b => hsel i oi cs b hi) (fun cs b => hsel j oj cs b hoj) hQ hy h1
   have hfree' : ∀ k ok, ops[k]? = some ok → k ≠ i → (listed.setIfInBounds j true).getD k true = false →
     (∀ e ∈ ok.after, Region.binds md e = true → e.on ≠ i) → oi.apart ops ok = true := fun k ok hk hki hun hno => by
    refine hfree k ok hk hki ?_ hno
    by_cases hjk : j = k
    ·subst hjk; exact hjun
    ·rw [getD_set_ne true hjk] at hun; exact hun
   refine .inl (wpOp_mono (fun a' w' h3 => ⟨h3.2.1, ih (listed.setIfInBounds j true) a' w' (hC.set hj) (waitU_mono hWl) hfree' (ready_mono hr (Ne.symm hji)) h3.1 (h3.2.1 hzj) ?_⟩) h2)
   rw [Array.setIfInBounds_comm _ _ hji]
   exact h3.2.2
def goY (n : Nat) (P : Program) (ops : Array Oper) (Q : Exit → Act → World → Prop) (Z : List Nat) : Tr6 → (World → Prop) → Act → World → Prop
 | .nil, _, a, w => Q .normal a w
 | .read i r, S, a, w => S w ∧ ∃ o v, ops[i]? = some o ∧ YieldsIf P ops S o v a ∧ goY n P ops Q Z r S (a.put o.dst v) w
 | .step i r, S, a, w => ∃ o, ops[i]? = some o ∧ wpList P ops (Exit.then (fun a' w' => (Z.contains i = false → S w') ∧ ∃ S' : World → Prop, (∀ w, S' w → S w) ∧ goY n P ops Q Z r S' a' w') Q) [o] a w
 | .yld i r, S, a, w => ∃ o, ops[i]? = some o ∧ Region.wanted o (yielded ops a.tmps) = true ∧ o.wpIn Fence.wide n P a w (fun a' w' => goY n P ops Q Z r S a' w') Q
theorem wpAnyM_mono {S' : World → Prop} (hSS : ∀ w, S' w → S w) : ∀ (fuel : Nat) (listed : Array Bool) (a : Act) (w : World), wpAnyM n P md ops Q S' Z fuel listed a w → wpAnyM n P md ops Q S Z fuel listed a w
 | 0, _, _, _, h => h
 | fuel + 1, _, _, _, h => ⟨h.1, fun i hi => by
  rcases h.2 i hi with h2 | ⟨h3, h2⟩
  ·exact .inl (wpOp_mono (fun a' w' h' => ⟨fun hz => hSS _ (h'.1 hz), wpAnyM_mono hSS fuel _ a' w' h'.2⟩) h2)
  ·exact .inr ⟨h3, wpOpIn_mono (fun a' w' h' => ⟨fun hz => hSS _ (h'.1 hz), wpAnyM_mono hSS fuel _ a' w' h'.2⟩) h2⟩⟩
def planY (md : Region.Mode) (ops : Array Oper) (Z : List Nat) : Tr6 → Array Bool → Bool
 | .nil, listed => (Region.ready md ops listed).isEmpty
 | .read i r, listed => (Region.ready md ops listed).contains i && Region.free md ops listed i && waitU md ops Z listed i && planY md ops Z r (listed.setIfInBounds i true)
 | .step i r, listed => decide (Region.ready md ops listed = [i]) && planY md ops Z r (listed.setIfInBounds i true)
 | .yld i r, listed => decide (Region.ready md ops listed = [i]) && Z.contains i && planY md ops Z r (listed.setIfInBounds i true)
theorem wpAnyM_tre (hs : Region.noSelect ops = true) (hQ : ∀ c a t v w, Q (.panic c) (Act.put a (some t) v) w → Q (.panic c) a w) : ∀ (t : Tr6) (S : World → Prop) (listed : Array Bool) (a : Act) (w : World), Closed md ops listed → planY md ops Z t listed = true → goY n P ops Q Z t S a w → wpAnyM n P md ops Q S Z t.deep listed a w
 | .nil, _, listed, a, w, hC, hB, h => ⟨by simpa [planY] using hB, h⟩
 | .read i r, S, listed, a, w, hC, hB, h => by
  simp only [planY, Bool.and_eq_true] at hB
  obtain ⟨⟨⟨h1, h2⟩, h3⟩, h4⟩ := hB
  obtain ⟨hS, o, v, ho, hy, hr⟩ := h
  exact wpAnyM_first ho (Region.noSelect_spec hs) (fun c a w hh => by cases hd : o.dst with | none => (rw [hd] at hh; exact hh) | some t => (rw [hd] at hh; exact hQ c a t v w hh)) _ listed a w hC h3 (Region.free_spec ho h2) (by simpa using h1) hy hS (wpAnyM_tre hs hQ r S _ _ _ (hC.set (by simpa using h1)) h4 hr)
 | .step i r, S, listed, a, w, hC, hB, h => by
  simp only [planY, Bool.and_eq_true, decide_eq_true_eq] at hB
  obtain ⟨h1, h4⟩ := hB
  obtain ⟨o, ho, hw⟩ := h
  refine ⟨fun h0 => (by rw [h1] at h0; cases h0), fun j hj => ?_⟩
  rw [h1] at hj
  have hji : j = i := by simpa using hj
  subst hji
  refine .inl (wpOp_mono (fun a' w' h' => ?_) (wpOp_of_list ho hw))
  have h'' : (Z.contains j = false → S w') ∧ ∃ S' : World → Prop, (∀ w, S' w → S w) ∧ goY n P ops Q Z r S' a' w' := h'
  obtain ⟨h5, S', h6, h7⟩ := h''
  exact ⟨h5, wpAnyM_mono h6 _ _ _ _ (wpAnyM_tre hs hQ r S' _ _ _ (hC.set (by rw [h1]; simp)) h4 h7)⟩
 | .yld i r, S, listed, a, w, hC, hB, h => by
  simp only [planY, Bool.and_eq_true, decide_eq_true_eq] at hB
  obtain ⟨⟨h1, hz⟩, h4⟩ := hB
  obtain ⟨o, ho, hwd, hw⟩ := h
  refine ⟨fun h0 => (by rw [h1] at h0; cases h0), fun j hj => ?_⟩
  rw [h1] at hj
  have hji : j = i := by simpa using hj
  subst hji
  refine .inr ⟨hz, ?_⟩
  unfold wpOpIn
  rw [ho]
  dsimp only
  rw [if_pos hwd]
  exact Oper.wpIn_mono (fun a' w' h' => ⟨fun hf => (by rw [hz] at hf; cases hf), wpAnyM_tre hs hQ r S _ _ _ (hC.set (by rw [h1]; simp)) h4 h'⟩) hw
theorem goY_read (d : Nat) {i : Nat} {o : Oper} {r : Tr6} {a : Act} {w : World} (hS : S w) (ho : ops[i]? = some o) (hd : o.dst = some d) (v : Value) (hw : Region.wanted o (yielded ops a.tmps) = true) (hy : ∀ w, S w → (execOp a.eval o).run P w = .ok (.value v) w) (h : goY n P ops Q Z r S { a with tmps := a.tmps.setIfInBounds d v } w) : goY n P ops Q Z (.read i r) S a w :=
 ⟨hS, o, v, ho, .inl ⟨hw, hy⟩, by rw [put_some hd]; exact h⟩
theorem goY_step {i : Nat} {o : Oper} {r : Tr6} {a : Act} {w : World} (ho : ops[i]? = some o) (h : wpList P ops (Exit.then (fun a' w' => (Z.contains i = false → S w') ∧ ∃ S' : World → Prop, (∀ w, S' w → S w) ∧ goY n P ops Q Z r S' a' w') Q) [o] a w) : goY n P ops Q Z (.step i r) S a w := ⟨o, ho, h⟩
theorem goY_call (d : Nat) {i : Nat} {o : Oper} {r : Tr6} {a : Act} {w : World} {f : FuncId} {args : Array Value} (ho : ops[i]? = some o) (hd : o.dst = some d) (hw : Region.wanted o (yielded ops a.tmps) = true) (hrun : (execOp a.eval o).run P w = .ok (.enter f args) w)
  {post : Ending → World → Prop} (hc : Calls P f args w post) (h : ∀ e w', post e w' → ∃ v, e = .returned v ∧ (Z.contains i = false → S w') ∧ ∃ S' : World → Prop, (∀ w, S' w → S w) ∧ goY n P ops Q Z r S' { a with tmps := a.tmps.setIfInBounds d v } w') : goY n P ops Q Z (.step i r) S a w := by
 refine ⟨o, ho, ?_⟩
 unfold wpList
 rw [if_pos hw]
 left
 unfold Oper.wp
 rw [hrun]
 refine Calls.mono hc ?_
 intro e w' hp
 obtain ⟨v, rfl, h1, h2⟩ := h e w' hp
 show wpList P ops _ [] (a.put o.dst v) w'
 unfold wpList
 rw [put_some hd]
 exact ⟨h1, h2⟩
theorem goY_yld (d : Nat) {i : Nat} {o : Oper} {r : Tr6} {a : Act} {w : World} {l : Nat} {args : Array Value} {R : Ending → World → Prop} (ho : ops[i]? = some o) (hd : o.dst = some d) (hw : Region.wanted o (yielded ops a.tmps) = true)
  (hrun : ∀ fn tmps assign body, (Instr.yield l args).run P w = .ok (.round l fn tmps assign body) w → (execOp a.eval o).run P w = .ok (.round l fn tmps assign body) w)
  (hy : YieldAt Fence.wide (n - 1) P l args w R) (h : ∀ e w', R e w' → ∃ v, e = .returned v ∧ goY n P ops Q Z r S { a with tmps := a.tmps.setIfInBounds d v } w') : goY n P ops Q Z (.yld i r) S a w := by
 obtain ⟨fn, tmps, assign, body, h1, h2⟩ := hy
 refine ⟨o, ho, hw, fun _ _ => trivial, ?_⟩
 show o.uponIn Fence.wide n P a _ Q ((o.semAt none a.eval).run P w)
 rw [Oper.semAt_none, hrun fn tmps assign body h1]
 refine ⟨fun h => (by cases h), h2.mono ?_⟩
 intro e w' hr
 obtain ⟨v, rfl, h3⟩ := h e w' hr
 show goY n P ops Q Z r S (a.put o.dst v) w'
 rw [put_some hd]
 exact h3
theorem goY_nil {a : Act} {w : World} (h : Q .normal a w) : goY n P ops (onlyN Q) Z .nil S a w := h
end
theorem wp_region_yld (n : Nat) {P : Program} {Q : Exit → Act → World → Prop} {id : Nat} {a : Act} {w : World} {L : List Oper} (t : Tr6) (Z : List Nat) (hm : P.follows .mixedOrders = true) (hl : t.deep = L.length) (hs : Region.noSelect L.toArray = true) (hB : planY .any L.toArray Z t (Array.replicate L.length false) = true)
  (S : World → Prop) (h : goY n P L.toArray (onlyN Q) Z t S a w.drew) : (Code.region id L.toArray true).wp P Q a w := by
 refine wp_mono (Q := onlyN Q) (wpIn_wide (n := n) |>.1 ?_) (fun e a w h => by cases e <;> first | exact h | exact h.elim)
 refine wpIn_region_any hm (wpAnyIn_of_M (S := S) (Z := Z) (fun ⟨_, _, h⟩ => h) _ _ _ _ ?_)
 have hsz : L.toArray.size = L.length := by simp
 rw [hsz, ← hl]
 rw [← hl] at hB
 refine wpAnyM_tre hs (fun _ _ _ _ _ h => h) t S _ a w.drew ?_ hB h
 intro j o _ hl
 rcases Nat.lt_or_ge j t.deep with h' | h'
 ·simp [h'] at hl
 ·simp [Nat.not_lt.2 h'] at hl
end Go.Proofs.YtdjpeimecfhdjaaGreat

namespace Go.Proofs.YtdjpeimecfhdjaaGreat
open Go.RowKit
def rsS (g : List (List Int)) (x : List Int) (j : Nat) : Nat → Int
 | 0 => 0
 | t + 1 => rsS g x j t + gm g 0 (t + 1) * gz x (j + 1 + t)
def ndRest (G : List (List Int)) (x : List Int) (j : Nat) : Int := rsS (gS G j) x j (x.length - 1 - j)
def ndRoom (G : List (List Int)) (b : Int) (x : List Int) (j : Nat) : Int := gm (gS G j) 0 0 * bS G b j - vl (gS G (j + 1)) (x.drop (j + 1)) (x.drop (j + 1))
def ndRt (G : List (List Int)) (b : Int) (x : List Int) (j : Nat) : Nat := isq (ndRoom G b x j).toNat
def ndLow (G : List (List Int)) (b : Int) (x : List Int) (j : Nat) : Int := -(-(-(ndRt G b x j : Int) - ndRest G x j) / gm (gS G j) 0 0)
def ndHigh (G : List (List Int)) (b : Int) (x : List Int) (j : Nat) : Int := ((ndRt G b x j : Int) - ndRest G x j) / gm (gS G j) 0 0
def ndOK (G : List (List Int)) (b : Int) (x : List Int) (j : Nat) : Bool :=
 decide (gm (gS G j) 0 0 ≠ 0) && decide (0 ≤ ndRoom G b x j) && decide (ndRt G b x j * ndRt G b x j ≤ (ndRoom G b x j).toNat) && decide ((ndRoom G b x j).toNat < (ndRt G b x j + 1) * (ndRt G b x j + 1)) && fitR x && fit (ndLow G b x j) && fit (ndHigh G b x j)
theorem ndOK_iff {G : List (List Int)} {b : Int} {x : List Int} {j : Nat} (h : ndOK G b x j = true) : gm (gS G j) 0 0 ≠ 0 ∧ 0 ≤ ndRoom G b x j ∧ ndRt G b x j * ndRt G b x j ≤ (ndRoom G b x j).toNat ∧ (ndRoom G b x j).toNat < (ndRt G b x j + 1) * (ndRt G b x j + 1) ∧ fitR x = true ∧ fit (ndLow G b x j) = true ∧ fit (ndHigh G b x j) = true := by
 unfold ndOK at h
 simp only [Bool.and_eq_true, decide_eq_true_eq] at h
 obtain ⟨⟨⟨⟨⟨⟨h1, h2⟩, h3⟩, h4⟩, h5⟩, h6⟩, h7⟩ := h
 exact ⟨h1, h2, h3, h4, h5, h6, h7⟩
def lpW {σ : Type} (f : Int → σ → Option σ) : Nat → Int → σ → Option σ
 | 0, _, s => some s
 | m + 1, n, s => match f n s with
  | none => none
  | some s' => lpW f m (n + 1) s'
def wkW {σ : Type} (T H : List (List Int)) (b : Int) (step : List Int → Int → σ → Option σ) : Nat → List Int → σ → Option σ
 | 0, x, s => if fitR x then step (rw_ (tms [x] T) 0) (vl H x x) s else none
 | j + 1, x, s => if ndOK H b x j then lpW (fun n s => wkW T H b step j (x.set j n) s) (ndHigh H b x j + 1 - ndLow H b x j).toNat (ndLow H b x j) s else none
theorem wkW_zero {σ : Type} {T H : List (List Int)} {b : Int} {step : List Int → Int → σ → Option σ} {x : List Int} {s s' : σ} (h : wkW T H b step 0 x s = some s') : fitR x = true ∧ step (rw_ (tms [x] T) 0) (vl H x x) s = some s' := by
 unfold wkW at h
 split at h
 ·exact ⟨by assumption, h⟩
 ·cases h
theorem wkW_succ {σ : Type} {T H : List (List Int)} {b : Int} {step : List Int → Int → σ → Option σ} {j : Nat} {x : List Int} {s s' : σ} (h : wkW T H b step (j + 1) x s = some s') : ndOK H b x j = true ∧ lpW (fun n s => wkW T H b step j (x.set j n) s) (ndHigh H b x j + 1 - ndLow H b x j).toNat (ndLow H b x j) s = some s' := by
 unfold wkW at h
 split at h
 ·exact ⟨by assumption, h⟩
 ·cases h
theorem lpW_succ {σ : Type} {f : Int → σ → Option σ} {m : Nat} {n : Int} {s s' : σ} (h : lpW f (m + 1) n s = some s') : ∃ s1, f n s = some s1 ∧ lpW f m (n + 1) s1 = some s' := by
 unfold lpW at h
 split at h
 ·cases h
 ·exact ⟨_, by assumption, h⟩
def IntB64 (w : World) (M : Nat → Prop) : Prop := ∀ b, M b → ∀ o u, w.cell? ⟨b, o, none⟩ = some u → ∃ x, u = .int .i64 x
theorem NIntV.clrM {w : World} {D M : Nat → Prop} {v : Value} {x : Int} (h : NIntV w D v x) (hM : IntB64 w M) : NIntV w (fun b => D b ∧ ¬ M b) v x := by
 obtain ⟨A, c, e, h1⟩ := h
 refine ⟨A, c, e, h1.len, h1.cap, h1.room, h1.small, fun hn => ?_⟩
 obtain ⟨b, off, e2, hd, hc⟩ := h1.cells hn
 refine ⟨b, off, e2, ⟨hd, fun hm => ?_⟩, hc⟩
 obtain ⟨y, hy⟩ := hM b hm _ _ (hc 0 hn)
 cases hy
theorem PvD.clrM {w : World} {D M : Nat → Prop} {v : Value} {l : List Int} (h : PvD w D v l) (hM : IntB64 w M) : PvD w (fun b => D b ∧ ¬ M b) v l := by
 obtain ⟨A, c, e, h1⟩ := h
 refine ⟨A, c, e, h1.len, h1.cap, h1.room, fun hn => ?_⟩
 obtain ⟨b, off, e2, hd, hc⟩ := h1.cells hn
 refine ⟨b, off, e2, ⟨hd, fun hm => ?_⟩, fun j hj => ?_⟩
 ·obtain ⟨neg, B, m, k, k1, _⟩ := hc 0 hn
  obtain ⟨y, hy⟩ := hM b hm _ _ k1
  cases hy
 ·obtain ⟨neg, B, m, k, k1, k2, k3⟩ := hc j hj
  exact ⟨neg, B, m, k, k1, k2, k3.clrM hM⟩
theorem RowsD.clrM {w : World} {D M : Nat → Prop} {v : Value} {L : List (List Int)} (h : RowsD PvD w D v L) (hM : IntB64 w M) : RowsD PvD w (fun b => D b ∧ ¬ M b) v L := by
 obtain ⟨A, c, vs, e, h1, h2, h3, h4, h5⟩ := h
 refine ⟨A, c, vs, e, h1, h2, h3, fun hn => ?_, fun i u x hu hx => (h5 i u x hu hx).clrM hM⟩
 obtain ⟨b, off, e2, hd, hc⟩ := h4 hn
 refine ⟨b, off, e2, ⟨hd, fun hm => ?_⟩, hc⟩
 obtain ⟨u, hu⟩ : ∃ u, vs[0]? = some u := ⟨_, List.getElem?_eq_getElem (by omega)⟩
 obtain ⟨x, hx⟩ : ∃ x, L[0]? = some x := ⟨_, List.getElem?_eq_getElem (by omega)⟩
 obtain ⟨A', c', rfl⟩ := (h5 0 u x hu hx).slice_
 obtain ⟨y, hy⟩ := hM b hm _ _ (hc 0 _ hu)
 cases hy
theorem StV.clrM {w : World} {D M : Nat → Prop} {v : Value} {S : List Stg} (h : StV w D v S) (hM : IntB64 w M) : StV w (fun b => D b ∧ ¬ M b) v S := by
 obtain ⟨A, c, e, h⟩ := h
 refine ⟨A, c, e, fun j s hs => ?_⟩
 obtain ⟨b, off, A1, q1, c1, neg, B, m, k, e1, hd, h1, h2, h3, h4, h5⟩ := h j s hs
 refine ⟨b, off, A1, q1, c1, neg, B, m, k, e1, ⟨hd, fun hm => ?_⟩, h1, h2, h3, RowsD.clrM h4 hM, h5.clrM hM⟩
 obtain ⟨y, hy⟩ := hM b hm _ _ h1
 cases hy
def i64B (w : World) (b : Nat) : Prop := (∃ o u, w.cell? ⟨b, o, none⟩ = some u) ∧ ∀ o u, w.cell? ⟨b, o, none⟩ = some u → ∃ x, u = .int .i64 x
theorem i64B.all (w : World) : IntB64 w (i64B w) := fun _ h => h.2
def FrZ (B : Nat) (O : Nat → Prop) (w w' : World) : Prop := Frm (fun b => (B ≤ b ∧ i64B w b) ∨ O b) w w'
section
variable {B : Nat} {O O' : Nat → Prop} {w w' w'' : World}
theorem FrZ.of (h : Frm O w w') : FrZ B O w w' := Frm.mono h fun _ _ h => .inr h
theorem FrZ.refl (B : Nat) (O : Nat → Prop) (w : World) : FrZ B O w w := FrZ.of (Frm.refl O w)
theorem FrZ.size (h : FrZ B O w w') : w.heap.size ≤ w'.heap.size := Frm.size h
theorem i64B.same {b : Nat} (h : w'.heap[b]? = w.heap[b]?) (h2 : i64B w' b) : i64B w b := by
 refine ⟨?_, fun o u hu => h2.2 o u ((World.cell?_of_block (w := w) h).trans hu)⟩
 obtain ⟨o, u, hu⟩ := h2.1
 exact ⟨o, u, (World.cell?_of_block (w := w) h).symm.trans hu⟩
theorem FrZ.trans (h : FrZ B O w w') (k : FrZ B O w' w'') : FrZ B O w w'' :=
 ⟨k.os.trans h.os, k.tape.trans h.tape, k.output.trans h.output, Nat.le_trans h.size k.size, fun b hb ho => by
  have h1 := h.block b hb ho
  exact (k.block b (Nat.lt_of_lt_of_le hb h.size) fun h2 => ho (h2.imp (fun h3 => ⟨h3.1, i64B.same h1 h3.2⟩) id)).trans h1⟩
theorem FrZ.of_below (h : Below w.heap.size w w') : FrZ B O w w' := FrZ.of (Frm.of_below h)
theorem FrZ.over (h : FrZ B O w w') (k : Below w'.heap.size w' w'') : FrZ B O w w'' := h.trans (FrZ.of_below k)
theorem FrZ.mono (h : FrZ B O w w') (hO : ∀ b, b < w.heap.size → O b → O' b) : FrZ B O' w w' := Frm.mono h fun b hb h2 => h2.imp id (hO b hb)
theorem FrZ.past (h : FrZ B O w w') (k : Frm O' w' w'') (hO : ∀ x, O' x → w.heap.size ≤ x) : FrZ B O w w'' :=
 ⟨k.os.trans h.os, k.tape.trans h.tape, k.output.trans h.output, Nat.le_trans h.size k.size, fun x hx ho => (k.block x (Nat.lt_of_lt_of_le hx h.size) fun h2 => by have := hO x h2; omega).trans (h.block x hx ho)⟩
theorem FrZ.cell {b o : Nat} {u : Value} (h : FrZ B O w w') (hc : w.cell? ⟨b, o, none⟩ = some u) (hu : ∀ x, u ≠ .int .i64 x) (ho : ¬ O b) : w'.cell? ⟨b, o, none⟩ = some u :=
 (Frm.cell h (cell_lt hc) fun h2 => h2.elim (fun h3 => by obtain ⟨x, hx⟩ := h3.2.2 o u hc; exact hu x hx) ho).trans hc
theorem FrZ.arr {P : Nat} {t : TypeId} {n : Bool} {s : Value} (h : FrZ B O w w') (ha : Arr w P t [.bool n, s]) (ho : ¬ O P) : Arr w' P t [.bool n, s] :=
 Frm.arr h ha fun h2 => h2.elim (fun h3 => by obtain ⟨x, hx⟩ := h3.2.2 0 _ (Arr.cell ha 0); cases hx) ho
theorem FrZ.nint {D : Nat → Prop} {v : Value} {x : Int} (h : FrZ B O w w') (hv : NIntV w D v x) (hd : ∀ b, D b → ¬ O b) : NIntV w' D v x :=
 (Frm.nint h (hv.clrM (i64B.all w)) fun b hb h2 => h2.elim (fun h3 => hb.2 h3.2) (hd b hb.1)).mono fun _ hb _ => hb.1
theorem FrZ.rows {D : Nat → Prop} {v : Value} {L : List (List Int)} (h : FrZ B O w w') (hv : RowsD PvD w D v L) (hd : ∀ b, D b → ¬ O b) : RowsD PvD w' D v L :=
 RowsD.mono (Frm.foot h (RowsD.clrM hv (i64B.all w)) fun b hb h2 => h2.elim (fun h3 => hb.2 h3.2) (hd b hb.1)) fun _ hb _ => hb.1
theorem Cs.clrM {D M : Nat → Prop} {xs : List Value} {l : List Int} (h : Cs w D xs l) (hM : IntB64 w M) : Cs w (fun b => D b ∧ ¬ M b) xs l := ⟨h.1, fun j hj => by
 obtain ⟨neg, B, m, k, h1, h2, h3⟩ := h.2 j hj
 exact ⟨neg, B, m, k, h1, h2, h3.clrM hM⟩⟩
theorem OwnR.no64 {base : Nat} {D : Nat → Prop} {v : Value} {l : List Int} {g : Nat} (h : OwnR w base D v l) (hl : 0 < l.length) (hg : v.ownBlock = some g) : ¬ i64B w g := fun h2 => by
 obtain ⟨g2, cap, e, _, _, _, _, _, hc⟩ := h.at hl
 rw [e] at hg
 have hg : some g2 = some g := hg
 injection hg with hg
 subst hg
 obtain ⟨neg, B, m, k, k1, _⟩ := hc 0 hl
 obtain ⟨x, hx⟩ := h2.2 _ _ k1
 cases hx
theorem OwnR.frz {base : Nat} {D : Nat → Prop} {v : Value} {l : List Int} (h : OwnR w base D v l) (hl : 0 < l.length) (hf : FrZ B O w w') (hd : ∀ b, D b → ¬ O b) (hv : ∀ b, v.ownBlock = some b → ¬ O b) : OwnR w' base D v l := by
 have h64 : ∀ b, v.ownBlock = some b → ¬ i64B w b := fun b hb => h.no64 hl hb
 obtain ⟨xs, h1, h2⟩ := h
 have h3 : OwnR w base (fun b => D b ∧ ¬ i64B w b) v l := ⟨xs, h1, h2.clrM (i64B.all w)⟩
 exact (OwnR.frm h3 hf (fun b hb h4 => h4.elim (fun h3 => hb.2 h3.2) (hd b hb.1)) fun b hb h4 => h4.elim (fun h3 => h64 b hb h3.2) (hv b hb)).mono fun b hb _ => hb.1
end
structure Yielder {σ : Type} (k l n0 : Nat) (M : Nat → Prop) (Inv : σ → World → Prop) (step : List Int → Int → σ → Option σ) : Prop where
 stable : ∀ s w w', Inv s w → Frm (fun b => n0 ≤ b ∧ ¬ i64B w b) w w' → Inv s w'
 lt : ∀ b, M b → b < n0
 call : ∀ s s' w (D D' : Nat → Prop) v u x y, Inv s w → PvD w D v x → NIntV w D' u y → step x y s = some s' →
  YieldAt Fence.wide k Tryz.prog l #[v, u] w fun e w' => e = .returned (.bool true) ∧ Inv s' w' ∧ FrZ n0 M w w'
section
variable {w w' : World} {D D' : Nat → Prop} {v : Value} {S : List Stg}
theorem StV.keep (h : StV w D v S) (hk : ∀ b, D b → b < w.heap.size → w'.heap[b]? = w.heap[b]?) : StV w' D v S := by
 obtain ⟨A, c, e, h⟩ := h
 refine ⟨A, c, e, fun j s hs => ?_⟩
 obtain ⟨b, off, A1, q1, c1, neg, B, m, k, e1, hd, h1, h2, h3, h4, h5⟩ := h j s hs
 have hb := hk b hd (cell_lt h1)
 exact ⟨b, off, A1, q1, c1, neg, B, m, k, e1, hd, (World.cell?_of_block (w := w) hb).trans h1, (World.cell?_of_block (w := w) hb).trans h2, (World.cell?_of_block (w := w) hb).trans h3, RowsD.keep h4 hk, h5.keep fun b o hb hl => World.cell?_of_block (hk b hb hl)⟩
theorem StV.mono (h : StV w D v S) (hd : ∀ b, D b → b < w.heap.size → D' b) : StV w D' v S := by
 obtain ⟨A, c, e, h⟩ := h
 refine ⟨A, c, e, fun j s hs => ?_⟩
 obtain ⟨b, off, A1, q1, c1, neg, B, m, k, e1, hdb, h1, h2, h3, h4, h5⟩ := h j s hs
 exact ⟨b, off, A1, q1, c1, neg, B, m, k, e1, hd b hdb (cell_lt h1), h1, h2, h3, RowsD.mono h4 hd, h5.mono hd⟩
end
theorem StV.frz {B0 : Nat} {O D : Nat → Prop} {w w' : World} {v : Value} {S : List Stg} (h : FrZ B0 O w w') (hv : StV w D v S) (hd : ∀ b, D b → ¬ O b) : StV w' D v S :=
 ((hv.clrM (i64B.all w)).keep fun b hb hl => Frm.block h b hl fun h2 => h2.elim (fun h3 => hb.2 h3.2) (hd b hb.1)).mono fun _ hb _ => hb.1
theorem PvD.drop {w : World} {D : Nat → Prop} {b off n c : Nat} {x : List Int} (h : PvD w D (.slice (some ⟨b, off, none⟩) n c) x) {k : Nat} (hk : k < n) : PvD w D (.slice (some ⟨b, off + k * 2, none⟩) (n - k) (c - k)) (x.drop k) := by
 have hlen := h.len
 obtain ⟨A, c', e, h1⟩ := h
 injection e with e1 e2 e3
 subst e1 e3
 subst hlen
 refine ⟨some ⟨b, off + k * 2, none⟩, c - k, by rw [List.length_drop], ⟨rfl, by have := h1.cap; rw [List.length_drop]; omega, by have := h1.room; omega, fun hn => ?_⟩⟩
 obtain ⟨b', off', e4, hd, hc⟩ := h1.cells (by omega)
 injection e4 with e4
 injection e4 with e4 e5 e6
 subst e4 e5
 refine ⟨b, off + k * 2, rfl, hd, fun j hj => ?_⟩
 rw [List.length_drop] at hj
 obtain ⟨neg, B, m, kk, k1, k2, k3⟩ := hc (k + j) (by omega)
 refine ⟨neg, B, m, kk, ?_, ?_, ?_⟩
 ·rw [show off + k * 2 + j * 2 = off + (k + j) * 2 by omega]; exact k1
 ·rw [show off + k * 2 + j * 2 + 1 = off + (k + j) * 2 + 1 by omega]; exact k2
 ·have : gz (x.drop k) j = gz x (k + j) := by simp [gz, List.getD, List.getElem?_drop]
  first
   | exact this ▸ k3
   | (obtain ⟨A9, c9, e9, k4⟩ := k3; exact ⟨A9, c9, e9, this ▸ k4⟩)
structure WkP where
 l : Nat
 n : Nat
 GX : Nat
 y : Nat
 x : Nat
 t : Nat
 h : Nat
 a : Nat
 k : Nat
 AT : Option Addr
 cT : Nat
 AH : Option Addr
 cH : Nat
 AA : Option Addr
 cA : Nat
 T : List (List Int)
 H : List (List Int)
 b : Int
 M : Nat → Prop
 B : Nat
def WkP.Z (p : WkP) (b : Nat) : Prop := p.M b ∨ b = p.GX
def WkP.N (p : WkP) (b : Nat) : Prop := ¬ p.Z b
structure WkI (p : WkP) (w : World) : Prop where
 cy : w.cell? ⟨p.y, 0, none⟩ = some (.func (.yield p.l) #[] #[])
 cx : w.cell? ⟨p.x, 0, none⟩ = some (.slice (some ⟨p.GX, 0, none⟩) p.n p.n)
 ct : w.cell? ⟨p.t, 0, none⟩ = some (.slice p.AT p.n p.cT)
 ch : w.cell? ⟨p.h, 0, none⟩ = some (.slice p.AH p.n p.cH)
 ca : w.cell? ⟨p.a, 0, none⟩ = some (.slice p.AA p.n p.cA)
 ck : w.cell? ⟨p.k, 0, none⟩ = some (.func (.func 189) #[] #[.pointer (some ⟨p.y, 0, none⟩), .pointer (some ⟨p.x, 0, none⟩), .pointer (some ⟨p.t, 0, none⟩), .pointer (some ⟨p.h, 0, none⟩), .pointer (some ⟨p.a, 0, none⟩), .pointer (some ⟨p.k, 0, none⟩)])
 zy : p.N p.y
 zx : p.N p.x
 zt : p.N p.t
 zh : p.N p.h
 za : p.N p.a
 zk : p.N p.k
 T : RowsD PvD w p.N (.slice p.AT p.n p.cT) p.T
 H : RowsD PvD w p.N (.slice p.AH p.n p.cH) p.H
 A : StV w p.N (.slice p.AA p.n p.cA) (stL p.H p.b p.n)
theorem WkI.keep {p : WkP} {w w' : World} (h : WkI p w) (hf : FrZ p.B p.Z w w') : WkI p w' where
 cy := hf.cell h.cy (fun _ e => by cases e) h.zy
 cx := hf.cell h.cx (fun _ e => by cases e) h.zx
 ct := hf.cell h.ct (fun _ e => by cases e) h.zt
 ch := hf.cell h.ch (fun _ e => by cases e) h.zh
 ca := hf.cell h.ca (fun _ e => by cases e) h.za
 ck := hf.cell h.ck (fun _ e => by cases e) h.zk
 zy := h.zy
 zx := h.zx
 zt := h.zt
 zh := h.zh
 za := h.za
 zk := h.zk
 T := hf.rows h.T fun _ h => h
 H := hf.rows h.H fun _ h => h
 A := StV.frz hf h.A fun _ h => h
structure WkA {σ : Type} (p : WkP) (Inv : σ → World → Prop) (s : σ) (xs : List Int) (w : World) : Prop where
 I : WkI p w
 X : OwnR w 0 p.N (.slice (some ⟨p.GX, 0, none⟩) p.n p.n) xs
 V : Inv s w
 G : ¬ p.M p.GX
 GB : p.B ≤ p.GX
 SB : p.B ≤ w.heap.size
theorem WkP.below {p : WkP} {σ : Type} {k : Nat} {Inv : σ → World → Prop} {step : List Int → Int → σ → Option σ} (Y : Yielder k p.l p.B p.M Inv step) {s : σ} {xs : List Int} {w w' : World} (h : WkA p Inv s xs w) (hb : Below w.heap.size w w') : WkA p Inv s xs w' :=
 ⟨h.I.keep (FrZ.of_below hb), h.X.below hb, Y.stable _ _ _ h.V (Frm.of_below hb), h.G, h.GB, Nat.le_trans h.SB hb.size⟩
theorem WkP.lt {p : WkP} {σ : Type} {k : Nat} {Inv : σ → World → Prop} {step : List Int → Int → σ → Option σ} (Y : Yielder k p.l p.B p.M Inv step) {s : σ} {xs : List Int} {w : World} (h : WkA p Inv s xs w) (b : Nat) (hb : w.heap.size ≤ b) : p.N b := by
 rintro (h1 | h1)
 ·have := Y.lt _ h1
  have := h.SB
  omega
 ·have := (h.X.lt (g := p.GX) rfl).2
  omega
end Go.Proofs.YtdjpeimecfhdjaaGreat

namespace Go.Proofs.YtdjpeimecfhdjaaGreat
open Go.RowKit
theorem RowsD.one {w : World} {D : Nat → Prop} {g : Nat} {A : Option Addr} {n c : Nat} {l : List Int} (h : Arr w g 175 [.slice A n c]) (hg : D g) (hl : PvD w D (.slice A n c) l) : RowsD PvD w D (.slice (some ⟨g, 0, none⟩) 1 1) [l] := by
 refine ⟨some ⟨g, 0, none⟩, 1, [.slice A n c], rfl, Nat.le_refl _, by unfold maxLen; omega, rfl, fun _ => ⟨g, 0, rfl, hg, fun j u hu => ?_⟩, fun i u x hu hx => ?_⟩
 ·rw [Nat.zero_add]
  have := h.cell j
  rw [hu] at this
  exact this
 ·cases i with
  | zero =>
   simp at hu hx
   subst hu hx
   exact hl
  | succ i => simp at hu
def WkPost {σ : Type} (p : WkP) (Inv : σ → World → Prop) (s : σ) (xs : List Int) (w : World) (e : Ending) (w' : World) : Prop := e = .returned (.bool true) ∧ WkA p Inv s xs w' ∧ FrZ p.B p.Z w w'
structure WkS (p : WkP) : Prop where
 n0 : 0 < p.n
 n1 : p.n ≤ 1000
 T : ∀ l ∈ p.T, l.length = p.n
 H : ∀ l ∈ p.H, l.length = p.n
 fT : fitM p.T = true
 fH : fitM p.H = true
 fit : ∀ j, j < p.n → fitM (gS p.H j) = true ∧ fit (bS p.H p.b j) = true
theorem WkA.round {σ : Type} {p : WkP} {k : Nat} {Inv : σ → World → Prop} {step : List Int → Int → σ → Option σ} (Y : Yielder k p.l p.B p.M Inv step) {s s' : σ} {xs : List Int} {w v w' : World} (hA : WkA p Inv s xs w) (hb : Below w.heap.size w v) (hn : 0 < p.n) (hI : Inv s' w') (hF : FrZ p.B p.M v w') : WkA p Inv s' xs w' ∧ FrZ p.B p.Z w w' := by
 have h1 := WkP.below Y hA hb
 have h2 : FrZ p.B p.Z v w' := hF.mono fun b _ hm => .inl hm
 have hl : 0 < xs.length := by
  obtain ⟨A, c, e, _⟩ := hA.X.slice
  injection e with _ e
  omega
 refine ⟨⟨h1.I.keep h2, h1.X.frz hl hF (fun b hn hm => hn (.inl hm)) (fun b hv => ?_), hI, hA.G, hA.GB, Nat.le_trans h1.SB hF.size⟩, (FrZ.of_below hb).trans h2⟩
 have e : some p.GX = some b := hv
 injection e with e
 rw [← e]
 exact hA.G
set_option maxRecDepth 100000 in
set_option maxHeartbeats 4000000 in
theorem leaf_any {σ : Type} {p : WkP} {k : Nat} {Inv : σ → World → Prop} {step : List Int → Int → σ → Option σ} (Y : Yielder k p.l p.B p.M Inv step) (hS : WkS p) {s s' : σ} {xs : List Int} {w : World} (hA : WkA p Inv s xs w) (hx : xs.length = p.n) (hfx : fitR xs = true) (hst : step (rw_ (tms [xs] p.T) 0) (vl p.H xs xs) s = some s') :
  Calls Tryz.prog 189 #[.int .i64 (-1), .pointer (some ⟨p.y, 0, none⟩), .pointer (some ⟨p.x, 0, none⟩), .pointer (some ⟨p.t, 0, none⟩), .pointer (some ⟨p.h, 0, none⟩), .pointer (some ⟨p.a, 0, none⟩), .pointer (some ⟨p.k, 0, none⟩)] w (WkPost p Inv s' xs w) := by
 have cy := hA.I.cy
 have cx := hA.I.cx
 have ct := hA.I.ct
 have ch := hA.I.ch
 have HA := Lib.hid hA
 have HX : Hid (PvD w (fun _ => True) (.slice (some ⟨p.GX, 0, none⟩) p.n p.n) xs) := Lib.hid (hA.X.pvd fun _ _ => trivial)
 have HT : Hid (RM w (.slice p.AT p.n p.cT) p.T) := Lib.hid (RowsD.t hA.I.T)
 have HH : Hid (RM w (.slice p.AH p.n p.cH) p.H) := Lib.hid (RowsD.t hA.I.H)
 have HS := Lib.hid hS
 have HF := Lib.hid hfx
 have HXL := Lib.hid hx
 have HST := Lib.hid hst
 have HY := Lib.hid Y
 clear hA hS hfx hst Y hx
 go_enter Tryz.func189, Tryz.ntmps189
 go_upto_region 2 with (fail)
 have hs : Below w.heap.size w w.drew := (Below.refl _ _).drew
 refine wp_region_yld (k + 1) (.read 0 (.read 1 (.read 3 (.read 7 (.read 8 (.read 9 (.step 2 (.step 4 (.read 5 (.read 6 (.step 10 (.yld 11 (.step 12 .nil))))))))))))) [11, 12] (by kernel_rfl) (by rfl) (by kernel_rfl) (by kernel_rfl) (fun V => Below w.heap.size w V) ?_
 change goY _ _ _ _ _ _ _ _ w.drew
 refine goY_read 21 hs (by rfl) (by rfl) ?_ (by rfl) (fun wz hSw => ?_) ?_
 rotate_left
 ·have e0 := keepB hSw cy; go_simp
  try with_reducible rfl
 simp only [sIB, List.set]
 refine goY_read 22 hs (by rfl) (by rfl) ?_ (by rfl) (fun wz hSw => ?_) ?_
 rotate_left
 ·have e0 := keepB hSw cx; go_simp
  try with_reducible rfl
 simp only [sIB, List.set]
 refine goY_read 24 hs (by rfl) (by rfl) ?_ (by rfl) (fun wz hSw => ?_) ?_
 rotate_left
 ·have e0 := keepB hSw ct; go_simp
  try with_reducible rfl
 simp only [sIB, List.set]
 refine goY_read 28 hs (by rfl) (by rfl) ?_ (by rfl) (fun wz hSw => ?_) ?_
 rotate_left
 ·have e0 := keepB hSw ch; go_simp
  try with_reducible rfl
 simp only [sIB, List.set]
 refine goY_read 29 hs (by rfl) (by rfl) ?_ (by rfl) (fun wz hSw => ?_) ?_
 rotate_left
 ·have e0 := keepB hSw cx; go_simp
  try with_reducible rfl
 simp only [sIB, List.set]
 refine goY_read 30 hs (by rfl) (by rfl) ?_ (by rfl) (fun wz hSw => ?_) ?_
 rotate_left
 ·have e0 := keepB hSw cx; go_simp
  try with_reducible rfl
 simp only [sIB, List.set]
 refine goY_step (by rfl) ?_
 go_wp2_with fail
 obtain ⟨v1, hv1⟩ : ∃ V, V = (w.alloc (.cells #[.slice (some ⟨p.GX, 0, none⟩) p.n p.n] 175)).drew := ⟨_, rfl⟩
 rw [← hv1]
 have hs1 : Below w.heap.size w v1 := by rw [hv1]; exact ((Below.refl _ _).alloc (Nat.le_refl _) _).drew
 have ha1 : Arr v1 w.heap.size 175 [.slice (some ⟨p.GX, 0, none⟩) p.n p.n] := by rw [hv1]; exact Arr.new w _ [.slice (some ⟨p.GX, 0, none⟩) p.n p.n]
 have hx1 : RM v1 (.slice (some ⟨w.heap.size, 0, none⟩) 1 1) [xs] := RowsD.one ha1 trivial (HX.out.below hs1)
 clear hv1 ha1
 refine ⟨fun _ => hs1, fun V => Below w.heap.size w V, fun _ h => h, ?_⟩
 refine goY_call 25 (by rfl) (by rfl) (by rfl) (by go_simp) (Times_any (L := [xs]) (N := p.T) hx1 (RowsD.below HT.out hs1) (by omega) (by have := HS.out.n1; omega) HS.out.n0 (by have := HS.out.n1; omega) HS.out.n0 (fun l hl => by rw [List.mem_singleton] at hl; rw [hl]; exact HXL.out) HS.out.T (by show ([xs].all fitR) = true; rw [List.all_cons, List.all_nil, Bool.and_true]; exact HF.out) HS.out.fT) ?_
 rintro e v2 ⟨vt, rfl, hxt, hb2⟩
 have hs2 : Below w.heap.size w v2 := hs1.trans (hb2.mono hs1.size)
 have htl : (tms [xs] p.T).length = 1 := by simp [tms]
 obtain ⟨At, c2, rfl⟩ := RowsD.slice_ hxt htl
 obtain ⟨b3, off3, u3, e3, hc3, hu3⟩ := RowsD.at hxt (rw_some (L := tms [xs] p.T) (i := 0) (by omega))
 obtain ⟨A3, c3, rfl⟩ := hu3.slice_
 subst e3
 refine ⟨_, rfl, fun _ => hs2, fun V => Below v2.heap.size v2 V, fun V h => hs2.trans (h.mono hs2.size), ?_⟩
 simp only [sIB, List.set]
 have hr2 : Below v2.heap.size v2 v2 := Below.refl _ _
 rw [Nat.add_zero] at hc3
 refine goY_read 26 hr2 (by rfl) (by rfl) ?_ (by rfl) (fun wz hSw => ?_) ?_
 rotate_left
 ·go_simp
  try with_reducible rfl
 simp only [sIB, List.set]
 refine goY_read 27 hr2 (by rfl) (by rfl) ?_ (by rfl) (fun wz hSw => ?_) ?_
 rotate_left
 ·have e0 := keepB hSw hc3; go_simp
  try with_reducible rfl
 simp only [sIB, List.set]
 refine goY_call 31 (by rfl) (by rfl) (by rfl) (by go_simp) (value_any (D1 := fun _ => True) (D2 := fun _ => True) (RowsD.below HH.out hs2) (HX.out.below hs2) (HX.out.below hs2) (Nat.le_refl _) (fun i hi => by rw [HS.out.H _ (rw_mem (by rw [← (RowsD.room HH.out).1]; exact hi))]; exact Nat.le_refl _) (by have := HS.out.n1; omega) (by have := HS.out.n1; omega) (by have := HS.out.n1; omega) HS.out.fH HF.out HF.out) ?_
 rintro e v3 ⟨vv, rfl, hxv, hb3⟩
 have hs3 : Below w.heap.size w v3 := hs2.trans (hb3.mono hs2.size)
 refine ⟨_, rfl, fun _ => hb3, fun V => Below v2.heap.size v2 V, fun V h => h, ?_⟩
 simp only [sIB, List.set]
 refine goY_yld 32 (by rfl) (by rfl) (by rfl) (fun fn tmps assign body h => by go_simp) (HY.out.call _ _ _ _ _ _ _ _ _ (WkP.below HY.out HA.out hs3).V (hu3.below hb3) hxv HST.out) ?_
 rintro e v4 ⟨rfl, hI4, hF4⟩
 obtain ⟨hA4, hF5⟩ := WkA.round HY.out HA.out hs3 HS.out.n0 hI4 hF4
 refine ⟨_, rfl, ?_⟩
 simp only [sIB, List.set]
 refine goY_step (by rfl) ?_
 go_wp2_with fail
 refine ⟨fun h => absurd h (by decide), fun V => Below v2.heap.size v2 V, fun _ h => h, goY_nil ?_⟩
 go_wp2_with fail
 go_ret
 exact ⟨rfl, hA4, hF5⟩
end Go.Proofs.YtdjpeimecfhdjaaGreat
