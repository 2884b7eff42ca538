/- Regions that draw their order, gone through by a tree; some operations (the stores at the end) need not keep what was read. Package wide: a multiple of a row is added to another one in place; a row's signs are changed in place. Package wide: a copy of a matrix with rows of its own. Regions that draw their order, gone through by a tree; what is read is read ahead of an exempt operation if that waits for it, at once or through others. Regions that draw their order: operations that are not wanted, calls with their contracts, no way out by a panic; a part of a function's code, picked out by its number. -/
import Derived.Test.YtdjpeimecfhdjaaGreatXa
import Derived.Deep.RegionHeld
import Derived.Test.YtdjpeimecfhdjaaGreatXe
namespace Go.Proofs.YtdjpeimecfhdjaaGreat
open Go.RowKit
section
variable {P : Program} {ops : Array Oper} {Q : Exit → Act → World → Prop} {md : Region.Mode}
theorem upon_then (o : Oper) (a : Act) (next R : Act → World → Prop) (r : Result Next) (h : o.upon P a next (Exit.then R Q) r) : o.upon P a next Q r := by
 unfold Oper.upon at h ⊢
 split at h <;> first | exact h | skip
 all_goals
  refine Calls.mono h ?_
  intro e w'' hh
  cases e <;> exact hh
theorem wpOp_of_list {o : Oper} {k : Nat} {a : Act} {w : World} {R : Act → World → Prop} {rest : List Oper} (ho : ops[k]? = some o) (h : wpList P ops (Exit.then R Q) (o :: rest) a w) : wpOp P ops Q k (wpList P ops (Exit.then R Q) rest) a w := by
 unfold wpOp
 simp only [ho]
 unfold wpList at h
 split
 ·rename_i hw
  rw [if_pos hw] at h
  rcases h with h | ⟨h1, h2⟩
  ·exact .inl (upon_then o a _ R _ h)
  ·exact .inr ⟨h1, h2⟩
 ·rename_i hw
  rw [if_neg hw] at h
  exact h
end
theorem put_some {a : Act} {o : Oper} {d : Nat} {v : Value} (hd : o.dst = some d) : a.put o.dst v = { a with tmps := a.tmps.setIfInBounds d v } := by rw [hd]; rfl
inductive Trg where
 | nil
 | pure (i : Nat) (r : Trg)
 | read (i : Nat) (r : Trg)
 | step (i : Nat) (r : Trg)
 | two (i j : Nat) (r s : Trg)
def Trg.deep : Trg → Nat
 | .nil => 0
 | .pure _ r => r.deep + 1
 | .read _ r => r.deep + 1
 | .step _ r => r.deep + 1
 | .two _ _ r _ => r.deep + 1
section
variable {P : Program} {ops : Array Oper} {Q : Exit → Act → World → Prop} {md : Region.Mode} {S : World → Prop} {Z : List Nat}
def wpAnyG (P : Program) (md : Region.Mode) (ops : Array Oper) (Q : Exit → Act → World → Prop) (S : World → Prop) (Z : List Nat) : Nat → Array Bool → Act → World → Prop
 | 0, listed, a, w => Region.ready md ops listed = [] ∧ Q .normal a w
 | fuel + 1, listed, a, w =>
  (Region.ready md ops listed = [] → Q .normal a w) ∧
  ∀ i ∈ Region.ready md ops listed, wpOp P ops Q i (fun a' w' => (Z.contains i = false → S w') ∧ wpAnyG P md ops Q S Z fuel (listed.setIfInBounds i true) a' w') a w
theorem wpAny_of_G : ∀ (fuel : Nat) (listed : Array Bool) (a : Act) (w : World), wpAnyG P md ops Q S Z fuel listed a w → wpAny P md ops Q fuel listed a w
 | 0, _, _, _, h => h
 | fuel + 1, _, _, _, h => ⟨h.1, fun i hi => wpOp_mono (fun a' w' h' => wpAny_of_G fuel _ a' w' h'.2) (h.2 i hi)⟩
def waitB (md : Region.Mode) (ops : Array Oper) (Z : List Nat) (listed : Array Bool) (i : Nat) : Bool :=
 Z.all fun z => listed.getD z true || (match ops[z]? with | none => true | some o => o.after.any fun e => Region.binds md e && e.on == i)
theorem waitB_spec {listed : Array Bool} {i j : Nat} (h : waitB md ops Z listed i = true) (hun : listed.getD i true = false) (hj : j ∈ Region.ready md ops listed) : Z.contains j = false := by
 cases hz : Z.contains j
 ·rfl
 ·obtain ⟨hju, o, ho, hall⟩ := mem_ready.1 hj
  have h1 := List.all_eq_true.1 h j (by simpa using hz)
  rw [hju, ho] at h1
  simp only [Bool.false_or] at h1
  obtain ⟨e, he, h2⟩ := Array.any_eq_true'.1 h1
  simp only [Bool.and_eq_true, beq_iff_eq] at h2
  have h3 := hall e he h2.1
  rw [h2.2] at h3
  rcases Nat.lt_or_ge i listed.size with h' | h'
  ·simp [h'] at hun h3; rw [hun] at h3; cases h3
  ·simp [Array.getElem?_eq_none h'] at h3
theorem waitB_mono {listed : Array Bool} {i j : Nat} (h : waitB md ops Z listed i = true) : waitB md ops Z (listed.setIfInBounds j true) i = true := by
 refine List.all_eq_true.2 fun z hz => ?_
 have h1 := List.all_eq_true.1 h z hz
 rw [Bool.or_eq_true] at h1 ⊢
 rcases h1 with h1 | h1
 ·left
  by_cases hjz : j = z
  ·subst hjz
   rcases Nat.lt_or_ge j listed.size with h' | h'
   ·simp [h']
   ·simp
  ·rw [getD_set_ne true hjz]; exact h1
 ·exact .inr h1
theorem wpAnyG_first {T : World → Prop} {i : Nat} {oi : Oper} {v : Value} (hi : ops[i]? = some oi) (hsel : ∀ (j : Nat) (o : Oper) cs b, ops[j]? = some o → o.op ≠ .select cs b)
  (hQ : ∀ c a w, Q (.panic c) (a.put oi.dst v) w → Q (.panic c) a w) (W : Array Bool → Prop)
  (hW : ∀ listed j, W listed → W (listed.setIfInBounds j true)) (hT : ∀ (listed : Array Bool) (j : Nat) (w' : World), W listed → i ∈ Region.ready md ops listed → j ∈ Region.ready md ops listed → (Z.contains j = false → S w') → T w') (hown : ∀ w', T w' → Z.contains i = false → S w') :
  ∀ (fuel : Nat) (listed : Array Bool) (a : Act) (w : World), W listed →
   (∀ j oj, ops[j]? = some oj → j ≠ i → listed.getD j true = false → (∀ e ∈ oj.after, Region.binds md e = true → e.on ≠ i) → oi.apart ops oj = true) →
   i ∈ Region.ready md ops listed → YieldsIf P ops T oi v a → T w →
   wpAnyG P md ops Q S Z fuel (listed.setIfInBounds i true) (a.put oi.dst v) w → wpAnyG P md ops Q S Z (fuel + 1) listed a w := by
 intro fuel
 induction fuel with
 | zero =>
  intro listed a w _ _ hr hy hS H
  refine ⟨fun h => (by rw [h] at hr; cases hr), fun j hj => ?_⟩
  by_cases hji : j = i
  ·subst hji; exact hy.wpOp hi hS ⟨hown w hS, H⟩
  ·have := ready_mono hj hji
   rw [H.1] at this
   cases this
 | succ fuel ih =>
  intro listed a w hWl hfree hr hy hS H
  refine ⟨fun h => (by rw [h] at hr; cases hr), fun j hj => ?_⟩
  by_cases hji : j = i
  ·subst hji; exact hy.wpOp hi hS ⟨hown w hS, H⟩
  ·have h1 := H.2 j (ready_mono hj hji)
   obtain ⟨hjun, oj, hoj, hall⟩ := mem_ready.1 hj
   have hnot : ∀ e ∈ oj.after, Region.binds md e = true → e.on ≠ i := fun e he hb heq => by
    have h1 := hall e he hb
    have h0 := (mem_ready.1 hr).1
    rw [heq] at h1
    rcases Nat.lt_or_ge i listed.size with h' | h'
    ·simp [h'] at h0 h1; rw [h0] at h1; cases h1
    ·simp [Array.getElem?_eq_none h'] at h1
   have h2 := wpOp_putIf hoj (hfree j oj hoj hji hjun hnot) (fun cs b => hsel i oi cs b hi) (fun cs b => hsel j oj cs b hoj) hQ hy h1
   have hfree' : ∀ k ok, ops[k]? = some ok → k ≠ i → (listed.setIfInBounds j true).getD k true = false →
     (∀ e ∈ ok.after, Region.binds md e = true → e.on ≠ i) → oi.apart ops ok = true := fun k ok hk hki hun hno => by
    refine hfree k ok hk hki ?_ hno
    by_cases hjk : j = k
    ·subst hjk; exact hjun
    ·rw [getD_set_ne true hjk] at hun; exact hun
   refine wpOp_mono (fun a' w' h3 => ⟨h3.2.1, ih (listed.setIfInBounds j true) a' w' (hW _ _ hWl) hfree' (ready_mono hr (Ne.symm hji)) h3.1 (hT listed j w' hWl hr hj h3.2.1) ?_⟩) h2
   rw [Array.setIfInBounds_comm _ _ hji]
   exact h3.2.2
def goG (P : Program) (ops : Array Oper) (Q : Exit → Act → World → Prop) (S : World → Prop) (Z : List Nat) : Trg → Act → World → Prop
 | .nil, a, w => Q .normal a w
 | .pure i r, a, w => ∃ o v, ops[i]? = some o ∧ YieldsIf P ops (fun _ => True) o v a ∧ goG P ops Q S Z r (a.put o.dst v) w
 | .read i r, a, w => S w ∧ ∃ o v, ops[i]? = some o ∧ YieldsIf P ops S o v a ∧ goG P ops Q S Z r (a.put o.dst v) w
 | .step i r, a, w => ∃ o, ops[i]? = some o ∧ wpList P ops (Exit.then (fun a' w' => (Z.contains i = false → S w') ∧ goG P ops Q S Z r a' w') Q) [o] a w
 | .two i j r s, a, w => ∃ o p, ops[i]? = some o ∧ ops[j]? = some p ∧ wpList P ops (Exit.then (fun a' w' => (Z.contains i = false → S w') ∧ goG P ops Q S Z r a' w') Q) [o] a w ∧ wpList P ops (Exit.then (fun a' w' => (Z.contains j = false → S w') ∧ goG P ops Q S Z s a' w') Q) [p] a w
def planG (md : Region.Mode) (ops : Array Oper) (Z : List Nat) : Trg → Array Bool → Bool
 | .nil, listed => (Region.ready md ops listed).isEmpty
 | .pure i r, listed => (Region.ready md ops listed).contains i && Region.free md ops listed i && Z.contains i && planG md ops Z r (listed.setIfInBounds i true)
 | .read i r, listed => (Region.ready md ops listed).contains i && Region.free md ops listed i && waitB md ops Z listed i && planG md ops Z r (listed.setIfInBounds i true)
 | .step i r, listed => decide (Region.ready md ops listed = [i]) && planG md ops Z r (listed.setIfInBounds i true)
 | .two i j r s, listed => decide (Region.ready md ops listed = [i, j]) && decide (r.deep = s.deep) && planG md ops Z r (listed.setIfInBounds i true) && planG md ops Z s (listed.setIfInBounds j true)
theorem wpAnyG_tre (hs : Region.noSelect ops = true) (hQ : ∀ c a t v w, Q (.panic c) (Act.put a (some t) v) w → Q (.panic c) a w) : ∀ (t : Trg) (listed : Array Bool) (a : Act) (w : World), planG md ops Z t listed = true → goG P ops Q S Z t a w → wpAnyG P md ops Q S Z t.deep listed a w
 | .nil, listed, a, w, hB, h => ⟨by simpa [planG] using hB, h⟩
 | .pure i r, listed, a, w, hB, h => by
  simp only [planG, Bool.and_eq_true] at hB
  obtain ⟨⟨⟨h1, h2⟩, h3⟩, h4⟩ := hB
  obtain ⟨o, v, ho, hy, hr⟩ := h
  exact wpAnyG_first (T := fun _ => True) ho (Region.noSelect_spec hs) (fun c a w hh => by cases hd : o.dst with | none => (rw [hd] at hh; exact hh) | some t => (rw [hd] at hh; exact hQ c a t v w hh)) (fun _ => True) (fun _ _ _ => trivial) (fun _ _ _ _ _ _ _ => trivial) (fun _ _ hz => by rw [hz] at h3; cases h3) _ listed a w trivial (Region.free_spec ho h2) (by simpa using h1) hy trivial (wpAnyG_tre hs hQ r _ _ _ h4 hr)
 | .read i r, listed, a, w, hB, h => by
  simp only [planG, Bool.and_eq_true] at hB
  obtain ⟨⟨⟨h1, h2⟩, h3⟩, h4⟩ := hB
  obtain ⟨hS, o, v, ho, hy, hr⟩ := h
  exact wpAnyG_first (T := S) ho (Region.noSelect_spec hs) (fun c a w hh => by cases hd : o.dst with | none => (rw [hd] at hh; exact hh) | some t => (rw [hd] at hh; exact hQ c a t v w hh)) (fun listed => waitB md ops Z listed i = true) (fun _ _ h => waitB_mono h) (fun listed j w' hw hi hj hh => hh (waitB_spec hw (mem_ready.1 hi).1 hj)) (fun _ hw _ => hw) _ listed a w h3 (Region.free_spec ho h2) (by simpa using h1) hy hS (wpAnyG_tre hs hQ r _ _ _ h4 hr)
 | .step i r, listed, a, w, hB, h => by
  simp only [planG, Bool.and_eq_true, decide_eq_true_eq] at hB
  obtain ⟨h1, h4⟩ := hB
  obtain ⟨o, ho, hw⟩ := h
  refine ⟨fun h0 => (by rw [h1] at h0; cases h0), fun j hj => ?_⟩
  rw [h1] at hj
  have hji : j = i := by simpa using hj
  subst hji
  refine wpOp_mono (fun a' w' h' => ?_) (wpOp_of_list ho hw)
  have h'' : (Z.contains j = false → S w') ∧ goG P ops Q S Z r a' w' := h'
  exact ⟨h''.1, wpAnyG_tre hs hQ r _ _ _ h4 h''.2⟩
 | .two i j r s, listed, a, w, hB, h => by
  simp only [planG, Bool.and_eq_true, decide_eq_true_eq] at hB
  obtain ⟨⟨⟨h1, h5⟩, h4⟩, h6⟩ := hB
  obtain ⟨o, p, ho, hp, hw, hw2⟩ := h
  refine ⟨fun h0 => (by rw [h1] at h0; cases h0), fun k hk => ?_⟩
  rw [h1] at hk
  rcases List.mem_cons.1 hk with rfl | hk
  ·refine wpOp_mono (fun a' w' h' => ?_) (wpOp_of_list ho hw)
   have h'' : (Z.contains k = false → S w') ∧ goG P ops Q S Z r a' w' := h'
   exact ⟨h''.1, wpAnyG_tre hs hQ r _ _ _ h4 h''.2⟩
  ·rw [List.mem_singleton] at hk
   subst hk
   refine wpOp_mono (fun a' w' h' => ?_) (wpOp_of_list hp hw2)
   have h'' : (Z.contains k = false → S w') ∧ goG P ops Q S Z s a' w' := h'
   have key := wpAnyG_tre hs hQ s _ _ _ h6 h''.2
   rw [← h5] at key
   exact ⟨h''.1, key⟩
theorem goG_read (d : Nat) {i : Nat} {o : Oper} {r : Trg} {a : Act} {w : World} (hS : S w) (ho : ops[i]? = some o) (hd : o.dst = some d) (v : Value) (hw : Region.wanted o (yielded ops a.tmps) = true) (hy : ∀ w, S w → (execOp a.eval o).run P w = .ok (.value v) w) (h : goG P ops Q S Z r { a with tmps := a.tmps.setIfInBounds d v } w) : goG P ops Q S Z (.read i r) a w :=
 ⟨hS, o, v, ho, .inl ⟨hw, hy⟩, by rw [put_some hd]; exact h⟩
theorem goG_step {i : Nat} {o : Oper} {r : Trg} {a : Act} {w : World} (ho : ops[i]? = some o) (h : wpList P ops (Exit.then (fun a' w' => (Z.contains i = false → S w') ∧ goG P ops Q S Z r a' w') Q) [o] a w) : goG P ops Q S Z (.step i r) a w := ⟨o, ho, h⟩
end
theorem wp_region_trg {P : Program} {Q : Exit → Act → World → Prop} {id : Nat} {a : Act} {w : World} {L : List Oper} (t : Trg) (Z : List Nat) (hm : P.follows .mixedOrders = true) (hl : t.deep = L.length) (hs : Region.noSelect L.toArray = true) (hB : planG .any L.toArray Z t (Array.replicate L.length false) = true)
  (hQ : ∀ c a t v w, Q (.panic c) (Act.put a (some t) v) w → Q (.panic c) a w) (S : World → Prop) (h : goG P L.toArray Q S Z t a w.drew) : (Code.region id L.toArray true).wp P Q a w := by
 refine wp_region_any hm (wpAny_of_G (S := S) (Z := Z) _ _ _ _ ?_)
 have hsz : L.toArray.size = L.length := by simp
 rw [hsz, ← hl]
 rw [← hl] at hB
 exact wpAnyG_tre hs hQ t _ a w.drew hB h
end Go.Proofs.YtdjpeimecfhdjaaGreat

namespace Go.Proofs.YtdjpeimecfhdjaaGreat
open Go.RowKit
theorem wl_mulI (a b : Int) : wl (a * b).natAbs ≤ wl a.natAbs + wl b.natAbs := by
 have := wl_mul a.natAbs b.natAbs
 rw [← Int.natAbs_mul] at this
 exact this
theorem NIntV.shp {w : World} {D : Nat → Prop} {v : Value} {x : Int} (h : NIntV w D v x) : ∃ neg A m c, v = .agg #[.bool neg, .slice A m c] ∧ NIntV w D (.agg #[.bool neg, .slice A m c]) x := by
 obtain ⟨A, c, rfl, h1⟩ := h
 exact ⟨_, A, _, c, rfl, A, c, rfl, h1⟩
theorem NIntV.tt {w : World} {D : Nat → Prop} {v : Value} {x : Int} (h : NIntV w D v x) : NIntV w (fun _ => True) v x := h.mono fun _ _ _ => trivial
theorem NIntV.dd {w : World} {D D' : Nat → Prop} {v : Value} {x : Int} (h : NIntV w D v x) (hd : ∀ b, D b → D' b) : NIntV w D' v x := h.mono fun b hb _ => hd b hb
theorem PvD.at {w : World} {D : Nat → Prop} {A : Option Addr} {n c : Nat} {l : List Int} (h : PvD w D (.slice A n c) l) {j : Nat} (hj : j < n) :
  ∃ b off neg B m k, A = some ⟨b, off, none⟩ ∧ D b ∧ w.cell? ⟨b, off + j * 2, none⟩ = some (.bool neg) ∧ w.cell? ⟨b, off + j * 2 + 1, none⟩ = some (.slice B m k) ∧ NIntV w D (.agg #[.bool neg, .slice B m k]) (gz l j) := by
 obtain ⟨A', c', e, h1⟩ := h
 injection e with e1 e2 e3
 subst e1 e3
 obtain ⟨b, off, e4, hd, hc⟩ := h1.cells (by omega)
 obtain ⟨neg, B, m, k, h2, h3, h4⟩ := hc j (by omega)
 exact ⟨b, off, neg, B, m, k, e4, hd, h2, h3, h4⟩
theorem PvD.len {w : World} {D : Nat → Prop} {A : Option Addr} {n c : Nat} {l : List Int} (h : PvD w D (.slice A n c) l) : l.length = n := by
 obtain ⟨A', c', e, h1⟩ := h
 injection e with e1 e2 e3
 exact e2.symm
set_option maxRecDepth 100000 in
set_option maxHeartbeats 4000000 in
theorem add_any {w : World} {base g cap n n' c : Nat} {D : Nat → Prop} {l m : List Int} {A : Option Addr} {kv : Value} {k : Int}
  (hu : OwnR w base D (.slice (some ⟨g, 0, none⟩) n cap) l) (hg : ¬ D g) (hD : ∀ b, w.heap.size ≤ b → D b) (hk : NIntV w (· ≠ g) kv k) (hm : PvD w (· ≠ g) (.slice A n' c) m)
  (hl : l.length = n) (hn : n' ≤ n) (hn2 : n ≤ 1000000) (hfk : wl k.natAbs ≤ 400000000000) (hfl : ∀ j, wl (gz l j).natAbs ≤ 400000000000) (hfm : ∀ j, wl (gz m j).natAbs ≤ 400000000000) :
  Calls Tryz.prog 222 #[.slice (some ⟨g, 0, none⟩) n cap, kv, .slice A n' c] w fun e w' => e = .returned (.tuple #[]) ∧ OwnR w' base D (.slice (some ⟨g, 0, none⟩) n cap) (addF k l m) ∧ Frm (· = g) w w' := by
 obtain ⟨nk, Ak, mk, ck, rfl, hk⟩ := hk.shp
 have hgl : g < w.heap.size := (hu.lt rfl).2
 have hml := Lib.hid hm.len
 have HL := Lib.hid hl
 clear hl
 obtain ⟨W, hW⟩ : ∃ W, W = w.alloc (.cells #[.bool nk, .slice Ak mk ck] 40) := ⟨_, rfl⟩
 have hbW : Below w.heap.size w W := by rw [hW]; exact (Below.refl _ _).alloc (Nat.le_refl _) _
 have b0 : W.cell? ⟨w.heap.size, 0, none⟩ = some (.bool nk) := by rw [hW]; go_simp
 have b1 : W.cell? ⟨w.heap.size, 1, none⟩ = some (.slice Ak mk ck) := by rw [hW]; go_simp
 have hsW : w.heap.size < W.heap.size := cell_lt b0
 have HWW := Lib.hid hW
 clear hW
 have HZ := Lib.hid (fun w' (hb : Below W.heap.size W w') => Zero_any ((hk.below hbW).below hb))
 by_cases hk0 : k = 0
 ·go_enter Tryz.func222, Tryz.ntmps222
  go_wp2_with (go_at_call 166; rw [← HWW.out]; go_must (refine (HZ.out _ (Below.refl _ _)).mono ?_); rintro e w1 ⟨rfl, hb1⟩)
  refine bodyPost_ret (results_none rfl _ _ _) rfl ?_
  have hb2 : Below w.heap.size w w1 := hbW.trans (hb1.mono (Nat.le_of_lt hsW))
  rw [hk0, addF_zero]
  exact ⟨rfl, hu.below hb2, Frm.of_below hb2⟩
 ·go_enter Tryz.func222, Tryz.ntmps222
  go_wp2_with (go_at_call 166; rw [← HWW.out]; go_must (refine (HZ.out _ (Below.refl _ _)).mono ?_); rintro e w1 ⟨rfl, hb1⟩)
  ·go_loopw [12] (fun iv wr => ∃ i : Nat, iv = .int .i64 i ∧ i ≤ n' ∧ OwnR wr base D (.slice (some ⟨g, 0, none⟩) n cap) (addF k l (m.take i)) ∧ Frm (· = g) W wr) (fun iv _ => n' - (intOf iv).toNat)
   case atStart => exact ⟨0, rfl, by omega, by rw [List.take_zero, addF_nil]; exact hu.below (hbW.trans (hb1.mono (Nat.le_of_lt hsW))), Frm.of_below hb1⟩
   case round =>
    obtain ⟨i, rfl, hi, hown, hfr⟩ := hrel
    have hfw : Frm (· = g) w wr := (Frm.of_below hbW).trans hfr
    rcases Nat.lt_or_ge i n' with hin | hin
    ·have hmr : PvD wr (· ≠ g) (.slice A n' c) m := hfw.foot hm fun b h1 h2 => h1 h2
     have hkr : NIntV wr (· ≠ g) (.agg #[.bool nk, .slice Ak mk ck]) k := hfw.nint hk fun b h1 h2 => h1 h2
     obtain ⟨b, off, neg, B, q, t, rfl, hbg, e0, e1, e2⟩ := hmr.at hin
     have hlen : (addF k l (m.take i)).length = n := by rw [addF_length, HL.out]
     obtain ⟨g', cap', e3, hbg', hgl', hcap, hcm, hfz, hcl⟩ := hown.at (by rw [hlen]; omega)
     injection e3 with e3 e5 e4
     injection e3 with e3
     injection e3 with e3 e6 e7
     subst e3 e4
     clear e5 e6 e7
     obtain ⟨neg3, B3, q3, t3, o0, o1, o2⟩ := hcl i (by rw [hlen]; omega)
     rw [addF_at _ _ _ (by rw [HL.out]; omega)] at o2
     have z0 := hfz (i * 2)
     have z1 := hfz (i * 2 + 1)
     have hPg : w.heap.size ≠ g := by omega
     have bb0 := (hfr.cell hsW hPg (o := 0)).trans b0
     have bb1 := (hfr.cell hsW hPg (o := 1)).trans b1
     clear hcl hcap hcm hfz
     have hgr : g < wr.heap.size := Nat.lt_of_lt_of_le hgl hfw.size
     obtain ⟨W2, hW2⟩ : ∃ W2, W2 = wr.alloc (.cells #[.bool neg, .slice B q t] 40) := ⟨_, rfl⟩
     have HB2 : Below wr.heap.size wr W2 := by rw [hW2]; exact (Below.refl _ _).alloc (Nat.le_refl _) _
     have x0 : W2.cell? ⟨wr.heap.size, 0, none⟩ = some (.bool neg) := by rw [hW2]; go_simp
     have x1 : W2.cell? ⟨wr.heap.size, 1, none⟩ = some (.slice B q t) := by rw [hW2]; go_simp
     have HW2 := Lib.hid hW2
     clear hW2
     replace bb0 := keepB HB2 bb0
     replace bb1 := keepB HB2 bb1
     replace o0 := keepB HB2 o0
     replace o1 := keepB HB2 o1
     replace z0 := ((bcell HB2).2 _ _ hgr).trans z0
     replace z1 := ((bcell HB2).2 _ _ hgr).trans z1
     have HZ2 := Lib.hid (fun w' (hb : Below W2.heap.size W2 w') => Zero_any ((e2.below HB2).below hb))
     have hw1 := hfm i
     have hw2 := hfl i
     have hw3 := wl_mulI k (gz m i)
     have HM := Lib.hid (fun w' (hb : Below W2.heap.size W2 w') => Mul_any ((hkr.below HB2).below hb).int ((e2.below HB2).below hb).int (by omega) (by omega))
     have HA := Lib.hid (fun w' (hb : Below W2.heap.size W2 w') => fun v (hv : NIntV w' (fun _ => True) v (k * gz m i)) => Add_any ((o2.below HB2).below hb).int hv.int (by omega) (by omega))
     have HOW := Lib.hid (hown.below HB2)
     have HST := Lib.hid (addF_step k l m (i := i) (by rw [HL.out]; omega))
     have HFR := Lib.hid (hfr.over HB2)
     clear hw1 hw2 hw3 hown hkr e2 o2 hmr hfr hlen
     by_cases hx0 : gz m i = 0
     ·have HS0 := Lib.hid (addF_step0 k l m (i := i) hx0)
      go_wp2_with (go_at_call 166; rw [← HW2.out]; go_must (refine (HZ2.out _ (Below.refl _ _)).mono ?_); rintro e w3 ⟨rfl, hb3⟩)
      go_round
      case rel => exact ⟨i + 1, by go_num, by omega, by rw [HS0.out]; exact HOW.out.below hb3, HFR.out.over hb3⟩
      case measure => simp [intOf]; omega
     ·go_wp2_with (go_at_call 166; rw [← HW2.out]; go_must (refine (HZ2.out _ (Below.refl _ _)).mono ?_); rintro e w3 ⟨rfl, hb3⟩)
      replace bb0 := keepB hb3 bb0
      replace bb1 := keepB hb3 bb1
      replace o0 := keepB hb3 o0
      replace o1 := keepB hb3 o1
      replace x0 := keepB hb3 x0
      replace x1 := keepB hb3 x1
      have hg3 : g < w3.heap.size := Nat.lt_of_lt_of_le (Nat.lt_of_lt_of_le hgr HB2.size) hb3.size
      replace z0 := ((bcell hb3).2 _ _ (Nat.lt_of_lt_of_le hgr HB2.size)).trans z0
      replace z1 := ((bcell hb3).2 _ _ (Nat.lt_of_lt_of_le hgr HB2.size)).trans z1
      have a1 : (0 : Int) ≤ (i : Int) := by omega
      have a2 : (i : Int) < (n : Int) := by omega
      have hs0 : Below w3.heap.size w3 w3.drew := (Below.refl _ _).drew
      refine wp_region_trg (.read 0 (.read 1 (.read 2 (.read 3 (.read 4 (.read 5 (.read 6 (.read 7 (.step 8 (.step 9 (.step 10 (.step 11 .nil)))))))))))) [11] (by kernel_rfl) (by rfl) (by kernel_rfl) (by kernel_rfl) (fun _ _ _ _ _ h => h) (fun W => Below w3.heap.size w3 W) ?_
      change goG _ _ _ _ _ _ _ w3.drew
      refine goG_read 20 hs0 (by rfl) (by rfl) ?_ (by rfl) (fun wz hSw => ?_) ?_
      rotate_left
      ·have y0 := keepB hSw o0; have y1 := keepB hSw o1; have y2 := keepB hSw bb0; have y3 := keepB hSw bb1; have y4 := keepB hSw x0; have y5 := keepB hSw x1; go_simp
       try with_reducible rfl
      simp only [sIB, List.set]
      refine goG_read 21 hs0 (by rfl) (by rfl) ?_ (by rfl) (fun wz hSw => ?_) ?_
      rotate_left
      ·have y0 := keepB hSw o0; have y1 := keepB hSw o1; have y2 := keepB hSw bb0; have y3 := keepB hSw bb1; have y4 := keepB hSw x0; have y5 := keepB hSw x1; go_simp
       try with_reducible rfl
      simp only [sIB, List.set]
      refine goG_read 22 hs0 (by rfl) (by rfl) ?_ (by rfl) (fun wz hSw => ?_) ?_
      rotate_left
      ·have y0 := keepB hSw o0; have y1 := keepB hSw o1; have y2 := keepB hSw bb0; have y3 := keepB hSw bb1; have y4 := keepB hSw x0; have y5 := keepB hSw x1; go_simp
       try with_reducible rfl
      simp only [sIB, List.set]
      refine goG_read 23 hs0 (by rfl) (by rfl) ?_ (by rfl) (fun wz hSw => ?_) ?_
      rotate_left
      ·have y0 := keepB hSw o0; have y1 := keepB hSw o1; have y2 := keepB hSw bb0; have y3 := keepB hSw bb1; have y4 := keepB hSw x0; have y5 := keepB hSw x1; go_simp
       try with_reducible rfl
      simp only [sIB, List.set]
      refine goG_read 24 hs0 (by rfl) (by rfl) ?_ (by rfl) (fun wz hSw => ?_) ?_
      rotate_left
      ·have y0 := keepB hSw o0; have y1 := keepB hSw o1; have y2 := keepB hSw bb0; have y3 := keepB hSw bb1; have y4 := keepB hSw x0; have y5 := keepB hSw x1; go_simp
       try with_reducible rfl
      simp only [sIB, List.set]
      refine goG_read 25 hs0 (by rfl) (by rfl) ?_ (by rfl) (fun wz hSw => ?_) ?_
      rotate_left
      ·have y0 := keepB hSw o0; have y1 := keepB hSw o1; have y2 := keepB hSw bb0; have y3 := keepB hSw bb1; have y4 := keepB hSw x0; have y5 := keepB hSw x1; go_simp
       try with_reducible rfl
      simp only [sIB, List.set]
      refine goG_read 26 hs0 (by rfl) (by rfl) ?_ (by rfl) (fun wz hSw => ?_) ?_
      rotate_left
      ·have y0 := keepB hSw o0; have y1 := keepB hSw o1; have y2 := keepB hSw bb0; have y3 := keepB hSw bb1; have y4 := keepB hSw x0; have y5 := keepB hSw x1; go_simp
       try with_reducible rfl
      simp only [sIB, List.set]
      refine goG_read 27 hs0 (by rfl) (by rfl) ?_ (by rfl) (fun wz hSw => ?_) ?_
      rotate_left
      ·have y0 := keepB hSw o0; have y1 := keepB hSw o1; have y2 := keepB hSw bb0; have y3 := keepB hSw bb1; have y4 := keepB hSw x0; have y5 := keepB hSw x1; go_simp
       try with_reducible rfl
      simp only [sIB, List.set]
      refine goG_step (by rfl) ?_
      go_wp2_with (go_at_call 101; refine (HM.out _ (hb3.trans (hs0.mono hb3.size))).mono ?_; rintro e w8 ⟨v8, rfl, hv8, hb9⟩)
      have hs1 := hs0.trans (hb9.mono hs0.size)
      obtain ⟨n8, A8, m8, c8, rfl, hw8⟩ := hv8.tt.shp
      clear hv8
      refine ⟨fun _ => hs1, ?_⟩
      refine goG_step (by rfl) ?_
      go_wp2_with (go_at_call 152; refine (HA.out _ (hb3.trans (hs1.mono hb3.size)) _ hw8).mono ?_; rintro e w9 ⟨v9, rfl, hv9, hb10⟩)
      have hs2 := hs1.trans (hb10.mono hs1.size)
      obtain ⟨n9, A9, m9, c9, rfl, hw9⟩ := hv9.shp
      clear hv9
      refine ⟨fun _ => hs2, ?_⟩
      have t0 := keepB hs2 o0
      have t1 := keepB hs2 o1
      have u0 := ((bcell hs2).2 _ _ hg3).trans z0
      have u1 := ((bcell hs2).2 _ _ hg3).trans z1
      refine goG_step (by rfl) ?_
      go_wp2_with fail
      refine ⟨fun _ => hs2, ?_⟩
      refine goG_step (by rfl) ?_
      go_wp2_with fail
      refine ⟨fun h => absurd h (by decide), ?_⟩
      show Exit.inBlock _ _ .normal _ _
      go_wp2_with fail
      go_round
      case rel =>
       have hB : Below W2.heap.size W2 w9 := hb3.trans (hs2.mono hb3.size)
       have hset := (HOW.out.below hB).set hg (i := i) (by rw [addF_length, HL.out]; omega) (hw9.dd fun b (h1 : _ ≤ b) => hD b (by have := hs1.size; have := hfw.size; have := HB2.size; have := hb3.size; omega))
       rw [HST.out] at hset
       exact ⟨i + 1, by go_num, by omega, hset, ((HFR.out.over hB).trans (Frm.setCell (O := (· = g)) (p := ⟨g, i * 2, none⟩) (fun _ => rfl) _)).trans (Frm.setCell (O := (· = g)) (p := ⟨g, i * 2 + 1, none⟩) (fun _ => rfl) _)⟩
      case measure => simp [intOf]; omega
    ·obtain rfl : i = n' := by omega
     rw [List.take_of_length_le (by rw [hml.out]; exact Nat.le_refl _)] at hown
     go_wp2_with fail
     go_end0
     exact ⟨rfl, hown, hfw⟩
set_option maxRecDepth 100000 in
set_option maxHeartbeats 4000000 in
theorem negate_any {w : World} {base g cap n : Nat} {D : Nat → Prop} {l : List Int}
  (hu : OwnR w base D (.slice (some ⟨g, 0, none⟩) n cap) l) (hg : ¬ D g) (hD : ∀ b, w.heap.size ≤ b → D b)
  (hl : l.length = n) (hn2 : n ≤ 1000000) (hfl : ∀ j, wl (gz l j).natAbs ≤ 400000000000) :
  Calls Tryz.prog 243 #[.slice (some ⟨g, 0, none⟩) n cap] w fun e w' => e = .returned (.tuple #[]) ∧ OwnR w' base D (.slice (some ⟨g, 0, none⟩) n cap) (ngR l) ∧ Frm (· = g) w w' := by
 have hgl : g < w.heap.size := (hu.lt rfl).2
 have HL := Lib.hid hl
 clear hl
 go_enter Tryz.func243, Tryz.ntmps243
 go_wp2_with fail
 go_loopw [6] (fun iv wr => ∃ i : Nat, iv = .int .i64 i ∧ i ≤ n ∧ OwnR wr base D (.slice (some ⟨g, 0, none⟩) n cap) ((ngR l).take i ++ l.drop i) ∧ Frm (· = g) w wr) (fun iv _ => n - (intOf iv).toNat)
 case atStart => exact ⟨0, rfl, by omega, by simpa using hu, Frm.refl _ _⟩
 case round =>
  obtain ⟨i, rfl, hi, hown, hfr⟩ := hrel
  have hlen : ((ngR l).take i ++ l.drop i).length = n := by rw [List.length_append, List.length_take, List.length_drop, ngR_length, HL.out]; omega
  have hat : ∀ j, i ≤ j → gz ((ngR l).take i ++ l.drop i) j = gz l j := fun j hj => by
   have e : ((ngR l).take i).length = i := by rw [List.length_take, ngR_length, HL.out]; omega
   unfold gz List.getD
   rw [List.getElem?_append_right (by rw [e]; exact hj), e, List.getElem?_drop, show i + (j - i) = j by omega]
  rcases Nat.lt_or_ge i n with hin | hin
  ·obtain ⟨g', cap', e3, hbg', hgl', hcap, hcm, hfz, hcl⟩ := hown.at (by rw [hlen]; omega)
   injection e3 with e3 e5 e4
   injection e3 with e3
   injection e3 with e3 e6 e7
   subst e3 e4
   clear e5 e6 e7
   obtain ⟨neg3, B3, q3, t3, o0, o1, o2⟩ := hcl i (by rw [hlen]; omega)
   rw [hat i (Nat.le_refl _)] at o2
   have z0 := hfz (i * 2)
   have z1 := hfz (i * 2 + 1)
   clear hcl hcap hcm hfz
   have HST := Lib.hid (show ((ngR l).take i ++ l.drop i).set i (-(gz l i)) = (ngR l).take (i + 1) ++ l.drop (i + 1) by
    have e : ((ngR l).take i).length = i := by rw [List.length_take, ngR_length, HL.out]; omega
    have e2 : l.drop i = gz l i :: l.drop (i + 1) := by
     rw [List.drop_eq_getElem_cons (by rw [HL.out]; exact hin)]
     have := gz_lt (l := l) (j := i) (by rw [HL.out]; exact hin)
     rw [List.getElem?_eq_getElem (by rw [HL.out]; exact hin)] at this
     injection this with this
     rw [this]
    rw [e2, List.set_append_right _ _ (by omega), e, Nat.sub_self, List.set_cons_zero, take_succ_gz (by rw [ngR_length, HL.out]; exact hin), ngR_gz]
    simp)
   have HLEN := Lib.hid hlen
   clear hlen hat
   obtain ⟨W2, hW2⟩ : ∃ W2, W2 = wr.alloc (.cells #[.bool neg3, .slice B3 q3 t3] 40) := ⟨_, rfl⟩
   have HB2 : Below wr.heap.size wr W2 := by rw [hW2]; exact (Below.refl _ _).alloc (Nat.le_refl _) _
   have x0 : W2.cell? ⟨wr.heap.size, 0, none⟩ = some (.bool neg3) := by rw [hW2]; go_simp
   have x1 : W2.cell? ⟨wr.heap.size, 1, none⟩ = some (.slice B3 q3 t3) := by rw [hW2]; go_simp
   have HW2 := Lib.hid hW2
   clear hW2
   have hg2 : g < W2.heap.size := Nat.lt_of_lt_of_le hgl' HB2.size
   have w0 := ((bcell HB2).2 _ _ hgl').trans z0
   have w1 := ((bcell HB2).2 _ _ hgl').trans z1
   have hw2 := hfl i
   have HN := Lib.hid (fun w' (hb : Below W2.heap.size W2 w') => wNeg_any ((o2.below HB2).below hb).int (by omega))
   have HOW := Lib.hid (hown.below HB2)
   have HFR := Lib.hid (hfr.over HB2)
   clear hown hfr o2 hw2
   have a1 : (0 : Int) ≤ (i : Int) := by omega
   have a2 : (i : Int) < (n : Int) := by omega
   go_wp2_with (first | (go_at_call 193; rw [← HW2.out]; go_must (refine (HN.out _ (Below.refl _ _)).mono ?_); rintro e w3 ⟨v3, rfl, hv3, hb3⟩; obtain ⟨n9, A9, m9, c9, rfl, hw9⟩ := hv3.shp; clear hv3; have t0 := keepB hb3 (keepB HB2 o0); have t1 := keepB hb3 (keepB HB2 o1); have u0 := ((bcell hb3).2 _ _ hg2).trans w0; have u1 := ((bcell hb3).2 _ _ hg2).trans w1))
   go_round
   case rel =>
    have hset := (HOW.out.below hb3).set hg (i := i) (by rw [HLEN.out]; omega) (hw9.dd fun b (h1 : _ ≤ b) => hD b (by have := HFR.out.size; omega))
    rw [HST.out] at hset
    exact ⟨i + 1, by go_num, by omega, hset, ((HFR.out.over hb3).trans (Frm.setCell (O := (· = g)) (p := ⟨g, i * 2, none⟩) (fun _ => rfl) _)).trans (Frm.setCell (O := (· = g)) (p := ⟨g, i * 2 + 1, none⟩) (fun _ => rfl) _)⟩
   case measure => simp [intOf]; omega
  ·obtain rfl : i = n := by omega
   have e1 : (ngR l).take l.length ++ l.drop l.length = ngR l := by rw [List.drop_of_length_le (Nat.le_refl _), List.take_of_length_le (by rw [ngR_length]; exact Nat.le_refl _), List.append_nil]
   rw [HL.out] at e1
   rw [e1] at hown
   clear hlen hat e1
   go_wp2_with fail
   go_end0
   exact ⟨rfl, hown, hfr⟩
end Go.Proofs.YtdjpeimecfhdjaaGreat

namespace Go.Proofs.YtdjpeimecfhdjaaGreat
open Go.RowKit
theorem nilR_true (w : World) (n c : Nat) : (binOp .eql 175 (.slice none n c) (.slice none 0 0)).run Tryz.prog w = .ok (.bool true) w := by
 have h : ∀ d : Nat, (Op.equalIn (d + 1) 175 (.slice none n c) (.slice none 0 0)).run Tryz.prog w = .ok true w := fun d => by simp [Op.equalIn, run_underlying Tryz.underlying175]
 simp only [binOp]
 simp [Op.equal, Op.maxDepth, h 9999]
theorem nilR_false (w : World) (a : Addr) (n c : Nat) : (binOp .eql 175 (.slice (some a) n c) (.slice none 0 0)).run Tryz.prog w = .ok (.bool false) w := by
 have h : ∀ d : Nat, (Op.equalIn (d + 1) 175 (.slice (some a) n c) (.slice none 0 0)).run Tryz.prog w = .ok false w := fun d => by simp [Op.equalIn, run_underlying Tryz.underlying175]
 simp only [binOp]
 simp [Op.equal, Op.maxDepth, h 9999]
theorem PvD.srcD {w : World} {D : Nat → Prop} {A : Option Addr} {n c : Nat} {l : List Int} (h0 : PvD w D (.slice A n c) l) :
  ∃ xs, Cs w (fun b => D b ∧ b < w.heap.size) xs l ∧ Src w 2 A n xs ∧ ∀ u ∈ xs, u.oneCell' = true := by
 obtain ⟨A', c', e, h⟩ := h0
 injection e with e1 e2 e3
 subst e1 e3
 rw [← e2] at h
 clear e2
 rcases Nat.eq_zero_or_pos n with h0 | h0
 ·subst h0
  obtain rfl := List.eq_nil_of_length_eq_zero h.len
  exact ⟨[], Cs.nil, ⟨rfl, fun h => absurd h (by omega)⟩, fun u hu => by cases hu⟩
 ·obtain ⟨b, off, rfl, hd, hc⟩ := h.cells h0
  have hl := h.len
  let xs : List Value := (List.range (n * 2)).map fun j => (w.cell? ⟨b, off + j, none⟩).getD (.bool false)
  have hx : ∀ j, j < n * 2 → xs[j]? = some ((w.cell? ⟨b, off + j, none⟩).getD (.bool false)) := by
   intro j hj
   simp only [xs, List.getElem?_map, List.getElem?_range hj, Option.map_some]
  have hxl : xs.length = n * 2 := by simp [xs]
  have hcell : ∀ j, j < n * 2 → ∃ u, w.cell? ⟨b, off + j, none⟩ = some u ∧ u.oneCell' = true := by
   intro j hj
   obtain ⟨neg, B, m, k, e0, e1, _⟩ := hc (j / 2) (by omega)
   rcases Nat.mod_two_eq_zero_or_one j with h2 | h2
   ·rw [show off + j = off + j / 2 * 2 by omega]; exact ⟨_, e0, rfl⟩
   ·rw [show off + j = off + j / 2 * 2 + 1 by omega]; exact ⟨_, e1, rfl⟩
  refine ⟨xs, ⟨by rw [hxl, hl], fun j hj => ?_⟩, ⟨hxl, fun _ => ⟨_, rfl, fun j u hu => ?_⟩⟩, fun u hu => ?_⟩
  ·obtain ⟨neg, B, m, k, e0, e1, e2⟩ := hc j (by omega)
   refine ⟨neg, B, m, k, ?_, ?_, NIntV.mono e2 fun b h1 hb => ⟨h1, hb⟩⟩
   ·rw [hx _ (by omega), e0]; rfl
   ·rw [hx _ (by omega), show off + (j * 2 + 1) = off + j * 2 + 1 by omega, e1]; rfl
  ·have hj : j < n * 2 := by
    rcases Nat.lt_or_ge j (n * 2) with h1 | h1
    ·exact h1
    ·rw [List.getElem?_eq_none (by omega)] at hu; cases hu
   rw [hx j hj] at hu
   obtain ⟨u', e, _⟩ := hcell j hj
   rw [e] at hu
   injection hu with hu
   simp only [Option.getD_some] at hu
   subst hu
   unfold Addr.add
   split
   ·rename_i hz; subst hz; exact e
   ·exact e
  ·obtain ⟨j, hu⟩ := List.getElem?_of_mem hu
   have hj : j < n * 2 := by
    rcases Nat.lt_or_ge j (n * 2) with h1 | h1
    ·exact h1
    ·rw [List.getElem?_eq_none (by omega)] at hu; cases hu
   rw [hx j hj] at hu
   obtain ⟨u', e, h1⟩ := hcell j hj
   rw [e] at hu
   injection hu with hu
   simp only [Option.getD_some] at hu
   subst hu
   exact h1
theorem PvD.pln {w : World} {D : Nat → Prop} {A : Option Addr} {n c : Nat} {l : List Int} (h : PvD w D (.slice A n c) l) : Pl NI w (fun _ => True) A n c l := by
 obtain ⟨A', c', e, h1⟩ := h
 injection e with e1 e2 e3
 subst e1 e2 e3
 exact (h1.mono (D' := fun _ => True) fun _ _ _ => trivial).imp fun v x _ hx => NIntV.mono hx fun _ _ _ => trivial
set_option maxRecDepth 100000 in
set_option maxHeartbeats 1000000 in
theorem rclone_any {A : Option Addr} {n c : Nat} {l : List Int} {w : World} {D : Nat → Prop} (hp : PvD w D (.slice A n c) l) (hn : n ≤ 1000000) :
  Calls Tryz.prog 235 #[.slice A n c] w (Gives w fun w' v => OwnR w' w.heap.size (fun b => D b ∧ b < w.heap.size) v l) := by
 have h := hp.pln
 obtain ⟨xs, hcs, hsrc, hone⟩ := hp.srcD
 clear hp
 have HS := Lib.hid hsrc
 have HC := Lib.hid hcs
 have HO := Lib.hid hone
 clear hsrc hcs hone
 have hl := Lib.hid h.len
 rcases A with _ | ad
 ·have h0 : n = 0 := by
   rcases Nat.eq_zero_or_pos n with h0 | h0
   ·exact h0
   ·obtain ⟨b, off, e, _⟩ := h.cells h0; cases e
  subst h0
  obtain rfl := List.eq_nil_of_length_eq_zero hl.out
  have HN := nilR_true
  go_enter Tryz.func235, Tryz.ntmps235
  go_wp2_with fail
  go_ret
  exact ⟨_, rfl, OwnR.nil _ _ _, Below.refl _ _⟩
 ·have HN := nilR_false
  have hrow : (w.alloc (.cells #[] 40)).ownsRow w.heap.size 40 2 (.slice (some ⟨w.heap.size, 0, none⟩) 0 0) 0 [] := ⟨rfl, .inr ⟨w.heap.size, 0, #[], rfl, Nat.le_refl _, heap_alloc_new w _, Nat.le_refl _, by unfold maxLen; omega, rfl, rfl⟩⟩
  have hbW : Below w.heap.size w (w.alloc (.cells #[] 40)) := (Below.refl _ _).alloc (Nat.le_refl _) _
  have HR := Lib.hid hrow
  have HB := Lib.hid hbW
  clear hrow hbW h
  go_enter Tryz.func235, Tryz.ntmps235
  go_wp2_with (at_builtin; go_must (refine wpList_app _ rfl _ _ _ _ rfl w.heap.size 40 40 (.agg #[.bool false, .slice none 0 0]) 2 32 Tryz.underlying175 Tryz.underlying175 info_Int rfl (by omega) _ 0 [] rfl HR.out (some ad) n c xs rfl (Src.below HS.out HB.out) HO.out (by unfold maxLen; omega) (by omega) (by simp) ?_); intro v' w' hown' hg hob)
  go_ret
  rw [Nat.zero_add, List.nil_append] at hown'
  have hg0 : w.grownBy w' (some w.heap.size) := grownBy_trans (World.grownBy_alloc w _ _) hg
  have hbb : Below w.heap.size w w' := (Below.refl _ _).grown hg0 (Nat.le_refl _) (fun k hk => by injection hk with hk; omega)
  exact ⟨_, rfl, ⟨xs, by rw [hl.out]; exact hown', (HC.out.below hbb).mono fun b hb _ => hb⟩, hbb⟩
theorem info_Row : (Tryz.prog.info? 175).map (fun i => (i.zero, i.size, i.bytes)) = some (some (.slice none 0 0), 1, 24) := by kernel_rfl
theorem MatX.make {w : World} {base B q : Nat} (h : Arr w B 175 (madeCells (Value.slice none 0 0).cells (q * 1)).toList) (hb : base ≤ B) (D : Nat → Prop) (hD : ¬ D B) : MatX w base B (List.replicate q (.slice none 0 0)) D (List.replicate q []) := by
 rw [show (Value.slice none 0 0).cells = #[.slice none 0 0] from rfl, toList_madeCells_one, Nat.mul_one] at h
 refine ⟨h, by simp, hb, hD, fun i u l hu hl => ?_, fun u hu g hg => ?_, fun i j u u' g hu _ hg => ?_⟩
 ·obtain rfl := List.eq_of_mem_replicate (List.mem_of_getElem? hu)
  obtain rfl := List.eq_of_mem_replicate (List.mem_of_getElem? hl)
  exact OwnR.nil _ _ _
 ·obtain rfl := List.eq_of_mem_replicate hu
  cases hg
 ·obtain rfl := List.eq_of_mem_replicate (List.mem_of_getElem? hu)
  cases hg
theorem set_snoc {α : Type} {L : List α} {i q : Nat} {x z : α} (hi : i < q) (hL : L.length = q) (hx : L[i]? = some x) : (L.take i ++ List.replicate (q - i) z).set i x = L.take (i + 1) ++ List.replicate (q - (i + 1)) z := by
 have e : (L.take i).length = i := by rw [List.length_take]; omega
 rw [List.set_append_right _ _ (by omega), e, Nat.sub_self, show q - i = (q - (i + 1)) + 1 by omega, List.replicate_succ, List.set_cons_zero, List.take_add_one, hx]
 simp
set_option maxRecDepth 100000 in
set_option maxHeartbeats 4000000 in
theorem Clone_any {w : World} {D : Nat → Prop} {A : Option Addr} {q c : Nat} {L : List (List Int)} (h : RowsD PvD w D (.slice A q c) L) (hq : q ≤ 1000000) (hn : ∀ l ∈ L, l.length ≤ 1000000) :
  Calls Tryz.prog 206 #[.slice A q c] w fun e w' => ∃ B us, e = .returned (.slice (some ⟨B, 0, none⟩) q q) ∧ MatX w' w.heap.size B us (fun b => D b ∧ b < w.heap.size) L ∧ Below w.heap.size w w' := by
 have hr := h.room
 have HL := Lib.hid hr.1.symm
 replace h := h.mono (D' := fun b => D b ∧ b < w.heap.size) fun _ h1 hb => ⟨h1, hb⟩
 clear hr
 go_enter Tryz.func206, Tryz.ntmps206
 go_wp2_with (at_make; go_must (refine wpList_make_arr _ rfl _ _ _ rfl 175 (.slice none 0 0) 1 24 Tryz.underlying113 info_Row _ _ _ _ q rfl rfl (by omega) (by omega) (by omega) (by omega) ?_); intro w1 ha hb hz)
 have HB1 := Lib.hid hb
 have hm := MatX.make ha (Nat.le_refl _) (fun b => D b ∧ b < w.heap.size) (fun h => Nat.lt_irrefl _ h.2)
 have hz2 : w.heap.size < w1.heap.size := by omega
 have HZ := Lib.hid hz
 clear hz ha hb
 go_loopw [11] (fun iv wr => ∃ (i : Nat) (us : List Value), iv = .int .i64 i ∧ i ≤ q ∧ MatX wr w.heap.size w.heap.size us (fun b => D b ∧ b < w.heap.size) (L.take i ++ List.replicate (q - i) []) ∧ Below w.heap.size w wr) (fun iv _ => q - (intOf iv).toNat)
 case atStart => exact ⟨0, _, rfl, by omega, by simpa using hm, HB1.out⟩
 case round =>
  obtain ⟨i, us, rfl, hi, hmx, hbr⟩ := hrel
  have hlt := hmx.lt
  rcases Nat.lt_or_ge i q with hiq | hiq
  ·have hx := rw_some (L := L) (i := i) (by rw [HL.out]; exact hiq)
   obtain ⟨b, off, u, rfl, hc, hu⟩ := (h.below hbr).at hx
   have hlen := hn _ (List.mem_of_getElem? hx)
   obtain ⟨Au, cu, rfl, hpu⟩ := hu
   have hpv : PvD wr (fun b => D b ∧ b < w.heap.size) (.slice Au (rw_ L i).length cu) (rw_ L i) := ⟨Au, cu, rfl, hpu⟩
   have HC := Lib.hid (rclone_any hpv hlen)
   have z0 := hmx.arr.frozen i
   have hlen2 : (L.take i ++ List.replicate (q - i) ([] : List Int)).length = q := by rw [List.length_append, List.length_take, List.length_replicate, HL.out]; omega
   obtain ⟨uo, _, z2, _⟩ := hmx.at (rw_some (by rw [hlen2]; exact hiq))
   have HLE := Lib.hid hlen2
   have HM := Lib.hid hmx
   have HX := Lib.hid hx
   have HBR := Lib.hid hbr
   clear hpv hpu hx hmx hlen hbr hlen2
   generalize (rw_ L i).length = ln at *
   have a1 : (0 : Int) ≤ (i : Int) := by omega
   have a2 : (i : Int) < (q : Int) := by omega
   go_wp2_with (go_at_call 235; go_must (refine HC.out.mono ?_); rintro e w3 ⟨v3, rfl, hv3, hb3⟩; obtain ⟨A3, c3, rfl, h31, h32⟩ := hv3.slice; have z1 := ((bcell hb3).2 _ _ hlt).trans z0; have z3 := keepB hb3 z2)
   go_round
   case rel =>
    have hput := (HM.out.below hb3).put (i := i) (u := .slice A3 (rw_ L i).length c3) (l := rw_ L i) (by rw [HLE.out]; exact hiq) ((hv3.lower HBR.out.size).mono fun b hb _ => hb.1) fun g hg => ?_
    ·rw [set_snoc hiq HL.out HX.out] at hput
     exact ⟨i + 1, _, by go_num, by omega, hput, (HBR.out.trans (hb3.mono HBR.out.size)).setCell (p := ⟨w.heap.size, i, none⟩) (Nat.le_refl _) _⟩
    ·have h1 := (hv3.lt hg).1
     refine ⟨by omega, by have := HBR.out.size; omega, fun j x _ hx hg2 => ?_⟩
     obtain ⟨l, hl⟩ : ∃ l, (L.take i ++ List.replicate (q - i) ([] : List Int))[j]? = some l := ⟨_, List.getElem?_eq_getElem (by rw [← HM.out.len]; exact lt_of_get hx)⟩
     have := ((HM.out.rows j x l hx hl).lt hg2).2
     omega
   case measure => simp [intOf]; omega
  ·obtain rfl : i = q := by omega
   rw [Nat.sub_self, List.replicate_zero, List.append_nil, List.take_of_length_le (by rw [HL.out]; exact Nat.le_refl _)] at hmx
   go_wp2_with fail
   go_ret
   exact ⟨_, _, rfl, hmx, hbr⟩
end Go.Proofs.YtdjpeimecfhdjaaGreat

namespace Go.Proofs.YtdjpeimecfhdjaaGreat
open Go.RowKit
inductive Tr5 where
 | nil
 | pure (i : Nat) (r : Tr5)
 | read (i : Nat) (r : Tr5)
 | step (i : Nat) (r : Tr5)
 | two (i j : Nat) (r s : Tr5)
 | three (i j k : Nat) (r s t : Tr5)
def Tr5.deep : Tr5 → Nat
 | .nil => 0
 | .pure _ r => r.deep + 1
 | .read _ r => r.deep + 1
 | .step _ r => r.deep + 1
 | .two _ _ r _ => r.deep + 1
 | .three _ _ _ r _ _ => r.deep + 1
section
variable {P : Program} {ops : Array Oper} {Q : Exit → Act → World → Prop} {md : Region.Mode} {S : World → Prop} {Z : List Nat}
def wpAnyU (P : Program) (md : Region.Mode) (ops : Array Oper) (Q : Exit → Act → World → Prop) (S : World → Prop) (Z : List Nat) : Nat → Array Bool → Act → World → Prop
 | 0, listed, a, w => Region.ready md ops listed = [] ∧ Q .normal a w
 | fuel + 1, listed, a, w =>
  (Region.ready md ops listed = [] → Q .normal a w) ∧
  ∀ i ∈ Region.ready md ops listed, wpOp P ops Q i (fun a' w' => (Z.contains i = false → S w') ∧ wpAnyU P md ops Q S Z fuel (listed.setIfInBounds i true) a' w') a w
theorem wpAny_of_U : ∀ (fuel : Nat) (listed : Array Bool) (a : Act) (w : World), wpAnyU P md ops Q S Z fuel listed a w → wpAny P md ops Q fuel listed a w
 | 0, _, _, _, h => h
 | fuel + 1, _, _, _, h => ⟨h.1, fun i hi => wpOp_mono (fun a' w' h' => wpAny_of_U fuel _ a' w' h'.2) (h.2 i hi)⟩
def Closed (md : Region.Mode) (ops : Array Oper) (listed : Array Bool) : Prop := ∀ (j : Nat) (o : Oper), ops[j]? = some o → listed.getD j false = true → ∀ e ∈ o.after, Region.binds md e = true → listed.getD e.on false = true
theorem getD_mono {listed : Array Bool} {x j : Nat} (h : listed.getD x false = true) : (listed.setIfInBounds j true).getD x false = true := by
 by_cases hjx : j = x
 ·subst hjx
  rcases Nat.lt_or_ge j listed.size with h' | h'
  ·simp [h']
  ·simp [Array.getElem?_eq_none h'] at h
 ·rw [getD_set_ne false hjx]; exact h
theorem Closed.set {listed : Array Bool} {j : Nat} (h : Closed md ops listed) (hj : j ∈ Region.ready md ops listed) : Closed md ops (listed.setIfInBounds j true) := by
 intro k o ho hk e he hb
 by_cases hjk : j = k
 ·subst hjk
  obtain ⟨_, o', ho', hall⟩ := mem_ready.1 hj
  rw [ho] at ho'
  injection ho' with ho'
  subst ho'
  exact getD_mono (by simpa using hall e he hb)
 ·rw [getD_set_ne false hjk] at hk
  exact getD_mono (h k o ho hk e he hb)
def needsB (md : Region.Mode) (ops : Array Oper) (i : Nat) : Nat → Nat → Bool
 | 0, _ => false
 | n + 1, z => match ops[z]? with | none => false | some o => o.after.any fun e => Region.binds md e && (e.on == i || needsB md ops i n e.on)
theorem needsB_listed {listed : Array Bool} {i : Nat} (h : Closed md ops listed) : ∀ (n z : Nat), needsB md ops i n z = true → listed.getD z false = true → listed.getD i false = true
 | 0, z, h1, _ => by cases h1
 | n + 1, z, h1, h2 => by
  rw [needsB] at h1
  split at h1
  ·cases h1
  ·rename_i o ho
   obtain ⟨e, he, h3⟩ := Array.any_eq_true'.1 h1
   simp only [Bool.and_eq_true, Bool.or_eq_true, beq_iff_eq] at h3
   have h4 := h z o ho h2 e he h3.1
   rcases h3.2 with h5 | h5
   ·rw [← h5]; exact h4
   ·exact needsB_listed h n e.on h5 h4
def waitU (md : Region.Mode) (ops : Array Oper) (Z : List Nat) (listed : Array Bool) (i : Nat) : Bool := Z.all fun z => listed.getD z true || needsB md ops i 20 z
theorem waitU_spec {listed : Array Bool} {i j : Nat} (hc : Closed md ops listed) (h : waitU md ops Z listed i = true) (hun : listed.getD i true = false) (hj : j ∈ Region.ready md ops listed) : Z.contains j = false := by
 cases hz : Z.contains j
 ·rfl
 ·obtain ⟨hju, o, ho, hall⟩ := mem_ready.1 hj
  have h1 := List.all_eq_true.1 h j (by simpa using hz)
  rw [hju, Bool.false_or, needsB, ho] at h1
  obtain ⟨e, he, h2⟩ := Array.any_eq_true'.1 h1
  simp only [Bool.and_eq_true, Bool.or_eq_true, beq_iff_eq] at h2
  have h3 : listed.getD e.on false = true := by simpa using hall e he h2.1
  have h4 : listed.getD i false = true := by
   rcases h2.2 with h5 | h5
   ·rw [← h5]; exact h3
   ·exact needsB_listed hc _ _ h5 h3
  rcases Nat.lt_or_ge i listed.size with h' | h'
  ·simp [h'] at hun h4; rw [hun] at h4; cases h4
  ·simp [Array.getElem?_eq_none h'] at h4
theorem waitU_mono {listed : Array Bool} {i j : Nat} (h : waitU md ops Z listed i = true) : waitU md ops Z (listed.setIfInBounds j true) i = true := by
 refine List.all_eq_true.2 fun z hz => ?_
 have h1 := List.all_eq_true.1 h z hz
 rw [Bool.or_eq_true] at h1 ⊢
 rcases h1 with h1 | h1
 ·left
  by_cases hjz : j = z
  ·subst hjz
   rcases Nat.lt_or_ge j listed.size with h' | h'
   ·simp [h']
   ·simp
  ·rw [getD_set_ne true hjz]; exact h1
 ·exact .inr h1
theorem wpAnyU_first {T : World → Prop} {i : Nat} {oi : Oper} {v : Value} (hi : ops[i]? = some oi) (hsel : ∀ (j : Nat) (o : Oper) cs b, ops[j]? = some o → o.op ≠ .select cs b)
  (hQ : ∀ c a w, Q (.panic c) (a.put oi.dst v) w → Q (.panic c) a w) (W : Array Bool → Prop)
  (hW : ∀ listed j, W listed → j ∈ Region.ready md ops listed → W (listed.setIfInBounds j true)) (hT : ∀ (listed : Array Bool) (j : Nat) (w' : World), W listed → i ∈ Region.ready md ops listed → j ∈ Region.ready md ops listed → (Z.contains j = false → S w') → T w') (hown : ∀ w', T w' → Z.contains i = false → S w') :
  ∀ (fuel : Nat) (listed : Array Bool) (a : Act) (w : World), W listed →
   (∀ j oj, ops[j]? = some oj → j ≠ i → listed.getD j true = false → (∀ e ∈ oj.after, Region.binds md e = true → e.on ≠ i) → oi.apart ops oj = true) →
   i ∈ Region.ready md ops listed → YieldsIf P ops T oi v a → T w →
   wpAnyU P md ops Q S Z fuel (listed.setIfInBounds i true) (a.put oi.dst v) w → wpAnyU P md ops Q S Z (fuel + 1) listed a w := by
 intro fuel
 induction fuel with
 | zero =>
  intro listed a w _ _ hr hy hS H
  refine ⟨fun h => (by rw [h] at hr; cases hr), fun j hj => ?_⟩
  by_cases hji : j = i
  ·subst hji; exact hy.wpOp hi hS ⟨hown w hS, H⟩
  ·have := ready_mono hj hji
   rw [H.1] at this
   cases this
 | succ fuel ih =>
  intro listed a w hWl hfree hr hy hS H
  refine ⟨fun h => (by rw [h] at hr; cases hr), fun j hj => ?_⟩
  by_cases hji : j = i
  ·subst hji; exact hy.wpOp hi hS ⟨hown w hS, H⟩
  ·have h1 := H.2 j (ready_mono hj hji)
   obtain ⟨hjun, oj, hoj, hall⟩ := mem_ready.1 hj
   have hnot : ∀ e ∈ oj.after, Region.binds md e = true → e.on ≠ i := fun e he hb heq => by
    have h1 := hall e he hb
    have h0 := (mem_ready.1 hr).1
    rw [heq] at h1
    rcases Nat.lt_or_ge i listed.size with h' | h'
    ·simp [h'] at h0 h1; rw [h0] at h1; cases h1
    ·simp [Array.getElem?_eq_none h'] at h1
   have h2 := wpOp_putIf hoj (hfree j oj hoj hji hjun hnot) (fun cs b => hsel i oi cs b hi) (fun cs b => hsel j oj cs b hoj) hQ hy h1
   have hfree' : ∀ k ok, ops[k]? = some ok → k ≠ i → (listed.setIfInBounds j true).getD k true = false →
     (∀ e ∈ ok.after, Region.binds md e = true → e.on ≠ i) → oi.apart ops ok = true := fun k ok hk hki hun hno => by
    refine hfree k ok hk hki ?_ hno
    by_cases hjk : j = k
    ·subst hjk; exact hjun
    ·rw [getD_set_ne true hjk] at hun; exact hun
   refine wpOp_mono (fun a' w' h3 => ⟨h3.2.1, ih (listed.setIfInBounds j true) a' w' (hW _ _ hWl hj) hfree' (ready_mono hr (Ne.symm hji)) h3.1 (hT listed j w' hWl hr hj h3.2.1) ?_⟩) h2
   rw [Array.setIfInBounds_comm _ _ hji]
   exact h3.2.2
def goU (P : Program) (ops : Array Oper) (Q : Exit → Act → World → Prop) (S : World → Prop) (Z : List Nat) : Tr5 → Act → World → Prop
 | .nil, a, w => Q .normal a w
 | .pure i r, a, w => ∃ o v, ops[i]? = some o ∧ YieldsIf P ops (fun _ => True) o v a ∧ goU P ops Q S Z r (a.put o.dst v) w
 | .read i r, a, w => S w ∧ ∃ o v, ops[i]? = some o ∧ YieldsIf P ops S o v a ∧ goU P ops Q S Z r (a.put o.dst v) w
 | .step i r, a, w => ∃ o, ops[i]? = some o ∧ wpList P ops (Exit.then (fun a' w' => (Z.contains i = false → S w') ∧ goU P ops Q S Z r a' w') Q) [o] a w
 | .two i j r s, a, w => ∃ o p, ops[i]? = some o ∧ ops[j]? = some p ∧ wpList P ops (Exit.then (fun a' w' => (Z.contains i = false → S w') ∧ goU P ops Q S Z r a' w') Q) [o] a w ∧ wpList P ops (Exit.then (fun a' w' => (Z.contains j = false → S w') ∧ goU P ops Q S Z s a' w') Q) [p] a w
 | .three i j k r s u, a, w => ∃ o p q, ops[i]? = some o ∧ ops[j]? = some p ∧ ops[k]? = some q ∧ wpList P ops (Exit.then (fun a' w' => (Z.contains i = false → S w') ∧ goU P ops Q S Z r a' w') Q) [o] a w ∧ wpList P ops (Exit.then (fun a' w' => (Z.contains j = false → S w') ∧ goU P ops Q S Z s a' w') Q) [p] a w ∧ wpList P ops (Exit.then (fun a' w' => (Z.contains k = false → S w') ∧ goU P ops Q S Z u a' w') Q) [q] a w
def planU (md : Region.Mode) (ops : Array Oper) (Z : List Nat) : Tr5 → Array Bool → Bool
 | .nil, listed => (Region.ready md ops listed).isEmpty
 | .pure i r, listed => (Region.ready md ops listed).contains i && Region.free md ops listed i && Z.contains i && planU md ops Z r (listed.setIfInBounds i true)
 | .read i r, listed => (Region.ready md ops listed).contains i && Region.free md ops listed i && waitU md ops Z listed i && planU md ops Z r (listed.setIfInBounds i true)
 | .step i r, listed => decide (Region.ready md ops listed = [i]) && planU md ops Z r (listed.setIfInBounds i true)
 | .two i j r s, listed => decide (Region.ready md ops listed = [i, j]) && decide (r.deep = s.deep) && planU md ops Z r (listed.setIfInBounds i true) && planU md ops Z s (listed.setIfInBounds j true)
 | .three i j k r s u, listed => decide (Region.ready md ops listed = [i, j, k]) && decide (r.deep = s.deep) && decide (r.deep = u.deep) && planU md ops Z r (listed.setIfInBounds i true) && planU md ops Z s (listed.setIfInBounds j true) && planU md ops Z u (listed.setIfInBounds k true)
theorem wpAnyU_tre (hs : Region.noSelect ops = true) (hQ : ∀ c a t v w, Q (.panic c) (Act.put a (some t) v) w → Q (.panic c) a w) : ∀ (t : Tr5) (listed : Array Bool) (a : Act) (w : World), Closed md ops listed → planU md ops Z t listed = true → goU P ops Q S Z t a w → wpAnyU P md ops Q S Z t.deep listed a w
 | .nil, listed, a, w, hC, hB, h => ⟨by simpa [planU] using hB, h⟩
 | .pure i r, listed, a, w, hC, hB, h => by
  simp only [planU, Bool.and_eq_true] at hB
  obtain ⟨⟨⟨h1, h2⟩, h3⟩, h4⟩ := hB
  obtain ⟨o, v, ho, hy, hr⟩ := h
  exact wpAnyU_first (T := fun _ => True) ho (Region.noSelect_spec hs) (fun c a w hh => by cases hd : o.dst with | none => (rw [hd] at hh; exact hh) | some t => (rw [hd] at hh; exact hQ c a t v w hh)) (fun _ => True) (fun _ _ _ _ => trivial) (fun _ _ _ _ _ _ _ => trivial) (fun _ _ hz => by rw [hz] at h3; cases h3) _ listed a w trivial (Region.free_spec ho h2) (by simpa using h1) hy trivial (wpAnyU_tre hs hQ r _ _ _ (hC.set (by simpa using h1)) h4 hr)
 | .read i r, listed, a, w, hC, hB, h => by
  simp only [planU, Bool.and_eq_true] at hB
  obtain ⟨⟨⟨h1, h2⟩, h3⟩, h4⟩ := hB
  obtain ⟨hS, o, v, ho, hy, hr⟩ := h
  exact wpAnyU_first (T := S) ho (Region.noSelect_spec hs) (fun c a w hh => by cases hd : o.dst with | none => (rw [hd] at hh; exact hh) | some t => (rw [hd] at hh; exact hQ c a t v w hh)) (fun listed => Closed md ops listed ∧ waitU md ops Z listed i = true) (fun _ _ h hj => ⟨h.1.set hj, waitU_mono h.2⟩) (fun listed j w' hw hi hj hh => hh (waitU_spec hw.1 hw.2 (mem_ready.1 hi).1 hj)) (fun _ hw _ => hw) _ listed a w ⟨hC, h3⟩ (Region.free_spec ho h2) (by simpa using h1) hy hS (wpAnyU_tre hs hQ r _ _ _ (hC.set (by simpa using h1)) h4 hr)
 | .step i r, listed, a, w, hC, hB, h => by
  simp only [planU, Bool.and_eq_true, decide_eq_true_eq] at hB
  obtain ⟨h1, h4⟩ := hB
  obtain ⟨o, ho, hw⟩ := h
  refine ⟨fun h0 => (by rw [h1] at h0; cases h0), fun j hj => ?_⟩
  rw [h1] at hj
  have hji : j = i := by simpa using hj
  subst hji
  refine wpOp_mono (fun a' w' h' => ?_) (wpOp_of_list ho hw)
  have h'' : (Z.contains j = false → S w') ∧ goU P ops Q S Z r a' w' := h'
  exact ⟨h''.1, wpAnyU_tre hs hQ r _ _ _ (hC.set (by rw [h1]; simp)) h4 h''.2⟩
 | .two i j r s, listed, a, w, hC, hB, h => by
  simp only [planU, Bool.and_eq_true, decide_eq_true_eq] at hB
  obtain ⟨⟨⟨h1, h5⟩, h4⟩, h6⟩ := hB
  obtain ⟨o, p, ho, hp, hw, hw2⟩ := h
  refine ⟨fun h0 => (by rw [h1] at h0; cases h0), fun k hk => ?_⟩
  rw [h1] at hk
  rcases List.mem_cons.1 hk with rfl | hk
  ·refine wpOp_mono (fun a' w' h' => ?_) (wpOp_of_list ho hw)
   have h'' : (Z.contains k = false → S w') ∧ goU P ops Q S Z r a' w' := h'
   exact ⟨h''.1, wpAnyU_tre hs hQ r _ _ _ (hC.set (by rw [h1]; simp)) h4 h''.2⟩
  ·rw [List.mem_singleton] at hk
   subst hk
   refine wpOp_mono (fun a' w' h' => ?_) (wpOp_of_list hp hw2)
   have h'' : (Z.contains k = false → S w') ∧ goU P ops Q S Z s a' w' := h'
   have key := wpAnyU_tre hs hQ s _ _ _ (hC.set (by rw [h1]; simp)) h6 h''.2
   rw [← h5] at key
   exact ⟨h''.1, key⟩
 | .three i j k r s u, listed, a, w, hC, hB, h => by
  simp only [planU, Bool.and_eq_true, decide_eq_true_eq] at hB
  obtain ⟨⟨⟨⟨⟨h1, h5⟩, h7⟩, h4⟩, h6⟩, h8⟩ := hB
  obtain ⟨o, p, q, ho, hp, hq, hw, hw2, hw3⟩ := h
  refine ⟨fun h0 => (by rw [h1] at h0; cases h0), fun x hx => ?_⟩
  rw [h1] at hx
  rcases List.mem_cons.1 hx with rfl | hx
  ·refine wpOp_mono (fun a' w' h' => ?_) (wpOp_of_list ho hw)
   have h'' : (Z.contains x = false → S w') ∧ goU P ops Q S Z r a' w' := h'
   exact ⟨h''.1, wpAnyU_tre hs hQ r _ _ _ (hC.set (by rw [h1]; simp)) h4 h''.2⟩
  ·rcases List.mem_cons.1 hx with rfl | hx
   ·refine wpOp_mono (fun a' w' h' => ?_) (wpOp_of_list hp hw2)
    have h'' : (Z.contains x = false → S w') ∧ goU P ops Q S Z s a' w' := h'
    have key := wpAnyU_tre hs hQ s _ _ _ (hC.set (by rw [h1]; simp)) h6 h''.2
    rw [← h5] at key
    exact ⟨h''.1, key⟩
   ·rw [List.mem_singleton] at hx
    subst hx
    refine wpOp_mono (fun a' w' h' => ?_) (wpOp_of_list hq hw3)
    have h'' : (Z.contains x = false → S w') ∧ goU P ops Q S Z u a' w' := h'
    have key := wpAnyU_tre hs hQ u _ _ _ (hC.set (by rw [h1]; simp)) h8 h''.2
    rw [← h7] at key
    exact ⟨h''.1, key⟩
theorem goU_pure (d : Nat) {i : Nat} {o : Oper} {r : Tr5} {a : Act} {w : World} (ho : ops[i]? = some o) (hd : o.dst = some d) (v : Value) (hw : Region.wanted o (yielded ops a.tmps) = true) (hy : ∀ w, (execOp a.eval o).run P w = .ok (.value v) w) (h : goU P ops Q S Z r { a with tmps := a.tmps.setIfInBounds d v } w) : goU P ops Q S Z (.pure i r) a w :=
 ⟨o, v, ho, .inl ⟨hw, fun w _ => hy w⟩, by rw [put_some hd]; exact h⟩
theorem goU_read (d : Nat) {i : Nat} {o : Oper} {r : Tr5} {a : Act} {w : World} (hS : S w) (ho : ops[i]? = some o) (hd : o.dst = some d) (v : Value) (hw : Region.wanted o (yielded ops a.tmps) = true) (hy : ∀ w, S w → (execOp a.eval o).run P w = .ok (.value v) w) (h : goU P ops Q S Z r { a with tmps := a.tmps.setIfInBounds d v } w) : goU P ops Q S Z (.read i r) a w :=
 ⟨hS, o, v, ho, .inl ⟨hw, hy⟩, by rw [put_some hd]; exact h⟩
theorem goU_step {i : Nat} {o : Oper} {r : Tr5} {a : Act} {w : World} (ho : ops[i]? = some o) (h : wpList P ops (Exit.then (fun a' w' => (Z.contains i = false → S w') ∧ goU P ops Q S Z r a' w') Q) [o] a w) : goU P ops Q S Z (.step i r) a w := ⟨o, ho, h⟩
theorem goU_two {i j : Nat} {o p : Oper} {r s : Tr5} {a : Act} {w : World} (ho : ops[i]? = some o) (hp : ops[j]? = some p) (h : wpList P ops (Exit.then (fun a' w' => (Z.contains i = false → S w') ∧ goU P ops Q S Z r a' w') Q) [o] a w) (h2 : wpList P ops (Exit.then (fun a' w' => (Z.contains j = false → S w') ∧ goU P ops Q S Z s a' w') Q) [p] a w) : goU P ops Q S Z (.two i j r s) a w := ⟨o, p, ho, hp, h, h2⟩
theorem goU_three {i j k : Nat} {o p q : Oper} {r s u : Tr5} {a : Act} {w : World} (ho : ops[i]? = some o) (hp : ops[j]? = some p) (hq : ops[k]? = some q) (h : wpList P ops (Exit.then (fun a' w' => (Z.contains i = false → S w') ∧ goU P ops Q S Z r a' w') Q) [o] a w) (h2 : wpList P ops (Exit.then (fun a' w' => (Z.contains j = false → S w') ∧ goU P ops Q S Z s a' w') Q) [p] a w) (h3 : wpList P ops (Exit.then (fun a' w' => (Z.contains k = false → S w') ∧ goU P ops Q S Z u a' w') Q) [q] a w) : goU P ops Q S Z (.three i j k r s u) a w := ⟨o, p, q, ho, hp, hq, h, h2, h3⟩
end
theorem wp_region_tr5 {P : Program} {Q : Exit → Act → World → Prop} {id : Nat} {a : Act} {w : World} {L : List Oper} (t : Tr5) (Z : List Nat) (hm : P.follows .mixedOrders = true) (hl : t.deep = L.length) (hs : Region.noSelect L.toArray = true) (hB : planU .any L.toArray Z t (Array.replicate L.length false) = true)
  (hQ : ∀ c a t v w, Q (.panic c) (Act.put a (some t) v) w → Q (.panic c) a w) (S : World → Prop) (h : goU P L.toArray Q S Z t a w.drew) : (Code.region id L.toArray true).wp P Q a w := by
 refine wp_region_any hm (wpAny_of_U (S := S) (Z := Z) _ _ _ _ ?_)
 have hsz : L.toArray.size = L.length := by simp
 rw [hsz, ← hl]
 rw [← hl] at hB
 refine wpAnyU_tre hs hQ t _ a w.drew ?_ hB h
 intro j o _ hl
 rcases Nat.lt_or_ge j t.deep with h' | h'
 ·simp [h'] at hl
 ·simp [Nat.not_lt.2 h'] at hl
end Go.Proofs.YtdjpeimecfhdjaaGreat

namespace Go.Proofs.YtdjpeimecfhdjaaGreat
open Go.RowKit
section
variable {P : Program} {ops : Array Oper} {Q : Exit → Act → World → Prop} {md : Region.Mode} {S : World → Prop} {Z : List Nat}
theorem goG_skip (d : Nat) {i : Nat} {o : Oper} {r : Trg} {a : Act} {w : World} (hS : S w) (ho : ops[i]? = some o) (hd : o.dst = some d) (hw : Region.wanted o (yielded ops a.tmps) = false) (h : goG P ops Q S Z r { a with tmps := a.tmps.setIfInBounds d undef } w) : goG P ops Q S Z (.read i r) a w :=
 ⟨hS, o, undef, ho, .inr ⟨hw, rfl⟩, by rw [put_some hd]; exact h⟩
theorem goG_stepSkip (d : Nat) {i : Nat} {o : Oper} {r : Trg} {a : Act} {w : World} (hS : S w) (ho : ops[i]? = some o) (hd : o.dst = some d) (hw : Region.wanted o (yielded ops a.tmps) = false) (h : goG P ops Q S Z r { a with tmps := a.tmps.setIfInBounds d undef } w) : goG P ops Q S Z (.step i r) a w := by
 refine ⟨o, ho, ?_⟩
 unfold wpList
 rw [if_neg (by rw [hw]; simp)]
 unfold wpList
 refine ⟨fun _ => hS, ?_⟩
 rw [put_some hd]
 exact h
theorem goG_call (d : Nat) {i : Nat} {o : Oper} {r : Trg} {a : Act} {w : World} {f : FuncId} {args : Array Value} (ho : ops[i]? = some o) (hd : o.dst = some d) (hw : Region.wanted o (yielded ops a.tmps) = true) (hrun : (execOp a.eval o).run P w = .ok (.enter f args) w)
  {post : Ending → World → Prop} (hc : Calls P f args w post) (h : ∀ e w', post e w' → ∃ v, e = .returned v ∧ (Z.contains i = false → S w') ∧ goG P ops Q S Z r { a with tmps := a.tmps.setIfInBounds d v } w') : goG P ops Q S Z (.step i r) a w := by
 refine ⟨o, ho, ?_⟩
 unfold wpList
 rw [if_pos hw]
 left
 unfold Oper.wp
 rw [hrun]
 refine Calls.mono hc ?_
 intro e w' hp
 obtain ⟨v, rfl, h1, h2⟩ := h e w' hp
 show wpList P ops _ [] (a.put o.dst v) w'
 unfold wpList
 rw [put_some hd]
 exact ⟨h1, h2⟩
theorem goU_call (d : Nat) {i : Nat} {o : Oper} {r : Tr5} {a : Act} {w : World} {f : FuncId} {args : Array Value} (ho : ops[i]? = some o) (hd : o.dst = some d) (hw : Region.wanted o (yielded ops a.tmps) = true) (hrun : (execOp a.eval o).run P w = .ok (.enter f args) w)
  {post : Ending → World → Prop} (hc : Calls P f args w post) (h : ∀ e w', post e w' → ∃ v, e = .returned v ∧ (Z.contains i = false → S w') ∧ goU P ops Q S Z r { a with tmps := a.tmps.setIfInBounds d v } w') : goU P ops Q S Z (.step i r) a w := by
 refine ⟨o, ho, ?_⟩
 unfold wpList
 rw [if_pos hw]
 left
 unfold Oper.wp
 rw [hrun]
 refine Calls.mono hc ?_
 intro e w' hp
 obtain ⟨v, rfl, h1, h2⟩ := h e w' hp
 show wpList P ops _ [] (a.put o.dst v) w'
 unfold wpList
 rw [put_some hd]
 exact ⟨h1, h2⟩
end
def noPanic (Q : Exit → Act → World → Prop) : Exit → Act → World → Prop
 | .panic _, _, _ => False
 | e, a, w => Q e a w
theorem wp_region_trq {P : Program} {Q : Exit → Act → World → Prop} {id : Nat} {a : Act} {w : World} {L : List Oper} (t : Trg) (Z : List Nat) (hm : P.follows .mixedOrders = true) (hl : t.deep = L.length) (hs : Region.noSelect L.toArray = true) (hB : planG .any L.toArray Z t (Array.replicate L.length false) = true)
  (S : World → Prop) (h : goG P L.toArray (noPanic Q) S Z t a w.drew) : (Code.region id L.toArray true).wp P Q a w :=
 wp_mono (wp_region_trg t Z hm hl hs hB (fun _ _ _ _ _ h => h) S h) (fun e a w h => by cases e <;> first | exact h | exact h.elim)
theorem goG_nilN {P : Program} {ops : Array Oper} {Q : Exit → Act → World → Prop} {S : World → Prop} {Z : List Nat} {a : Act} {w : World} (h : Q .normal a w) : goG P ops (noPanic Q) S Z .nil a w := h
theorem goU_nilN {P : Program} {ops : Array Oper} {Q : Exit → Act → World → Prop} {S : World → Prop} {Z : List Nat} {a : Act} {w : World} (h : Q .normal a w) : goU P ops (noPanic Q) S Z .nil a w := h
theorem wp_region_tq5 {P : Program} {Q : Exit → Act → World → Prop} {id : Nat} {a : Act} {w : World} {L : List Oper} (t : Tr5) (Z : List Nat) (hm : P.follows .mixedOrders = true) (hl : t.deep = L.length) (hs : Region.noSelect L.toArray = true) (hB : planU .any L.toArray Z t (Array.replicate L.length false) = true)
  (S : World → Prop) (h : goU P L.toArray (noPanic Q) S Z t a w.drew) : (Code.region id L.toArray true).wp P Q a w :=
 wp_mono (wp_region_tr5 t Z hm hl hs hB (fun _ _ _ _ _ h => h) S h) (fun e a w h => by cases e <;> first | exact h | exact h.elim)
def blkOf (n : Nat) : Code → Option Code
 | .block m c => bif Nat.beq m n then some (.block m c) else blkOf n c
 | .seq a b => match blkOf n a with
  | some c => some c
  | none => blkOf n b
 | .cond _ a b => match blkOf n a with
  | some c => some c
  | none => blkOf n b
 | .loop c => blkOf n c
 | .scope c => blkOf n c
 | _ => none
def regOf (n : Nat) : Code → Option Code
 | .region m ops d => bif Nat.beq m n then some (.region m ops d) else none
 | .block _ c => regOf n c
 | .seq a b => match regOf n a with
  | some c => some c
  | none => regOf n b
 | .cond _ a b => match regOf n a with
  | some c => some c
  | none => regOf n b
 | .loop c => regOf n c
 | .scope c => regOf n c
 | _ => none
end Go.Proofs.YtdjpeimecfhdjaaGreat
