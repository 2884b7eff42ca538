/- Regions that draw their order: trees in which up to four operations may come up. Regions whose plan is checked state by state: reads first, then states that are shared. Package brandt: the operations of the region of products. -/
import Derived.Test.YtdjpeimecfhdjaaGreatSu
import Derived.Test.YtdjpeimecfhdjaaGreatSf
namespace Go.Proofs.YtdjpeimecfhdjaaGreat
open Go.RowKit
inductive Tr7 where
 | nil
 | read (i : Nat) (r : Tr7)
 | step (i : Nat) (r : Tr7)
 | two (i j : Nat) (r s : Tr7)
 | three (i j k : Nat) (r s t : Tr7)
 | four (i j k l : Nat) (r s t u : Tr7)
def Tr7.deep : Tr7 → Nat
 | .nil => 0
 | .read _ r => r.deep + 1
 | .step _ r => r.deep + 1
 | .two _ _ r _ => r.deep + 1
 | .three _ _ _ r _ _ => r.deep + 1
 | .four _ _ _ _ r _ _ _ => r.deep + 1
section
variable {P : Program} {ops : Array Oper} {Q : Exit → Act → World → Prop} {md : Region.Mode} {S : World → Prop} {Z : List Nat} {n : Nat}
def goB (P : Program) (ops : Array Oper) (Q : Exit → Act → World → Prop) (Z : List Nat) (S : World → Prop) (i : Nat) (go : Act → World → Prop) (a : Act) (w : World) : Prop :=
 ∃ o, ops[i]? = some o ∧ wpList P ops (Exit.then (fun a' w' => (Z.contains i = false → S w') ∧ go a' w') Q) [o] a w
def goX (P : Program) (ops : Array Oper) (Q : Exit → Act → World → Prop) (Z : List Nat) (S : World → Prop) : Tr7 → Act → World → Prop
 | .nil, a, w => Q .normal a w
 | .read i r, a, w => S w ∧ ∃ o v, ops[i]? = some o ∧ YieldsIf P ops S o v a ∧ goX P ops Q Z S r (a.put o.dst v) w
 | .step i r, a, w => goB P ops Q Z S i (goX P ops Q Z S r) a w
 | .two i j r s, a, w => goB P ops Q Z S i (goX P ops Q Z S r) a w ∧ goB P ops Q Z S j (goX P ops Q Z S s) a w
 | .three i j k r s t, a, w => goB P ops Q Z S i (goX P ops Q Z S r) a w ∧ goB P ops Q Z S j (goX P ops Q Z S s) a w ∧ goB P ops Q Z S k (goX P ops Q Z S t) a w
 | .four i j k l r s t u, a, w => goB P ops Q Z S i (goX P ops Q Z S r) a w ∧ goB P ops Q Z S j (goX P ops Q Z S s) a w ∧ goB P ops Q Z S k (goX P ops Q Z S t) a w ∧ goB P ops Q Z S l (goX P ops Q Z S u) a w
def planX (md : Region.Mode) (ops : Array Oper) (Z : List Nat) : Tr7 → Array Bool → Bool
 | .nil, L => (Region.ready md ops L).isEmpty
 | .read i r, L => (Region.ready md ops L).contains i && Region.free md ops L i && waitU md ops Z L i && planX md ops Z r (L.setIfInBounds i true)
 | .step i r, L => decide (Region.ready md ops L = [i]) && planX md ops Z r (L.setIfInBounds i true)
 | .two i j r s, L => decide (Region.ready md ops L = [i, j]) && decide (r.deep = s.deep) && planX md ops Z r (L.setIfInBounds i true) && planX md ops Z s (L.setIfInBounds j true)
 | .three i j k r s t, L => decide (Region.ready md ops L = [i, j, k]) && decide (r.deep = s.deep) && decide (r.deep = t.deep) && planX md ops Z r (L.setIfInBounds i true) && planX md ops Z s (L.setIfInBounds j true) && planX md ops Z t (L.setIfInBounds k true)
 | .four i j k l r s t u, L => decide (Region.ready md ops L = [i, j, k, l]) && decide (r.deep = s.deep) && decide (r.deep = t.deep) && decide (r.deep = u.deep) && planX md ops Z r (L.setIfInBounds i true) && planX md ops Z s (L.setIfInBounds j true) && planX md ops Z t (L.setIfInBounds k true) && planX md ops Z u (L.setIfInBounds l true)
theorem goB_op {i : Nat} {go : Act → World → Prop} {f : Nat} {L : Array Bool} {a : Act} {w : World} (h : goB P ops Q Z S i go a w) (hr : ∀ a' w', go a' w' → wpAnyM n P md ops Q S Z f (L.setIfInBounds i true) a' w') :
  wpOpM n P ops Q Z i (fun a' w' => (Z.contains i = false → S w') ∧ wpAnyM n P md ops Q S Z f (L.setIfInBounds i true) a' w') a w := by
 obtain ⟨o, ho, hw⟩ := h
 exact .inl (wpOp_mono (fun a' w' h' => ⟨h'.1, hr a' w' h'.2⟩) (wpOp_of_list ho hw))
theorem wpAnyM_tre7 (hs : Region.noSelect ops = true) (hQ : ∀ c a t v w, Q (.panic c) (Act.put a (some t) v) w → Q (.panic c) a w) : ∀ (t : Tr7) (L : Array Bool) (a : Act) (w : World), Closed md ops L → planX md ops Z t L = true → goX P ops Q Z S t a w → wpAnyM n P md ops Q S Z t.deep L a w
 | .nil, L, a, w, hC, hB, h => ⟨by simpa [planX] using hB, h⟩
 | .read i r, L, a, w, hC, hB, h => by
  simp only [planX, Bool.and_eq_true] at hB
  obtain ⟨⟨⟨h1, h2⟩, h3⟩, h4⟩ := hB
  obtain ⟨hS, o, v, ho, hy, hr⟩ := h
  exact wpAnyM_first ho (Region.noSelect_spec hs) (fun c a w hh => by cases hd : o.dst with | none => (rw [hd] at hh; exact hh) | some t => (rw [hd] at hh; exact hQ c a t v w hh)) _ L a w hC h3 (Region.free_spec ho h2) (by simpa using h1) hy hS (wpAnyM_tre7 hs hQ r _ _ _ (hC.set (by simpa using h1)) h4 hr)
 | .step i r, L, a, w, hC, hB, h => by
  simp only [planX, Bool.and_eq_true, decide_eq_true_eq] at hB
  obtain ⟨h1, h4⟩ := hB
  refine ⟨fun h0 => (by rw [h1] at h0; cases h0), fun j hj => ?_⟩
  rw [h1] at hj
  obtain rfl : j = i := by simpa using hj
  exact goB_op h fun a' w' hg => wpAnyM_tre7 hs hQ r _ _ _ (hC.set (by rw [h1]; simp)) h4 hg
 | .two i j r s, L, a, w, hC, hB, h => by
  simp only [planX, Bool.and_eq_true, decide_eq_true_eq] at hB
  obtain ⟨⟨⟨h1, e1⟩, p1⟩, p2⟩ := hB
  refine ⟨fun h0 => (by rw [h1] at h0; cases h0), fun x hx => ?_⟩
  have hm := hx
  rw [h1] at hx
  rcases (show x = i ∨ x = j by simpa using hx) with rfl | rfl
  ·exact goB_op h.1 fun a' w' hg => wpAnyM_tre7 hs hQ r _ _ _ (hC.set hm) p1 hg
  ·exact goB_op h.2 fun a' w' hg => e1 ▸ wpAnyM_tre7 hs hQ s _ _ _ (hC.set hm) p2 hg
 | .three i j k r s t, L, a, w, hC, hB, h => by
  simp only [planX, Bool.and_eq_true, decide_eq_true_eq] at hB
  obtain ⟨⟨⟨⟨⟨h1, e1⟩, e2⟩, p1⟩, p2⟩, p3⟩ := hB
  refine ⟨fun h0 => (by rw [h1] at h0; cases h0), fun x hx => ?_⟩
  have hm := hx
  rw [h1] at hx
  rcases (show x = i ∨ x = j ∨ x = k by simpa using hx) with rfl | rfl | rfl
  ·exact goB_op h.1 fun a' w' hg => wpAnyM_tre7 hs hQ r _ _ _ (hC.set hm) p1 hg
  ·exact goB_op h.2.1 fun a' w' hg => e1 ▸ wpAnyM_tre7 hs hQ s _ _ _ (hC.set hm) p2 hg
  ·exact goB_op h.2.2 fun a' w' hg => e2 ▸ wpAnyM_tre7 hs hQ t _ _ _ (hC.set hm) p3 hg
 | .four i j k l r s t u, L, a, w, hC, hB, h => by
  simp only [planX, Bool.and_eq_true, decide_eq_true_eq] at hB
  obtain ⟨⟨⟨⟨⟨⟨⟨h1, e1⟩, e2⟩, e3⟩, p1⟩, p2⟩, p3⟩, p4⟩ := hB
  refine ⟨fun h0 => (by rw [h1] at h0; cases h0), fun x hx => ?_⟩
  have hm := hx
  rw [h1] at hx
  rcases (show x = i ∨ x = j ∨ x = k ∨ x = l by simpa using hx) with rfl | rfl | rfl | rfl
  ·exact goB_op h.1 fun a' w' hg => wpAnyM_tre7 hs hQ r _ _ _ (hC.set hm) p1 hg
  ·exact goB_op h.2.1 fun a' w' hg => e1 ▸ wpAnyM_tre7 hs hQ s _ _ _ (hC.set hm) p2 hg
  ·exact goB_op h.2.2.1 fun a' w' hg => e2 ▸ wpAnyM_tre7 hs hQ t _ _ _ (hC.set hm) p3 hg
  ·exact goB_op h.2.2.2 fun a' w' hg => e3 ▸ wpAnyM_tre7 hs hQ u _ _ _ (hC.set hm) p4 hg
theorem goX_read (d : Nat) {i : Nat} {o : Oper} {r : Tr7} {a : Act} {w : World} (hS : S w) (ho : ops[i]? = some o) (hd : o.dst = some d) (v : Value) (hw : Region.wanted o (yielded ops a.tmps) = true) (hy : ∀ w, S w → (execOp a.eval o).run P w = .ok (.value v) w) (h : goX P ops Q Z S r { a with tmps := a.tmps.setIfInBounds d v } w) : goX P ops Q Z S (.read i r) a w :=
 ⟨hS, o, v, ho, .inl ⟨hw, hy⟩, by rw [put_some hd]; exact h⟩
theorem goX_step {i : Nat} {o : Oper} {go : Act → World → Prop} {a : Act} {w : World} (ho : ops[i]? = some o) (h : wpList P ops (Exit.then (fun a' w' => (Z.contains i = false → S w') ∧ go a' w') Q) [o] a w) : goB P ops Q Z S i go a w := ⟨o, ho, h⟩
theorem goX_call (d : Nat) {i : Nat} {o : Oper} {go : Act → World → Prop} {a : Act} {w : World} {f : FuncId} {args : Array Value} (ho : ops[i]? = some o) (hd : o.dst = some d) (hw : Region.wanted o (yielded ops a.tmps) = true) (hrun : (execOp a.eval o).run P w = .ok (.enter f args) w)
  {post : Ending → World → Prop} (hc : Calls P f args w post) (h : ∀ e w', post e w' → ∃ v, e = .returned v ∧ (Z.contains i = false → S w') ∧ go { a with tmps := a.tmps.setIfInBounds d v } w') : goB P ops Q Z S i go a w := by
 refine ⟨o, ho, ?_⟩
 unfold wpList
 rw [if_pos hw]
 left
 unfold Oper.wp
 rw [hrun]
 refine Calls.mono hc ?_
 intro e w' hp
 obtain ⟨v, rfl, h1, h2⟩ := h e w' hp
 show wpList P ops _ [] (a.put o.dst v) w'
 unfold wpList
 rw [put_some hd]
 exact ⟨h1, h2⟩
theorem goX_nil {a : Act} {w : World} (h : Q .normal a w) : goX P ops (onlyN Q) Z S .nil a w := h
end
theorem wp_region_tr7 {P : Program} {Q : Exit → Act → World → Prop} {id : Nat} {a : Act} {w : World} {L : List Oper} (t : Tr7) (Z : List Nat) (hm : P.follows .mixedOrders = true) (hl : t.deep = L.length) (hs : Region.noSelect L.toArray = true) (hB : planX .any L.toArray Z t (Array.replicate L.length false) = true)
  (S : World → Prop) (h : goX P L.toArray (onlyN Q) Z S t a w.drew) : (Code.region id L.toArray true).wp P Q a w := by
 refine wp_mono (Q := onlyN Q) (wpIn_wide (n := 1) |>.1 ?_) (fun e a w h => by cases e <;> first | exact h | exact h.elim)
 refine wpIn_region_any hm (wpAnyIn_of_M (S := S) (Z := Z) (fun ⟨_, _, h⟩ => h) _ _ _ _ ?_)
 have hsz : L.toArray.size = L.length := by simp
 rw [hsz, ← hl]
 rw [← hl] at hB
 refine wpAnyM_tre7 hs (fun _ _ _ _ _ h => h) t _ a w.drew ?_ hB h
 intro j o _ hl
 rcases Nat.lt_or_ge j t.deep with h' | h'
 ·simp [h'] at hl
 ·simp [Nat.not_lt.2 h'] at hl
end Go.Proofs.YtdjpeimecfhdjaaGreat

namespace Go.Proofs.YtdjpeimecfhdjaaGreat
open Go.RowKit
def rdT : List Nat → Tr7 → Tr7
 | [], t => t
 | i :: l, t => .read i (rdT l t)
def rdL : List Nat → Array Bool → Array Bool
 | [], L => L
 | i :: l, L => rdL l (L.setIfInBounds i true)
def rdP (md : Region.Mode) (ops : Array Oper) (Z : List Nat) : List Nat → Array Bool → Bool
 | [], _ => true
 | i :: l, L => (Region.ready md ops L).contains i && Region.free md ops L i && waitU md ops Z L i && rdP md ops Z l (L.setIfInBounds i true)
theorem planX_rd {md : Region.Mode} {ops : Array Oper} {Z : List Nat} {t : Tr7} : ∀ (l : List Nat) (L : Array Bool), rdP md ops Z l L = true → planX md ops Z t (rdL l L) = true → planX md ops Z (rdT l t) L = true
 | [], _, _, h => h
 | i :: l, L, h1, h2 => by
  unfold rdP at h1
  simp only [Bool.and_eq_true] at h1
  show ((Region.ready md ops L).contains i && Region.free md ops L i && waitU md ops Z L i && planX md ops Z (rdT l t) (L.setIfInBounds i true)) = true
  simp only [Bool.and_eq_true]
  exact ⟨h1.1, planX_rd l _ h1.2 h2⟩
section
variable {md : Region.Mode} {ops : Array Oper} {Z : List Nat} {i j k l : Nat} {r s t u : Tr7} {L Li Lj Lk Ll : Array Bool}
theorem planX_step (h : Region.ready md ops L = [i]) (ei : L.setIfInBounds i true = Li) (p : planX md ops Z r Li = true) : planX md ops Z (.step i r) L = true := by
 show (decide (Region.ready md ops L = [i]) && planX md ops Z r (L.setIfInBounds i true)) = true
 rw [ei, p, decide_eq_true h]
 rfl
theorem planX_two (h : Region.ready md ops L = [i, j]) (d : r.deep = s.deep) (ei : L.setIfInBounds i true = Li) (ej : L.setIfInBounds j true = Lj) (p : planX md ops Z r Li = true) (q : planX md ops Z s Lj = true) : planX md ops Z (.two i j r s) L = true := by
 show (decide (Region.ready md ops L = [i, j]) && decide (r.deep = s.deep) && planX md ops Z r (L.setIfInBounds i true) && planX md ops Z s (L.setIfInBounds j true)) = true
 rw [ei, ej, p, q, decide_eq_true h, decide_eq_true d]
 rfl
theorem planX_three (h : Region.ready md ops L = [i, j, k]) (d : r.deep = s.deep) (e : r.deep = t.deep) (ei : L.setIfInBounds i true = Li) (ej : L.setIfInBounds j true = Lj) (ek : L.setIfInBounds k true = Lk) (p : planX md ops Z r Li = true) (q : planX md ops Z s Lj = true) (q2 : planX md ops Z t Lk = true) : planX md ops Z (.three i j k r s t) L = true := by
 show (decide (Region.ready md ops L = [i, j, k]) && decide (r.deep = s.deep) && decide (r.deep = t.deep) && planX md ops Z r (L.setIfInBounds i true) && planX md ops Z s (L.setIfInBounds j true) && planX md ops Z t (L.setIfInBounds k true)) = true
 rw [ei, ej, ek, p, q, q2, decide_eq_true h, decide_eq_true d, decide_eq_true e]
 rfl
theorem planX_four (h : Region.ready md ops L = [i, j, k, l]) (d : r.deep = s.deep) (e : r.deep = t.deep) (f : r.deep = u.deep) (ei : L.setIfInBounds i true = Li) (ej : L.setIfInBounds j true = Lj) (ek : L.setIfInBounds k true = Lk) (el : L.setIfInBounds l true = Ll) (p : planX md ops Z r Li = true) (q : planX md ops Z s Lj = true) (q2 : planX md ops Z t Lk = true) (q3 : planX md ops Z u Ll = true) : planX md ops Z (.four i j k l r s t u) L = true := by
 show (decide (Region.ready md ops L = [i, j, k, l]) && decide (r.deep = s.deep) && decide (r.deep = t.deep) && decide (r.deep = u.deep) && planX md ops Z r (L.setIfInBounds i true) && planX md ops Z s (L.setIfInBounds j true) && planX md ops Z t (L.setIfInBounds k true) && planX md ops Z u (L.setIfInBounds l true)) = true
 rw [ei, ej, ek, el, p, q, q2, q3, decide_eq_true h, decide_eq_true d, decide_eq_true e, decide_eq_true f]
 rfl
end
def lsA (n : Nat) (B : List Nat) : Array Bool := ((List.range n).map fun k => !(B.contains k)).toArray
end Go.Proofs.YtdjpeimecfhdjaaGreat

namespace Go.Proofs.YtdjpeimecfhdjaaGreat
open Go.RowKit
def opsL : Code → List Oper
 | .region _ o _ => o.toList
 | _ => []
noncomputable def tmrC : Code := (regOf 2 ((Tryz.f183.body).getD .skip)).getD .skip
noncomputable def tmO : Array Oper := (opsL tmrC).toArray
def tmC0 : List Nat := [0, 1, 2, 3, 4, 5, 6, 7, 8, 9, 10, 11, 12, 13, 14, 15, 16, 17, 18, 19]
def tmC1 : List Nat := [20, 21, 22, 23, 24, 25, 26, 27, 28, 29, 30, 31, 32, 33, 36, 37, 38, 39, 40, 41]
def tmC2 : List Nat := [42, 43, 44, 45, 46, 47, 48, 49, 50, 51, 52, 53, 54, 55, 56, 57, 58, 59, 60, 61]
def tmC3 : List Nat := [62, 63, 64, 65, 66, 69, 70, 71, 72, 73, 74, 75, 76, 77, 78, 79, 80, 81, 82, 83]
def tmC4 : List Nat := [84, 85, 86, 87, 88, 89, 90, 91, 92, 93, 94, 95, 96, 97, 98, 99, 102, 103, 104, 105]
def tmC5 : List Nat := [106, 107, 108, 109, 110, 111, 112, 113, 114, 115, 116, 117, 118, 119, 120, 121, 122, 123, 124, 125]
def tmC6 : List Nat := [126, 127, 128, 129]
end Go.Proofs.YtdjpeimecfhdjaaGreat
