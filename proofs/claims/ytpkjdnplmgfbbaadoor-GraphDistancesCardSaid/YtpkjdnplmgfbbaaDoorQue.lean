/- A queue of edges in memory; what a function may have written. -/
import Derived.Test.YtpkjdnplmgfbbaaDoorChk
import Derived.ArgAppend
import Derived.Shelf.Abstract
import Derived.Deep.LoopGhost
namespace Go.Proofs.YtpkjdnplmgfbbaaDoor
open Go.RowKit

/-- From w to w' nothing has been written but new blocks and those of O. -/
structure Fr (O : Nat → Prop) (w w' : World) : Prop where
  os : w'.os = w.os
  tape : w'.tape = w.tape
  output : w'.output = w.output
  size : w.heap.size ≤ w'.heap.size
  block : ∀ b, b < w.heap.size → ¬ O b → w'.heap[b]? = w.heap[b]?

section
variable {O O' : Nat → Prop} {w w' w'' : World}
theorem Fr.refl (O : Nat → Prop) (w : World) : Fr O w w := ⟨rfl, rfl, rfl, Nat.le_refl _, fun _ _ _ => rfl⟩
theorem Fr.trans (h : Fr O w w') (k : Fr O w' w'') : Fr O w w'' :=
  ⟨k.os.trans h.os, k.tape.trans h.tape, k.output.trans h.output, Nat.le_trans h.size k.size, fun b hb ho => (k.block b (Nat.lt_of_lt_of_le hb h.size) ho).trans (h.block b hb ho)⟩
theorem Fr.mono (h : Fr O w w') (hO : ∀ b, b < w.heap.size → O b → O' b) : Fr O' w w' := ⟨h.os, h.tape, h.output, h.size, fun b hb ho => h.block b hb fun h2 => ho (hO b hb h2)⟩
theorem Fr.of_below {B : Nat} (h : Below B w w') : Fr (B ≤ ·) w w' := ⟨h.os, h.tape, h.output, h.size, fun b _ ho => h.block b (Nat.lt_of_not_le ho)⟩
theorem Fr.of_below' (h : Below w.heap.size w w') : Fr O w w' := ⟨h.os, h.tape, h.output, h.size, fun b hb _ => h.block b hb⟩
/-- Below B nothing has been written. -/
theorem Fr.below {B : Nat} (h : Fr O w w') (hB : B ≤ w.heap.size) (hO : ∀ b, O b → B ≤ b) : Below B w w' := ⟨h.os, h.tape, h.output, h.size, fun b hb => h.block b (by omega) fun ho => by have := hO b ho; omega⟩
theorem Fr.cell (h : Fr O w w') {b o : Nat} (hb : b < w.heap.size) (ho : ¬ O b) : w'.cell? ⟨b, o, none⟩ = w.cell? ⟨b, o, none⟩ := World.cell?_of_block (w := w) (h.block b hb ho)
theorem Fr.arr {g : Nat} {t : TypeId} {xs : List Value} (h : Fr O w w') (ha : Arr w g t xs) (ho : ¬ O g) : Arr w' g t xs := (h.block g ha.lt ho).trans ha
theorem Fr.grown {row : Option Nat} (h : w.grownBy w' row) (hr : ∀ k, row = some k → k < w.heap.size → O k) : Fr O w w' :=
  ⟨h.os, h.tape, h.output, h.size, fun b hb ho => h.block b hb fun e => ho (hr b e.symm hb)⟩
theorem Fr.setCell {p : Addr} (hp : p.block < w.heap.size → O p.block) (u : Value) : Fr O w (w.setCell p u) :=
  ⟨rfl, rfl, rfl, by simp [World.setCell], fun b hb ho => Below.heap_setCell _ _ _ _ (fun e => ho (by subst e; exact hp hb))⟩
theorem Fr.drew (h : Fr O w w') : Fr O w w'.drew := ⟨h.os, h.tape, h.output, h.size, h.block⟩
end

/-- The slice value v holds the edges xs, in a block of the call's own. -/
def Que (w : World) (base : Nat) (v : Value) (xs : List (Nat × Nat)) : Prop :=
  ∃ A c, v = .slice A xs.length c ∧ xs.length ≤ c ∧ c ≤ maxLen ∧ (0 < xs.length → ∃ g off cs, A = some ⟨g, off, none⟩ ∧ base ≤ g ∧ w.heap[g]? = some (.cells cs 138 (0, 0)) ∧ off + c * 2 ≤ cs.size ∧
    ∀ (j : Nat) p, xs[j]? = some p → cs[off + 2 * j]? = some (.int .i64 (p.1 : Nat)) ∧ cs[off + (2 * j + 1)]? = some (.int .i64 (p.2 : Nat)))

/-- The block of a queue. -/
def qb : Value → Option Nat
  | .slice (some a) (_ + 1) _ => some a.block
  | _ => none

section
variable {w w' : World} {base : Nat} {v : Value} {xs : List (Nat × Nat)}
theorem Que.keep (h : Que w base v xs) (hk : ∀ g, qb v = some g → base ≤ g → g < w.heap.size → w'.heap[g]? = w.heap[g]?) : Que w' base v xs := by
  obtain ⟨A, c, rfl, h1, h2, h3⟩ := h
  refine ⟨A, c, rfl, h1, h2, fun h0 => ?_⟩
  obtain ⟨g, off, cs, rfl, h4, h5, h6, h7⟩ := h3 h0
  refine ⟨g, off, cs, rfl, h4, ?_, h6, h7⟩
  obtain ⟨m, hm⟩ : ∃ m, xs.length = m + 1 := ⟨xs.length - 1, by omega⟩
  rw [hk g (by rw [hm]; rfl) h4 (Array.getElem?_eq_some_iff.1 h5).1, h5]
theorem Que.below (h : Que w base v xs) (hb : Below w.heap.size w w') : Que w' base v xs := h.keep fun g _ _ hg => hb.block g hg
theorem Que.one (w : World) (a : Nat) : Que (w.alloc (.cells #[.int .i64 (a : Nat), .int .i64 (a : Nat)] 138)) w.heap.size (.slice (some ⟨w.heap.size, 0, none⟩) 1 1) [(a, a)] := by
  refine ⟨_, 1, rfl, Nat.le_refl _, by unfold maxLen; omega, fun _ => ⟨_, 0, _, rfl, Nat.le_refl _, heap_alloc_new w _, by simp, fun j p hp => ?_⟩⟩
  cases j with
  | zero => simp at hp; subst hp; simp
  | succ j => simp at hp
/-- The first edge. -/
theorem Que.head {p : Nat × Nat} {r : List (Nat × Nat)} (h : Que w base v (p :: r)) : ∃ g off c, v = .slice (some ⟨g, off, none⟩) (r.length + 1) c ∧ r.length + 1 ≤ c ∧ c ≤ maxLen ∧ base ≤ g ∧ g < w.heap.size ∧ w.cell? ⟨g, off, none⟩ = some (.int .i64 (p.1 : Nat)) ∧ w.cell? ⟨g, off + 1, none⟩ = some (.int .i64 (p.2 : Nat)) ∧
    qb v = some g := by
  obtain ⟨A, c, rfl, h1, h2, h3⟩ := h
  obtain ⟨g, off, cs, rfl, h4, h5, h6, h7⟩ := h3 (by simp)
  obtain ⟨h8, h9⟩ := h7 0 p rfl
  refine ⟨g, off, c, rfl, h1, h2, h4, (Array.getElem?_eq_some_iff.1 h5).1, ?_, ?_, rfl⟩
  · rw [cell_of_row w g off _ _ _ h5]; simpa using h8
  · rw [cell_of_row w g (off + 1) _ _ _ h5]; simpa using h9
/-- Without the first edge. -/
theorem Que.pop {p : Nat × Nat} {r : List (Nat × Nat)} {g off c : Nat} (h : Que w base (.slice (some ⟨g, off, none⟩) (r.length + 1) c) (p :: r)) (A : Option Addr) (hA : c ≠ 1 → A = some ⟨g, off + 2, none⟩) : Que w base (.slice A r.length (c - 1)) r := by
  obtain ⟨A', c', e, h1, h2, h3⟩ := h
  obtain ⟨g', off', cs, rfl, h4, h5, h6, h7⟩ := h3 (by simp)
  injection e with e1 e2 e3
  injection e1 with e1
  injection e1 with e4 e5
  subst e4 e5 e3
  simp only [List.length_cons] at h1
  refine ⟨A, c - 1, rfl, by omega, by omega, fun h0 => ⟨g, off + 2, cs, hA (by omega), h4, h5, by omega, fun j q hq => ?_⟩⟩
  obtain ⟨h8, h9⟩ := h7 (j + 1) q hq
  refine ⟨?_, ?_⟩
  · rw [← h8]; congr 1; omega
  · rw [← h9]; congr 1; omega
end

section
variable (w : World)
theorem info_edge : (Tryd.prog.info? 138).map (fun i => (i.zero, i.size, i.bytes)) = some (some (.agg #[.int .i64 0, .int .i64 0]), 2, 16) := by kernel_rfl

/-- queue = append(queue, edge{x, y}), the edge in a block that was made just before. -/
theorem wpList_pushQ {ops : Array Oper} {rest : List Oper} {o : Oper} {a : Act} {Q : Exit → Act → World → Prop} (hgd : o.guard = none) (s x : Operand)
    (ho : o.op = .call { callee := .builtin .append, args := #[s, x], argTypes := #[142, 142] })
    (base : Nat) (v : Value) (p : Nat × Nat) (r : List (Nat × Nat)) (hs : a.eval s = v) (hq : Que w base v (p :: r))
    (k m : Int) (q : Nat × Nat) (hk : k = (q.1 : Nat)) (hm : m = (q.2 : Nat)) (hx : a.eval x = .slice (some ⟨w.heap.size, 0, none⟩) 1 1)
    (hlen : r.length + 2 ≤ 1000000)
    (h : ∀ v' w', Que w' base v' (p :: r ++ [q]) → Fr (fun b => qb v = some b) w w' → (qb v' = qb v ∨ ∃ b, qb v' = some b ∧ w.heap.size ≤ b) → wpList Tryd.prog ops Q rest (a.put o.dst v') w') :
    wpList Tryd.prog ops Q (o :: rest) a (w.alloc (.cells #[.int .i64 k, .int .i64 m] 138)) := by
  subst hk hm
  obtain ⟨A, c, e, h1, h2, h3⟩ := hq
  obtain ⟨g, off, cs, rfl, h4, h5, h6, h7⟩ := h3 (by simp)
  subst e
  simp only [List.length_cons] at h1 hs
  have hgl : g < w.heap.size := (Array.getElem?_eq_some_iff.1 h5).1
  have h5' : (w.alloc (.cells #[.int .i64 (q.1 : Nat), .int .i64 (q.2 : Nat)] 138)).heap[g]? = some (.cells cs 138 (0, 0)) := (Below.heap_alloc w _ g hgl).trans h5
  obtain ⟨i, hi, hz, hsz, hby⟩ := info_parts info_edge
  refine wpList_append_arg _ hgd s x 142 ho 138 i _ 2 16 Tryd.underlying142 hi hz hsz hby rfl (by omega) g off (r.length + 1) c (cs.toList.drop off |>.take ((r.length + 1) * 2)) hs ?_ ?_ ⟨w.heap.size, 0, none⟩ 1 1 [.int .i64 (q.1 : Nat), .int .i64 (q.2 : Nat)] hx rfl ?_ (by simp [Value.oneCell']) ?_ (by unfold maxLen; omega) (by omega) ?_ ?_
  · have hcl : cs.toList.length = cs.size := Array.length_toList
    rw [List.length_take, List.length_drop, hcl]; omega
  · intro j u hu
    rw [cell_of_row _ g (off + j) _ _ _ h5']
    rw [List.getElem?_take] at hu
    split at hu
    · rw [List.getElem?_drop] at hu
      simpa using hu
    · cases hu
  · intro j u hu
    rw [Addr.add_lit]
    rw [World.cell?_alloc_at _ _ _ _ rfl]
    simpa using hu
  · intro hc j hj
    constructor
    · rw [cell_of_row _ g _ _ _ _ h5']
      simp at hj
      rw [Array.getElem?_eq_getElem (by omega)]
      rfl
    · simp [World.frozen?, h5']
  · intro hc
    have ha : Arr (w.alloc (.cells #[.int .i64 (q.1 : Nat), .int .i64 (q.2 : Nat)] 138)) g 138 cs.toList := by unfold Arr; simpa using h5'
    have ha1 := ha.set_ (off + (r.length + 1) * 2) (.int .i64 (q.1 : Nat))
    have ha2 := ha1.set_ (off + (r.length + 1) * 2 + 1) (.int .i64 (q.2 : Nat))
    have hcl : cs.toList.length = cs.size := Array.length_toList
    refine h _ _ ⟨some ⟨g, off, none⟩, c, by simp, by simp; omega, h2, fun _ => ⟨g, off, _, rfl, h4, ha2, by simp; omega, fun j u hu => ?_⟩⟩ ?_ (.inl rfl)
    · have hjl := lt_of_some hu
      simp only [List.length_append, List.length_cons, List.length_nil] at hjl
      simp only [List.getElem?_toArray, List.getElem?_set, List.length_set, hcl]
      rcases getElem?_snoc_cases hu with ⟨hj, hu2⟩ | ⟨hj, hu2⟩
      · simp only [List.length_cons] at hj
        obtain ⟨h8, h9⟩ := h7 j u hu2
        rw [if_neg (by omega), if_neg (by omega), if_neg (by omega), if_neg (by omega)]
        exact ⟨by simpa using h8, by simpa using h9⟩
      · simp only [List.length_cons] at hj
        subst hj hu2
        rw [if_neg (by omega), if_pos (by omega), if_pos (by omega), if_pos (by omega), if_pos (by omega)]
        exact ⟨rfl, rfl⟩
    · have f1 : Fr (fun b => some g = some b) w (w.alloc (.cells #[.int .i64 (q.1 : Nat), .int .i64 (q.2 : Nat)] 138)) := Fr.of_below' ((Below.refl _ _).alloc (Nat.le_refl _) _)
      exact (f1.trans (Fr.setCell (O := fun b => some g = some b) (p := ⟨g, off + (r.length + 1) * 2, none⟩) (fun _ => rfl) _)).trans (Fr.setCell (O := fun b => some g = some b) (p := ⟨g, off + (r.length + 1) * 2 + 1, none⟩) (fun _ => rfl) _)
  · intro hc v' w' hown hg
    obtain ⟨hl, hv⟩ := hown
    rcases hv with ⟨_, h0⟩ | ⟨g', cap, cur, rfl, hg1, hg2, hg3, hg4, hg5, hg6⟩
    · omega
    · have f1 : Fr (fun b => some g = some b) w (w.alloc (.cells #[.int .i64 (q.1 : Nat), .int .i64 (q.2 : Nat)] 138)) := Fr.of_below' ((Below.refl _ _).alloc (Nat.le_refl _) _)
      have f2 : Fr (fun b => some g = some b) (w.alloc (.cells #[.int .i64 (q.1 : Nat), .int .i64 (q.2 : Nat)] 138)) w' := Fr.grown hg (fun k hk => by cases hk)
      have hg1' : w.heap.size + 1 ≤ g' := by simpa using hg1
      refine h _ _ ⟨some ⟨g', 0, none⟩, cap, by simp, by simp; omega, hg4, fun _ => ⟨g', 0, cur, rfl, by omega, hg2, by omega, fun j u hu => ?_⟩⟩ (f1.trans f2) (.inr ⟨g', rfl, by omega⟩)
      have hcl : cs.toList.length = cs.size := Array.length_toList
      have hlt : ((cs.toList.drop off).take ((r.length + 1) * 2)).length = (r.length + 1) * 2 := by rw [List.length_take, List.length_drop, hcl]; omega
      have hread : ∀ i, i < (r.length + 1 + 1) * 2 → cur[0 + i]? = (((cs.toList.drop off).take ((r.length + 1) * 2)) ++ [.int .i64 (q.1 : Nat), .int .i64 (q.2 : Nat)])[i]? := by
        intro i hi
        rw [← hg6, List.getElem?_take, if_pos hi]
        simp
      have hjl := lt_of_some hu
      simp only [List.length_append, List.length_cons, List.length_nil] at hjl
      rw [hread _ (by omega), hread _ (by omega)]
      rcases getElem?_snoc_cases hu with ⟨hj, hu2⟩ | ⟨hj, hu2⟩
      · simp only [List.length_cons] at hj
        obtain ⟨h8, h9⟩ := h7 j u hu2
        rw [List.getElem?_append_left (by omega), List.getElem?_append_left (by omega), List.getElem?_take, if_pos (by omega), List.getElem?_take, if_pos (by omega), List.getElem?_drop, List.getElem?_drop]
        exact ⟨by simpa using h8, by simpa using h9⟩
      · simp only [List.length_cons] at hj
        subst hj hu2
        rw [List.getElem?_append_right (by omega), List.getElem?_append_right (by omega), hlt]
        have e1 : 2 * (r.length + 1) - (r.length + 1) * 2 = 0 := by omega
        have e2 : 2 * (r.length + 1) + 1 - (r.length + 1) * 2 = 1 := by omega
        rw [e1, e2]
        exact ⟨rfl, rfl⟩
end
end Go.Proofs.YtpkjdnplmgfbbaaDoor
