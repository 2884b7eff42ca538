/- A queue of edges in memory; what a function may have written. graph.search, with whatever function it tells the vertices. -/
import Derived.Test.YtpkjdnplmgfbbaaGreatDoorG3
import Derived.ArgAppend
import Derived.Shelf.Abstract
import Derived.Deep.LoopGhost
namespace Go.Proofs.YtpkjdnplmgfbbaaGreatDoor
open Go.RowKit

/-- From w to w' nothing has been written but new blocks and those of O. -/
structure Fr (O : Nat → Prop) (w w' : World) : Prop where
  os : w'.os = w.os
  tape : w'.tape = w.tape
  output : w'.output = w.output
  size : w.heap.size ≤ w'.heap.size
  block : ∀ b, b < w.heap.size → ¬ O b → w'.heap[b]? = w.heap[b]?

section
variable {O O' : Nat → Prop} {w w' w'' : World}
theorem Fr.refl (O : Nat → Prop) (w : World) : Fr O w w := ⟨rfl, rfl, rfl, Nat.le_refl _, fun _ _ _ => rfl⟩
theorem Fr.trans (h : Fr O w w') (k : Fr O w' w'') : Fr O w w'' :=
  ⟨k.os.trans h.os, k.tape.trans h.tape, k.output.trans h.output, Nat.le_trans h.size k.size, fun b hb ho => (k.block b (Nat.lt_of_lt_of_le hb h.size) ho).trans (h.block b hb ho)⟩
theorem Fr.mono (h : Fr O w w') (hO : ∀ b, b < w.heap.size → O b → O' b) : Fr O' w w' := ⟨h.os, h.tape, h.output, h.size, fun b hb ho => h.block b hb fun h2 => ho (hO b hb h2)⟩
theorem Fr.of_below {B : Nat} (h : Below B w w') : Fr (B ≤ ·) w w' := ⟨h.os, h.tape, h.output, h.size, fun b _ ho => h.block b (Nat.lt_of_not_le ho)⟩
theorem Fr.of_below' (h : Below w.heap.size w w') : Fr O w w' := ⟨h.os, h.tape, h.output, h.size, fun b hb _ => h.block b hb⟩
/-- Below B nothing has been written. -/
theorem Fr.below {B : Nat} (h : Fr O w w') (hB : B ≤ w.heap.size) (hO : ∀ b, O b → B ≤ b) : Below B w w' := ⟨h.os, h.tape, h.output, h.size, fun b hb => h.block b (by omega) fun ho => by have := hO b ho; omega⟩
theorem Fr.cell (h : Fr O w w') {b o : Nat} (hb : b < w.heap.size) (ho : ¬ O b) : w'.cell? ⟨b, o, none⟩ = w.cell? ⟨b, o, none⟩ := World.cell?_of_block (w := w) (h.block b hb ho)
theorem Fr.arr {g : Nat} {t : TypeId} {xs : List Value} (h : Fr O w w') (ha : Arr w g t xs) (ho : ¬ O g) : Arr w' g t xs := (h.block g ha.lt ho).trans ha
theorem Fr.grown {row : Option Nat} (h : w.grownBy w' row) (hr : ∀ k, row = some k → k < w.heap.size → O k) : Fr O w w' :=
  ⟨h.os, h.tape, h.output, h.size, fun b hb ho => h.block b hb fun e => ho (hr b e.symm hb)⟩
theorem Fr.setCell {p : Addr} (hp : p.block < w.heap.size → O p.block) (u : Value) : Fr O w (w.setCell p u) :=
  ⟨rfl, rfl, rfl, by simp [World.setCell], fun b hb ho => Below.heap_setCell _ _ _ _ (fun e => ho (by subst e; exact hp hb))⟩
theorem Fr.drew (h : Fr O w w') : Fr O w w'.drew := ⟨h.os, h.tape, h.output, h.size, h.block⟩
end

/-- The slice value v holds the edges xs, in a block of the call's own. -/
def Que (w : World) (base : Nat) (v : Value) (xs : List (Nat × Nat)) : Prop :=
  ∃ A c, v = .slice A xs.length c ∧ xs.length ≤ c ∧ c ≤ maxLen ∧ (0 < xs.length → ∃ g off cs, A = some ⟨g, off, none⟩ ∧ base ≤ g ∧ w.heap[g]? = some (.cells cs 145 (0, 0)) ∧ off + c * 2 ≤ cs.size ∧
    ∀ (j : Nat) p, xs[j]? = some p → cs[off + 2 * j]? = some (.int .i64 (p.1 : Nat)) ∧ cs[off + (2 * j + 1)]? = some (.int .i64 (p.2 : Nat)))

/-- The block of a queue. -/
def qb : Value → Option Nat
  | .slice (some a) (_ + 1) _ => some a.block
  | _ => none

section
variable {w w' : World} {base : Nat} {v : Value} {xs : List (Nat × Nat)}
theorem Que.keep (h : Que w base v xs) (hk : ∀ g, qb v = some g → base ≤ g → g < w.heap.size → w'.heap[g]? = w.heap[g]?) : Que w' base v xs := by
  obtain ⟨A, c, rfl, h1, h2, h3⟩ := h
  refine ⟨A, c, rfl, h1, h2, fun h0 => ?_⟩
  obtain ⟨g, off, cs, rfl, h4, h5, h6, h7⟩ := h3 h0
  refine ⟨g, off, cs, rfl, h4, ?_, h6, h7⟩
  obtain ⟨m, hm⟩ : ∃ m, xs.length = m + 1 := ⟨xs.length - 1, by omega⟩
  rw [hk g (by rw [hm]; rfl) h4 (Array.getElem?_eq_some_iff.1 h5).1, h5]
theorem Que.below (h : Que w base v xs) (hb : Below w.heap.size w w') : Que w' base v xs := h.keep fun g _ _ hg => hb.block g hg
theorem Que.one (w : World) (a : Nat) : Que (w.alloc (.cells #[.int .i64 (a : Nat), .int .i64 (a : Nat)] 145)) w.heap.size (.slice (some ⟨w.heap.size, 0, none⟩) 1 1) [(a, a)] := by
  refine ⟨_, 1, rfl, Nat.le_refl _, by unfold maxLen; omega, fun _ => ⟨_, 0, _, rfl, Nat.le_refl _, heap_alloc_new w _, by simp, fun j p hp => ?_⟩⟩
  cases j with
  | zero => simp at hp; subst hp; simp
  | succ j => simp at hp
/-- The first edge. -/
theorem Que.head {p : Nat × Nat} {r : List (Nat × Nat)} (h : Que w base v (p :: r)) : ∃ g off c, v = .slice (some ⟨g, off, none⟩) (r.length + 1) c ∧ r.length + 1 ≤ c ∧ c ≤ maxLen ∧ base ≤ g ∧ g < w.heap.size ∧ w.cell? ⟨g, off, none⟩ = some (.int .i64 (p.1 : Nat)) ∧ w.cell? ⟨g, off + 1, none⟩ = some (.int .i64 (p.2 : Nat)) ∧
    qb v = some g := by
  obtain ⟨A, c, rfl, h1, h2, h3⟩ := h
  obtain ⟨g, off, cs, rfl, h4, h5, h6, h7⟩ := h3 (by simp)
  obtain ⟨h8, h9⟩ := h7 0 p rfl
  refine ⟨g, off, c, rfl, h1, h2, h4, (Array.getElem?_eq_some_iff.1 h5).1, ?_, ?_, rfl⟩
  · rw [cell_of_row w g off _ _ _ h5]; simpa using h8
  · rw [cell_of_row w g (off + 1) _ _ _ h5]; simpa using h9
/-- Without the first edge. -/
theorem Que.pop {p : Nat × Nat} {r : List (Nat × Nat)} {g off c : Nat} (h : Que w base (.slice (some ⟨g, off, none⟩) (r.length + 1) c) (p :: r)) (A : Option Addr) (hA : c ≠ 1 → A = some ⟨g, off + 2, none⟩) : Que w base (.slice A r.length (c - 1)) r := by
  obtain ⟨A', c', e, h1, h2, h3⟩ := h
  obtain ⟨g', off', cs, rfl, h4, h5, h6, h7⟩ := h3 (by simp)
  injection e with e1 e2 e3
  injection e1 with e1
  injection e1 with e4 e5
  subst e4 e5 e3
  simp only [List.length_cons] at h1
  refine ⟨A, c - 1, rfl, by omega, by omega, fun h0 => ⟨g, off + 2, cs, hA (by omega), h4, h5, by omega, fun j q hq => ?_⟩⟩
  obtain ⟨h8, h9⟩ := h7 (j + 1) q hq
  refine ⟨?_, ?_⟩
  · rw [← h8]; congr 1; omega
  · rw [← h9]; congr 1; omega
end

section
variable (w : World)
theorem info_edge : (Tryz.prog.info? 145).map (fun i => (i.zero, i.size, i.bytes)) = some (some (.agg #[.int .i64 0, .int .i64 0]), 2, 16) := by kernel_rfl

/-- queue = append(queue, edge{x, y}), the edge in a block that was made just before. -/
theorem wpList_pushQ {ops : Array Oper} {rest : List Oper} {o : Oper} {a : Act} {Q : Exit → Act → World → Prop} (hgd : o.guard = none) (s x : Operand)
    (ho : o.op = .call { callee := .builtin .append, args := #[s, x], argTypes := #[146, 146] })
    (base : Nat) (v : Value) (p : Nat × Nat) (r : List (Nat × Nat)) (hs : a.eval s = v) (hq : Que w base v (p :: r))
    (k m : Int) (q : Nat × Nat) (hk : k = (q.1 : Nat)) (hm : m = (q.2 : Nat)) (hx : a.eval x = .slice (some ⟨w.heap.size, 0, none⟩) 1 1)
    (hlen : r.length + 2 ≤ 1000000)
    (h : ∀ v' w', Que w' base v' (p :: r ++ [q]) → Fr (fun b => qb v = some b) w w' → (qb v' = qb v ∨ ∃ b, qb v' = some b ∧ w.heap.size ≤ b) → wpList Tryz.prog ops Q rest (a.put o.dst v') w') :
    wpList Tryz.prog ops Q (o :: rest) a (w.alloc (.cells #[.int .i64 k, .int .i64 m] 145)) := by
  subst hk hm
  obtain ⟨A, c, e, h1, h2, h3⟩ := hq
  obtain ⟨g, off, cs, rfl, h4, h5, h6, h7⟩ := h3 (by simp)
  subst e
  simp only [List.length_cons] at h1 hs
  have hgl : g < w.heap.size := (Array.getElem?_eq_some_iff.1 h5).1
  have h5' : (w.alloc (.cells #[.int .i64 (q.1 : Nat), .int .i64 (q.2 : Nat)] 145)).heap[g]? = some (.cells cs 145 (0, 0)) := (Below.heap_alloc w _ g hgl).trans h5
  obtain ⟨i, hi, hz, hsz, hby⟩ := info_parts info_edge
  refine wpList_append_arg _ hgd s x 146 ho 145 i _ 2 16 Tryz.underlying146 hi hz hsz hby rfl (by omega) g off (r.length + 1) c (cs.toList.drop off |>.take ((r.length + 1) * 2)) hs ?_ ?_ ⟨w.heap.size, 0, none⟩ 1 1 [.int .i64 (q.1 : Nat), .int .i64 (q.2 : Nat)] hx rfl ?_ (by simp [Value.oneCell']) ?_ (by unfold maxLen; omega) (by omega) ?_ ?_
  · have hcl : cs.toList.length = cs.size := Array.length_toList
    rw [List.length_take, List.length_drop, hcl]; omega
  · intro j u hu
    rw [cell_of_row _ g (off + j) _ _ _ h5']
    rw [List.getElem?_take] at hu
    split at hu
    · rw [List.getElem?_drop] at hu
      simpa using hu
    · cases hu
  · intro j u hu
    rw [Addr.add_lit]
    rw [World.cell?_alloc_at _ _ _ _ rfl]
    simpa using hu
  · intro hc j hj
    constructor
    · rw [cell_of_row _ g _ _ _ _ h5']
      simp at hj
      rw [Array.getElem?_eq_getElem (by omega)]
      rfl
    · simp [World.frozen?, h5']
  · intro hc
    have ha : Arr (w.alloc (.cells #[.int .i64 (q.1 : Nat), .int .i64 (q.2 : Nat)] 145)) g 145 cs.toList := by unfold Arr; simpa using h5'
    have ha1 := ha.set_ (off + (r.length + 1) * 2) (.int .i64 (q.1 : Nat))
    have ha2 := ha1.set_ (off + (r.length + 1) * 2 + 1) (.int .i64 (q.2 : Nat))
    have hcl : cs.toList.length = cs.size := Array.length_toList
    refine h _ _ ⟨some ⟨g, off, none⟩, c, by simp, by simp; omega, h2, fun _ => ⟨g, off, _, rfl, h4, ha2, by simp; omega, fun j u hu => ?_⟩⟩ ?_ (.inl rfl)
    · have hjl := lt_of_some hu
      simp only [List.length_append, List.length_cons, List.length_nil] at hjl
      simp only [List.getElem?_toArray, List.getElem?_set, List.length_set, hcl]
      rcases getElem?_snoc_cases hu with ⟨hj, hu2⟩ | ⟨hj, hu2⟩
      · simp only [List.length_cons] at hj
        obtain ⟨h8, h9⟩ := h7 j u hu2
        rw [if_neg (by omega), if_neg (by omega), if_neg (by omega), if_neg (by omega)]
        exact ⟨by simpa using h8, by simpa using h9⟩
      · simp only [List.length_cons] at hj
        subst hj hu2
        rw [if_neg (by omega), if_pos (by omega), if_pos (by omega), if_pos (by omega), if_pos (by omega)]
        exact ⟨rfl, rfl⟩
    · have f1 : Fr (fun b => some g = some b) w (w.alloc (.cells #[.int .i64 (q.1 : Nat), .int .i64 (q.2 : Nat)] 145)) := Fr.of_below' ((Below.refl _ _).alloc (Nat.le_refl _) _)
      exact (f1.trans (Fr.setCell (O := fun b => some g = some b) (p := ⟨g, off + (r.length + 1) * 2, none⟩) (fun _ => rfl) _)).trans (Fr.setCell (O := fun b => some g = some b) (p := ⟨g, off + (r.length + 1) * 2 + 1, none⟩) (fun _ => rfl) _)
  · intro hc v' w' hown hg
    obtain ⟨hl, hv⟩ := hown
    rcases hv with ⟨_, h0⟩ | ⟨g', cap, cur, rfl, hg1, hg2, hg3, hg4, hg5, hg6⟩
    · omega
    · have f1 : Fr (fun b => some g = some b) w (w.alloc (.cells #[.int .i64 (q.1 : Nat), .int .i64 (q.2 : Nat)] 145)) := Fr.of_below' ((Below.refl _ _).alloc (Nat.le_refl _) _)
      have f2 : Fr (fun b => some g = some b) (w.alloc (.cells #[.int .i64 (q.1 : Nat), .int .i64 (q.2 : Nat)] 145)) w' := Fr.grown hg (fun k hk => by cases hk)
      have hg1' : w.heap.size + 1 ≤ g' := by simpa using hg1
      refine h _ _ ⟨some ⟨g', 0, none⟩, cap, by simp, by simp; omega, hg4, fun _ => ⟨g', 0, cur, rfl, by omega, hg2, by omega, fun j u hu => ?_⟩⟩ (f1.trans f2) (.inr ⟨g', rfl, by omega⟩)
      have hcl : cs.toList.length = cs.size := Array.length_toList
      have hlt : ((cs.toList.drop off).take ((r.length + 1) * 2)).length = (r.length + 1) * 2 := by rw [List.length_take, List.length_drop, hcl]; omega
      have hread : ∀ i, i < (r.length + 1 + 1) * 2 → cur[0 + i]? = (((cs.toList.drop off).take ((r.length + 1) * 2)) ++ [.int .i64 (q.1 : Nat), .int .i64 (q.2 : Nat)])[i]? := by
        intro i hi
        rw [← hg6, List.getElem?_take, if_pos hi]
        simp
      have hjl := lt_of_some hu
      simp only [List.length_append, List.length_cons, List.length_nil] at hjl
      rw [hread _ (by omega), hread _ (by omega)]
      rcases getElem?_snoc_cases hu with ⟨hj, hu2⟩ | ⟨hj, hu2⟩
      · simp only [List.length_cons] at hj
        obtain ⟨h8, h9⟩ := h7 j u hu2
        rw [List.getElem?_append_left (by omega), List.getElem?_append_left (by omega), List.getElem?_take, if_pos (by omega), List.getElem?_take, if_pos (by omega), List.getElem?_drop, List.getElem?_drop]
        exact ⟨by simpa using h8, by simpa using h9⟩
      · simp only [List.length_cons] at hj
        subst hj hu2
        rw [List.getElem?_append_right (by omega), List.getElem?_append_right (by omega), hlt]
        have e1 : 2 * (r.length + 1) - (r.length + 1) * 2 = 0 := by omega
        have e2 : 2 * (r.length + 1) + 1 - (r.length + 1) * 2 = 1 := by omega
        rw [e1, e2]
        exact ⟨rfl, rfl⟩
end
end Go.Proofs.YtpkjdnplmgfbbaaGreatDoor

namespace Go.Proofs.YtpkjdnplmgfbbaaGreatDoor
open Go.RowKit

/-- An array of bools. -/
def BArr (w : World) (g : Nat) (l : List Bool) : Prop := Arr w g 4 (l.map Value.bool)
section
variable {w w' : World} {g : Nat} {l : List Bool}
theorem BArr.cell (h : BArr w g l) {i : Nat} (hi : i < l.length) : w.cell? ⟨g, i, none⟩ = some (.bool (l.getD i false)) := by
  rw [Arr.cell h, List.getElem?_map]; simp [List.getD, List.getElem?_eq_getElem hi]
theorem BArr.frozen (h : BArr w g l) (i : Nat) : w.frozen? ⟨g, i, none⟩ = false := Arr.frozen h i
theorem BArr.set_ (h : BArr w g l) (i : Nat) (x : Bool) : BArr (w.setCell ⟨g, i, none⟩ (.bool x)) g (l.set i x) := by
  have := Arr.set_ h i (.bool x)
  unfold BArr
  rwa [List.map_set]
theorem BArr.made {n : Nat} (h : Arr w g 4 (madeCells (Value.bool false).cells (n * 1)).toList) : BArr w g (List.replicate n false) := by
  unfold BArr
  rw [List.map_replicate]
  have e := toList_madeCells_one (.bool false) n
  rw [Nat.mul_one] at h
  rwa [← e]
end

/-- The world in which a search begins its loop. -/
theorem srch_start {w w1 : World} {n a : Nat} (hba : BArr w1 w.heap.size (List.replicate n false)) (hb1 : Below w.heap.size w w1) (hs1 : w1.heap.size = w.heap.size + 1) :
    ∃ W S Q, W = (w1.setCell ⟨w.heap.size, a, none⟩ (.bool true)).alloc (.cells #[.int .i64 (a : Nat), .int .i64 (a : Nat)] 145) ∧ S = w.heap.size ∧ Q = w1.heap.size ∧
      BArr W S ((List.replicate n false).set a true) ∧ Que W (S + 1) (.slice (some ⟨Q, 0, none⟩) 1 1) [(a, a)] ∧ Below w.heap.size w W ∧ w.heap.size ≤ S ∧ S < W.heap.size := by
  have h2 := hba.set_ a true
  have hz : (w1.setCell ⟨w.heap.size, a, none⟩ (.bool true)).heap.size = w.heap.size + 1 := by simp [World.setCell, hs1]
  refine ⟨_, _, _, rfl, rfl, rfl, Arr.alloc h2 _, ?_, ?_, Nat.le_refl _, by simp [hz]; omega⟩
  · have := Que.one (w1.setCell ⟨w.heap.size, a, none⟩ (.bool true)) a
    rw [hz] at this
    rw [hs1]
    exact this
  · exact (hb1.setCell (p := ⟨w.heap.size, a, none⟩) (Nat.le_refl _) _).alloc (by rw [hz]; omega) _

/-- The neighbours as ints. -/
def toI (E : List (List Nat)) : List (List Int) := E.map (·.map fun x : Nat => (x : Int))

theorem toI_get {E : List (List Nat)} {v : Nat} (h : v < E.length) : (toI E)[v]? = some ((gr E v).map fun x : Nat => (x : Int)) := by
  unfold toI; rw [List.getElem?_map, gr_lt h]; rfl
theorem toI_length (E : List (List Nat)) : (toI E).length = E.length := by simp [toI]

theorem addOne_q {v x k : Nat} {s : Bs} (h : s.seen.getD x false = false) (hk : k ≤ s.q.length) : (addOne v s x).q.drop k = s.q.drop k ++ [(v, x)] ∧ (addOne v s x).seen = s.seen.set x true := by
  unfold addOne
  rw [if_neg (by rw [h]; simp)]
  exact ⟨List.drop_append_of_le_length hk, rfl⟩
theorem addOne_seen {v x : Nat} {s : Bs} (h : s.seen.getD x false = true) : addOne v s x = s := by unfold addOne; rw [if_pos h]
theorem addOne_take {v x k : Nat} {s : Bs} (hk : k ≤ s.q.length) : (addOne v s x).q.take k = s.q.take k ∧ k ≤ (addOne v s x).q.length := by
  unfold addOne
  split
  · exact ⟨rfl, hk⟩
  · exact ⟨List.take_append_of_le_length hk, by simp; omega⟩
theorem addAll_take {v k : Nat} (l : List Nat) {s : Bs} (hk : k ≤ s.q.length) : (addAll v s l).q.take k = s.q.take k ∧ k ≤ (addAll v s l).q.length := by
  induction l generalizing s with
  | nil => exact ⟨rfl, hk⟩
  | cons x r ih =>
    obtain ⟨h1, h2⟩ := addOne_take (v := v) (x := x) hk
    obtain ⟨h3, h4⟩ := ih h2
    exact ⟨h3.trans h1, h4⟩
theorem bs_take {E : List (List Nat)} {a k : Nat} {p : Nat × Nat} (h : (bs E a k).q[k]? = some p) : (bs E a (k + 1)).q.take (k + 1) = (bs E a k).q.take k ++ [p] ∧ k + 1 ≤ (bs E a (k + 1)).q.length := by
  rw [bs_succ h]
  obtain ⟨h1, h2⟩ := addAll_take (v := p.2) (gr E p.2) (s := bs E a k) (k := k + 1) (lt_of_some h)
  refine ⟨?_, h2⟩
  rw [h1, List.take_add_one, h]; rfl

theorem Que.cast {w : World} {base : Nat} {v : Value} {xs ys : List (Nat × Nat)} (h : Que w base v xs) (e : xs = ys) : Que w base v ys := e ▸ h
theorem BArr.cast {w : World} {g : Nat} {l m : List Bool} (h : BArr w g l) (e : l = m) : BArr w g m := e ▸ h

/-- What a search leaves: it went through all, or it was told to stop. -/
def SrchR (E : List (List Nat)) (a : Nat) (O : Nat → Prop) (V : List (Nat × Nat) → World → Prop) (Stop : World → Prop) (w : World) (e : Ending) (w' : World) : Prop :=
  e = .returned (.tuple #[]) ∧ Fr O w w' ∧ ((∃ k, (bs E a k).q.length = k ∧ (∀ i, i < k → ∃ p, (bs E a i).q[i]? = some p) ∧ V (bs E a k).q w') ∨ Stop w')

/-- What is asked of the function that is told the vertices. -/
def Visits (E : List (List Nat)) (a : Nat) (O : Nat → Prop) (V : List (Nat × Nat) → World → Prop) (Stop : World → Prop) (w : World) (f : FuncId) (lb : Array Value) : Prop :=
  ∀ k p W, (∀ i, i < k → ∃ p, (bs E a i).q[i]? = some p) → (bs E a k).q[k]? = some p → V ((bs E a k).q.take k) W → Fr O w W →
    Calls Tryz.prog f (#[.int .i64 (p.2 : Nat), .int .i64 (p.1 : Nat)] ++ lb) W fun e W' =>
      ((e = .returned (.bool true) ∧ V ((bs E a k).q.take k ++ [p]) W') ∨ (e = .returned (.bool false) ∧ Stop W')) ∧ Fr O W W'

theorem Fr.over {O : Nat → Prop} {w w' w'' : World} (h : Fr O w w') (hb : Below w.heap.size w' w'') : Fr O w w'' :=
  ⟨hb.os.trans h.os, hb.tape.trans h.tape, hb.output.trans h.output, Nat.le_trans h.size hb.size, fun b h1 h2 => (hb.block b h1).trans (h.block b h1 h2)⟩

/-- The first edge of the queue is the next one to be gone through. -/
theorem drop_head {q : List (Nat × Nat)} {k : Nat} {p : Nat × Nat} (h : q[k]? = some p) : ∃ r, q.drop k = p :: r ∧ k + r.length + 1 = q.length := by
  have hlt := lt_of_some h
  refine ⟨q.drop (k + 1), ?_, by simp; omega⟩
  rw [List.drop_eq_getElem_cons hlt]; congr 1; exact Option.some.inj ((List.getElem?_eq_getElem hlt).symm.trans h)

set_option maxHeartbeats 2000000 in
set_option maxRecDepth 100000 in
theorem search_any {E : List (List Nat)} (hE : Valid E) (hEn : E.length ≤ 2500) {a : Nat} (ha : a < E.length) {O : Nat → Prop} {V : List (Nat × Nat) → World → Prop} {Stop : World → Prop} {w0 w : World} {f : FuncId} {lb : Array Value}
    (hV : Visits E a O V Stop w f lb) (hOb : ∀ b, O b → w0.heap.size ≤ b ∧ b < w.heap.size) (hVs : ∀ done W W', V done W → Below w.heap.size W W' → V done W') (hSs : ∀ W W', Stop W → Below w.heap.size W W' → Stop W')
    {A : Option Addr} {c : Nat} (hG : Gl w0 A E.length c (toI E)) (hb0 : Below w0.heap.size w0 w) (h0 : V [] w)
    (eg : ∀ args w, (callFunc f args).run Tryz.prog w = .ok (.enter f args) w) :
    Calls Tryz.prog 88 #[.slice A E.length c, .int .i64 (a : Nat), .func (.func f) #[] lb] w (SrchR E a O V Stop w) := by
  have hr := hG.room
  unfold maxLen at hr
  have hal : (a : Int) < (E.length : Int) := by omega
  have EG := Lib.hid eg
  clear eg
  have hVV := Lib.hid hV
  clear hV
  obtain ⟨b0, o0, rfl, hcell⟩ := hG.cell (by omega)
  have HC := Lib.hid hcell
  clear hcell hG
  go_enter Tryz.func88, Tryz.ntmps88
  go_wp2_with (refine wpList_make_arr _ rfl _ _ 143 rfl 4 (.bool false) 1 1 Tryz.underlying143 (by kernel_rfl) _ _ _ _ E.length rfl rfl rfl rfl (by omega) (by omega) ?_; intro w1 har hb1 hs1; have hba := BArr.made har; have cA := hba.cell (i := a) (by simpa using ha); have fA := hba.frozen a; have HBA := Lib.hid hba; have HS1 := Lib.hid hs1; clear hba har hs1)
  obtain ⟨W, S, Q, hW, hS, hQ, hBA, hQ0, hbW, hwS, hSW⟩ := srch_start HBA.out hb1 HS1.out
  rw [← hW, ← hS, ← hQ]
  clear hW hS hQ HBA HS1 hb1 cA fA w1
  have hwO : ∀ b, S ≤ b → ¬ O b := fun b hb ho => by have := hOb b ho; omega
  have hFB : ∀ W, Fr O w W → Below w0.heap.size w0 W := fun W h => hb0.trans (h.below hb0.size fun b hb => (hOb b hb).1)
  have HFB := Lib.hid hFB
  have HWO := Lib.hid hwO
  have HVS := Lib.hid hVs
  have HSS := Lib.hid hSs
  have HE := Lib.hid hE
  have hV0 : V [] W := hVs _ _ _ h0 hbW
  have hw0 := hb0.size
  clear hwO hOb hVs hSs hE h0 hFB hb0
  go_loopg [7] E.length (fun g q wr => ∃ k, k + g = E.length ∧ (∀ i, i < k → ∃ p, (bs E a i).q[i]? = some p) ∧ k ≤ (bs E a k).q.length ∧ Que wr (S + 1) q ((bs E a k).q.drop k) ∧ BArr wr S (bs E a k).seen ∧ V ((bs E a k).q.take k) wr ∧ Fr O w wr ∧ S < wr.heap.size)
  case atStart => exact ⟨0, by omega, fun i hi => by omega, Nat.zero_le _, hQ0, hBA, hV0, Fr.of_below' hbW, hSW⟩
  case round =>
    obtain ⟨k, hkg, hpr, hkl, hq, hba, hv, hfr, hSr⟩ := hrel
    have HPR := Lib.hid hpr
    clear hpr
    obtain ⟨dep, hsr⟩ := bs_inv HE.out ha k HPR.out
    have hql := hsr.qlen
    rcases Nat.lt_or_ge k (bs E a k).q.length with hlt | hge
    · obtain ⟨p, hp⟩ : ∃ p, (bs E a k).q[k]? = some p := ⟨_, List.getElem?_eq_getElem hlt⟩
      obtain ⟨r, hr1, _⟩ := drop_head hp
      have hq' := hq.cast hr1
      obtain ⟨g, off, cq, rfl, hq1, hq2, hq3, hq4, hq5, hq6, hq7⟩ := hq'.head
      have hq2' := hq2
      unfold maxLen at hq2'
      have hz : (0 : Int) < ((r.length + 1 : Nat) : Int) := by omega
      have HP := Lib.hid hp
      have HR1 := Lib.hid hr1
      have HSR := Lib.hid hsr
      clear hp hr1 hsr
      go_wp2_with fail
      go_still_tail 9, (by kernel_rfl)
      have hfr2 : Fr O w wr.drew := hfr.drew
      have hv2 : V ((bs E a k).q.take k) wr.drew := HVS.out _ _ _ hv ((Below.refl _ _).drew)
      have hq8 : Que wr.drew (S + 1) _ (p :: r) := hq'
      have hba8 : BArr wr.drew S _ := hba
      have hSr8 : S < wr.drew.heap.size := hSr
      have hc5 : wr.drew.cell? ⟨g, off, none⟩ = _ := hq5
      have hc6 : wr.drew.cell? ⟨g, off + 1, none⟩ = _ := hq6
      have hg8 : g < wr.drew.heap.size := hq4
      change wpList _ _ _ _ _ wr.drew
      clear hfr hv hq hq' hba hSr hq4 hq5 hq6
      generalize wr.drew = w2 at *
      have eg := EG.out
      go_wp2_with fail
      refine (hVV.out k p _ HPR.out HP.out hv2 hfr2).mono ?_
      rintro e w3 ⟨⟨rfl, hv3⟩ | ⟨rfl, hst⟩, hfr3⟩
      · clear eg
        have hfw3 := hfr2.trans hfr3
        have hq9 := hq8.keep (w' := w3) (fun g' _ h1 h2 => hfr3.block g' h2 (HWO.out g' (by omega)))
        have hba9 : BArr w3 S (bs E a k).seen := hfr3.arr hba8 (HWO.out S (Nat.le_refl _))
        have hS9 : S < w3.heap.size := Nat.lt_of_lt_of_le hSr8 hfr3.size
        have hd5 := (hfr3.cell (o := off) hg8 (HWO.out g (by omega))).trans hc5
        have hd6 := (hfr3.cell (o := off + 1) hg8 (HWO.out g (by omega))).trans hc6
        have hvl : p.2 < E.length := HSR.out.small k p HP.out
        have hvl' : (p.2 : Int) < (E.length : Int) := by omega
        obtain ⟨A', c', hrow, hil⟩ := HC.out p.2 _ (toI_get hvl)
        rw [List.length_map] at hrow hil
        have hrm := hil.room
        unfold maxLen at hrm
        have hrow3 := ((bcell (HFB.out _ hfw3)).1 _ _ (cell_some_lt hrow)).trans hrow
        have HIL := Lib.hid hil
        clear hil hrow hfr2 hv2 hq8 hba8 hSr8 hc5 hc6 hg8 hfr3 w2
        go_wp2_with fail
        go_loopw [7, 44] (fun q i wr => ∃ t : Nat, t ≤ (gr E p.2).length ∧ i = .int .i64 (t : Nat) ∧ Que wr (S + 1) q ((addAll p.2 (bs E a k) ((gr E p.2).take t)).q.drop k) ∧ BArr wr S (addAll p.2 (bs E a k) ((gr E p.2).take t)).seen ∧ V ((bs E a k).q.take k ++ [p]) wr ∧ Fr O w wr ∧ S < wr.heap.size) (fun _ i _ => (gr E p.2).length - (intOf i).toNat)
        case atStart => exact ⟨0, Nat.zero_le _, rfl, hq9.cast HR1.out.symm, hba9, hv3, hfw3, hS9⟩
        case round =>
          obtain ⟨t, ht, rfl, hq, hba, hv, hfr, hSr⟩ := hrel
          obtain ⟨dep', hs', hp'⟩ := HSR.out.all HP.out ((gr E p.2).take t) (fun x hx => List.mem_of_mem_take hx) (fun x hx => HE.out _ hvl x (List.mem_of_mem_take hx))
          have hq10 := hs'.qlen
          obtain ⟨r2, hr2, hr3⟩ := drop_head hp'
          have hqq := hq.cast hr2
          obtain ⟨g2, off2, cq2, rfl, hm1, hm2, hm3, hm4, hm5, hm6, hm7⟩ := hqq.head
          have hm2' := hm2
          unfold maxLen at hm2'
          have hz2 : (0 : Int) < ((r2.length + 1 : Nat) : Int) := by omega
          have HR2 := Lib.hid hr2
          have HP2 := Lib.hid hp'
          have HS2 := Lib.hid hs'
          clear hr2 hp' hs' hq
          by_cases htl : t < (gr E p.2).length
          · obtain ⟨x, hx⟩ : ∃ x, (gr E p.2)[t]? = some x := ⟨_, List.getElem?_eq_getElem htl⟩
            have hxl : x < E.length := HE.out _ hvl x (List.mem_of_getElem? hx)
            obtain ⟨b3, o3, rfl, hcx⟩ := (HIL.out.below (HFB.out _ hfr)).cell (by omega)
            have hcx' := hcx t x (by rw [List.getElem?_map, hx]; rfl)
            have hcs := hba.cell (i := x) (by rw [HS2.out.len]; exact hxl)
            have hfz := hba.frozen x
            have hxl' : (x : Int) < (E.length : Int) := by omega
            have et : (gr E p.2).take (t + 1) = (gr E p.2).take t ++ [x] := by rw [List.take_add_one, hx]; rfl
            have HT := Lib.hid et
            clear hcx et
            cases hsn : (addAll p.2 (bs E a k) ((gr E p.2).take t)).seen.getD x false
            · rw [hsn] at hcs
              have HN := Lib.hid hsn
              clear hsn
              have hgS : g2 ≠ S := by omega
              have hn6 : (wr.setCell ⟨S, x, none⟩ (.bool true)).cell? ⟨g2, off2 + 1, none⟩ = some (.int .i64 (p.2 : Nat)) := by
                rw [← hm6]; exact World.cell?_of_block (Below.heap_setCell _ _ _ _ (fun e => hgS e))
              have hq5 : Que (wr.setCell ⟨S, x, none⟩ (.bool true)) (S + 1) (.slice (some ⟨g2, off2, none⟩) (r2.length + 1) cq2) (p :: r2) := hqq.keep fun g' _ h1 _ => Below.heap_setCell _ _ _ _ (fun e => by have e' : g' = S := e; omega)
              have hba5 := hba.set_ x true
              have hS5 : S < (wr.setCell ⟨S, x, none⟩ (.bool true)).heap.size := by simpa [World.setCell] using hSr
              have hv5 : V ((bs E a k).q.take k ++ [p]) (wr.setCell ⟨S, x, none⟩ (.bool true)) := HVS.out _ _ _ hv ((Below.refl _ _).setCell (p := ⟨S, x, none⟩) hwS _)
              have hfr5 : Fr O w (wr.setCell ⟨S, x, none⟩ (.bool true)) := hfr.over ((Below.refl _ _).setCell (p := ⟨S, x, none⟩) hwS _)
              have hsz : (wr.setCell ⟨S, x, none⟩ (.bool true)).heap.size = wr.heap.size := by simp [World.setCell]
              clear hm6 hqq hba hSr hv hfr
              go_wp2_with (at_builtin; (refine wpList_pushQ (wr.setCell ⟨S, x, none⟩ (.bool true)) (by rfl) _ _ (by rfl) (S + 1) (.slice (some ⟨g2, off2, none⟩) (r2.length + 1) cq2) p r2 (by rfl) hq5 _ _ (p.2, x) (by rfl) (by rfl) (by rw [hsz]; rfl) (by omega) ?_); intro v' w6 hq6 hfr6 hqb6)
              have hb6 : Below w.heap.size (wr.setCell ⟨S, x, none⟩ (.bool true)) w6 := hfr6.below hfr5.size (fun b hb => by rw [hm7] at hb; cases hb; omega)
              go_roundw
              case rel =>
                refine ⟨t + 1, by omega, by go_num, ?_, ?_, HVS.out _ _ _ hv5 hb6, hfr5.over hb6, Nat.lt_of_lt_of_le hS5 hfr6.size⟩
                · obtain ⟨e1, e2⟩ := addOne_q (v := p.2) (k := k) HN.out (by omega)
                  rw [HT.out, addAll_snoc, e1, HR2.out]; exact hq6
                · obtain ⟨e1, e2⟩ := addOne_q (v := p.2) (k := k) HN.out (by omega)
                  rw [HT.out, addAll_snoc, e2]
                  exact hfr6.arr hba5 (by rw [hm7]; intro e; cases e; omega)
              case measure => simp [intOf]; omega
            · rw [hsn] at hcs
              have HN := Lib.hid hsn
              clear hsn
              go_wp2_with fail
              go_roundw
              case rel =>
                refine ⟨t + 1, by omega, by go_num, ?_, ?_, hv, hfr, hSr⟩
                · rw [HT.out, addAll_snoc, addOne_seen HN.out]; exact hqq.cast HR2.out.symm
                · rw [HT.out, addAll_snoc, addOne_seen HN.out]; exact hba
              case measure => simp [intOf]; omega
          · obtain rfl : t = (gr E p.2).length := by omega
            rw [List.take_length] at *
            obtain ⟨n1, n2⟩ := bs_take HP.out
            have n3 := bs_succ HP.out
            have N1 := Lib.hid n1
            have N3 := Lib.hid n3
            clear n1 n3
            by_cases hc1 : cq2 = 1
            · subst hc1
              go_wp2_with fail
              go_roundg (gk - 1)
              case rel =>
                refine ⟨k + 1, by omega, fun i hi => ?_, n2, ?_, ?_, ?_, hfr, hSr⟩
                · rcases Nat.lt_or_ge i k with h1 | h1
                  · exact HPR.out i h1
                  · obtain rfl : i = k := by omega
                    exact ⟨p, HP.out⟩
                · rw [N3.out]
                  have e : (addAll p.2 (bs E a k) (gr E p.2)).q.drop (k + 1) = r2 := by rw [← List.drop_drop, HR2.out]; rfl
                  rw [e]
                  have e0 : r2.length = 0 := by omega
                  have hpp := hqq.pop (some ⟨g2, off2, none⟩) (fun h => absurd rfl h)
                  rw [e0] at hpp; exact hpp
                · rw [N3.out]; exact hba
                · rw [N1.out]; exact hv
              case measure => omega
            · go_wp2_with fail
              go_roundg (gk - 1)
              case rel =>
                refine ⟨k + 1, by omega, fun i hi => ?_, n2, ?_, ?_, ?_, hfr, hSr⟩
                · rcases Nat.lt_or_ge i k with h1 | h1
                  · exact HPR.out i h1
                  · obtain rfl : i = k := by omega
                    exact ⟨p, HP.out⟩
                · rw [N3.out]
                  have e : (addAll p.2 (bs E a k) (gr E p.2)).q.drop (k + 1) = r2 := by rw [← List.drop_drop, HR2.out]; rfl
                  rw [e]
                  exact hqq.pop _ (fun h => rfl)
                · rw [N3.out]; exact hba
                · rw [N1.out]; exact hv
              case measure => omega
      · clear eg
        have hfw3 := hfr2.trans hfr3
        go_wp2_with fail
        go_end0
        exact ⟨rfl, hfw3, .inr hst⟩
    · have hk : (bs E a k).q.length = k := by omega
      have hq' := hq.cast (List.drop_eq_nil_of_le (by omega))
      obtain ⟨A2, c2, rfl, _, hm2, _⟩ := hq'
      unfold maxLen at hm2
      have ht : (bs E a k).q.take k = (bs E a k).q := List.take_of_length_le (by omega)
      rw [ht] at hv
      have HK := Lib.hid hk
      clear hk ht hq
      go_wp2_with fail
      go_end0
      exact ⟨rfl, hfr, .inl ⟨k, HK.out, HPR.out, hv⟩⟩
end Go.Proofs.YtpkjdnplmgfbbaaGreatDoor
