/- Lists of lists in memory: kinds of elements of one cell with the blocks in which they lie; growing lists of such elements; rows of ints and of integers. Matrices as functions; plain Lean. -/
import Derived.Test.YtdmdagilopckgaaGreatG8
namespace Go.Proofs.YtdmdagilopckgaaGreat
open Go.RowKit

private theorem lt_of_some {α : Type} {l : List α} {i : Nat} {x : α} (h : l[i]? = some x) : i < l.length := by
  rcases Nat.lt_or_ge i l.length with h1 | h1
  · exact h1
  · rw [List.getElem?_eq_none h1] at h; cases h
private theorem cell_some_lt {w : World} {b o : Nat} {u : Value} (h : w.cell? ⟨b, o, none⟩ = some u) : b < w.heap.size := by
  rcases Nat.lt_or_ge b w.heap.size with h1 | h1
  · exact h1
  · have : w.heap[b]? = none := Array.getElem?_eq_none h1
    simp [World.cell?, this] at h
private theorem getElem?_snoc_cases {α : Type} {l : List α} {x y : α} {j : Nat} (h : (l ++ [x])[j]? = some y) : (j < l.length ∧ l[j]? = some y) ∨ (j = l.length ∧ y = x) := by
  rcases Nat.lt_trichotomy j l.length with h1 | h1 | h1
  · rw [List.getElem?_append_left h1] at h; exact .inl ⟨h1, h⟩
  · subst h1; simp at h; exact .inr ⟨rfl, h.symm⟩
  · rw [List.getElem?_eq_none (by simp; omega)] at h; cases h
/-- A kind of element: R w D v x says that the value v (one cell) holds x, and that all the memory behind it lies in blocks of D. -/
class Foot {α : Type} (R : World → (Nat → Prop) → Value → α → Prop) : Prop where
  keep : ∀ {w w' : World} {D : Nat → Prop} {v : Value} {x : α}, R w D v x → (∀ b, D b → b < w.heap.size → w'.heap[b]? = w.heap[b]?) → R w' D v x
  mono : ∀ {w : World} {D D' : Nat → Prop} {v : Value} {x : α}, R w D v x → (∀ b, D b → b < w.heap.size → D' b) → R w D' v x
  one : ∀ {w : World} {D : Nat → Prop} {v : Value} {x : α}, R w D v x → v.oneCell' = true

theorem Foot.below {α : Type} {R : World → (Nat → Prop) → Value → α → Prop} [Foot R] {w w' : World} {D : Nat → Prop} {v : Value} {x : α} (h : R w D v x) (hb : Below w.heap.size w w') : R w' D v x := Foot.keep h fun b _ hl => hb.block b hl
theorem Foot.t {α : Type} {R : World → (Nat → Prop) → Value → α → Prop} [Foot R] {w : World} {D : Nat → Prop} {v : Value} {x : α} (h : R w D v x) : R w (fun _ => True) v x := Foot.mono h fun _ _ _ => trivial

instance : Foot PvD where
  keep := by
    rintro w w' D v x ⟨A, c, rfl, h⟩ hk
    refine ⟨A, c, rfl, h.len, h.cap, h.room, fun hn => ?_⟩
    obtain ⟨b, off, e, hd, hc⟩ := h.cells hn
    refine ⟨b, off, e, hd, fun j hj => ?_⟩
    obtain ⟨neg, B, m, k, h0, h1, A1, c1, e1, h2⟩ := hc j hj
    exact ⟨neg, B, m, k, (World.cell?_of_block (w := w) (hk b hd (cell_lt h0))).trans h0, (World.cell?_of_block (w := w) (hk b hd (cell_lt h1))).trans h1, A1, c1, e1, h2.keep fun b o hb hl => World.cell?_of_block (w := w) (hk b hb hl)⟩
  mono := by
    rintro w D D' v x ⟨A, c, rfl, h⟩ hm
    refine ⟨A, c, rfl, h.len, h.cap, h.room, fun hn => ?_⟩
    obtain ⟨b, off, e, hd, hc⟩ := h.cells hn
    obtain ⟨_, _, _, _, hx, _⟩ := hc 0 hn
    refine ⟨b, off, e, hm b hd (cell_lt hx), fun j hj => ?_⟩
    obtain ⟨neg, B, m, k, h0, h1, h2⟩ := hc j hj
    exact ⟨neg, B, m, k, h0, h1, h2.mono hm⟩
  one := by
    rintro w D v x ⟨A, c, rfl, _⟩
    rfl

theorem PvD.pl {w : World} {D : Nat → Prop} {v : Value} {l : List Int} (h : PvD w D v l) : ∃ A c, v = .slice A l.length c ∧ Pl NI w (fun _ => True) A l.length c l := by
  obtain ⟨A, c, e, h1⟩ := h
  exact ⟨A, c, e, (h1.mono (D' := fun _ => True) fun _ _ _ => trivial).imp fun v x _ hx => NIntV.mono hx fun _ _ _ => trivial⟩
/-- A list of such elements. -/
def RowsD {α : Type} (R : World → (Nat → Prop) → Value → α → Prop) (w : World) (D : Nat → Prop) (v : Value) (L : List α) : Prop :=
  ∃ (A : Option Addr) (c : Nat) (vs : List Value), v = .slice A L.length c ∧ L.length ≤ c ∧ c ≤ maxLen ∧ vs.length = L.length ∧ (0 < L.length → ∃ b off, A = some ⟨b, off, none⟩ ∧ D b ∧ ∀ (j : Nat) u, vs[j]? = some u → w.cell? ⟨b, off + j, none⟩ = some u) ∧
    ∀ (i : Nat) u x, vs[i]? = some u → L[i]? = some x → R w D u x

section
variable {α : Type} {R : World → (Nat → Prop) → Value → α → Prop} [Foot R] {w w' : World} {D D' : Nat → Prop} {v : Value} {L : List α}
theorem RowsD.keep (h : RowsD R w D v L) (hk : ∀ b, D b → b < w.heap.size → w'.heap[b]? = w.heap[b]?) : RowsD R w' D v L := by
  obtain ⟨A, c, vs, e, h1, h2, h3, h4, h5⟩ := h
  refine ⟨A, c, vs, e, h1, h2, h3, fun hn => ?_, fun i u x hu hx => Foot.keep (h5 i u x hu hx) hk⟩
  obtain ⟨b, off, e2, hd, hc⟩ := h4 hn
  exact ⟨b, off, e2, hd, fun j u hu => (World.cell?_of_block (w := w) (hk b hd (cell_some_lt (hc j u hu)))).trans (hc j u hu)⟩
theorem RowsD.mono (h : RowsD R w D v L) (hm : ∀ b, D b → b < w.heap.size → D' b) : RowsD R w D' v L := by
  obtain ⟨A, c, vs, e, h1, h2, h3, h4, h5⟩ := h
  refine ⟨A, c, vs, e, h1, h2, h3, fun hn => ?_, fun i u x hu hx => Foot.mono (h5 i u x hu hx) hm⟩
  obtain ⟨b, off, e2, hd, hc⟩ := h4 hn
  obtain ⟨u, hu⟩ : ∃ u, vs[0]? = some u := ⟨_, List.getElem?_eq_getElem (by omega)⟩
  exact ⟨b, off, e2, hm b hd (cell_some_lt (hc 0 u hu)), hc⟩
instance : Foot (RowsD R) where
  keep := RowsD.keep
  mono := RowsD.mono
  one := by
    rintro w D v x ⟨A, c, vs, rfl, _⟩
    rfl
theorem RowsD.below (h : RowsD R w D v L) (hb : Below w.heap.size w w') : RowsD R w' D v L := h.keep fun b _ hl => hb.block b hl
theorem RowsD.t (h : RowsD R w D v L) : RowsD R w (fun _ => True) v L := h.mono fun _ _ _ => trivial
omit [Foot R] in
/-- One element. -/
theorem RowsD.at {A : Option Addr} {n c : Nat} (h : RowsD R w D (.slice A n c) L) {i : Nat} {x : α} (hx : L[i]? = some x) : ∃ b off u, A = some ⟨b, off, none⟩ ∧ w.cell? ⟨b, off + i, none⟩ = some u ∧ R w D u x := by
  obtain ⟨A', c', vs, e, h1, h2, h3, h4, h5⟩ := h
  injection e with e1 e2 e3
  subst e1
  have hil := lt_of_some hx
  obtain ⟨b, off, e2, hd, hc⟩ := h4 (by omega)
  obtain ⟨u, hu⟩ : ∃ u, vs[i]? = some u := ⟨_, List.getElem?_eq_getElem (by omega)⟩
  exact ⟨b, off, u, e2, hc i u hu, h5 i u x hu hx⟩
omit [Foot R] in
theorem RowsD.room {A : Option Addr} {n c : Nat} (h : RowsD R w D (.slice A n c) L) : n = L.length ∧ n ≤ c ∧ c ≤ maxLen := by
  obtain ⟨A', c', vs, e, h1, h2, _⟩ := h
  injection e with e1 e2 e3
  subst e2 e3
  exact ⟨rfl, h1, h2⟩
omit [Foot R] in
theorem RowsD.slice (h : RowsD R w D v L) : ∃ A c, v = .slice A L.length c := by
  obtain ⟨A', c', vs, e, _⟩ := h
  exact ⟨A', c', e⟩
omit [Foot R] in
theorem RowsD.slice_ (h : RowsD R w D v L) {n : Nat} (hn : L.length = n) : ∃ A c, v = .slice A n c := by subst hn; exact h.slice
omit [Foot R] in
theorem RowsD.nil (A : Option Addr) (c : Nat) (hc : c ≤ maxLen) : RowsD R w D (.slice A 0 c) [] := ⟨A, c, [], rfl, Nat.zero_le _, hc, rfl, fun h => absurd h (by simp), fun i u x hu => by simp at hu⟩
end

/-- A list of the call's own (memory from base on) of such elements, of the type T. -/
def OwnL {α : Type} (R : World → (Nat → Prop) → Value → α → Prop) (T : TypeId) (w : World) (base : Nat) (v : Value) (L : List α) : Prop :=
  ∃ vs, w.ownsRow base T 1 v L.length vs ∧ vs.length = L.length ∧ ∀ (i : Nat) u x, vs[i]? = some u → L[i]? = some x → R w (fun b => base ≤ b ∧ some b ≠ v.ownBlock) u x

section
variable {α : Type} {R : World → (Nat → Prop) → Value → α → Prop} [Foot R] {T : TypeId} {w w' : World} {base : Nat} {v : Value} {L : List α}
omit [Foot R] in
theorem OwnL.nil (w : World) (base : Nat) : OwnL R T w base (.slice none 0 0) [] := ⟨[], World.ownsRow_nil _ _ _ _, rfl, fun i u x hu => by simp at hu⟩
omit [Foot R] in
theorem OwnL.slice (h : OwnL R T w base v L) : ∃ A c, v = .slice A L.length c ∧ L.length ≤ c ∧ c ≤ maxLen := by
  obtain ⟨vs, h1, _⟩ := h
  exact own_slice h1
omit [Foot R] in
theorem OwnL.slice_ (h : OwnL R T w base v L) {n : Nat} (hn : L.length = n) : ∃ A c, v = .slice A n c ∧ n ≤ c ∧ c ≤ maxLen := by subst hn; exact h.slice
theorem OwnL.below (h : OwnL R T w base v L) (hb : Below w.heap.size w w') : OwnL R T w' base v L := by
  obtain ⟨vs, h1, h2, h3⟩ := h
  refine ⟨vs, ⟨h1.1, ?_⟩, h2, fun i u x hu hx => Foot.below (h3 i u x hu hx) hb⟩
  rcases h1.2 with h4 | ⟨g, cap, cur, e, h4, h5, h6⟩
  · exact .inl h4
  · exact .inr ⟨g, cap, cur, e, h4, (hb.block g (h1.lt g (by rw [e]; rfl)).2).trans h5, h6⟩
theorem OwnL.rows (h : OwnL R T w base v L) : RowsD R w (base ≤ ·) v L := by
  obtain ⟨vs, h1, h2, h3⟩ := h
  obtain ⟨A, c, rfl, hc1, hc2⟩ := own_slice h1
  refine ⟨A, c, vs, rfl, hc1, hc2, h2, fun hn => ?_, fun i u x hu hx => Foot.mono (h3 i u x hu hx) fun b hb _ => hb.1⟩
  obtain ⟨g, cap, e, hb, _, _, _, hc⟩ := own_cells h1 hn
  injection e with e1 e2 e3
  subst e1
  exact ⟨g, 0, rfl, hb, fun j u hu => by rw [Nat.zero_add]; exact hc j u hu⟩
omit [Foot R] in
theorem OwnL.fresh (h : OwnL R T w base v L) {b : Nat} (hb : w.heap.size ≤ b) : some b ≠ v.ownBlock := by
  obtain ⟨vs, h1, _⟩ := h
  intro e
  have := (h1.lt b e.symm).2
  omega
omit [Foot R] in
/-- Memory made behind a list of the call's own. -/
theorem OwnL.row {β : Type} {R' : World → (Nat → Prop) → Value → β → Prop} [Foot R'] (h : OwnL R T w base v L) (hb : base ≤ w.heap.size) {B : Nat} (hB : w.heap.size ≤ B) {w1 : World} {u : Value} {y : β} (hu : R' w1 (B ≤ ·) u y) : R' w1 (fun b => base ≤ b ∧ some b ≠ v.ownBlock) u y :=
  Foot.mono hu fun b (h1 : B ≤ b) _ => ⟨by omega, h.fresh (by omega)⟩

variable (w0 : World)
/-- append(own, x) of one element that lies in a block made just before. -/
theorem wpList_pushL {ops : Array Oper} {rest : List Oper} {o : Oper} {a : Act} {Q : Exit → Act → World → Prop} (hgd : o.guard = none) (s x : Operand) (t t' : TypeId) (z : Value) (bytes : Nat)
    (ho : o.op = .call { callee := .builtin .append, args := #[s, x], argTypes := #[t, t'] })
    (ht : Tryz.prog.underlying t = some (.slice T)) (ht' : Tryz.prog.underlying t' = some (.slice T)) (hinfo : (Tryz.prog.info? T).map (fun i => (i.zero, i.size, i.bytes)) = some (some z, 1, bytes)) (hz : z.cells.size = 1) (hby : bytes ≤ 100)
    (base : Nat) (v : Value) (L : List α) (n : Nat) (hln : L.length = n) (hs : a.eval s = v) (hown : OwnL R T w0 base v L)
    (u : Value) (y : α) (hu : R w0 (fun b => base ≤ b ∧ some b ≠ v.ownBlock) u y) (hx : a.eval x = .slice (some ⟨w0.heap.size, 0, none⟩) 1 1) (h63 : n + 1 ≤ 1000000000) (hbase : base ≤ w0.heap.size)
    (h : ∀ A' c' w', OwnL R T w' base (.slice A' (n + 1) c') (L ++ [y]) → w0.grownBy w' v.ownBlock → Below base w0 w' → wpList Tryz.prog ops Q rest (a.put o.dst (.slice A' (n + 1) c')) w') :
    wpList Tryz.prog ops Q (o :: rest) a (w0.alloc (.cells #[u] T)) := by
  subst hln
  obtain ⟨vs, hrow, hlen, hel⟩ := hown
  have hmul : (L.length + 1) * bytes ≤ 1000000000 * 100 := Nat.mul_le_mul h63 hby
  refine wpList_app _ hgd s x t t' ho base T T z 1 bytes ht ht' hinfo hz (by omega) v L.length vs hs (hrow.alloc _) _ 1 1 [u] hx (src_block (heap_alloc_new w0 _) 1 1 rfl) (by intro u' hu'; rw [List.mem_singleton] at hu'; rw [hu']; exact Foot.one hu) (by unfold maxLen; omega) (by omega) (by simp; omega) ?_
  intro v' w' hown' hg hob
  obtain ⟨A', c', rfl, _, _⟩ := own_slice hown'
  have hg0 : w0.grownBy w' v.ownBlock := grownBy_trans (World.grownBy_alloc w0 _ _) hg
  refine h A' c' w' ⟨_, by rw [List.length_append]; exact hown', by simp [hlen], fun i u2 x2 hu2 hx2 => ?_⟩ hg0 ((Below.refl _ _).grown hg0 hbase (fun k hk => (hrow.lt k hk).1))
  have hr : R w0 (fun b => base ≤ b ∧ some b ≠ v.ownBlock) u2 x2 := by
    rcases getElem?_snoc_cases hx2 with ⟨h1, h2⟩ | ⟨h1, h2⟩
    · rw [List.getElem?_append_left (by omega)] at hu2
      exact hel i u2 x2 hu2 h2
    · rw [List.getElem?_append_right (by omega)] at hu2
      have : i - vs.length = 0 := by omega
      rw [this] at hu2
      simp at hu2
      subst hu2 h2
      exact hu
  have hr2 : R w0 (fun b => (base ≤ b ∧ some b ≠ v.ownBlock) ∧ b < w0.heap.size) u2 x2 := Foot.mono hr fun b h1 h2 => ⟨h1, h2⟩
  refine Foot.mono (Foot.keep hr2 fun b hd hb => hg0.block b hb hd.1.2) fun b hd _ => ⟨hd.1.1, ?_⟩
  rcases hob with e | e
  · rw [e]; exact hd.1.2
  · rw [e]
    intro e2
    have := hd.2
    simp at e2
    omega
end
/-- The same; the elements lie anywhere, but not in the list's own block. -/
def OwnK {α : Type} (R : World → (Nat → Prop) → Value → α → Prop) (T : TypeId) (w : World) (base : Nat) (v : Value) (L : List α) : Prop :=
  ∃ vs, w.ownsRow base T 1 v L.length vs ∧ vs.length = L.length ∧ ∀ (i : Nat) u x, vs[i]? = some u → L[i]? = some x → R w (fun b => some b ≠ v.ownBlock) u x

section
variable {α : Type} {R : World → (Nat → Prop) → Value → α → Prop} [Foot R] {T : TypeId} {w w' : World} {base : Nat} {v : Value} {L : List α}
omit [Foot R] in
theorem OwnK.nil (w : World) (base : Nat) : OwnK R T w base (.slice none 0 0) [] := ⟨[], World.ownsRow_nil _ _ _ _, rfl, fun i u x hu => by simp at hu⟩
omit [Foot R] in
theorem OwnK.slice (h : OwnK R T w base v L) : ∃ A c, v = .slice A L.length c ∧ L.length ≤ c ∧ c ≤ maxLen := by
  obtain ⟨vs, h1, _⟩ := h
  exact own_slice h1
omit [Foot R] in
theorem OwnK.slice_ (h : OwnK R T w base v L) {n : Nat} (hn : L.length = n) : ∃ A c, v = .slice A n c ∧ n ≤ c ∧ c ≤ maxLen := by subst hn; exact h.slice
theorem OwnK.below (h : OwnK R T w base v L) (hb : Below w.heap.size w w') : OwnK R T w' base v L := by
  obtain ⟨vs, h1, h2, h3⟩ := h
  refine ⟨vs, ⟨h1.1, ?_⟩, h2, fun i u x hu hx => Foot.below (h3 i u x hu hx) hb⟩
  rcases h1.2 with h4 | ⟨g, cap, cur, e, h4, h5, h6⟩
  · exact .inl h4
  · exact .inr ⟨g, cap, cur, e, h4, (hb.block g (h1.lt g (by rw [e]; rfl)).2).trans h5, h6⟩
theorem OwnK.rows (h : OwnK R T w base v L) : RowsD R w (fun _ => True) v L := by
  obtain ⟨vs, h1, h2, h3⟩ := h
  obtain ⟨A, c, rfl, hc1, hc2⟩ := own_slice h1
  refine ⟨A, c, vs, rfl, hc1, hc2, h2, fun hn => ?_, fun i u x hu hx => Foot.mono (h3 i u x hu hx) fun _ _ _ => trivial⟩
  obtain ⟨g, cap, e, _, _, _, _, hc⟩ := own_cells h1 hn
  injection e with e1 e2 e3
  subst e1
  exact ⟨g, 0, rfl, trivial, fun j u hu => by rw [Nat.zero_add]; exact hc j u hu⟩
omit [Foot R] in
theorem OwnK.fresh (h : OwnK R T w base v L) {b : Nat} (hb : w.heap.size ≤ b) : some b ≠ v.ownBlock := by
  obtain ⟨vs, h1, _⟩ := h
  intro e
  have := (h1.lt b e.symm).2
  omega
variable (w0 : World)
/-- append(own, x) of one element that lies in a block made just before. -/
theorem wpList_pushK {ops : Array Oper} {rest : List Oper} {o : Oper} {a : Act} {Q : Exit → Act → World → Prop} (hgd : o.guard = none) (s x : Operand) (t t' : TypeId) (z : Value) (bytes : Nat)
    (ho : o.op = .call { callee := .builtin .append, args := #[s, x], argTypes := #[t, t'] })
    (ht : Tryz.prog.underlying t = some (.slice T)) (ht' : Tryz.prog.underlying t' = some (.slice T)) (hinfo : (Tryz.prog.info? T).map (fun i => (i.zero, i.size, i.bytes)) = some (some z, 1, bytes)) (hz : z.cells.size = 1) (hby : bytes ≤ 100)
    (base : Nat) (v : Value) (L : List α) (n : Nat) (hln : L.length = n) (hs : a.eval s = v) (hown : OwnK R T w0 base v L)
    (u : Value) (y : α) (hu : R w0 (fun b => some b ≠ v.ownBlock) u y) (hx : a.eval x = .slice (some ⟨w0.heap.size, 0, none⟩) 1 1) (h63 : n + 1 ≤ 1000000000) (hbase : base ≤ w0.heap.size)
    (h : ∀ A' c' w', OwnK R T w' base (.slice A' (n + 1) c') (L ++ [y]) → w0.grownBy w' v.ownBlock → (∀ b, b < w0.heap.size → some b ≠ v.ownBlock → some b ≠ (Value.slice A' (n + 1) c').ownBlock) → Below base w0 w' → wpList Tryz.prog ops Q rest (a.put o.dst (.slice A' (n + 1) c')) w') :
    wpList Tryz.prog ops Q (o :: rest) a (w0.alloc (.cells #[u] T)) := by
  subst hln
  obtain ⟨vs, hrow, hlen, hel⟩ := hown
  have hmul : (L.length + 1) * bytes ≤ 1000000000 * 100 := Nat.mul_le_mul h63 hby
  refine wpList_app _ hgd s x t t' ho base T T z 1 bytes ht ht' hinfo hz (by omega) v L.length vs hs (hrow.alloc _) _ 1 1 [u] hx (src_block (heap_alloc_new w0 _) 1 1 rfl) (by intro u' hu'; rw [List.mem_singleton] at hu'; rw [hu']; exact Foot.one hu) (by unfold maxLen; omega) (by omega) (by simp; omega) ?_
  intro v' w' hown' hg hob
  obtain ⟨A', c', rfl, _, _⟩ := own_slice hown'
  have hg0 : w0.grownBy w' v.ownBlock := grownBy_trans (World.grownBy_alloc w0 _ _) hg
  have hnew : ∀ b, b < w0.heap.size → some b ≠ v.ownBlock → some b ≠ (Value.slice A' (L.length + 1) c').ownBlock := fun b hb hv => by
    rcases hob with e | e
    · rw [e]; exact hv
    · rw [e]
      intro e2
      simp at e2
      omega
  refine h A' c' w' ⟨_, by rw [List.length_append]; exact hown', by simp [hlen], fun i u2 x2 hu2 hx2 => ?_⟩ hg0 hnew ((Below.refl _ _).grown hg0 hbase (fun k hk => (hrow.lt k hk).1))
  have hr : R w0 (fun b => some b ≠ v.ownBlock) u2 x2 := by
    rcases getElem?_snoc_cases hx2 with ⟨h1, h2⟩ | ⟨h1, h2⟩
    · rw [List.getElem?_append_left (by omega)] at hu2
      exact hel i u2 x2 hu2 h2
    · rw [List.getElem?_append_right (by omega)] at hu2
      have : i - vs.length = 0 := by omega
      rw [this] at hu2
      simp at hu2
      subst hu2 h2
      exact hu
  have hr2 : R w0 (fun b => some b ≠ v.ownBlock ∧ b < w0.heap.size) u2 x2 := Foot.mono hr fun b h1 h2 => ⟨h1, h2⟩
  refine Foot.mono (Foot.keep hr2 fun b hd hb => hg0.block b hb hd.1) fun b hd _ => ?_
  rcases hob with e | e
  · rw [e]; exact hd.1
  · rw [e]
    intro e2
    have := hd.2
    simp at e2
    omega
end

/-- A list of one element that has just been made. -/
theorem OwnK.made {α : Type} {R : World → (Nat → Prop) → Value → α → Prop} [Foot R] {T : TypeId} {w : World} {base : Nat} {u : Value} {y : α} (hb : base ≤ w.heap.size) (hu : R w (· < w.heap.size) u y) : OwnK R T (w.alloc (.cells #[u] T)) base (.slice (some ⟨w.heap.size, 0, none⟩) 1 1) [y] := by
  refine ⟨[u], ⟨rfl, .inr ⟨w.heap.size, 1, #[u], rfl, hb, heap_alloc_new w _, Nat.le_refl _, by unfold maxLen; omega, rfl, rfl⟩⟩, rfl, fun i u' x hu' hx => ?_⟩
  rcases i with _ | i
  · simp at hu' hx
    subst hu' hx
    have h1 : R (w.alloc (.cells #[u] T)) (· < w.heap.size) u y := Foot.below hu ((Below.refl _ _).alloc (Nat.le_refl _) _)
    refine Foot.mono h1 fun b hb _ => ?_
    have hb' : b < w.heap.size := hb
    intro e
    simp [Value.ownBlock] at e
    omega
  · simp at hu'
end Go.Proofs.YtdmdagilopckgaaGreat
