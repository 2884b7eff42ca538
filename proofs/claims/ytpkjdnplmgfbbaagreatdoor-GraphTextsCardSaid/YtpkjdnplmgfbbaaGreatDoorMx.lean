/- Lists of lists in memory: kinds of elements of one cell with the blocks in which they lie; growing lists of such elements; rows of ints and of integers. Matrices as functions; plain Lean. -/
import Derived.Test.YtpkjdnplmgfbbaaGreatDoorG8
namespace Go.Proofs.YtpkjdnplmgfbbaaGreatDoor
open Go.RowKit

/-- A kind of element: R w D v x says that the value v (one cell) holds x, and that all the memory behind it lies in blocks of D. -/
class Foot {α : Type} (R : World → (Nat → Prop) → Value → α → Prop) : Prop where
  keep : ∀ {w w' : World} {D : Nat → Prop} {v : Value} {x : α}, R w D v x → (∀ b, D b → b < w.heap.size → w'.heap[b]? = w.heap[b]?) → R w' D v x
  mono : ∀ {w : World} {D D' : Nat → Prop} {v : Value} {x : α}, R w D v x → (∀ b, D b → b < w.heap.size → D' b) → R w D' v x
  one : ∀ {w : World} {D : Nat → Prop} {v : Value} {x : α}, R w D v x → v.oneCell' = true

theorem Foot.below {α : Type} {R : World → (Nat → Prop) → Value → α → Prop} [Foot R] {w w' : World} {D : Nat → Prop} {v : Value} {x : α} (h : R w D v x) (hb : Below w.heap.size w w') : R w' D v x := Foot.keep h fun b _ hl => hb.block b hl
theorem Foot.t {α : Type} {R : World → (Nat → Prop) → Value → α → Prop} [Foot R] {w : World} {D : Nat → Prop} {v : Value} {x : α} (h : R w D v x) : R w (fun _ => True) v x := Foot.mono h fun _ _ _ => trivial

/-- A row of ints. -/
def IlD (w : World) (D : Nat → Prop) (v : Value) (l : List Int) : Prop := ∃ A c, v = .slice A l.length c ∧ Il w A l.length c l ∧ (0 < l.length → ∃ b off, A = some ⟨b, off, none⟩ ∧ D b)
/-- A row of integers. -/
def PvD (w : World) (D : Nat → Prop) (v : Value) (l : List Int) : Prop := ∃ A c, v = .slice A l.length c ∧ Pl (fun w v x => NIntV w D v x) w D A l.length c l

instance : Foot IlD where
  keep := by
    rintro w w' D v x ⟨A, c, rfl, h, hd⟩ hk
    refine ⟨A, c, rfl, ⟨⟨h.1.len, h.1.cap, h.1.room, fun hn => ?_⟩, h.2⟩, hd⟩
    obtain ⟨b, off, e, hc⟩ := h.1.cells hn
    obtain ⟨b', off', e', hd'⟩ := hd hn
    rw [e] at e'
    injection e' with e'
    injection e' with e1 e2
    subst e1 e2
    exact ⟨b, off, e, fun j u hu => (World.cell?_of_block (w := w) (hk b hd' (cell_some_lt (hc j u hu)))).trans (hc j u hu)⟩
  mono := by
    rintro w D D' v x ⟨A, c, rfl, h, hd⟩ hm
    refine ⟨A, c, rfl, h, fun hn => ?_⟩
    obtain ⟨b, off, e, hb⟩ := hd hn
    obtain ⟨b', off', e', hc⟩ := h.1.cells hn
    rw [e] at e'
    injection e' with e'
    injection e' with e1 e2
    subst e1 e2
    obtain ⟨u, hu⟩ : ∃ u, (x.map (Value.int .i64))[0]? = some u := ⟨_, List.getElem?_eq_getElem (by simpa using hn)⟩
    exact ⟨b, off, e, hm b hb (cell_some_lt (hc 0 u hu))⟩
  one := by
    rintro w D v x ⟨A, c, rfl, _⟩
    rfl

instance : Foot PvD where
  keep := by
    rintro w w' D v x ⟨A, c, rfl, h⟩ hk
    refine ⟨A, c, rfl, h.len, h.cap, h.room, fun hn => ?_⟩
    obtain ⟨b, off, e, hd, hc⟩ := h.cells hn
    refine ⟨b, off, e, hd, fun j hj => ?_⟩
    obtain ⟨neg, B, m, k, h0, h1, A1, c1, e1, h2⟩ := hc j hj
    exact ⟨neg, B, m, k, (World.cell?_of_block (w := w) (hk b hd (cell_lt h0))).trans h0, (World.cell?_of_block (w := w) (hk b hd (cell_lt h1))).trans h1, A1, c1, e1, h2.keep fun b o hb hl => World.cell?_of_block (w := w) (hk b hb hl)⟩
  mono := by
    rintro w D D' v x ⟨A, c, rfl, h⟩ hm
    refine ⟨A, c, rfl, h.len, h.cap, h.room, fun hn => ?_⟩
    obtain ⟨b, off, e, hd, hc⟩ := h.cells hn
    obtain ⟨_, _, _, _, hx, _⟩ := hc 0 hn
    refine ⟨b, off, e, hm b hd (cell_lt hx), fun j hj => ?_⟩
    obtain ⟨neg, B, m, k, h0, h1, h2⟩ := hc j hj
    exact ⟨neg, B, m, k, h0, h1, h2.mono hm⟩
  one := by
    rintro w D v x ⟨A, c, rfl, _⟩
    rfl

theorem PvD.pl {w : World} {D : Nat → Prop} {v : Value} {l : List Int} (h : PvD w D v l) : ∃ A c, v = .slice A l.length c ∧ Pl NI w (fun _ => True) A l.length c l := by
  obtain ⟨A, c, e, h1⟩ := h
  exact ⟨A, c, e, (h1.mono (D' := fun _ => True) fun _ _ _ => trivial).imp fun v x _ hx => NIntV.mono hx fun _ _ _ => trivial⟩
theorem Il.elt {w : World} {A : Option Addr} {n c : Nat} {l : List Int} (h : Il w A n c l) {k : Nat} {x : Int} (hx : l[k]? = some x) : ∃ b off, A = some ⟨b, off, none⟩ ∧ w.cell? ⟨b, off + k, none⟩ = some (.int .i64 x) := by
  have := lt_of_some hx
  have hl := h.len
  obtain ⟨b, off, e, hc⟩ := h.cell (by omega)
  exact ⟨b, off, e, hc k x hx⟩
theorem IlD.il {w : World} {D : Nat → Prop} {v : Value} {l : List Int} (h : IlD w D v l) : ∃ A c, v = .slice A l.length c ∧ Il w A l.length c l := by
  obtain ⟨A, c, e, h1, _⟩ := h
  exact ⟨A, c, e, h1⟩

/-- A list of such elements. -/
def RowsD {α : Type} (R : World → (Nat → Prop) → Value → α → Prop) (w : World) (D : Nat → Prop) (v : Value) (L : List α) : Prop :=
  ∃ (A : Option Addr) (c : Nat) (vs : List Value), v = .slice A L.length c ∧ L.length ≤ c ∧ c ≤ maxLen ∧ vs.length = L.length ∧ (0 < L.length → ∃ b off, A = some ⟨b, off, none⟩ ∧ D b ∧ ∀ (j : Nat) u, vs[j]? = some u → w.cell? ⟨b, off + j, none⟩ = some u) ∧
    ∀ (i : Nat) u x, vs[i]? = some u → L[i]? = some x → R w D u x

section
variable {α : Type} {R : World → (Nat → Prop) → Value → α → Prop} [Foot R] {w w' : World} {D D' : Nat → Prop} {v : Value} {L : List α}
theorem RowsD.keep (h : RowsD R w D v L) (hk : ∀ b, D b → b < w.heap.size → w'.heap[b]? = w.heap[b]?) : RowsD R w' D v L := by
  obtain ⟨A, c, vs, e, h1, h2, h3, h4, h5⟩ := h
  refine ⟨A, c, vs, e, h1, h2, h3, fun hn => ?_, fun i u x hu hx => Foot.keep (h5 i u x hu hx) hk⟩
  obtain ⟨b, off, e2, hd, hc⟩ := h4 hn
  exact ⟨b, off, e2, hd, fun j u hu => (World.cell?_of_block (w := w) (hk b hd (cell_some_lt (hc j u hu)))).trans (hc j u hu)⟩
theorem RowsD.mono (h : RowsD R w D v L) (hm : ∀ b, D b → b < w.heap.size → D' b) : RowsD R w D' v L := by
  obtain ⟨A, c, vs, e, h1, h2, h3, h4, h5⟩ := h
  refine ⟨A, c, vs, e, h1, h2, h3, fun hn => ?_, fun i u x hu hx => Foot.mono (h5 i u x hu hx) hm⟩
  obtain ⟨b, off, e2, hd, hc⟩ := h4 hn
  obtain ⟨u, hu⟩ : ∃ u, vs[0]? = some u := ⟨_, List.getElem?_eq_getElem (by omega)⟩
  exact ⟨b, off, e2, hm b hd (cell_some_lt (hc 0 u hu)), hc⟩
instance : Foot (RowsD R) where
  keep := RowsD.keep
  mono := RowsD.mono
  one := by
    rintro w D v x ⟨A, c, vs, rfl, _⟩
    rfl
theorem RowsD.below (h : RowsD R w D v L) (hb : Below w.heap.size w w') : RowsD R w' D v L := h.keep fun b _ hl => hb.block b hl
theorem RowsD.t (h : RowsD R w D v L) : RowsD R w (fun _ => True) v L := h.mono fun _ _ _ => trivial
omit [Foot R] in
/-- One element. -/
theorem RowsD.at {A : Option Addr} {n c : Nat} (h : RowsD R w D (.slice A n c) L) {i : Nat} {x : α} (hx : L[i]? = some x) : ∃ b off u, A = some ⟨b, off, none⟩ ∧ w.cell? ⟨b, off + i, none⟩ = some u ∧ R w D u x := by
  obtain ⟨A', c', vs, e, h1, h2, h3, h4, h5⟩ := h
  injection e with e1 e2 e3
  subst e1
  have hil := lt_of_some hx
  obtain ⟨b, off, e2, hd, hc⟩ := h4 (by omega)
  obtain ⟨u, hu⟩ : ∃ u, vs[i]? = some u := ⟨_, List.getElem?_eq_getElem (by omega)⟩
  exact ⟨b, off, u, e2, hc i u hu, h5 i u x hu hx⟩
omit [Foot R] in
theorem RowsD.room {A : Option Addr} {n c : Nat} (h : RowsD R w D (.slice A n c) L) : n = L.length ∧ n ≤ c ∧ c ≤ maxLen := by
  obtain ⟨A', c', vs, e, h1, h2, _⟩ := h
  injection e with e1 e2 e3
  subst e2 e3
  exact ⟨rfl, h1, h2⟩
omit [Foot R] in
theorem RowsD.slice (h : RowsD R w D v L) : ∃ A c, v = .slice A L.length c := by
  obtain ⟨A', c', vs, e, _⟩ := h
  exact ⟨A', c', e⟩
omit [Foot R] in
theorem RowsD.slice_ (h : RowsD R w D v L) {n : Nat} (hn : L.length = n) : ∃ A c, v = .slice A n c := by subst hn; exact h.slice
omit [Foot R] in
theorem RowsD.nil (A : Option Addr) (c : Nat) (hc : c ≤ maxLen) : RowsD R w D (.slice A 0 c) [] := ⟨A, c, [], rfl, Nat.zero_le _, hc, rfl, fun h => absurd h (by simp), fun i u x hu => by simp at hu⟩
end

/-- A list of the call's own (memory from base on) of such elements, of the type T. -/
def OwnL {α : Type} (R : World → (Nat → Prop) → Value → α → Prop) (T : TypeId) (w : World) (base : Nat) (v : Value) (L : List α) : Prop :=
  ∃ vs, w.ownsRow base T 1 v L.length vs ∧ vs.length = L.length ∧ ∀ (i : Nat) u x, vs[i]? = some u → L[i]? = some x → R w (fun b => base ≤ b ∧ some b ≠ v.ownBlock) u x

section
variable {α : Type} {R : World → (Nat → Prop) → Value → α → Prop} [Foot R] {T : TypeId} {w w' : World} {base : Nat} {v : Value} {L : List α}
omit [Foot R] in
theorem OwnL.nil (w : World) (base : Nat) : OwnL R T w base (.slice none 0 0) [] := ⟨[], World.ownsRow_nil _ _ _ _, rfl, fun i u x hu => by simp at hu⟩
omit [Foot R] in
theorem OwnL.slice (h : OwnL R T w base v L) : ∃ A c, v = .slice A L.length c ∧ L.length ≤ c ∧ c ≤ maxLen := by
  obtain ⟨vs, h1, _⟩ := h
  exact own_slice h1
omit [Foot R] in
theorem OwnL.slice_ (h : OwnL R T w base v L) {n : Nat} (hn : L.length = n) : ∃ A c, v = .slice A n c ∧ n ≤ c ∧ c ≤ maxLen := by subst hn; exact h.slice
theorem OwnL.below (h : OwnL R T w base v L) (hb : Below w.heap.size w w') : OwnL R T w' base v L := by
  obtain ⟨vs, h1, h2, h3⟩ := h
  refine ⟨vs, ⟨h1.1, ?_⟩, h2, fun i u x hu hx => Foot.below (h3 i u x hu hx) hb⟩
  rcases h1.2 with h4 | ⟨g, cap, cur, e, h4, h5, h6⟩
  · exact .inl h4
  · exact .inr ⟨g, cap, cur, e, h4, (hb.block g (h1.lt g (by rw [e]; rfl)).2).trans h5, h6⟩
theorem OwnL.rows (h : OwnL R T w base v L) : RowsD R w (base ≤ ·) v L := by
  obtain ⟨vs, h1, h2, h3⟩ := h
  obtain ⟨A, c, rfl, hc1, hc2⟩ := own_slice h1
  refine ⟨A, c, vs, rfl, hc1, hc2, h2, fun hn => ?_, fun i u x hu hx => Foot.mono (h3 i u x hu hx) fun b hb _ => hb.1⟩
  obtain ⟨g, cap, e, hb, _, _, _, hc⟩ := own_cells h1 hn
  injection e with e1 e2 e3
  subst e1
  exact ⟨g, 0, rfl, hb, fun j u hu => by rw [Nat.zero_add]; exact hc j u hu⟩
omit [Foot R] in
theorem OwnL.fresh (h : OwnL R T w base v L) {b : Nat} (hb : w.heap.size ≤ b) : some b ≠ v.ownBlock := by
  obtain ⟨vs, h1, _⟩ := h
  intro e
  have := (h1.lt b e.symm).2
  omega
omit [Foot R] in
/-- Memory made behind a list of the call's own. -/
theorem OwnL.row {β : Type} {R' : World → (Nat → Prop) → Value → β → Prop} [Foot R'] (h : OwnL R T w base v L) (hb : base ≤ w.heap.size) {B : Nat} (hB : w.heap.size ≤ B) {w1 : World} {u : Value} {y : β} (hu : R' w1 (B ≤ ·) u y) : R' w1 (fun b => base ≤ b ∧ some b ≠ v.ownBlock) u y :=
  Foot.mono hu fun b (h1 : B ≤ b) _ => ⟨by omega, h.fresh (by omega)⟩

variable (w0 : World)
/-- append(own, x) of one element that lies in a block made just before. -/
theorem wpList_pushL {ops : Array Oper} {rest : List Oper} {o : Oper} {a : Act} {Q : Exit → Act → World → Prop} (hgd : o.guard = none) (s x : Operand) (t t' : TypeId) (z : Value) (bytes : Nat)
    (ho : o.op = .call { callee := .builtin .append, args := #[s, x], argTypes := #[t, t'] })
    (ht : Tryz.prog.underlying t = some (.slice T)) (ht' : Tryz.prog.underlying t' = some (.slice T)) (hinfo : (Tryz.prog.info? T).map (fun i => (i.zero, i.size, i.bytes)) = some (some z, 1, bytes)) (hz : z.cells.size = 1) (hby : bytes ≤ 100)
    (base : Nat) (v : Value) (L : List α) (n : Nat) (hln : L.length = n) (hs : a.eval s = v) (hown : OwnL R T w0 base v L)
    (u : Value) (y : α) (hu : R w0 (fun b => base ≤ b ∧ some b ≠ v.ownBlock) u y) (hx : a.eval x = .slice (some ⟨w0.heap.size, 0, none⟩) 1 1) (h63 : n + 1 ≤ 1000000000) (hbase : base ≤ w0.heap.size)
    (h : ∀ A' c' w', OwnL R T w' base (.slice A' (n + 1) c') (L ++ [y]) → w0.grownBy w' v.ownBlock → Below base w0 w' → wpList Tryz.prog ops Q rest (a.put o.dst (.slice A' (n + 1) c')) w') :
    wpList Tryz.prog ops Q (o :: rest) a (w0.alloc (.cells #[u] T)) := by
  subst hln
  obtain ⟨vs, hrow, hlen, hel⟩ := hown
  have hmul : (L.length + 1) * bytes ≤ 1000000000 * 100 := Nat.mul_le_mul h63 hby
  refine wpList_app _ hgd s x t t' ho base T T z 1 bytes ht ht' hinfo hz (by omega) v L.length vs hs (hrow.alloc _) _ 1 1 [u] hx (src_block (heap_alloc_new w0 _) 1 1 rfl) (by intro u' hu'; rw [List.mem_singleton] at hu'; rw [hu']; exact Foot.one hu) (by unfold maxLen; omega) (by omega) (by simp; omega) ?_
  intro v' w' hown' hg hob
  obtain ⟨A', c', rfl, _, _⟩ := own_slice hown'
  have hg0 : w0.grownBy w' v.ownBlock := grownBy_trans (World.grownBy_alloc w0 _ _) hg
  refine h A' c' w' ⟨_, by rw [List.length_append]; exact hown', by simp [hlen], fun i u2 x2 hu2 hx2 => ?_⟩ hg0 ((Below.refl _ _).grown hg0 hbase (fun k hk => (hrow.lt k hk).1))
  have hr : R w0 (fun b => base ≤ b ∧ some b ≠ v.ownBlock) u2 x2 := by
    rcases getElem?_snoc_cases hx2 with ⟨h1, h2⟩ | ⟨h1, h2⟩
    · rw [List.getElem?_append_left (by omega)] at hu2
      exact hel i u2 x2 hu2 h2
    · rw [List.getElem?_append_right (by omega)] at hu2
      have : i - vs.length = 0 := by omega
      rw [this] at hu2
      simp at hu2
      subst hu2 h2
      exact hu
  have hr2 : R w0 (fun b => (base ≤ b ∧ some b ≠ v.ownBlock) ∧ b < w0.heap.size) u2 x2 := Foot.mono hr fun b h1 h2 => ⟨h1, h2⟩
  refine Foot.mono (Foot.keep hr2 fun b hd hb => hg0.block b hb hd.1.2) fun b hd _ => ⟨hd.1.1, ?_⟩
  rcases hob with e | e
  · rw [e]; exact hd.1.2
  · rw [e]
    intro e2
    have := hd.2
    simp at e2
    omega
end

/-- A list of integers of the call's own, all its memory from base on. -/
def OwnJ (w : World) (base : Nat) (v : Value) (l : List Int) : Prop := ∃ xs, w.ownsRow base 39 2 v l.length xs ∧ Cs w (fun b => base ≤ b ∧ some b ≠ v.ownBlock) xs l
section
variable {w w' : World} {base : Nat} {v : Value} {l : List Int}
theorem OwnJ.nil (w : World) (base : Nat) : OwnJ w base (.slice none 0 0) [] := ⟨[], World.ownsRow_nil _ _ _ _, Cs.nil⟩
theorem OwnJ.slice (h : OwnJ w base v l) : ∃ A c, v = .slice A l.length c ∧ l.length ≤ c ∧ c ≤ maxLen := by
  obtain ⟨xs, h1, _⟩ := h
  exact own_slice h1
theorem OwnJ.slice_ (h : OwnJ w base v l) {n : Nat} (hn : l.length = n) : ∃ A c, v = .slice A n c ∧ n ≤ c ∧ c ≤ maxLen := by subst hn; exact h.slice
theorem OwnJ.below (h : OwnJ w base v l) (hb : Below w.heap.size w w') : OwnJ w' base v l := by
  obtain ⟨xs, h1, h2⟩ := h
  refine ⟨xs, ⟨h1.1, ?_⟩, h2.below hb⟩
  rcases h1.2 with h3 | ⟨g, cap, cur, e, h4, h5, h6⟩
  · exact .inl h3
  · exact .inr ⟨g, cap, cur, e, h4, (hb.block g (h1.lt g (by rw [e]; rfl)).2).trans h5, h6⟩
theorem OwnJ.fresh (h : OwnJ w base v l) {b : Nat} (hb : w.heap.size ≤ b) : some b ≠ v.ownBlock := by
  obtain ⟨xs, h1, _⟩ := h
  intro e
  have := (h1.lt b e.symm).2
  omega
theorem OwnJ.pv (h : OwnJ w base v l) : PvD w (base ≤ ·) v l := by
  obtain ⟨xs, h1, h2⟩ := h
  obtain ⟨A, c, rfl, hc1, hc2⟩ := own_slice h1
  refine ⟨A, c, rfl, rfl, hc1, hc2, fun hn => ?_⟩
  obtain ⟨g, cap, e, hb, _, _, _, hc⟩ := own_cells h1 hn
  injection e with e1 e2 e3
  subst e1
  refine ⟨g, 0, rfl, hb, fun j hj => ?_⟩
  obtain ⟨neg, B, m, k, e0, e1, e2⟩ := h2.2 j hj
  exact ⟨neg, B, m, k, by rw [Nat.zero_add]; exact hc _ _ e0, by rw [Nat.zero_add]; exact hc _ _ e1, e2.mono fun b hb _ => hb.1⟩

variable (w0 : World)
/-- append(own, x) of one integer that lies in a block made just before. -/
theorem wpList_pushJ {ops : Array Oper} {rest : List Oper} {o : Oper} {a : Act} {Q : Exit → Act → World → Prop} (hgd : o.guard = none) (s x : Operand) (t t' : TypeId)
    (ho : o.op = .call { callee := .builtin .append, args := #[s, x], argTypes := #[t, t'] })
    (base : Nat) (ht : Tryz.prog.underlying t = some (.slice 39)) (ht' : Tryz.prog.underlying t' = some (.slice 39))
    (v : Value) (l : List Int) (n : Nat) (hln : l.length = n) (hs : a.eval s = v) (hown : OwnJ w0 base v l)
    (neg : Bool) (B : Option Addr) (m k : Nat) (y : Int) (hx : a.eval x = .slice (some ⟨w0.heap.size, 0, none⟩) 1 1) (hy : NIntV w0 (fun b => base ≤ b ∧ some b ≠ v.ownBlock) (.agg #[.bool neg, .slice B m k]) y)
    (h63 : n + 1 ≤ 1000000000) (hbase : base ≤ w0.heap.size)
    (h : ∀ A' c' w', OwnJ w' base (.slice A' (n + 1) c') (l ++ [y]) → w0.grownBy w' v.ownBlock → Below base w0 w' → wpList Tryz.prog ops Q rest (a.put o.dst (.slice A' (n + 1) c')) w') :
    wpList Tryz.prog ops Q (o :: rest) a (w0.alloc (.cells #[.bool neg, .slice B m k] 39)) := by
  subst hln
  obtain ⟨xs, hrow, hcs⟩ := hown
  refine wpList_app _ hgd s x t t' ho base 39 39 (.agg #[.bool false, .slice none 0 0]) 2 32 ht ht' info_Int rfl (by omega) v l.length xs hs (hrow.alloc _) _ 1 1 [.bool neg, .slice B m k] hx (src_block (heap_alloc_new w0 _) 1 2 rfl) (by simp [Value.oneCell']) (by unfold maxLen; omega) (by omega) (by simp; omega) ?_
  intro v' w' hown' hg hob
  obtain ⟨A', c', rfl, _, _⟩ := own_slice hown'
  have hg0 : w0.grownBy w' v.ownBlock := grownBy_trans (World.grownBy_alloc w0 _ _) hg
  refine h A' c' w' ⟨_, by rw [List.length_append]; exact hown', ?_⟩ hg0 ((Below.refl _ _).grown hg0 hbase (fun k hk => (hrow.lt k hk).1))
  have hk : ∀ b o, some b ≠ v.ownBlock → b < w0.heap.size → w'.cell? ⟨b, o, none⟩ = w0.cell? ⟨b, o, none⟩ := fun b o hd hb => World.cell?_of_block (hg0.block b hb hd)
  have hc2 : Cs w0 (fun b => base ≤ b ∧ some b ≠ v.ownBlock) (xs ++ [.bool neg, .slice B m k]) (l ++ [y]) := hcs.snoc hy
  have hc3 : Cs w0 (fun b => (base ≤ b ∧ some b ≠ v.ownBlock) ∧ b < w0.heap.size) (xs ++ [.bool neg, .slice B m k]) (l ++ [y]) := hc2.mono fun b h1 h2 => ⟨h1, h2⟩
  refine (hc3.keep (w' := w') fun b o hd hb => hk b o hd.1.2 hb).mono fun b hd _ => ⟨hd.1.1, ?_⟩
  rcases hob with e | e
  · rw [e]; exact hd.1.2
  · rw [e]
    intro e2
    have := hd.2
    simp at e2
    omega
end

/-- The first n values of f. -/
def li (f : Nat → Int) (n : Nat) : List Int := (List.range n).map f
/-- The matrix of f. -/
def ml (f : Nat → Nat → Int) (n : Nat) : List (List Int) := (List.range n).map fun i => li (f i) n
theorem li_length (f : Nat → Int) (n : Nat) : (li f n).length = n := by simp [li]
theorem ml_length (f : Nat → Nat → Int) (n : Nat) : (ml f n).length = n := by simp [ml]
theorem li_get {f : Nat → Int} {n i : Nat} (h : i < n) : (li f n)[i]? = some (f i) := by unfold li; rw [List.getElem?_map, List.getElem?_range h]; rfl
theorem ml_get {f : Nat → Nat → Int} {n i : Nat} (h : i < n) : (ml f n)[i]? = some (li (f i) n) := by unfold ml; rw [List.getElem?_map, List.getElem?_range h]; rfl
theorem li_gz {f : Nat → Int} {n i : Nat} (h : i < n) : gz (li f n) i = f i := by unfold gz; exact getD_some (li_get h)
theorem li_ext {f g : Nat → Int} {n : Nat} (h : ∀ i, i < n → f i = g i) : li f n = li g n := List.map_congr_left fun i hi => h i (List.mem_range.1 hi)
theorem ml_ext {f g : Nat → Nat → Int} {n : Nat} (h : ∀ i k, i < n → k < n → f i k = g i k) : ml f n = ml g n := List.map_congr_left fun i hi => li_ext fun k hk => h i k (List.mem_range.1 hi) hk
theorem li_succ (f : Nat → Int) (n : Nat) : li f (n + 1) = li f n ++ [f n] := by simp [li, List.range_succ]
theorem rows_succ (f : Nat → Nat → Int) (n k : Nat) : (List.range (k + 1)).map (fun i => li (f i) n) = (List.range k).map (fun i => li (f i) n) ++ [li (f k) n] := by simp [List.range_succ]
theorem li_set {f : Nat → Int} {n i : Nat} {x : Int} (hi : i < n) : (li f n).set i x = li (fun j => if j = i then x else f j) n := by
  refine gz_ext (by simp [li_length]) fun j hj => ?_
  rw [List.length_set, li_length] at hj
  rw [gz_set (by rw [li_length]; exact hi), li_gz hj, li_gz hj]
  by_cases h : i = j
  · subst h; simp
  · rw [if_neg h, if_neg (fun e => h e.symm)]
theorem li_zero (n : Nat) : List.replicate n (0 : Int) = li (fun _ => 0) n := by
  refine gz_ext (by simp [li_length]) fun j hj => ?_
  rw [List.length_replicate] at hj
  rw [gz_replicate, li_gz hj]
theorem lf_li (f : Nat → Nat) (n : Nat) : lf f n = li (fun i => (f i : Int)) n := rfl

/-- The sum of the first values. -/
def sm (h : Nat → Int) : Nat → Int
  | 0 => 0
  | j + 1 => sm h j + h j
/-- The product of two matrices. -/
def mm (n : Nat) (f g : Nat → Nat → Int) (i k : Nat) : Int := sm (fun j => f i j * g j k) n
/-- A multiple of the unit matrix. -/
def mu (x : Int) (i k : Nat) : Int := if i = k then x else 0
/-- The matrix of a graph. -/
def ma (E : List (List Nat)) (i k : Nat) : Int := ((gr E i).count k : Nat)
theorem sm_ext {f g : Nat → Int} : ∀ n, (∀ j, j < n → f j = g j) → sm f n = sm g n
  | 0, _ => rfl
  | n + 1, h => by rw [sm, sm, sm_ext n (fun j hj => h j (by omega)), h n (by omega)]
theorem sm_ps (E : List (List Nat)) (f : Nat → Nat) (v : Nat) : ∀ n, sm (fun j => (f j : Int) * ma E j v) n = (ps E f v n : Nat)
  | 0 => rfl
  | n + 1 => by
    rw [sm, sm_ps E f v n, ps, ma]
    simp
theorem mm_wn (E : List (List Nat)) (m i k : Nat) : mm E.length (fun i k => (wn E i m k : Nat)) (ma E) i k = (wn E i (m + 1) k : Nat) := by
  unfold mm; rw [sm_ps, wn]
theorem mu_wn (E : List (List Nat)) (i k : Nat) : mu 1 i k = (wn E i 0 k : Nat) := by
  unfold mu; rw [wn]
  by_cases h : i = k
  · subst h; simp
  · rw [if_neg h, if_neg (fun e => h e.symm)]; rfl
theorem sm_tr (E : List (List Nat)) (m : Nat) : ∀ n, sm (fun i => (wn E i m i : Nat)) n = (tr E m n : Nat)
  | 0 => rfl
  | n + 1 => by rw [sm, sm_tr E m n, tr]; simp
theorem sm_le {h : Nat → Int} {B : Nat} : ∀ n, (∀ j, j < n → (h j).natAbs ≤ B) → (sm h n).natAbs ≤ n * B
  | 0, _ => by simp [sm]
  | n + 1, hj => by
    have h1 := sm_le n fun j hjn => hj j (by omega)
    have h2 := hj n (by omega)
    rw [sm, Nat.succ_mul]
    omega
theorem mm_le {n M N : Nat} {f g : Nat → Nat → Int} (hn : n ≤ 4096) (hf : ∀ i k, i < n → k < n → (f i k).natAbs ≤ 2 ^ M) (hg : ∀ i k, i < n → k < n → (g i k).natAbs ≤ 2 ^ N) : ∀ i k j, i < n → k < n → j ≤ n → (sm (fun j => f i j * g j k) j).natAbs ≤ 2 ^ (M + N + 12) := by
  intro i k j hi hk hj
  refine Nat.le_trans (sm_le (B := 2 ^ (M + N)) j fun q hq => ?_) ?_
  · rw [Int.natAbs_mul, Nat.pow_add]
    exact Nat.mul_le_mul (hf i q hi (by omega)) (hg q k (by omega) hk)
  · rw [Nat.pow_add 2 (M + N) 12, Nat.mul_comm]
    exact Nat.mul_le_mul_left _ (by omega)
end Go.Proofs.YtpkjdnplmgfbbaaGreatDoor
