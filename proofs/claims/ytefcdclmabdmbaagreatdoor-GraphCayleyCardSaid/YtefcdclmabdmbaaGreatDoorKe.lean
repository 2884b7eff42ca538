/- Lists of lists in memory: kinds of elements of one cell with the blocks in which they lie; growing lists of such elements; rows of ints and of integers. Matrices as functions; plain Lean. A graph that a call makes: names and rows that are appended to. graph.search over lists whose memory is told by blocks. -/
import Derived.Test.YtefcdclmabdmbaaGreatDoorKd
namespace Go.Proofs.YtefcdclmabdmbaaGreatDoor
open Go.RowKit

/-- A kind of element: R w D v x says that the value v (one cell) holds x, and that all the memory behind it lies in blocks of D. -/
class Foot {α : Type} (R : World → (Nat → Prop) → Value → α → Prop) : Prop where
  keep : ∀ {w w' : World} {D : Nat → Prop} {v : Value} {x : α}, R w D v x → (∀ b, D b → b < w.heap.size → w'.heap[b]? = w.heap[b]?) → R w' D v x
  mono : ∀ {w : World} {D D' : Nat → Prop} {v : Value} {x : α}, R w D v x → (∀ b, D b → b < w.heap.size → D' b) → R w D' v x
  one : ∀ {w : World} {D : Nat → Prop} {v : Value} {x : α}, R w D v x → v.oneCell' = true

theorem Foot.below {α : Type} {R : World → (Nat → Prop) → Value → α → Prop} [Foot R] {w w' : World} {D : Nat → Prop} {v : Value} {x : α} (h : R w D v x) (hb : Below w.heap.size w w') : R w' D v x := Foot.keep h fun b _ hl => hb.block b hl
theorem Foot.t {α : Type} {R : World → (Nat → Prop) → Value → α → Prop} [Foot R] {w : World} {D : Nat → Prop} {v : Value} {x : α} (h : R w D v x) : R w (fun _ => True) v x := Foot.mono h fun _ _ _ => trivial

/-- A row of ints. -/
def IlD (w : World) (D : Nat → Prop) (v : Value) (l : List Int) : Prop := ∃ A c, v = .slice A l.length c ∧ Il w A l.length c l ∧ (0 < l.length → ∃ b off, A = some ⟨b, off, none⟩ ∧ D b)
/-- A row of integers. -/
def PvD (w : World) (D : Nat → Prop) (v : Value) (l : List Int) : Prop := ∃ A c, v = .slice A l.length c ∧ Pl (fun w v x => NIntV w D v x) w D A l.length c l

instance : Foot IlD where
  keep := by
    rintro w w' D v x ⟨A, c, rfl, h, hd⟩ hk
    refine ⟨A, c, rfl, ⟨⟨h.1.len, h.1.cap, h.1.room, fun hn => ?_⟩, h.2⟩, hd⟩
    obtain ⟨b, off, e, hc⟩ := h.1.cells hn
    obtain ⟨b', off', e', hd'⟩ := hd hn
    rw [e] at e'
    injection e' with e'
    injection e' with e1 e2
    subst e1 e2
    exact ⟨b, off, e, fun j u hu => (World.cell?_of_block (w := w) (hk b hd' (cell_some_lt (hc j u hu)))).trans (hc j u hu)⟩
  mono := by
    rintro w D D' v x ⟨A, c, rfl, h, hd⟩ hm
    refine ⟨A, c, rfl, h, fun hn => ?_⟩
    obtain ⟨b, off, e, hb⟩ := hd hn
    obtain ⟨b', off', e', hc⟩ := h.1.cells hn
    rw [e] at e'
    injection e' with e'
    injection e' with e1 e2
    subst e1 e2
    obtain ⟨u, hu⟩ : ∃ u, (x.map (Value.int .i64))[0]? = some u := ⟨_, List.getElem?_eq_getElem (by simpa using hn)⟩
    exact ⟨b, off, e, hm b hb (cell_some_lt (hc 0 u hu))⟩
  one := by
    rintro w D v x ⟨A, c, rfl, _⟩
    rfl

instance : Foot PvD where
  keep := by
    rintro w w' D v x ⟨A, c, rfl, h⟩ hk
    refine ⟨A, c, rfl, h.len, h.cap, h.room, fun hn => ?_⟩
    obtain ⟨b, off, e, hd, hc⟩ := h.cells hn
    refine ⟨b, off, e, hd, fun j hj => ?_⟩
    obtain ⟨neg, B, m, k, h0, h1, A1, c1, e1, h2⟩ := hc j hj
    exact ⟨neg, B, m, k, (World.cell?_of_block (w := w) (hk b hd (cell_lt h0))).trans h0, (World.cell?_of_block (w := w) (hk b hd (cell_lt h1))).trans h1, A1, c1, e1, h2.keep fun b o hb hl => World.cell?_of_block (w := w) (hk b hb hl)⟩
  mono := by
    rintro w D D' v x ⟨A, c, rfl, h⟩ hm
    refine ⟨A, c, rfl, h.len, h.cap, h.room, fun hn => ?_⟩
    obtain ⟨b, off, e, hd, hc⟩ := h.cells hn
    obtain ⟨_, _, _, _, hx, _⟩ := hc 0 hn
    refine ⟨b, off, e, hm b hd (cell_lt hx), fun j hj => ?_⟩
    obtain ⟨neg, B, m, k, h0, h1, h2⟩ := hc j hj
    exact ⟨neg, B, m, k, h0, h1, h2.mono hm⟩
  one := by
    rintro w D v x ⟨A, c, rfl, _⟩
    rfl

theorem PvD.pl {w : World} {D : Nat → Prop} {v : Value} {l : List Int} (h : PvD w D v l) : ∃ A c, v = .slice A l.length c ∧ Pl NI w (fun _ => True) A l.length c l := by
  obtain ⟨A, c, e, h1⟩ := h
  exact ⟨A, c, e, (h1.mono (D' := fun _ => True) fun _ _ _ => trivial).imp fun v x _ hx => NIntV.mono hx fun _ _ _ => trivial⟩
theorem IlD.il {w : World} {D : Nat → Prop} {v : Value} {l : List Int} (h : IlD w D v l) : ∃ A c, v = .slice A l.length c ∧ Il w A l.length c l := by
  obtain ⟨A, c, e, h1, _⟩ := h
  exact ⟨A, c, e, h1⟩

/-- A list of such elements. -/
def RowsD {α : Type} (R : World → (Nat → Prop) → Value → α → Prop) (w : World) (D : Nat → Prop) (v : Value) (L : List α) : Prop :=
  ∃ (A : Option Addr) (c : Nat) (vs : List Value), v = .slice A L.length c ∧ L.length ≤ c ∧ c ≤ maxLen ∧ vs.length = L.length ∧ (0 < L.length → ∃ b off, A = some ⟨b, off, none⟩ ∧ D b ∧ ∀ (j : Nat) u, vs[j]? = some u → w.cell? ⟨b, off + j, none⟩ = some u) ∧
    ∀ (i : Nat) u x, vs[i]? = some u → L[i]? = some x → R w D u x

section
variable {α : Type} {R : World → (Nat → Prop) → Value → α → Prop} [Foot R] {w w' : World} {D D' : Nat → Prop} {v : Value} {L : List α}
theorem RowsD.keep (h : RowsD R w D v L) (hk : ∀ b, D b → b < w.heap.size → w'.heap[b]? = w.heap[b]?) : RowsD R w' D v L := by
  obtain ⟨A, c, vs, e, h1, h2, h3, h4, h5⟩ := h
  refine ⟨A, c, vs, e, h1, h2, h3, fun hn => ?_, fun i u x hu hx => Foot.keep (h5 i u x hu hx) hk⟩
  obtain ⟨b, off, e2, hd, hc⟩ := h4 hn
  exact ⟨b, off, e2, hd, fun j u hu => (World.cell?_of_block (w := w) (hk b hd (cell_some_lt (hc j u hu)))).trans (hc j u hu)⟩
theorem RowsD.mono (h : RowsD R w D v L) (hm : ∀ b, D b → b < w.heap.size → D' b) : RowsD R w D' v L := by
  obtain ⟨A, c, vs, e, h1, h2, h3, h4, h5⟩ := h
  refine ⟨A, c, vs, e, h1, h2, h3, fun hn => ?_, fun i u x hu hx => Foot.mono (h5 i u x hu hx) hm⟩
  obtain ⟨b, off, e2, hd, hc⟩ := h4 hn
  obtain ⟨u, hu⟩ : ∃ u, vs[0]? = some u := ⟨_, List.getElem?_eq_getElem (by omega)⟩
  exact ⟨b, off, e2, hm b hd (cell_some_lt (hc 0 u hu)), hc⟩
instance : Foot (RowsD R) where
  keep := RowsD.keep
  mono := RowsD.mono
  one := by
    rintro w D v x ⟨A, c, vs, rfl, _⟩
    rfl
theorem RowsD.below (h : RowsD R w D v L) (hb : Below w.heap.size w w') : RowsD R w' D v L := h.keep fun b _ hl => hb.block b hl
theorem RowsD.t (h : RowsD R w D v L) : RowsD R w (fun _ => True) v L := h.mono fun _ _ _ => trivial
omit [Foot R] in
/-- One element. -/
theorem RowsD.at {A : Option Addr} {n c : Nat} (h : RowsD R w D (.slice A n c) L) {i : Nat} {x : α} (hx : L[i]? = some x) : ∃ b off u, A = some ⟨b, off, none⟩ ∧ w.cell? ⟨b, off + i, none⟩ = some u ∧ R w D u x := by
  obtain ⟨A', c', vs, e, h1, h2, h3, h4, h5⟩ := h
  injection e with e1 e2 e3
  subst e1
  have hil := lt_of_some hx
  obtain ⟨b, off, e2, hd, hc⟩ := h4 (by omega)
  obtain ⟨u, hu⟩ : ∃ u, vs[i]? = some u := ⟨_, List.getElem?_eq_getElem (by omega)⟩
  exact ⟨b, off, u, e2, hc i u hu, h5 i u x hu hx⟩
omit [Foot R] in
theorem RowsD.room {A : Option Addr} {n c : Nat} (h : RowsD R w D (.slice A n c) L) : n = L.length ∧ n ≤ c ∧ c ≤ maxLen := by
  obtain ⟨A', c', vs, e, h1, h2, _⟩ := h
  injection e with e1 e2 e3
  subst e2 e3
  exact ⟨rfl, h1, h2⟩
omit [Foot R] in
theorem RowsD.slice (h : RowsD R w D v L) : ∃ A c, v = .slice A L.length c := by
  obtain ⟨A', c', vs, e, _⟩ := h
  exact ⟨A', c', e⟩
omit [Foot R] in
theorem RowsD.nil (A : Option Addr) (c : Nat) (hc : c ≤ maxLen) : RowsD R w D (.slice A 0 c) [] := ⟨A, c, [], rfl, Nat.zero_le _, hc, rfl, fun h => absurd h (by simp), fun i u x hu => by simp at hu⟩
end

/-- A list of the call's own (memory from base on) of such elements, of the type T. -/
def OwnL {α : Type} (R : World → (Nat → Prop) → Value → α → Prop) (T : TypeId) (w : World) (base : Nat) (v : Value) (L : List α) : Prop :=
  ∃ vs, w.ownsRow base T 1 v L.length vs ∧ vs.length = L.length ∧ ∀ (i : Nat) u x, vs[i]? = some u → L[i]? = some x → R w (fun b => base ≤ b ∧ some b ≠ v.ownBlock) u x

section
variable {α : Type} {R : World → (Nat → Prop) → Value → α → Prop} [Foot R] {T : TypeId} {w w' : World} {base : Nat} {v : Value} {L : List α}
omit [Foot R] in
theorem OwnL.nil (w : World) (base : Nat) : OwnL R T w base (.slice none 0 0) [] := ⟨[], World.ownsRow_nil _ _ _ _, rfl, fun i u x hu => by simp at hu⟩
omit [Foot R] in
theorem OwnL.slice (h : OwnL R T w base v L) : ∃ A c, v = .slice A L.length c ∧ L.length ≤ c ∧ c ≤ maxLen := by
  obtain ⟨vs, h1, _⟩ := h
  exact own_slice h1
theorem OwnL.below (h : OwnL R T w base v L) (hb : Below w.heap.size w w') : OwnL R T w' base v L := by
  obtain ⟨vs, h1, h2, h3⟩ := h
  refine ⟨vs, ⟨h1.1, ?_⟩, h2, fun i u x hu hx => Foot.below (h3 i u x hu hx) hb⟩
  rcases h1.2 with h4 | ⟨g, cap, cur, e, h4, h5, h6⟩
  · exact .inl h4
  · exact .inr ⟨g, cap, cur, e, h4, (hb.block g (h1.lt g (by rw [e]; rfl)).2).trans h5, h6⟩
theorem OwnL.rows (h : OwnL R T w base v L) : RowsD R w (base ≤ ·) v L := by
  obtain ⟨vs, h1, h2, h3⟩ := h
  obtain ⟨A, c, rfl, hc1, hc2⟩ := own_slice h1
  refine ⟨A, c, vs, rfl, hc1, hc2, h2, fun hn => ?_, fun i u x hu hx => Foot.mono (h3 i u x hu hx) fun b hb _ => hb.1⟩
  obtain ⟨g, cap, e, hb, _, _, _, hc⟩ := own_cells h1 hn
  injection e with e1 e2 e3
  subst e1
  exact ⟨g, 0, rfl, hb, fun j u hu => by rw [Nat.zero_add]; exact hc j u hu⟩
omit [Foot R] in
theorem OwnL.fresh (h : OwnL R T w base v L) {b : Nat} (hb : w.heap.size ≤ b) : some b ≠ v.ownBlock := by
  obtain ⟨vs, h1, _⟩ := h
  intro e
  have := (h1.lt b e.symm).2
  omega
omit [Foot R] in
/-- Memory made behind a list of the call's own. -/
theorem OwnL.row {β : Type} {R' : World → (Nat → Prop) → Value → β → Prop} [Foot R'] (h : OwnL R T w base v L) (hb : base ≤ w.heap.size) {B : Nat} (hB : w.heap.size ≤ B) {w1 : World} {u : Value} {y : β} (hu : R' w1 (B ≤ ·) u y) : R' w1 (fun b => base ≤ b ∧ some b ≠ v.ownBlock) u y :=
  Foot.mono hu fun b (h1 : B ≤ b) _ => ⟨by omega, h.fresh (by omega)⟩

variable (w0 : World)
end

/-- A list of integers of the call's own, all its memory from base on. -/
def OwnJ (w : World) (base : Nat) (v : Value) (l : List Int) : Prop := ∃ xs, w.ownsRow base 42 2 v l.length xs ∧ Cs w (fun b => base ≤ b ∧ some b ≠ v.ownBlock) xs l
section
variable {w w' : World} {base : Nat} {v : Value} {l : List Int}
theorem OwnJ.nil (w : World) (base : Nat) : OwnJ w base (.slice none 0 0) [] := ⟨[], World.ownsRow_nil _ _ _ _, Cs.nil⟩
theorem OwnJ.slice (h : OwnJ w base v l) : ∃ A c, v = .slice A l.length c ∧ l.length ≤ c ∧ c ≤ maxLen := by
  obtain ⟨xs, h1, _⟩ := h
  exact own_slice h1
theorem OwnJ.below (h : OwnJ w base v l) (hb : Below w.heap.size w w') : OwnJ w' base v l := by
  obtain ⟨xs, h1, h2⟩ := h
  refine ⟨xs, ⟨h1.1, ?_⟩, h2.below hb⟩
  rcases h1.2 with h3 | ⟨g, cap, cur, e, h4, h5, h6⟩
  · exact .inl h3
  · exact .inr ⟨g, cap, cur, e, h4, (hb.block g (h1.lt g (by rw [e]; rfl)).2).trans h5, h6⟩
theorem OwnJ.fresh (h : OwnJ w base v l) {b : Nat} (hb : w.heap.size ≤ b) : some b ≠ v.ownBlock := by
  obtain ⟨xs, h1, _⟩ := h
  intro e
  have := (h1.lt b e.symm).2
  omega
variable (w0 : World)
end

/-- The sum of the first values. -/
def sm (h : Nat → Int) : Nat → Int
  | 0 => 0
  | j + 1 => sm h j + h j
/-- The product of two matrices. -/
def mm (n : Nat) (f g : Nat → Nat → Int) (i k : Nat) : Int := sm (fun j => f i j * g j k) n
/-- The matrix of a graph. -/
def ma (E : List (List Nat)) (i k : Nat) : Int := ((gr E i).count k : Nat)
end Go.Proofs.YtefcdclmabdmbaaGreatDoor

namespace Go.Proofs.YtefcdclmabdmbaaGreatDoor
open Go.RowKit

def toZ (l : List Nat) : List Int := l.map fun x : Nat => (x : Int)

theorem own_keep {w w' : World} {base : Nat} {e : TypeId} {size n : Nat} {v : Value} {xs : List Value} (h : w.ownsRow base e size v n xs) (hk : ∀ g, v.ownBlock = some g → w'.heap[g]? = w.heap[g]?) : w'.ownsRow base e size v n xs := by
  refine ⟨h.1, ?_⟩
  rcases h.2 with h3 | ⟨g, cap, cur, e, h4, h5, h6⟩
  · exact .inl h3
  · exact .inr ⟨g, cap, cur, e, h4, (hk g (by rw [e]; rfl)).trans h5, h6⟩
theorem own_below {w w' : World} {base : Nat} {e : TypeId} {size n : Nat} {v : Value} {xs : List Value} (h : w.ownsRow base e size v n xs) (hb : Below w.heap.size w w') : w'.ownsRow base e size v n xs :=
  own_keep h fun g hg => hb.block g (World.ownsRow.lt h g hg).2

/-- A list of ints of the call's own. -/
def OwnZ (w : World) (base : Nat) (v : Value) (l : List Int) : Prop := w.ownsRow base 3 1 v l.length (l.map (Value.int .i64)) ∧ ∀ x ∈ l, -9223372036854775808 ≤ x ∧ x ≤ 9223372036854775807
theorem OwnZ.nil (w : World) (base : Nat) : OwnZ w base (.slice none 0 0) [] := ⟨World.ownsRow_nil _ _ _ _, fun x hx => by cases hx⟩
theorem OwnZ.below {w w' : World} {base : Nat} {v : Value} {l : List Int} (h : OwnZ w base v l) (hb : Below w.heap.size w w') : OwnZ w' base v l := ⟨own_below h.1 hb, h.2⟩
theorem OwnZ.len {w : World} {base : Nat} {A : Option Addr} {n c : Nat} {l : List Int} (h : OwnZ w base (.slice A n c) l) : n = l.length := by
  obtain ⟨A', c', e, _⟩ := own_slice h.1
  injection e
theorem OwnZ.row {w : World} {base : Nat} {v : Value} {l : List Int} (h : OwnZ w base v l) {D : Nat → Prop} (hD : ∀ b, base ≤ b → b < w.heap.size → D b) : IlD w D v l := by
  obtain ⟨A, c, rfl, h1, h2⟩ := own_slice h.1
  refine ⟨A, c, rfl, ⟨⟨by simp, h1, h2, fun hn => ?_⟩, h.2⟩, fun hn => ?_⟩
  · obtain ⟨g, cap, e, hb, _, _, _, hc⟩ := own_cells h.1 hn
    injection e with e1 e2 e3
    subst e1
    exact ⟨g, 0, rfl, fun j u hu => by rw [Nat.zero_add]; exact hc j u hu⟩
  · obtain ⟨g, cap, e, hb, _, _, _, hc⟩ := own_cells h.1 hn
    injection e with e1 e2 e3
    subst e1
    exact ⟨g, 0, rfl, hD g hb (World.ownsRow.lt h.1 g rfl).2⟩
theorem info_intZ : (Tryz.prog.info? 3).map (fun i => (i.zero, i.size, i.bytes)) = some (some (.int .i64 0), 1, 8) := by kernel_rfl
theorem info_str : (Tryz.prog.info? 9).map (fun i => (i.zero, i.size, i.bytes)) = some (some (.string ⟨#[]⟩), 1, 16) := by kernel_rfl
theorem info_intsZ : (Tryz.prog.info? 55).map (fun i => (i.zero, i.size, i.bytes)) = some (some (.slice none 0 0), 1, 24) := by kernel_rfl

section
variable (w0 : World)
end

/-- The names and the rows of a graph that the call makes. -/
structure GB (w : World) (base : Nat) (vN vE : Value) (names : List ByteArray) (E : List (List Int)) : Prop where
  nm : w.ownsRow base 9 1 vN names.length (names.map Value.string)
  ed : ∃ vs, w.ownsRow base 55 1 vE E.length vs ∧ vs.length = E.length ∧ ∀ (i : Nat) u x, vs[i]? = some u → E[i]? = some x → IlD w (fun b => base ≤ b ∧ some b ≠ vE.ownBlock ∧ some b ≠ vN.ownBlock) u x
  ne : ∀ b, vN.ownBlock = some b → vE.ownBlock ≠ some b
  sz : ∀ s ∈ names, s.size ≤ maxLen
theorem GB.nil (w : World) (base : Nat) : GB w base (.slice none 0 0) (.slice none 0 0) [] [] :=
  ⟨World.ownsRow_nil _ _ _ _, ⟨[], World.ownsRow_nil _ _ _ _, rfl, fun i u x hu => by simp at hu⟩, fun b hb => by simp [Value.ownBlock] at hb, fun s hs => by cases hs⟩
theorem GB.below {w w' : World} {base : Nat} {vN vE : Value} {names : List ByteArray} {E : List (List Int)} (h : GB w base vN vE names E) (hb : Below w.heap.size w w') : GB w' base vN vE names E := by
  obtain ⟨h1, ⟨vs, h2, h3, h4⟩, h5, h6⟩ := h
  exact ⟨own_below h1 hb, ⟨vs, own_below h2 hb, h3, fun i u x hu hx => Foot.below (h4 i u x hu hx) hb⟩, h5, h6⟩
theorem GB.slices {w : World} {base : Nat} {vN vE : Value} {names : List ByteArray} {E : List (List Int)} (h : GB w base vN vE names E) : ∃ A c A' c', vN = .slice A names.length c ∧ vE = .slice A' E.length c' := by
  obtain ⟨A, c, e, _⟩ := own_slice h.nm
  obtain ⟨vs, h2, _⟩ := h.ed
  obtain ⟨A', c', e', _⟩ := own_slice h2
  exact ⟨A, c, A', c', e, e'⟩
/-- It is a graph. -/
theorem GB.gr {w : World} {base : Nat} {vN vE : Value} {names : List ByteArray} {E : List (List Int)} (h : GB w base vN vE names E) : GrV w (.agg #[vN, vE]) names E := by
  obtain ⟨h1, ⟨vs, h2, h3, h4⟩, h5, h6⟩ := h
  obtain ⟨A, c, rfl, hc1, hc2⟩ := own_slice h1
  obtain ⟨A', c', rfl, hc3, hc4⟩ := own_slice h2
  refine ⟨A, c, A', c', rfl, ⟨⟨by simp, hc1, hc2, fun hn => ?_⟩, h6⟩, vs, ⟨h3, hc3, hc4, fun hn => ?_⟩, h3, fun i u x hu hx => ?_⟩
  · obtain ⟨g, cap, e, _, _, _, _, hc⟩ := own_cells h1 hn
    injection e with e1 e2 e3
    subst e1
    exact ⟨g, 0, rfl, fun j u hu => by rw [Nat.zero_add]; exact hc j u hu⟩
  · obtain ⟨g, cap, e, _, _, _, _, hc⟩ := own_cells h2 hn
    injection e with e1 e2 e3
    subst e1
    exact ⟨g, 0, rfl, fun j u hu => by rw [Nat.zero_add]; exact hc j u hu⟩
  · exact (h4 i u x hu hx).il

section
variable (w0 : World)
/-- append(names, y): y lies in block B. -/
theorem wpList_pushNm {ops : Array Oper} {rest : List Oper} {o : Oper} {a : Act} {Q : Exit → Act → World → Prop} (hgd : o.guard = none) (s x : Operand)
    (ho : o.op = .call { callee := .builtin .append, args := #[s, x], argTypes := #[22, 22] })
    (base : Nat) (A : Option Addr) (n c : Nat) (vE : Value) (names : List ByteArray) (E : List (List Int)) (hs : a.eval s = .slice A n c) (h0 : GB w0 base (.slice A n c) vE names E)
    (y : ByteArray) (hy : y.size ≤ maxLen) (B : Nat) (hB : w0.heap[B]? = some (.cells #[.string y] 9 (0, 0))) (hx : a.eval x = .slice (some ⟨B, 0, none⟩) 1 1) (h63 : n + 1 ≤ 1000000000) (hbase : base ≤ w0.heap.size)
    (h : ∀ A' c' w', GB w' base (.slice A' (n + 1) c') vE (names ++ [y]) E → w0.grownBy w' (Value.slice A n c).ownBlock → ((Value.slice A' (n + 1) c').ownBlock = (Value.slice A n c).ownBlock ∨ (Value.slice A' (n + 1) c').ownBlock = some w0.heap.size) → Below base w0 w' → wpList Tryz.prog ops Q rest (a.put o.dst (.slice A' (n + 1) c')) w') :
    wpList Tryz.prog ops Q (o :: rest) a w0 := by
  obtain ⟨h1, ⟨vs, h2, h3, h4⟩, h5, h6⟩ := h0
  obtain rfl : n = names.length := by
    obtain ⟨A', c', e, _⟩ := own_slice h1
    injection e
  refine wpList_app _ hgd s x 22 22 ho base 9 9 (.string ⟨#[]⟩) 1 16 Tryz.underlying22 Tryz.underlying22 info_str rfl (by omega) _ names.length (names.map Value.string) hs h1 _ 1 1 [.string y] hx (src_block hB 1 1 rfl) (by simp [Value.oneCell']) (by unfold maxLen; omega) (by omega) hbase ?_
  intro v' w' hown' hg hob
  obtain ⟨A', c', rfl, _, _⟩ := own_slice hown'
  have k2 : ∀ g, vE.ownBlock = some g → w'.heap[g]? = w0.heap[g]? := fun g hgE => hg.block g (World.ownsRow.lt h2 g hgE).2 (fun e => h5 g e.symm hgE)
  refine h A' c' w' ⟨?_, ⟨vs, own_keep h2 k2, h3, fun i u x hu hx => ?_⟩, fun b hb => ?_, fun s hs => ?_⟩ hg hob ((Below.refl _ _).grown hg hbase (fun k hk => (World.ownsRow.lt h1 k hk).1))
  · rw [List.length_append, List.map_append]; exact hown'
  · have hr : IlD w0 (fun b => (base ≤ b ∧ some b ≠ vE.ownBlock ∧ some b ≠ (Value.slice A names.length c).ownBlock) ∧ b < w0.heap.size) u x := Foot.mono (h4 i u x hu hx) fun b h1 h2 => ⟨h1, h2⟩
    refine Foot.mono (Foot.keep hr fun b hd hb => hg.block b hb hd.1.2.2) fun b hd _ => ⟨hd.1.1, hd.1.2.1, ?_⟩
    rcases hob with e | e
    · rw [e]; exact hd.1.2.2
    · rw [e]
      intro e2
      injection e2 with e2
      have := hd.2
      omega
  · rcases hob with e | e
    · rw [e] at hb; exact h5 b hb
    · rw [e] at hb
      injection hb with hb
      intro e2
      have := (World.ownsRow.lt h2 b e2).2
      omega
  · rcases List.mem_append.1 hs with h1 | h1
    · exact h6 s h1
    · rw [List.mem_singleton] at h1; rw [h1]; exact hy
/-- append(rows, u): u lies in block B. -/
theorem wpList_pushEd {ops : Array Oper} {rest : List Oper} {o : Oper} {a : Act} {Q : Exit → Act → World → Prop} (hgd : o.guard = none) (s x : Operand)
    (ho : o.op = .call { callee := .builtin .append, args := #[s, x], argTypes := #[23, 23] })
    (base : Nat) (vN : Value) (A : Option Addr) (n c : Nat) (names : List ByteArray) (E : List (List Int)) (hs : a.eval s = .slice A n c) (h0 : GB w0 base vN (.slice A n c) names E)
    (u0 : Value) (y : List Int) (hy : IlD w0 (fun b => base ≤ b ∧ some b ≠ (Value.slice A n c).ownBlock ∧ some b ≠ vN.ownBlock) u0 y) (B : Nat) (hB : w0.heap[B]? = some (.cells #[u0] 55 (0, 0))) (hx : a.eval x = .slice (some ⟨B, 0, none⟩) 1 1) (h63 : n + 1 ≤ 1000000000) (hbase : base ≤ w0.heap.size)
    (h : ∀ A' c' w', GB w' base vN (.slice A' (n + 1) c') names (E ++ [y]) → w0.grownBy w' (Value.slice A n c).ownBlock → Below base w0 w' → wpList Tryz.prog ops Q rest (a.put o.dst (.slice A' (n + 1) c')) w') :
    wpList Tryz.prog ops Q (o :: rest) a w0 := by
  obtain ⟨h1, ⟨vs, h2, h3, h4⟩, h5, h6⟩ := h0
  obtain rfl : n = E.length := by
    obtain ⟨A', c', e, _⟩ := own_slice h2
    injection e
  have hone : u0.oneCell' = true := Foot.one hy
  refine wpList_app _ hgd s x 23 23 ho base 55 55 (.slice none 0 0) 1 24 Tryz.underlying23 Tryz.underlying23 info_intsZ rfl (by omega) _ E.length vs hs h2 _ 1 1 [u0] hx (src_block hB 1 1 rfl) (by intro u' hu'; rw [List.mem_singleton] at hu'; rw [hu']; exact hone) (by unfold maxLen; omega) (by omega) hbase ?_
  intro v' w' hown' hg hob
  obtain ⟨A', c', rfl, _, _⟩ := own_slice hown'
  have k1 : ∀ g, vN.ownBlock = some g → w'.heap[g]? = w0.heap[g]? := fun g hgN => hg.block g (World.ownsRow.lt h1 g hgN).2 (fun e => h5 g hgN e.symm)
  refine h A' c' w' ⟨own_keep h1 k1, ⟨vs ++ [u0], by rw [List.length_append]; exact hown', by simp [h3], fun i u x hu hx => ?_⟩, fun b hb => ?_, h6⟩ hg ((Below.refl _ _).grown hg hbase (fun k hk => (World.ownsRow.lt h2 k hk).1))
  · have hr0 : IlD w0 (fun b => base ≤ b ∧ some b ≠ (Value.slice A E.length c).ownBlock ∧ some b ≠ vN.ownBlock) u x := by
      rcases getElem?_snoc_cases hx with ⟨e1, e2⟩ | ⟨e1, e2⟩
      · rw [List.getElem?_append_left (by omega)] at hu
        exact h4 i u x hu e2
      · rw [List.getElem?_append_right (by omega)] at hu
        have : i - vs.length = 0 := by omega
        rw [this] at hu
        simp at hu
        subst hu e2
        exact hy
    have hr : IlD w0 (fun b => (base ≤ b ∧ some b ≠ (Value.slice A E.length c).ownBlock ∧ some b ≠ vN.ownBlock) ∧ b < w0.heap.size) u x := Foot.mono hr0 fun b h1 h2 => ⟨h1, h2⟩
    refine Foot.mono (Foot.keep hr fun b hd hb => hg.block b hb hd.1.2.1) fun b hd _ => ⟨hd.1.1, ?_, hd.1.2.2⟩
    rcases hob with e | e
    · rw [e]; exact hd.1.2.1
    · rw [e]
      intro e2
      injection e2 with e2
      have := hd.2
      omega
  · rcases hob with e | e
    · rw [e]; exact h5 b hb
    · rw [e]
      intro e2
      injection e2 with e2
      have := (World.ownsRow.lt h1 b hb).2
      omega
end

end Go.Proofs.YtefcdclmabdmbaaGreatDoor

namespace Go.Proofs.YtefcdclmabdmbaaGreatDoor
open Go.RowKit

/-- All elements. -/
theorem RowsD.all {α : Type} {R : World → (Nat → Prop) → Value → α → Prop} {w : World} {D : Nat → Prop} {A : Option Addr} {n c : Nat} {L : List α} (h : RowsD R w D (.slice A n c) L) (hn : 0 < L.length) :
    ∃ b off, A = some ⟨b, off, none⟩ ∧ D b ∧ ∀ (i : Nat) x, L[i]? = some x → ∃ u, w.cell? ⟨b, off + i, none⟩ = some u ∧ R w D u x := by
  obtain ⟨A', c', vs, e, h1, h2, h3, h4, h5⟩ := h
  injection e with e1 e2 e3
  subst e1
  obtain ⟨b, off, e2, hd, hc⟩ := h4 hn
  refine ⟨b, off, e2, hd, fun i x hx => ?_⟩
  have hil := lt_of_some hx
  obtain ⟨u, hu⟩ : ∃ u, vs[i]? = some u := ⟨_, List.getElem?_eq_getElem (by omega)⟩
  exact ⟨u, hc i u hu, h5 i u x hu hx⟩

set_option maxHeartbeats 2000000 in
set_option maxRecDepth 100000 in
theorem search2_any {E : List (List Nat)} (hE : Valid E) (hEn : E.length ≤ 2500) {a : Nat} (ha : a < E.length) {O : Nat → Prop} {V : List (Nat × Nat) → World → Prop} {Stop : World → Prop} {D : Nat → Prop} {w : World} {f : FuncId} {lb : Array Value}
    (hV : Visits E a O V Stop w f lb) (hOb : ∀ b, O b → b < w.heap.size) (hDO : ∀ b, D b → ¬ O b) (hVs : ∀ done W W', V done W → Below w.heap.size W W' → V done W') (hSs : ∀ W W', Stop W → Below w.heap.size W W' → Stop W')
    {A : Option Addr} {c : Nat} (hG : RowsD IlD w D (.slice A E.length c) (toI E)) (h0 : V [] w)
    (eg : ∀ args w, (callFunc f args).run Tryz.prog w = .ok (.enter f args) w) :
    Calls Tryz.prog 89 #[.slice A E.length c, .int .i64 (a : Nat), .func (.func f) #[] lb] w (SrchR E a O V Stop w) := by
  have hr := hG.room.2
  unfold maxLen at hr
  have hal : (a : Int) < (E.length : Int) := by omega
  have EG := Lib.hid eg
  clear eg
  have hVV := Lib.hid hV
  clear hV
  obtain ⟨b0, o0, rfl, hb0D, hcell⟩ := hG.all (by rw [toI_length]; omega)
  have HC := Lib.hid hcell
  have HDO := Lib.hid hDO
  have HB0 := Lib.hid (hDO _ hb0D)
  clear hcell hG hb0D hDO
  go_enter Tryz.func89, Tryz.ntmps89
  go_wp2_with (refine wpList_make_arr _ rfl _ _ 184 rfl 4 (.bool false) 1 1 Tryz.underlying184 (by kernel_rfl) _ _ _ _ E.length rfl rfl rfl rfl (by omega) (by omega) ?_; intro w1 har hb1 hs1; have hba := BArr.made har; have cA := hba.cell (i := a) (by simpa using ha); have fA := hba.frozen a; have HBA := Lib.hid hba; have HS1 := Lib.hid hs1; clear hba har hs1)
  obtain ⟨W, S, Q, hW, hS, hQ, hBA, hQ0, hbW, hwS, hSW⟩ := srch_start HBA.out hb1 HS1.out
  rw [← hW, ← hS, ← hQ]
  clear hW hS hQ HBA HS1 hb1 cA fA w1
  have hwO : ∀ b, S ≤ b → ¬ O b := fun b hb ho => by have := hOb b ho; omega
  have HWO := Lib.hid hwO
  have HVS := Lib.hid hVs
  have HSS := Lib.hid hSs
  have HE := Lib.hid hE
  have hV0 : V [] W := hVs _ _ _ h0 hbW
  clear hwO hOb hVs hSs hE h0
  go_loopg [7] E.length (fun g q wr => ∃ k, k + g = E.length ∧ (∀ i, i < k → ∃ p, (bs E a i).q[i]? = some p) ∧ k ≤ (bs E a k).q.length ∧ Que wr (S + 1) q ((bs E a k).q.drop k) ∧ BArr wr S (bs E a k).seen ∧ V ((bs E a k).q.take k) wr ∧ Fr O w wr ∧ S < wr.heap.size)
  case atStart => exact ⟨0, by omega, fun i hi => by omega, Nat.zero_le _, hQ0, hBA, hV0, Fr.of_below' hbW, hSW⟩
  case round =>
    obtain ⟨k, hkg, hpr, hkl, hq, hba, hv, hfr, hSr⟩ := hrel
    have HPR := Lib.hid hpr
    clear hpr
    obtain ⟨dep, hsr⟩ := bs_inv HE.out ha k HPR.out
    have hql := hsr.qlen
    rcases Nat.lt_or_ge k (bs E a k).q.length with hlt | hge
    · obtain ⟨p, hp⟩ : ∃ p, (bs E a k).q[k]? = some p := ⟨_, List.getElem?_eq_getElem hlt⟩
      obtain ⟨r, hr1, _⟩ := drop_head hp
      have hq' := hq.cast hr1
      obtain ⟨g, off, cq, rfl, hq1, hq2, hq3, hq4, hq5, hq6, hq7⟩ := hq'.head
      have hq2' := hq2
      unfold maxLen at hq2'
      have hz : (0 : Int) < ((r.length + 1 : Nat) : Int) := by omega
      have HP := Lib.hid hp
      have HR1 := Lib.hid hr1
      have HSR := Lib.hid hsr
      clear hp hr1 hsr
      go_wp2_with fail
      go_still_tail 9, (by kernel_rfl)
      have hfr2 : Fr O w wr.drew := hfr.drew
      have hv2 : V ((bs E a k).q.take k) wr.drew := HVS.out _ _ _ hv ((Below.refl _ _).drew)
      have hq8 : Que wr.drew (S + 1) _ (p :: r) := hq'
      have hba8 : BArr wr.drew S _ := hba
      have hSr8 : S < wr.drew.heap.size := hSr
      have hc5 : wr.drew.cell? ⟨g, off, none⟩ = _ := hq5
      have hc6 : wr.drew.cell? ⟨g, off + 1, none⟩ = _ := hq6
      have hg8 : g < wr.drew.heap.size := hq4
      change wpList _ _ _ _ _ wr.drew
      clear hfr hv hq hq' hba hSr hq4 hq5 hq6
      generalize wr.drew = w2 at *
      have eg := EG.out
      go_wp2_with fail
      refine (hVV.out k p _ HPR.out HP.out hv2 hfr2).mono ?_
      rintro e w3 ⟨⟨rfl, hv3⟩ | ⟨rfl, hst⟩, hfr3⟩
      · clear eg
        have hfw3 := hfr2.trans hfr3
        have hq9 := hq8.keep (w' := w3) (fun g' _ h1 h2 => hfr3.block g' h2 (HWO.out g' (by omega)))
        have hba9 : BArr w3 S (bs E a k).seen := hfr3.arr hba8 (HWO.out S (Nat.le_refl _))
        have hS9 : S < w3.heap.size := Nat.lt_of_lt_of_le hSr8 hfr3.size
        have hd5 := (hfr3.cell (o := off) hg8 (HWO.out g (by omega))).trans hc5
        have hd6 := (hfr3.cell (o := off + 1) hg8 (HWO.out g (by omega))).trans hc6
        have hvl : p.2 < E.length := HSR.out.small k p HP.out
        have hvl' : (p.2 : Int) < (E.length : Int) := by omega
        obtain ⟨u, hrow, A', c', rfl, hil0, hild⟩ := HC.out p.2 _ (toI_get hvl)
        have hil : IlD w D (.slice A' (gr E p.2).length c') ((gr E p.2).map fun x : Nat => (x : Int)) := ⟨A', c', by rw [List.length_map], hil0, hild⟩
        rw [List.length_map] at hrow hil0
        have hrm := hil0.room
        unfold maxLen at hrm
        have hrow3 := (hfw3.cell (cell_some_lt hrow) HB0.out).trans hrow
        have HIL := Lib.hid hil
        clear hil hil0 hild hrow hfr2 hv2 hq8 hba8 hSr8 hc5 hc6 hg8 hfr3 w2
        go_wp2_with fail
        go_loopw [7, 44] (fun q i wr => ∃ t : Nat, t ≤ (gr E p.2).length ∧ i = .int .i64 (t : Nat) ∧ Que wr (S + 1) q ((addAll p.2 (bs E a k) ((gr E p.2).take t)).q.drop k) ∧ BArr wr S (addAll p.2 (bs E a k) ((gr E p.2).take t)).seen ∧ V ((bs E a k).q.take k ++ [p]) wr ∧ Fr O w wr ∧ S < wr.heap.size) (fun _ i _ => (gr E p.2).length - (intOf i).toNat)
        case atStart => exact ⟨0, Nat.zero_le _, rfl, hq9.cast HR1.out.symm, hba9, hv3, hfw3, hS9⟩
        case round =>
          obtain ⟨t, ht, rfl, hq, hba, hv, hfr, hSr⟩ := hrel
          obtain ⟨dep', hs', hp'⟩ := HSR.out.all HP.out ((gr E p.2).take t) (fun x hx => List.mem_of_mem_take hx) (fun x hx => HE.out _ hvl x (List.mem_of_mem_take hx))
          have hq10 := hs'.qlen
          obtain ⟨r2, hr2, hr3⟩ := drop_head hp'
          have hqq := hq.cast hr2
          obtain ⟨g2, off2, cq2, rfl, hm1, hm2, hm3, hm4, hm5, hm6, hm7⟩ := hqq.head
          have hm2' := hm2
          unfold maxLen at hm2'
          have hz2 : (0 : Int) < ((r2.length + 1 : Nat) : Int) := by omega
          have HR2 := Lib.hid hr2
          have HP2 := Lib.hid hp'
          have HS2 := Lib.hid hs'
          clear hr2 hp' hs' hq
          by_cases htl : t < (gr E p.2).length
          · obtain ⟨x, hx⟩ : ∃ x, (gr E p.2)[t]? = some x := ⟨_, List.getElem?_eq_getElem htl⟩
            have hxl : x < E.length := HE.out _ hvl x (List.mem_of_getElem? hx)
            have hilw := Foot.keep HIL.out (fun b hd hl => hfr.block b hl (HDO.out b hd))
            obtain ⟨A9, c9, hA9, hil9, hx9⟩ := hilw
            injection hA9 with hA9 hx1 hx2
            subst hA9
            obtain ⟨b3, o3, rfl, hcx⟩ := hil9.cell (by rw [List.length_map]; omega)
            clear hx1 hx2 hx9 hil9
            have hcx' := hcx t x (by rw [List.getElem?_map, hx]; rfl)
            have hcs := hba.cell (i := x) (by rw [HS2.out.len]; exact hxl)
            have hfz := hba.frozen x
            have hxl' : (x : Int) < (E.length : Int) := by omega
            have et : (gr E p.2).take (t + 1) = (gr E p.2).take t ++ [x] := by rw [List.take_add_one, hx]; rfl
            have HT := Lib.hid et
            clear hcx et
            cases hsn : (addAll p.2 (bs E a k) ((gr E p.2).take t)).seen.getD x false
            · rw [hsn] at hcs
              have HN := Lib.hid hsn
              clear hsn
              have hgS : g2 ≠ S := by omega
              have hn6 : (wr.setCell ⟨S, x, none⟩ (.bool true)).cell? ⟨g2, off2 + 1, none⟩ = some (.int .i64 (p.2 : Nat)) := by
                rw [← hm6]; exact World.cell?_of_block (Below.heap_setCell _ _ _ _ (fun e => hgS e))
              have hq5 : Que (wr.setCell ⟨S, x, none⟩ (.bool true)) (S + 1) (.slice (some ⟨g2, off2, none⟩) (r2.length + 1) cq2) (p :: r2) := hqq.keep fun g' _ h1 _ => Below.heap_setCell _ _ _ _ (fun e => by have e' : g' = S := e; omega)
              have hba5 := hba.set_ x true
              have hS5 : S < (wr.setCell ⟨S, x, none⟩ (.bool true)).heap.size := by simpa [World.setCell] using hSr
              have hv5 : V ((bs E a k).q.take k ++ [p]) (wr.setCell ⟨S, x, none⟩ (.bool true)) := HVS.out _ _ _ hv ((Below.refl _ _).setCell (p := ⟨S, x, none⟩) hwS _)
              have hfr5 : Fr O w (wr.setCell ⟨S, x, none⟩ (.bool true)) := hfr.over ((Below.refl _ _).setCell (p := ⟨S, x, none⟩) hwS _)
              have hsz : (wr.setCell ⟨S, x, none⟩ (.bool true)).heap.size = wr.heap.size := by simp [World.setCell]
              clear hm6 hqq hba hSr hv hfr
              go_wp2_with (at_builtin; (refine wpList_pushQ (wr.setCell ⟨S, x, none⟩ (.bool true)) (by rfl) _ _ (by rfl) (S + 1) (.slice (some ⟨g2, off2, none⟩) (r2.length + 1) cq2) p r2 (by rfl) hq5 _ _ (p.2, x) (by rfl) (by rfl) (by rw [hsz]; rfl) (by omega) ?_); intro v' w6 hq6 hfr6 hqb6)
              have hb6 : Below w.heap.size (wr.setCell ⟨S, x, none⟩ (.bool true)) w6 := hfr6.below hfr5.size (fun b hb => by rw [hm7] at hb; cases hb; omega)
              go_roundw
              case rel =>
                refine ⟨t + 1, by omega, by go_num, ?_, ?_, HVS.out _ _ _ hv5 hb6, hfr5.over hb6, Nat.lt_of_lt_of_le hS5 hfr6.size⟩
                · obtain ⟨e1, e2⟩ := addOne_q (v := p.2) (k := k) HN.out (by omega)
                  rw [HT.out, addAll_snoc, e1, HR2.out]; exact hq6
                · obtain ⟨e1, e2⟩ := addOne_q (v := p.2) (k := k) HN.out (by omega)
                  rw [HT.out, addAll_snoc, e2]
                  exact hfr6.arr hba5 (by rw [hm7]; intro e; cases e; omega)
              case measure => simp [intOf]; omega
            · rw [hsn] at hcs
              have HN := Lib.hid hsn
              clear hsn
              go_wp2_with fail
              go_roundw
              case rel =>
                refine ⟨t + 1, by omega, by go_num, ?_, ?_, hv, hfr, hSr⟩
                · rw [HT.out, addAll_snoc, addOne_seen HN.out]; exact hqq.cast HR2.out.symm
                · rw [HT.out, addAll_snoc, addOne_seen HN.out]; exact hba
              case measure => simp [intOf]; omega
          · obtain rfl : t = (gr E p.2).length := by omega
            rw [List.take_length] at *
            obtain ⟨n1, n2⟩ := bs_take HP.out
            have n3 := bs_succ HP.out
            have N1 := Lib.hid n1
            have N3 := Lib.hid n3
            clear n1 n3
            by_cases hc1 : cq2 = 1
            · subst hc1
              go_wp2_with fail
              go_roundg (gk - 1)
              case rel =>
                refine ⟨k + 1, by omega, fun i hi => ?_, n2, ?_, ?_, ?_, hfr, hSr⟩
                · rcases Nat.lt_or_ge i k with h1 | h1
                  · exact HPR.out i h1
                  · obtain rfl : i = k := by omega
                    exact ⟨p, HP.out⟩
                · rw [N3.out]
                  have e : (addAll p.2 (bs E a k) (gr E p.2)).q.drop (k + 1) = r2 := by rw [← List.drop_drop, HR2.out]; rfl
                  rw [e]
                  have e0 : r2.length = 0 := by omega
                  have hpp := hqq.pop (some ⟨g2, off2, none⟩) (fun h => absurd rfl h)
                  rw [e0] at hpp; exact hpp
                · rw [N3.out]; exact hba
                · rw [N1.out]; exact hv
              case measure => omega
            · go_wp2_with fail
              go_roundg (gk - 1)
              case rel =>
                refine ⟨k + 1, by omega, fun i hi => ?_, n2, ?_, ?_, ?_, hfr, hSr⟩
                · rcases Nat.lt_or_ge i k with h1 | h1
                  · exact HPR.out i h1
                  · obtain rfl : i = k := by omega
                    exact ⟨p, HP.out⟩
                · rw [N3.out]
                  have e : (addAll p.2 (bs E a k) (gr E p.2)).q.drop (k + 1) = r2 := by rw [← List.drop_drop, HR2.out]; rfl
                  rw [e]
                  exact hqq.pop _ (fun h => rfl)
                · rw [N3.out]; exact hba
                · rw [N1.out]; exact hv
              case measure => omega
      · clear eg
        have hfw3 := hfr2.trans hfr3
        go_wp2_with fail
        go_end0
        exact ⟨rfl, hfw3, .inr hst⟩
    · have hk : (bs E a k).q.length = k := by omega
      have hq' := hq.cast (List.drop_eq_nil_of_le (by omega))
      obtain ⟨A2, c2, rfl, _, hm2, _⟩ := hq'
      unfold maxLen at hm2
      have ht : (bs E a k).q.take k = (bs E a k).q := List.take_of_length_le (by omega)
      rw [ht] at hv
      have HK := Lib.hid hk
      clear hk ht hq
      go_wp2_with fail
      go_end0
      exact ⟨rfl, hfr, .inl ⟨k, HK.out, HPR.out, hv⟩⟩
end Go.Proofs.YtefcdclmabdmbaaGreatDoor
