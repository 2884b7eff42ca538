/- Graphs in memory: slices of one-cell values, of ints, of texts, of slices; package api's Graph. -/
import Derived.Test.YtpkjdnplmgfbbaaDoorApp
import Derived.Test.YtpkjdnplmgfbbaaDoorGp
import Derived.StillTailTactics
namespace Go.Proofs.YtpkjdnplmgfbbaaDoor
open Go.RowKit

/-- The slice value with address A, length n and capacity c holds the one-cell values xs. -/
structure Rw (w : World) (A : Option Addr) (n c : Nat) (xs : List Value) : Prop where
  len : xs.length = n
  cap : n ≤ c
  room : c ≤ maxLen
  cells : 0 < n → ∃ b off, A = some ⟨b, off, none⟩ ∧ ∀ j u, xs[j]? = some u → w.cell? ⟨b, off + j, none⟩ = some u

theorem cell_some_lt {w : World} {b o : Nat} {u : Value} (h : w.cell? ⟨b, o, none⟩ = some u) : b < w.heap.size := by
  rcases Nat.lt_or_ge b w.heap.size with h1 | h1
  · exact h1
  · have : w.heap[b]? = none := Array.getElem?_eq_none h1
    simp [World.cell?, this] at h

section
variable {w w' : World} {A : Option Addr} {n c : Nat} {xs : List Value}
theorem Rw.keep (h : Rw w A n c xs) (hk : ∀ b o, b < w.heap.size → w'.cell? ⟨b, o, none⟩ = w.cell? ⟨b, o, none⟩) : Rw w' A n c xs :=
  ⟨h.len, h.cap, h.room, fun hn => by
    obtain ⟨b, off, e, hc⟩ := h.cells hn
    exact ⟨b, off, e, fun j u hu => (hk b _ (cell_some_lt (hc j u hu))).trans (hc j u hu)⟩⟩
theorem Rw.below (h : Rw w A n c xs) (hb : Below w.heap.size w w') : Rw w' A n c xs := h.keep (bcell hb).1
end

/-- .. holds ints. -/
def Il (w : World) (A : Option Addr) (n c : Nat) (l : List Int) : Prop := Rw w A n c (l.map (Value.int .i64)) ∧ ∀ x ∈ l, -9223372036854775808 ≤ x ∧ x ≤ 9223372036854775807
/-- .. holds texts. -/
def Sl (w : World) (A : Option Addr) (n c : Nat) (l : List ByteArray) : Prop := Rw w A n c (l.map Value.string) ∧ ∀ s ∈ l, s.size ≤ maxLen
/-- .. holds slices of ints. -/
def Gl (w : World) (A : Option Addr) (n c : Nat) (E : List (List Int)) : Prop :=
  ∃ vs, Rw w A n c vs ∧ vs.length = E.length ∧ ∀ (i : Nat) v l, vs[i]? = some v → E[i]? = some l → ∃ A' c', v = .slice A' l.length c' ∧ Il w A' l.length c' l

section
variable {w w' : World} {A : Option Addr} {n c : Nat}
theorem Il.below {l : List Int} (h : Il w A n c l) (hb : Below w.heap.size w w') : Il w' A n c l := ⟨h.1.below hb, h.2⟩
theorem Sl.below {l : List ByteArray} (h : Sl w A n c l) (hb : Below w.heap.size w w') : Sl w' A n c l := ⟨h.1.below hb, h.2⟩
theorem Gl.below {E : List (List Int)} (h : Gl w A n c E) (hb : Below w.heap.size w w') : Gl w' A n c E := by
  obtain ⟨vs, h1, h2, h3⟩ := h
  refine ⟨vs, h1.below hb, h2, fun i v l hv hl => ?_⟩
  obtain ⟨A', c', e, hi⟩ := h3 i v l hv hl
  exact ⟨A', c', e, hi.below hb⟩
theorem Il.len {l : List Int} (h : Il w A n c l) : l.length = n := by have := h.1.len; simpa using this
theorem Sl.len {l : List ByteArray} (h : Sl w A n c l) : l.length = n := by have := h.1.len; simpa using this
theorem Gl.len {E : List (List Int)} (h : Gl w A n c E) : E.length = n := by
  obtain ⟨vs, h1, h2, _⟩ := h
  rw [← h2, h1.len]
theorem Il.room {l : List Int} (h : Il w A n c l) : n ≤ c ∧ c ≤ maxLen := ⟨h.1.cap, h.1.room⟩
theorem Sl.room {l : List ByteArray} (h : Sl w A n c l) : n ≤ c ∧ c ≤ maxLen := ⟨h.1.cap, h.1.room⟩
theorem Gl.room {E : List (List Int)} (h : Gl w A n c E) : n ≤ c ∧ c ≤ maxLen := by obtain ⟨vs, h1, _⟩ := h; exact ⟨h1.cap, h1.room⟩
/-- The cell of an int. -/
theorem Il.cell {l : List Int} (h : Il w A n c l) (hn : 0 < n) : ∃ b off, A = some ⟨b, off, none⟩ ∧ ∀ j x, l[j]? = some x → w.cell? ⟨b, off + j, none⟩ = some (.int .i64 x) := by
  obtain ⟨b, off, e, hc⟩ := h.1.cells hn
  exact ⟨b, off, e, fun j x hx => hc j _ (by rw [List.getElem?_map, hx]; rfl)⟩
theorem Sl.cell {l : List ByteArray} (h : Sl w A n c l) (hn : 0 < n) : ∃ b off, A = some ⟨b, off, none⟩ ∧ ∀ j x, l[j]? = some x → w.cell? ⟨b, off + j, none⟩ = some (.string x) := by
  obtain ⟨b, off, e, hc⟩ := h.1.cells hn
  exact ⟨b, off, e, fun j x hx => hc j _ (by rw [List.getElem?_map, hx]; rfl)⟩
theorem Gl.cell {E : List (List Int)} (h : Gl w A n c E) (hn : 0 < n) : ∃ b off, A = some ⟨b, off, none⟩ ∧ ∀ j l, E[j]? = some l → ∃ A' c', w.cell? ⟨b, off + j, none⟩ = some (.slice A' l.length c') ∧ Il w A' l.length c' l := by
  obtain ⟨vs, h1, h2, h3⟩ := h
  obtain ⟨b, off, e, hc⟩ := h1.cells hn
  refine ⟨b, off, e, fun j l hl => ?_⟩
  have hj : j < vs.length := by
    rw [h2]
    rcases Nat.lt_or_ge j E.length with h4 | h4
    · exact h4
    · rw [List.getElem?_eq_none h4] at hl; cases hl
  obtain ⟨A', c', e', hi⟩ := h3 j _ l (List.getElem?_eq_getElem hj) hl
  exact ⟨A', c', by rw [← e']; exact hc j _ (List.getElem?_eq_getElem hj), hi⟩
end

/-- A graph as it stands as an argument. -/
def GrV (w : World) (v : Value) (names : List ByteArray) (E : List (List Int)) : Prop :=
  ∃ A c A' c', v = .agg #[.slice A names.length c, .slice A' E.length c'] ∧ Sl w A names.length c names ∧ Gl w A' E.length c' E
theorem GrV.below {w w' : World} {v : Value} {names : List ByteArray} {E : List (List Int)} (h : GrV w v names E) (hb : Below w.heap.size w w') : GrV w' v names E := by
  obtain ⟨A, c, A', c', e, h1, h2⟩ := h
  exact ⟨A, c, A', c', e, h1.below hb, h2.below hb⟩

/-- The box of a graph argument: the world behind it under a name, with what is known of it. -/
theorem gbox (w : World) (s t : Value) : ∃ W G, W = w.alloc (.cells #[s, t] 25) ∧ G = w.heap.size ∧ Below w.heap.size w W ∧ W.cell? ⟨G, 0, none⟩ = some s ∧ W.cell? ⟨G, 1, none⟩ = some t ∧ G < W.heap.size ∧ w.heap.size ≤ G :=
  ⟨_, _, rfl, rfl, (Below.refl _ _).alloc (Nat.le_refl _) _, by simp, by simp, by simp, Nat.le_refl _⟩

theorem ret_int {k : IntKind} {a b : Int} (h : a = b) : Ending.returned (.int k a) = .returned (.int k b) := by rw [h]
theorem ret_bool {a b : Bool} (h : a = b) : Ending.returned (.bool a) = .returned (.bool b) := by rw [h]

/-- The first number that is not 0. -/
def fnz (f : Nat → Nat) : Nat → Nat
  | 0 => 0
  | n + 1 => if fnz f n = 0 then f n else fnz f n
theorem fnz_none {f : Nat → Nat} {n : Nat} (h : ∀ i, i < n → f i = 0) : fnz f n = 0 := by
  induction n with
  | zero => rfl
  | succ n ih => rw [fnz, if_pos (ih fun i hi => h i (by omega))]; exact h n (by omega)
theorem fnz_hit {f : Nat → Nat} {n k : Nat} (h : ∀ i, i < k → f i = 0) (hk : k < n) (hf : f k ≠ 0) : fnz f n = f k := by
  induction n with
  | zero => omega
  | succ n ih =>
    rw [fnz]
    rcases Nat.lt_or_ge k n with h1 | h1
    · rw [if_neg (by rw [ih h1]; exact hf), ih h1]
    · obtain rfl : k = n := by omega
      rw [if_pos (fnz_none h)]
theorem fnz_zero {f : Nat → Nat} {n : Nat} (h : fnz f n = 0) : ∀ i, i < n → f i = 0 := by
  induction n with
  | zero => intro i hi; omega
  | succ n ih =>
    rw [fnz] at h
    by_cases h1 : fnz f n = 0
    · rw [if_pos h1] at h
      intro i hi
      rcases Nat.lt_or_ge i n with h2 | h2
      · exact ih h1 i h2
      · obtain rfl : i = n := by omega
        exact h
    · rw [if_neg h1] at h; exact absurd h h1

/-- A text that may be a name. -/
def okName (s : ByteArray) : Prop := s.size ≠ 0 ∧ s.size ≤ 40 ∧ ∀ b ∈ s.data.toList, b ≠ 32 ∧ b ≠ 10
noncomputable def nameB (s : ByteArray) : Bool := @decide (okName s) (Classical.propDecidable _)
theorem nameB_true {s : ByteArray} : nameB s = true ↔ okName s := by unfold nameB; exact @decide_eq_true_iff _ (Classical.propDecidable _)
theorem nameB_false {s : ByteArray} : nameB s = false ↔ ¬ okName s := by unfold nameB; exact @decide_eq_false_iff_not _ (Classical.propDecidable _)

/-- The error of one neighbour: no vertex; smaller than the one before. -/
def rowAt (n : Nat) (l : List Int) (k : Nat) : Nat :=
  if ¬ (0 ≤ l.getD k 0 ∧ l.getD k 0 < n) then 6 else if 0 < k ∧ l.getD k 0 < l.getD (k - 1) 0 then 14 else 0
def rowC (n : Nat) (l : List Int) : Nat := if 400 < l.length then 8 else fnz (rowAt n l) l.length
open Classical in
/-- The error of one vertex. -/
noncomputable def atC (names : List ByteArray) (E : List (List Int)) (i : Nat) : Nat :=
  if nameB (names.getD i ByteArray.empty) = false then 4 else if names.getD i ByteArray.empty ∈ names.take i then 5 else rowC names.length (E.getD i [])
/-- The error of a graph. -/
noncomputable def chk (names : List ByteArray) (E : List (List Int)) : Nat :=
  if names.length ≠ E.length then 9 else if 2500 < names.length then 8 else fnz (atC names E) names.length

end Go.Proofs.YtpkjdnplmgfbbaaDoor
