/- Lists of integers in memory: slices whose elements are api.Int. Growing lists of integers: append of one integer onto a list of the call's own; package brandt's normal. Arrays of integers of the call's own. graph.stepped: the numbers of walks that are one step longer. graph.walks, graph.small. graph.Closed. Lists of lists in memory: kinds of elements of one cell with the blocks in which they lie; growing lists of such elements; rows of ints and of integers. Matrices as functions; plain Lean. -/
import Derived.Test.YtdjpeimecfhdjaaGreatXa
import Derived.Test.YtdjpeimecfhdjaaGreatXc
namespace Go.Proofs.YtdjpeimecfhdjaaGreat
open Go.RowKit
def gz (l : List Int) (j : Nat) : Int := l.getD j 0
theorem gz_nil (j : Nat) : gz [] j = 0 := by simp [gz]
theorem gz_lt {l : List Int} {j : Nat} (h : j < l.length) : l[j]? = some (gz l j) := by simp [gz, List.getD, List.getElem?_eq_getElem h]
theorem gz_ge {l : List Int} {j : Nat} (h : l.length ≤ j) : gz l j = 0 := by simp [gz, List.getD, List.getElem?_eq_none h]
theorem gz_mem {l : List Int} {j : Nat} (h : j < l.length) : gz l j ∈ l := List.mem_of_getElem? (gz_lt h)
theorem gz_take {l : List Int} {j k : Nat} (h : j < k) : gz (l.take k) j = gz l j := by simp [gz, List.getD, h]
theorem gz_append_left {l m : List Int} {j : Nat} (h : j < l.length) : gz (l ++ m) j = gz l j := by simp [gz, List.getD, List.getElem?_append_left h]
theorem gz_append_at (l : List Int) (x : Int) (m : List Int) : gz (l ++ x :: m) l.length = x := by simp [gz, List.getD]
theorem take_succ_gz {l : List Int} {k : Nat} (h : k < l.length) : l.take (k + 1) = l.take k ++ [gz l k] := by rw [List.take_add_one, gz_lt h]; simp
theorem gz_ext {l m : List Int} (hl : l.length = m.length) (h : ∀ j, j < l.length → gz l j = gz m j) : l = m := by
 apply List.ext_getElem?
 intro j
 rcases Nat.lt_or_ge j l.length with hj | hj
 ·rw [gz_lt hj, gz_lt (hl ▸ hj), h j hj]
 ·rw [List.getElem?_eq_none hj, List.getElem?_eq_none (hl ▸ hj)]
theorem gz_set {l : List Int} {i j : Nat} {x : Int} (hi : i < l.length) : gz (l.set i x) j = if i = j then x else gz l j := by
 simp only [gz, List.getD, List.getElem?_set]
 by_cases h : i = j
 ·subst h; simp [hi]
 ·simp [h]
theorem gz_replicate (n j : Nat) : gz (List.replicate n 0) j = 0 := by
 rcases Nat.lt_or_ge j n with h | h
 ·simp [gz, List.getD, h]
 ·exact gz_ge (by simpa using h)
structure Pl (E : World → Value → Int → Prop) (w : World) (D : Nat → Prop) (A : Option Addr) (n c : Nat) (l : List Int) : Prop where
 len : l.length = n
 cap : n ≤ c
 room : c ≤ maxLen
 cells : 0 < n → ∃ b off, A = some ⟨b, off, none⟩ ∧ D b ∧ ∀ j, j < n → ∃ neg B m k, w.cell? ⟨b, off + j * 2, none⟩ = some (.bool neg) ∧ w.cell? ⟨b, off + j * 2 + 1, none⟩ = some (.slice B m k) ∧ E w (.agg #[.bool neg, .slice B m k]) (gz l j)
class Stays (E : World → Value → Int → Prop) : Prop where
 below : ∀ {w w' v x}, E w v x → Below w.heap.size w w' → E w' v x
def NI (w : World) (v : Value) (x : Int) : Prop := NIntV w (fun _ => True) v x
instance : Stays NI := ⟨fun h hb => h.below hb⟩
instance : Stays IntB := ⟨fun h hb => h.below hb⟩
section
variable {E E' : World → Value → Int → Prop} {w w' : World} {D D' : Nat → Prop} {A : Option Addr} {n c : Nat} {l : List Int}
theorem Pl.mono (h : Pl E w D A n c l) (hd : ∀ b, D b → b < w.heap.size → D' b) : Pl E w D' A n c l :=
 ⟨h.len, h.cap, h.room, fun hn => by
  obtain ⟨b, off, e, hb, hc⟩ := h.cells hn
  obtain ⟨_, _, _, _, h0, _⟩ := hc 0 hn
  exact ⟨b, off, e, hd b hb (cell_lt h0), hc⟩⟩
theorem Pl.imp (h : Pl E w D A n c l) (he : ∀ v x, x ∈ l → E w v x → E' w v x) : Pl E' w D A n c l :=
 ⟨h.len, h.cap, h.room, fun hn => by
  obtain ⟨b, off, e, hb, hc⟩ := h.cells hn
  refine ⟨b, off, e, hb, fun j hj => ?_⟩
  obtain ⟨neg, B, m, k, h0, h1, h2⟩ := hc j hj
  exact ⟨neg, B, m, k, h0, h1, he _ _ (gz_mem (by rw [h.len]; exact hj)) h2⟩⟩
theorem Pl.below [Stays E] (h : Pl E w D A n c l) (hb : Below w.heap.size w w') : Pl E w' D A n c l :=
 ⟨h.len, h.cap, h.room, fun hn => by
  obtain ⟨b, off, e, hd, hc⟩ := h.cells hn
  refine ⟨b, off, e, hd, fun j hj => ?_⟩
  obtain ⟨neg, B, m, k, h0, h1, h2⟩ := hc j hj
  exact ⟨neg, B, m, k, ((bcell hb).1 _ _ (cell_lt h0)).trans h0, ((bcell hb).1 _ _ (cell_lt h1)).trans h1, Stays.below h2 hb⟩⟩
theorem Pl.nil (c : Nat) (hc : c ≤ maxLen) : Pl E w D A 0 c [] := ⟨rfl, Nat.zero_le _, hc, fun h => absurd h (by omega)⟩
end
def Cs (w : World) (D : Nat → Prop) (xs : List Value) (l : List Int) : Prop :=
 xs.length = l.length * 2 ∧ ∀ j, j < l.length → ∃ neg B m k, xs[j * 2]? = some (.bool neg) ∧ xs[j * 2 + 1]? = some (.slice B m k) ∧ NIntV w D (.agg #[.bool neg, .slice B m k]) (gz l j)
section
variable {w w' : World} {D D' : Nat → Prop} {xs : List Value} {l : List Int}
theorem Cs.nil : Cs w D [] [] := ⟨rfl, fun j hj => absurd hj (by simp)⟩
theorem Cs.mono (h : Cs w D xs l) (hd : ∀ b, D b → b < w.heap.size → D' b) : Cs w D' xs l :=
 ⟨h.1, fun j hj => by obtain ⟨neg, B, m, k, h0, h1, h2⟩ := h.2 j hj; exact ⟨neg, B, m, k, h0, h1, h2.mono hd⟩⟩
theorem Cs.below (h : Cs w D xs l) (hb : Below w.heap.size w w') : Cs w' D xs l :=
 ⟨h.1, fun j hj => by obtain ⟨neg, B, m, k, h0, h1, h2⟩ := h.2 j hj; exact ⟨neg, B, m, k, h0, h1, h2.below hb⟩⟩
theorem Cs.keep (h : Cs w D xs l) (hk : ∀ b o, D b → b < w.heap.size → w'.cell? ⟨b, o, none⟩ = w.cell? ⟨b, o, none⟩) : Cs w' D xs l :=
 ⟨h.1, fun j hj => by obtain ⟨neg, B, m, k, h0, h1, A, c, e, h2⟩ := h.2 j hj; exact ⟨neg, B, m, k, h0, h1, A, c, e, h2.keep hk⟩⟩
theorem Cs.snoc (h : Cs w D xs l) {neg : Bool} {B : Option Addr} {m k : Nat} {x : Int} (hx : NIntV w D (.agg #[.bool neg, .slice B m k]) x) : Cs w D (xs ++ [.bool neg, .slice B m k]) (l ++ [x]) := by
 refine ⟨by simp [h.1]; omega, fun j hj => ?_⟩
 simp only [List.length_append, List.length_singleton] at hj
 rcases Nat.lt_or_ge j l.length with hlt | hge
 ·obtain ⟨neg, B, m, k, h0, h1, h2⟩ := h.2 j hlt
  exact ⟨neg, B, m, k, by rw [List.getElem?_append_left (by rw [h.1]; omega)]; exact h0, by rw [List.getElem?_append_left (by rw [h.1]; omega)]; exact h1, by rw [gz_append_left hlt]; exact h2⟩
 ·obtain rfl : j = l.length := by omega
  refine ⟨neg, B, m, k, ?_, ?_, by rw [gz_append_at]; exact hx⟩
  ·rw [List.getElem?_append_right (by rw [h.1]; omega), h.1]; simp
  ·rw [List.getElem?_append_right (by rw [h.1]; omega), h.1]; simp
theorem Cs.set (h : Cs w D xs l) {i : Nat} (hi : i < l.length) {neg : Bool} {B : Option Addr} {m k : Nat} {x : Int} (hx : NIntV w D (.agg #[.bool neg, .slice B m k]) x) : Cs w D ((xs.set (i * 2) (.bool neg)).set (i * 2 + 1) (.slice B m k)) (l.set i x) := by
 refine ⟨by simp [h.1], fun j hj => ?_⟩
 simp only [List.length_set] at hj
 rw [gz_set hi]
 by_cases he : i = j
 ·subst he
  refine ⟨neg, B, m, k, ?_, ?_, by rw [if_pos rfl]; exact hx⟩
  ·rw [List.getElem?_set_ne (by omega), List.getElem?_set_self (by rw [h.1]; omega)]
  ·rw [List.getElem?_set_self (by rw [List.length_set, h.1]; omega)]
 ·rw [if_neg he]
  obtain ⟨neg, B, m, k, h0, h1, h2⟩ := h.2 j hj
  exact ⟨neg, B, m, k, by rw [List.getElem?_set_ne (by omega), List.getElem?_set_ne (by omega)]; exact h0, by rw [List.getElem?_set_ne (by omega), List.getElem?_set_ne (by omega)]; exact h1, h2⟩
theorem Cs.zeros (n : Nat) : Cs w D (List.replicate n [Value.bool false, .slice none 0 0]).flatten (List.replicate n 0) := by
 induction n with
 | zero => exact Cs.nil
 | succ n ih =>
  rw [List.replicate_succ', List.replicate_succ', List.flatten_append]
  simp only [List.flatten_cons, List.flatten_nil, List.append_nil]
  exact ih.snoc (NIntV.zero w D)
end
theorem info_Int : (Tryz.prog.info? 40).map (fun i => (i.zero, i.size, i.bytes)) = some (some (.agg #[.bool false, .slice none 0 0]), 2, 32) := by kernel_rfl
end Go.Proofs.YtdjpeimecfhdjaaGreat
namespace Go.Proofs.YtdjpeimecfhdjaaGreat
open Go.RowKit
section
variable {w w' : World} {base : Nat} {v : Value} {l : List Int}
end
section
variable (w0 : World)
end
def PvD (w : World) (D : Nat → Prop) (v : Value) (l : List Int) : Prop := ∃ A c, v = .slice A l.length c ∧ Pl (fun w v x => NIntV w D v x) w D A l.length c l
theorem PvD.slice_ {w : World} {D : Nat → Prop} {v : Value} {l : List Int} (h : PvD w D v l) : ∃ A c, v = .slice A l.length c := by
 obtain ⟨A, c, e, _⟩ := h
 exact ⟨A, c, e⟩
theorem PvD.mono {w : World} {D D' : Nat → Prop} {v : Value} {l : List Int} (h : PvD w D v l) (hm : ∀ b, D b → b < w.heap.size → D' b) : PvD w D' v l := by
 obtain ⟨A, c, e, h1⟩ := h
 exact ⟨A, c, e, (h1.mono hm).imp fun v x _ hx => NIntV.mono hx hm⟩
instance (D : Nat → Prop) : Stays (fun w v x => NIntV w D v x) := ⟨fun h hb => NIntV.below h hb⟩
theorem PvD.below {w w' : World} {D : Nat → Prop} {v : Value} {l : List Int} (h : PvD w D v l) (hb : Below w.heap.size w w') : PvD w' D v l := by
 obtain ⟨A, c, e, h1⟩ := h
 exact ⟨A, c, e, h1.below hb⟩
section
variable {w w' : World} {base : Nat} {v : Value} {l : List Int}
variable (w0 : World)
end
end Go.Proofs.YtdjpeimecfhdjaaGreat
namespace Go.Proofs.YtdjpeimecfhdjaaGreat
open Go.RowKit
section
variable {w w' : World} {g : Nat} {l : List Int}
theorem Cs.setCell {D : Nat → Prop} {xs : List Value} (h : Cs w D xs l) {p : Addr} (hp : ¬ D p.block) (u : Value) : Cs (w.setCell p u) D xs l :=
 h.keep fun b o hd _ => World.cell?_setCell_other w p ⟨b, o, none⟩ u (fun e => hp (by subst e; exact hd))
theorem toList_madeCells_two (z z' : Value) (n : Nat) : (madeCells #[z, z'] (n * 2)).toList = (List.replicate n [z, z']).flatten := by
 apply List.ext_getElem?
 intro i
 have hsz := size_madeCells #[z, z'] (n * 2)
 have hfl : (List.replicate n [z, z']).flatten.length = n * 2 := by simp
 rcases Nat.lt_or_ge i (n * 2) with hi | hi
 ·have h1 : (madeCells #[z, z'] (n * 2)).toList[i]? = some (#[z, z'][i % 2]!) := by
   simp [madeCells, hi]
  rw [h1]
  clear h1 hsz hfl
  induction n generalizing i with
  | zero => omega
  | succ n ih =>
   rw [List.replicate_succ, List.flatten_cons]
   rcases Nat.lt_or_ge i 2 with h2 | h2
   ·rw [List.getElem?_append_left (by simpa using h2)]
    rcases i with _ | _ | i
    ·rfl
    ·rfl
    ·omega
   ·rw [List.getElem?_append_right (by simpa using h2)]
    have e : i % 2 = (i - 2) % 2 := by omega
    rw [e]
    exact ih (i - 2) (by omega)
 ·rw [List.getElem?_eq_none (by rw [Array.length_toList, hsz]; exact hi), List.getElem?_eq_none (by rw [hfl]; exact hi)]
end
end Go.Proofs.YtdjpeimecfhdjaaGreat

namespace Go.Proofs.YtdjpeimecfhdjaaGreat
open Go.RowKit
private theorem lt_of_some {α : Type} {l : List α} {i : Nat} {x : α} (h : l[i]? = some x) : i < l.length := by
 rcases Nat.lt_or_ge i l.length with h1 | h1
 ·exact h1
 ·rw [List.getElem?_eq_none h1] at h; cases h
private theorem cell_some_lt {w : World} {b o : Nat} {u : Value} (h : w.cell? ⟨b, o, none⟩ = some u) : b < w.heap.size := by
 rcases Nat.lt_or_ge b w.heap.size with h1 | h1
 ·exact h1
 ·have : w.heap[b]? = none := Array.getElem?_eq_none h1
  simp [World.cell?, this] at h
private theorem getElem?_snoc_cases {α : Type} {l : List α} {x y : α} {j : Nat} (h : (l ++ [x])[j]? = some y) : (j < l.length ∧ l[j]? = some y) ∨ (j = l.length ∧ y = x) := by
 rcases Nat.lt_trichotomy j l.length with h1 | h1 | h1
 ·rw [List.getElem?_append_left h1] at h; exact .inl ⟨h1, h⟩
 ·subst h1; simp at h; exact .inr ⟨rfl, h.symm⟩
 ·rw [List.getElem?_eq_none (by simp; omega)] at h; cases h
class Foot {α : Type} (R : World → (Nat → Prop) → Value → α → Prop) : Prop where
 keep : ∀ {w w' : World} {D : Nat → Prop} {v : Value} {x : α}, R w D v x → (∀ b, D b → b < w.heap.size → w'.heap[b]? = w.heap[b]?) → R w' D v x
 mono : ∀ {w : World} {D D' : Nat → Prop} {v : Value} {x : α}, R w D v x → (∀ b, D b → b < w.heap.size → D' b) → R w D' v x
 one : ∀ {w : World} {D : Nat → Prop} {v : Value} {x : α}, R w D v x → v.oneCell' = true
theorem Foot.below {α : Type} {R : World → (Nat → Prop) → Value → α → Prop} [Foot R] {w w' : World} {D : Nat → Prop} {v : Value} {x : α} (h : R w D v x) (hb : Below w.heap.size w w') : R w' D v x := Foot.keep h fun b _ hl => hb.block b hl
instance : Foot PvD where
 keep := by
  rintro w w' D v x ⟨A, c, rfl, h⟩ hk
  refine ⟨A, c, rfl, h.len, h.cap, h.room, fun hn => ?_⟩
  obtain ⟨b, off, e, hd, hc⟩ := h.cells hn
  refine ⟨b, off, e, hd, fun j hj => ?_⟩
  obtain ⟨neg, B, m, k, h0, h1, A1, c1, e1, h2⟩ := hc j hj
  exact ⟨neg, B, m, k, (World.cell?_of_block (w := w) (hk b hd (cell_lt h0))).trans h0, (World.cell?_of_block (w := w) (hk b hd (cell_lt h1))).trans h1, A1, c1, e1, h2.keep fun b o hb hl => World.cell?_of_block (w := w) (hk b hb hl)⟩
 mono := by
  rintro w D D' v x ⟨A, c, rfl, h⟩ hm
  refine ⟨A, c, rfl, h.len, h.cap, h.room, fun hn => ?_⟩
  obtain ⟨b, off, e, hd, hc⟩ := h.cells hn
  obtain ⟨_, _, _, _, hx, _⟩ := hc 0 hn
  refine ⟨b, off, e, hm b hd (cell_lt hx), fun j hj => ?_⟩
  obtain ⟨neg, B, m, k, h0, h1, h2⟩ := hc j hj
  exact ⟨neg, B, m, k, h0, h1, h2.mono hm⟩
 one := by
  rintro w D v x ⟨A, c, rfl, _⟩
  rfl
def RowsD {α : Type} (R : World → (Nat → Prop) → Value → α → Prop) (w : World) (D : Nat → Prop) (v : Value) (L : List α) : Prop :=
 ∃ (A : Option Addr) (c : Nat) (vs : List Value), v = .slice A L.length c ∧ L.length ≤ c ∧ c ≤ maxLen ∧ vs.length = L.length ∧ (0 < L.length → ∃ b off, A = some ⟨b, off, none⟩ ∧ D b ∧ ∀ (j : Nat) u, vs[j]? = some u → w.cell? ⟨b, off + j, none⟩ = some u) ∧
  ∀ (i : Nat) u x, vs[i]? = some u → L[i]? = some x → R w D u x
section
variable {α : Type} {R : World → (Nat → Prop) → Value → α → Prop} [Foot R] {w w' : World} {D D' : Nat → Prop} {v : Value} {L : List α}
theorem RowsD.keep (h : RowsD R w D v L) (hk : ∀ b, D b → b < w.heap.size → w'.heap[b]? = w.heap[b]?) : RowsD R w' D v L := by
 obtain ⟨A, c, vs, e, h1, h2, h3, h4, h5⟩ := h
 refine ⟨A, c, vs, e, h1, h2, h3, fun hn => ?_, fun i u x hu hx => Foot.keep (h5 i u x hu hx) hk⟩
 obtain ⟨b, off, e2, hd, hc⟩ := h4 hn
 exact ⟨b, off, e2, hd, fun j u hu => (World.cell?_of_block (w := w) (hk b hd (cell_some_lt (hc j u hu)))).trans (hc j u hu)⟩
theorem RowsD.mono (h : RowsD R w D v L) (hm : ∀ b, D b → b < w.heap.size → D' b) : RowsD R w D' v L := by
 obtain ⟨A, c, vs, e, h1, h2, h3, h4, h5⟩ := h
 refine ⟨A, c, vs, e, h1, h2, h3, fun hn => ?_, fun i u x hu hx => Foot.mono (h5 i u x hu hx) hm⟩
 obtain ⟨b, off, e2, hd, hc⟩ := h4 hn
 obtain ⟨u, hu⟩ : ∃ u, vs[0]? = some u := ⟨_, List.getElem?_eq_getElem (by omega)⟩
 exact ⟨b, off, e2, hm b hd (cell_some_lt (hc 0 u hu)), hc⟩
instance : Foot (RowsD R) where
 keep := RowsD.keep
 mono := RowsD.mono
 one := by
  rintro w D v x ⟨A, c, vs, rfl, _⟩
  rfl
theorem RowsD.below (h : RowsD R w D v L) (hb : Below w.heap.size w w') : RowsD R w' D v L := h.keep fun b _ hl => hb.block b hl
theorem RowsD.t (h : RowsD R w D v L) : RowsD R w (fun _ => True) v L := h.mono fun _ _ _ => trivial
omit [Foot R] in
theorem RowsD.at {A : Option Addr} {n c : Nat} (h : RowsD R w D (.slice A n c) L) {i : Nat} {x : α} (hx : L[i]? = some x) : ∃ b off u, A = some ⟨b, off, none⟩ ∧ w.cell? ⟨b, off + i, none⟩ = some u ∧ R w D u x := by
 obtain ⟨A', c', vs, e, h1, h2, h3, h4, h5⟩ := h
 injection e with e1 e2 e3
 subst e1
 have hil := lt_of_some hx
 obtain ⟨b, off, e2, hd, hc⟩ := h4 (by omega)
 obtain ⟨u, hu⟩ : ∃ u, vs[i]? = some u := ⟨_, List.getElem?_eq_getElem (by omega)⟩
 exact ⟨b, off, u, e2, hc i u hu, h5 i u x hu hx⟩
omit [Foot R] in
theorem RowsD.room {A : Option Addr} {n c : Nat} (h : RowsD R w D (.slice A n c) L) : n = L.length ∧ n ≤ c ∧ c ≤ maxLen := by
 obtain ⟨A', c', vs, e, h1, h2, _⟩ := h
 injection e with e1 e2 e3
 subst e2 e3
 exact ⟨rfl, h1, h2⟩
omit [Foot R] in
theorem RowsD.slice (h : RowsD R w D v L) : ∃ A c, v = .slice A L.length c := by
 obtain ⟨A', c', vs, e, _⟩ := h
 exact ⟨A', c', e⟩
omit [Foot R] in
theorem RowsD.slice_ (h : RowsD R w D v L) {n : Nat} (hn : L.length = n) : ∃ A c, v = .slice A n c := by subst hn; exact h.slice
omit [Foot R] in
theorem RowsD.nil (A : Option Addr) (c : Nat) (hc : c ≤ maxLen) : RowsD R w D (.slice A 0 c) [] := ⟨A, c, [], rfl, Nat.zero_le _, hc, rfl, fun h => absurd h (by simp), fun i u x hu => by simp at hu⟩
end
def OwnL {α : Type} (R : World → (Nat → Prop) → Value → α → Prop) (T : TypeId) (w : World) (base : Nat) (v : Value) (L : List α) : Prop :=
 ∃ vs, w.ownsRow base T 1 v L.length vs ∧ vs.length = L.length ∧ ∀ (i : Nat) u x, vs[i]? = some u → L[i]? = some x → R w (fun b => base ≤ b ∧ some b ≠ v.ownBlock) u x
section
variable {α : Type} {R : World → (Nat → Prop) → Value → α → Prop} [Foot R] {T : TypeId} {w w' : World} {base : Nat} {v : Value} {L : List α}
omit [Foot R] in
theorem OwnL.nil (w : World) (base : Nat) : OwnL R T w base (.slice none 0 0) [] := ⟨[], World.ownsRow_nil _ _ _ _, rfl, fun i u x hu => by simp at hu⟩
theorem OwnL.below (h : OwnL R T w base v L) (hb : Below w.heap.size w w') : OwnL R T w' base v L := by
 obtain ⟨vs, h1, h2, h3⟩ := h
 refine ⟨vs, ⟨h1.1, ?_⟩, h2, fun i u x hu hx => Foot.below (h3 i u x hu hx) hb⟩
 rcases h1.2 with h4 | ⟨g, cap, cur, e, h4, h5, h6⟩
 ·exact .inl h4
 ·exact .inr ⟨g, cap, cur, e, h4, (hb.block g (h1.lt g (by rw [e]; rfl)).2).trans h5, h6⟩
theorem OwnL.rows (h : OwnL R T w base v L) : RowsD R w (base ≤ ·) v L := by
 obtain ⟨vs, h1, h2, h3⟩ := h
 obtain ⟨A, c, rfl, hc1, hc2⟩ := own_slice h1
 refine ⟨A, c, vs, rfl, hc1, hc2, h2, fun hn => ?_, fun i u x hu hx => Foot.mono (h3 i u x hu hx) fun b hb _ => hb.1⟩
 obtain ⟨g, cap, e, hb, _, _, _, hc⟩ := own_cells h1 hn
 injection e with e1 e2 e3
 subst e1
 exact ⟨g, 0, rfl, hb, fun j u hu => by rw [Nat.zero_add]; exact hc j u hu⟩
omit [Foot R] in
theorem OwnL.fresh (h : OwnL R T w base v L) {b : Nat} (hb : w.heap.size ≤ b) : some b ≠ v.ownBlock := by
 obtain ⟨vs, h1, _⟩ := h
 intro e
 have := (h1.lt b e.symm).2
 omega
omit [Foot R] in
theorem OwnL.row {β : Type} {R' : World → (Nat → Prop) → Value → β → Prop} [Foot R'] (h : OwnL R T w base v L) (hb : base ≤ w.heap.size) {B : Nat} (hB : w.heap.size ≤ B) {w1 : World} {u : Value} {y : β} (hu : R' w1 (B ≤ ·) u y) : R' w1 (fun b => base ≤ b ∧ some b ≠ v.ownBlock) u y :=
 Foot.mono hu fun b (h1 : B ≤ b) _ => ⟨by omega, h.fresh (by omega)⟩
variable (w0 : World)
theorem wpList_pushL {ops : Array Oper} {rest : List Oper} {o : Oper} {a : Act} {Q : Exit → Act → World → Prop} (hgd : o.guard = none) (s x : Operand) (t t' : TypeId) (z : Value) (bytes : Nat)
  (ho : o.op = .call { callee := .builtin .append, args := #[s, x], argTypes := #[t, t'] })
  (ht : Tryz.prog.underlying t = some (.slice T)) (ht' : Tryz.prog.underlying t' = some (.slice T)) (hinfo : (Tryz.prog.info? T).map (fun i => (i.zero, i.size, i.bytes)) = some (some z, 1, bytes)) (hz : z.cells.size = 1) (hby : bytes ≤ 100)
  (base : Nat) (v : Value) (L : List α) (n : Nat) (hln : L.length = n) (hs : a.eval s = v) (hown : OwnL R T w0 base v L)
  (u : Value) (y : α) (hu : R w0 (fun b => base ≤ b ∧ some b ≠ v.ownBlock) u y) (hx : a.eval x = .slice (some ⟨w0.heap.size, 0, none⟩) 1 1) (h63 : n + 1 ≤ 1000000000) (hbase : base ≤ w0.heap.size)
  (h : ∀ A' c' w', OwnL R T w' base (.slice A' (n + 1) c') (L ++ [y]) → w0.grownBy w' v.ownBlock → Below base w0 w' → wpList Tryz.prog ops Q rest (a.put o.dst (.slice A' (n + 1) c')) w') :
  wpList Tryz.prog ops Q (o :: rest) a (w0.alloc (.cells #[u] T)) := by
 subst hln
 obtain ⟨vs, hrow, hlen, hel⟩ := hown
 have hmul : (L.length + 1) * bytes ≤ 1000000000 * 100 := Nat.mul_le_mul h63 hby
 refine wpList_app _ hgd s x t t' ho base T T z 1 bytes ht ht' hinfo hz (by omega) v L.length vs hs (hrow.alloc _) _ 1 1 [u] hx (src_block (heap_alloc_new w0 _) 1 1 rfl) (by intro u' hu'; rw [List.mem_singleton] at hu'; rw [hu']; exact Foot.one hu) (by unfold maxLen; omega) (by omega) (by simp; omega) ?_
 intro v' w' hown' hg hob
 obtain ⟨A', c', rfl, _, _⟩ := own_slice hown'
 have hg0 : w0.grownBy w' v.ownBlock := grownBy_trans (World.grownBy_alloc w0 _ _) hg
 refine h A' c' w' ⟨_, by rw [List.length_append]; exact hown', by simp [hlen], fun i u2 x2 hu2 hx2 => ?_⟩ hg0 ((Below.refl _ _).grown hg0 hbase (fun k hk => (hrow.lt k hk).1))
 have hr : R w0 (fun b => base ≤ b ∧ some b ≠ v.ownBlock) u2 x2 := by
  rcases getElem?_snoc_cases hx2 with ⟨h1, h2⟩ | ⟨h1, h2⟩
  ·rw [List.getElem?_append_left (by omega)] at hu2
   exact hel i u2 x2 hu2 h2
  ·rw [List.getElem?_append_right (by omega)] at hu2
   have : i - vs.length = 0 := by omega
   rw [this] at hu2
   simp at hu2
   subst hu2 h2
   exact hu
 have hr2 : R w0 (fun b => (base ≤ b ∧ some b ≠ v.ownBlock) ∧ b < w0.heap.size) u2 x2 := Foot.mono hr fun b h1 h2 => ⟨h1, h2⟩
 refine Foot.mono (Foot.keep hr2 fun b hd hb => hg0.block b hb hd.1.2) fun b hd _ => ⟨hd.1.1, ?_⟩
 rcases hob with e | e
 ·rw [e]; exact hd.1.2
 ·rw [e]
  intro e2
  have := hd.2
  simp at e2
  omega
end
section
variable {α : Type} {R : World → (Nat → Prop) → Value → α → Prop} [Foot R] {T : TypeId} {w w' : World} {base : Nat} {v : Value} {L : List α}
variable (w0 : World)
end
end Go.Proofs.YtdjpeimecfhdjaaGreat
