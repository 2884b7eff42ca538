/- Lists of integers in memory: slices whose elements are api.Int. Growing lists of integers: append of one integer onto a list of the call's own; package brandt's normal. Arrays of integers of the call's own. graph.stepped: the numbers of walks that are one step longer. graph.walks, graph.small. graph.Closed. -/
import Derived.Test.YtdmdagilopckgaaGreatA2
import Derived.Test.YtdmdagilopckgaaGreatA3
import Derived.Test.YtdmdagilopckgaaGreatDm
namespace Go.Proofs.YtdmdagilopckgaaGreat
open Go.RowKit

/-- The element of a list of integers, 0 behind its end. -/
def gz (l : List Int) (j : Nat) : Int := l.getD j 0
theorem gz_nil (j : Nat) : gz [] j = 0 := by simp [gz]
theorem gz_cons_zero (x : Int) (l : List Int) : gz (x :: l) 0 = x := rfl
theorem gz_cons_succ (x : Int) (l : List Int) (j : Nat) : gz (x :: l) (j + 1) = gz l j := rfl
theorem gz_lt {l : List Int} {j : Nat} (h : j < l.length) : l[j]? = some (gz l j) := by simp [gz, List.getD, List.getElem?_eq_getElem h]
theorem gz_ge {l : List Int} {j : Nat} (h : l.length ≤ j) : gz l j = 0 := by simp [gz, List.getD, List.getElem?_eq_none h]
theorem gz_mem {l : List Int} {j : Nat} (h : j < l.length) : gz l j ∈ l := List.mem_of_getElem? (gz_lt h)
theorem gz_take {l : List Int} {j k : Nat} (h : j < k) : gz (l.take k) j = gz l j := by simp [gz, List.getD, h]
theorem gz_drop (l : List Int) (k j : Nat) : gz (l.drop k) j = gz l (k + j) := by simp [gz, List.getD, List.getElem?_drop]
theorem gz_append_left {l m : List Int} {j : Nat} (h : j < l.length) : gz (l ++ m) j = gz l j := by simp [gz, List.getD, List.getElem?_append_left h]
theorem gz_append_at (l : List Int) (x : Int) (m : List Int) : gz (l ++ x :: m) l.length = x := by simp [gz, List.getD]
theorem take_succ_gz {l : List Int} {k : Nat} (h : k < l.length) : l.take (k + 1) = l.take k ++ [gz l k] := by rw [List.take_add_one, gz_lt h]; simp
theorem gz_ext {l m : List Int} (hl : l.length = m.length) (h : ∀ j, j < l.length → gz l j = gz m j) : l = m := by
  apply List.ext_getElem?
  intro j
  rcases Nat.lt_or_ge j l.length with hj | hj
  · rw [gz_lt hj, gz_lt (hl ▸ hj), h j hj]
  · rw [List.getElem?_eq_none hj, List.getElem?_eq_none (hl ▸ hj)]
theorem gz_set {l : List Int} {i j : Nat} {x : Int} (hi : i < l.length) : gz (l.set i x) j = if i = j then x else gz l j := by
  simp only [gz, List.getD, List.getElem?_set]
  by_cases h : i = j
  · subst h; simp [hi]
  · simp [h]
theorem gz_replicate (n j : Nat) : gz (List.replicate n 0) j = 0 := by
  rcases Nat.lt_or_ge j n with h | h
  · simp [gz, List.getD, h]
  · exact gz_ge (by simpa using h)

/-- Without zeros at the end. -/
def tz : List Int → List Int
  | [] => []
  | x :: r => match tz r with
    | [] => if x = 0 then [] else [x]
    | y :: s => x :: y :: s
theorem tz_length_le (l : List Int) : (tz l).length ≤ l.length := by
  induction l with
  | nil => simp [tz]
  | cons x r ih =>
    unfold tz
    split
    · split <;> simp
    · rename_i y s h; rw [h] at ih; simp at ih ⊢; omega
theorem tz_eq_take (l : List Int) : tz l = l.take (tz l).length := by
  induction l with
  | nil => simp [tz]
  | cons x r ih =>
    unfold tz
    split
    · split <;> simp
    · rename_i y s h; rw [h] at ih; simp only [List.length_cons, List.take_succ_cons]; rw [← List.length_cons (a := y), ← ih]
theorem tz_snoc_zero (l : List Int) : tz (l ++ [0]) = tz l := by
  induction l with
  | nil => simp [tz]
  | cons x r ih => simp only [List.cons_append]; unfold tz; rw [ih]
theorem tz_snoc_ne (l : List Int) (x : Int) (h : x ≠ 0) : tz (l ++ [x]) = l ++ [x] := by
  induction l with
  | nil => simp [tz, h]
  | cons y r ih =>
    simp only [List.cons_append]
    unfold tz
    rw [ih]
    cases r <;> simp
theorem tz_take_zero {l : List Int} {k : Nat} (h : k < l.length) (h0 : gz l k = 0) : tz (l.take (k + 1)) = tz (l.take k) := by rw [take_succ_gz h, h0, tz_snoc_zero]
theorem tz_take_ne {l : List Int} {k : Nat} (h : k < l.length) (h0 : gz l k ≠ 0) : tz (l.take (k + 1)) = l.take (k + 1) := by rw [take_succ_gz h, tz_snoc_ne _ _ h0]
theorem tz_mem {l : List Int} {x : Int} (h : x ∈ tz l) : x ∈ l := by rw [tz_eq_take] at h; exact List.mem_of_mem_take h
theorem tz_tz (l : List Int) : tz (tz l) = tz l := by
  induction l with
  | nil => rfl
  | cons x r ih =>
    rw [tz]
    split
    · split
      · rfl
      · rename_i h; simp [tz, h]
    · rename_i y s h
      rw [h] at ih
      rw [tz, ih]

/-- The slice A, n, c of the program holds the integers l: the array lies in a block of D, each element is one of E. -/
structure Pl (E : World → Value → Int → Prop) (w : World) (D : Nat → Prop) (A : Option Addr) (n c : Nat) (l : List Int) : Prop where
  len : l.length = n
  cap : n ≤ c
  room : c ≤ maxLen
  cells : 0 < n → ∃ b off, A = some ⟨b, off, none⟩ ∧ D b ∧ ∀ j, j < n → ∃ neg B m k, w.cell? ⟨b, off + j * 2, none⟩ = some (.bool neg) ∧ w.cell? ⟨b, off + j * 2 + 1, none⟩ = some (.slice B m k) ∧ E w (.agg #[.bool neg, .slice B m k]) (gz l j)

/-- A kind of element that memory made later leaves as it is. -/
class Stays (E : World → Value → Int → Prop) : Prop where
  below : ∀ {w w' v x}, E w v x → Below w.heap.size w w' → E w' v x

/-- An integer in normal form, wherever it lies. -/
def NI (w : World) (v : Value) (x : Int) : Prop := NIntV w (fun _ => True) v x
instance : Stays NI := ⟨fun h hb => h.below hb⟩
instance : Stays IntB := ⟨fun h hb => h.below hb⟩

section
variable {E E' : World → Value → Int → Prop} {w w' : World} {D D' : Nat → Prop} {A : Option Addr} {n c : Nat} {l : List Int}
theorem Pl.mono (h : Pl E w D A n c l) (hd : ∀ b, D b → b < w.heap.size → D' b) : Pl E w D' A n c l :=
  ⟨h.len, h.cap, h.room, fun hn => by
    obtain ⟨b, off, e, hb, hc⟩ := h.cells hn
    obtain ⟨_, _, _, _, h0, _⟩ := hc 0 hn
    exact ⟨b, off, e, hd b hb (cell_lt h0), hc⟩⟩
theorem Pl.imp (h : Pl E w D A n c l) (he : ∀ v x, x ∈ l → E w v x → E' w v x) : Pl E' w D A n c l :=
  ⟨h.len, h.cap, h.room, fun hn => by
    obtain ⟨b, off, e, hb, hc⟩ := h.cells hn
    refine ⟨b, off, e, hb, fun j hj => ?_⟩
    obtain ⟨neg, B, m, k, h0, h1, h2⟩ := hc j hj
    exact ⟨neg, B, m, k, h0, h1, he _ _ (gz_mem (by rw [h.len]; exact hj)) h2⟩⟩
theorem Pl.below [Stays E] (h : Pl E w D A n c l) (hb : Below w.heap.size w w') : Pl E w' D A n c l :=
  ⟨h.len, h.cap, h.room, fun hn => by
    obtain ⟨b, off, e, hd, hc⟩ := h.cells hn
    refine ⟨b, off, e, hd, fun j hj => ?_⟩
    obtain ⟨neg, B, m, k, h0, h1, h2⟩ := hc j hj
    exact ⟨neg, B, m, k, ((bcell hb).1 _ _ (cell_lt h0)).trans h0, ((bcell hb).1 _ _ (cell_lt h1)).trans h1, Stays.below h2 hb⟩⟩
theorem Pl.nil (c : Nat) (hc : c ≤ maxLen) : Pl E w D A 0 c [] := ⟨rfl, Nat.zero_le _, hc, fun h => absurd h (by omega)⟩
theorem Pl.take (h : Pl E w D A n c l) {k c' : Nat} (hk : k ≤ n) (hc1 : k ≤ c') (hc2 : c' ≤ c) : Pl E w D A k c' (l.take k) :=
  ⟨by rw [List.length_take, h.len]; omega, hc1, by have := h.room; omega, fun hn => by
    obtain ⟨b, off, e, hb, hc⟩ := h.cells (by omega)
    exact ⟨b, off, e, hb, fun j hj => by rw [gz_take hj]; exact hc j (by omega)⟩⟩
end

/-- A slice value that holds integers in normal form. -/
def PV (w : World) (D : Nat → Prop) (v : Value) (l : List Int) : Prop := ∃ A c, v = .slice A l.length c ∧ Pl NI w D A l.length c l

/-- The cells xs are those of the integers l (normal forms, their words in blocks of D). -/
def Cs (w : World) (D : Nat → Prop) (xs : List Value) (l : List Int) : Prop :=
  xs.length = l.length * 2 ∧ ∀ j, j < l.length → ∃ neg B m k, xs[j * 2]? = some (.bool neg) ∧ xs[j * 2 + 1]? = some (.slice B m k) ∧ NIntV w D (.agg #[.bool neg, .slice B m k]) (gz l j)
section
variable {w w' : World} {D D' : Nat → Prop} {xs : List Value} {l : List Int}
theorem Cs.nil : Cs w D [] [] := ⟨rfl, fun j hj => absurd hj (by simp)⟩
theorem Cs.mono (h : Cs w D xs l) (hd : ∀ b, D b → b < w.heap.size → D' b) : Cs w D' xs l :=
  ⟨h.1, fun j hj => by obtain ⟨neg, B, m, k, h0, h1, h2⟩ := h.2 j hj; exact ⟨neg, B, m, k, h0, h1, h2.mono hd⟩⟩
theorem Cs.below (h : Cs w D xs l) (hb : Below w.heap.size w w') : Cs w' D xs l :=
  ⟨h.1, fun j hj => by obtain ⟨neg, B, m, k, h0, h1, h2⟩ := h.2 j hj; exact ⟨neg, B, m, k, h0, h1, h2.below hb⟩⟩
theorem Cs.keep (h : Cs w D xs l) (hk : ∀ b o, D b → b < w.heap.size → w'.cell? ⟨b, o, none⟩ = w.cell? ⟨b, o, none⟩) : Cs w' D xs l :=
  ⟨h.1, fun j hj => by obtain ⟨neg, B, m, k, h0, h1, A, c, e, h2⟩ := h.2 j hj; exact ⟨neg, B, m, k, h0, h1, A, c, e, h2.keep hk⟩⟩
theorem Cs.snoc (h : Cs w D xs l) {neg : Bool} {B : Option Addr} {m k : Nat} {x : Int} (hx : NIntV w D (.agg #[.bool neg, .slice B m k]) x) : Cs w D (xs ++ [.bool neg, .slice B m k]) (l ++ [x]) := by
  refine ⟨by simp [h.1]; omega, fun j hj => ?_⟩
  simp only [List.length_append, List.length_singleton] at hj
  rcases Nat.lt_or_ge j l.length with hlt | hge
  · obtain ⟨neg, B, m, k, h0, h1, h2⟩ := h.2 j hlt
    exact ⟨neg, B, m, k, by rw [List.getElem?_append_left (by rw [h.1]; omega)]; exact h0, by rw [List.getElem?_append_left (by rw [h.1]; omega)]; exact h1, by rw [gz_append_left hlt]; exact h2⟩
  · obtain rfl : j = l.length := by omega
    refine ⟨neg, B, m, k, ?_, ?_, by rw [gz_append_at]; exact hx⟩
    · rw [List.getElem?_append_right (by rw [h.1]; omega), h.1]; simp
    · rw [List.getElem?_append_right (by rw [h.1]; omega), h.1]; simp
theorem Cs.set (h : Cs w D xs l) {i : Nat} (hi : i < l.length) {neg : Bool} {B : Option Addr} {m k : Nat} {x : Int} (hx : NIntV w D (.agg #[.bool neg, .slice B m k]) x) : Cs w D ((xs.set (i * 2) (.bool neg)).set (i * 2 + 1) (.slice B m k)) (l.set i x) := by
  refine ⟨by simp [h.1], fun j hj => ?_⟩
  simp only [List.length_set] at hj
  rw [gz_set hi]
  by_cases he : i = j
  · subst he
    refine ⟨neg, B, m, k, ?_, ?_, by rw [if_pos rfl]; exact hx⟩
    · rw [List.getElem?_set_ne (by omega), List.getElem?_set_self (by rw [h.1]; omega)]
    · rw [List.getElem?_set_self (by rw [List.length_set, h.1]; omega)]
  · rw [if_neg he]
    obtain ⟨neg, B, m, k, h0, h1, h2⟩ := h.2 j hj
    exact ⟨neg, B, m, k, by rw [List.getElem?_set_ne (by omega), List.getElem?_set_ne (by omega)]; exact h0, by rw [List.getElem?_set_ne (by omega), List.getElem?_set_ne (by omega)]; exact h1, h2⟩
theorem Cs.zeros (n : Nat) : Cs w D (List.replicate n [Value.bool false, .slice none 0 0]).flatten (List.replicate n 0) := by
  induction n with
  | zero => exact Cs.nil
  | succ n ih =>
    rw [List.replicate_succ', List.replicate_succ', List.flatten_append]
    simp only [List.flatten_cons, List.flatten_nil, List.append_nil]
    exact ih.snoc (NIntV.zero w D)
end

/-- What an own row of integers holds. -/
theorem pl_of_own {w : World} {base : Nat} {D' : Nat → Prop} {n : Nat} {v : Value} {xs : List Value} {l : List Int} (h : w.ownsRow base 63 2 v n xs) (hc : Cs w D' xs l) (hn : l.length = n) (hm : n ≤ maxLen) :
    ∃ A c, v = .slice A n c ∧ Pl NI w (base ≤ ·) A n c l := by
  rcases Nat.eq_zero_or_pos n with h0 | h0
  · subst h0
    obtain rfl := List.eq_nil_of_length_eq_zero hn
    obtain ⟨A, c, rfl, h1, h2⟩ := own_slice h
    exact ⟨A, c, rfl, Pl.nil c h2⟩
  · obtain ⟨g, cap, rfl, hb, h1, h2, h3, h4⟩ := own_cells h h0
    refine ⟨_, cap, rfl, hn, h1, h2, fun _ => ⟨g, 0, rfl, hb, fun j hj => ?_⟩⟩
    obtain ⟨neg, B, m, k, e0, e1, e2⟩ := hc.2 j (by omega)
    exact ⟨neg, B, m, k, by rw [Nat.zero_add]; exact h4 _ _ e0, by rw [Nat.zero_add]; exact h4 _ _ e1, e2.mono (fun _ _ _ => trivial)⟩
theorem pl_of_arr {w : World} {D D' : Nat → Prop} {n g : Nat} {t : TypeId} {xs : List Value} {l : List Int} (h : Arr w g t xs) (hc : Cs w D' xs l) (hd : D g) (hn : l.length = n) (hm : n ≤ maxLen) :
    Pl NI w D (some ⟨g, 0, none⟩) n n l :=
  ⟨hn, Nat.le_refl _, hm, fun _ => ⟨g, 0, rfl, hd, fun j hj => by
    obtain ⟨neg, B, m, k, e0, e1, e2⟩ := hc.2 j (by omega)
    exact ⟨neg, B, m, k, by rw [Nat.zero_add, Arr.cell h]; exact e0, by rw [Nat.zero_add, Arr.cell h]; exact e1, e2.mono (fun _ _ _ => trivial)⟩⟩⟩
theorem info_Int : (Tryz.prog.info? 63).map (fun i => (i.zero, i.size, i.bytes)) = some (some (.agg #[.bool false, .slice none 0 0]), 2, 32) := by kernel_rfl

end Go.Proofs.YtdmdagilopckgaaGreat

namespace Go.Proofs.YtdmdagilopckgaaGreat
open Go.RowKit

/-- The slice value v is a list of the call's own (memory from base on) that holds the integers l, in normal form. -/
def OwnI (w : World) (base : Nat) (v : Value) (l : List Int) : Prop := ∃ xs, w.ownsRow base 63 2 v l.length xs ∧ Cs w (fun b => some b ≠ v.ownBlock) xs l

section
variable {w w' : World} {base : Nat} {v : Value} {l : List Int}
theorem OwnI.nil (w : World) (base : Nat) : OwnI w base (.slice none 0 0) [] := ⟨[], World.ownsRow_nil _ _ _ _, Cs.nil⟩
theorem OwnI.slice (h : OwnI w base v l) : ∃ A c, v = .slice A l.length c := by
  obtain ⟨xs, h1, _⟩ := h
  obtain ⟨A, c, e, _⟩ := own_slice h1
  exact ⟨A, c, e⟩
theorem OwnI.pl (h : OwnI w base v l) (hm : l.length ≤ maxLen) : ∃ A c, v = .slice A l.length c ∧ Pl NI w (base ≤ ·) A l.length c l := by
  obtain ⟨xs, h1, h2⟩ := h
  exact pl_of_own h1 h2 rfl hm
theorem OwnI.below (h : OwnI w base v l) (hb : Below w.heap.size w w') : OwnI w' base v l := by
  obtain ⟨xs, h1, h2⟩ := h
  refine ⟨xs, ⟨h1.1, ?_⟩, h2.below hb⟩
  rcases h1.2 with h3 | ⟨g, cap, cur, e, h4, h5, h6⟩
  · exact .inl h3
  · exact .inr ⟨g, cap, cur, e, h4, (hb.block g (h1.lt g (by rw [e]; rfl)).2).trans h5, h6⟩
end

section
variable (w0 : World)
/-- append(own, x) of one integer that lies in a block made just before. -/
theorem wpList_pushI {ops : Array Oper} {rest : List Oper} {o : Oper} {a : Act} {Q : Exit → Act → World → Prop} (hgd : o.guard = none) (s x : Operand) (t t' : TypeId)
    (ho : o.op = .call { callee := .builtin .append, args := #[s, x], argTypes := #[t, t'] })
    (base : Nat) (ht : Tryz.prog.underlying t = some (.slice 63)) (ht' : Tryz.prog.underlying t' = some (.slice 63))
    (v : Value) (l : List Int) (n : Nat) (hln : l.length = n) (hs : a.eval s = v) (hown : OwnI w0 base v l)
    (neg : Bool) (B : Option Addr) (m k : Nat) (y : Int) (hx : a.eval x = .slice (some ⟨w0.heap.size, 0, none⟩) 1 1) (hy : NIntV w0 (fun b => some b ≠ v.ownBlock) (.agg #[.bool neg, .slice B m k]) y)
    (h63 : n + 1 ≤ 1000000000) (hbase : base ≤ w0.heap.size)
    (h : ∀ A' c' w', OwnI w' base (.slice A' (n + 1) c') (l ++ [y]) → w0.grownBy w' v.ownBlock → Below base w0 w' → wpList Tryz.prog ops Q rest (a.put o.dst (.slice A' (n + 1) c')) w') :
    wpList Tryz.prog ops Q (o :: rest) a (w0.alloc (.cells #[.bool neg, .slice B m k] 63)) := by
  subst hln
  obtain ⟨xs, hrow, hcs⟩ := hown
  refine wpList_app _ hgd s x t t' ho base 63 63 (.agg #[.bool false, .slice none 0 0]) 2 32 ht ht' info_Int rfl (by omega) v l.length xs hs (hrow.alloc _) _ 1 1 [.bool neg, .slice B m k] hx (src_block (heap_alloc_new w0 _) 1 2 rfl) (by simp [Value.oneCell']) (by unfold maxLen; omega) (by omega) (by simp; omega) ?_
  intro v' w' hown' hg hob
  obtain ⟨A', c', rfl, _, _⟩ := own_slice hown'
  have hg0 : w0.grownBy w' v.ownBlock := grownBy_trans (World.grownBy_alloc w0 _ _) hg
  refine h A' c' w' ⟨_, by rw [List.length_append]; exact hown', ?_⟩ hg0 ((Below.refl _ _).grown hg0 hbase (fun k hk => (hrow.lt k hk).1))
  have hk : ∀ b o, some b ≠ v.ownBlock → b < w0.heap.size → w'.cell? ⟨b, o, none⟩ = w0.cell? ⟨b, o, none⟩ := fun b o hd hb => World.cell?_of_block (hg0.block b hb hd)
  have hb2 : Below w0.heap.size w0 w0 := Below.refl _ _
  have hc2 : Cs w0 (fun b => some b ≠ v.ownBlock) (xs ++ [.bool neg, .slice B m k]) (l ++ [y]) := hcs.snoc hy
  have hc3 : Cs w0 (fun b => some b ≠ v.ownBlock ∧ b < w0.heap.size) (xs ++ [.bool neg, .slice B m k]) (l ++ [y]) := hc2.mono fun b h1 h2 => ⟨h1, h2⟩
  refine (hc3.keep (w' := w') fun b o hd hb => hk b o hd.1 hb).mono fun b hd _ => ?_
  rcases hob with e | e
  · rw [e]; exact hd.1
  · rw [e]
    intro e2
    have := hd.2
    simp at e2
    omega
end

theorem Pl.v {w : World} {D : Nat → Prop} {A : Option Addr} {n c : Nat} {l : List Int} (h : Pl NI w D A n c l) : PV w D (.slice A n c) l := by
  have := h.len
  subst this
  exact ⟨A, c, rfl, h⟩

def slN : Value → Nat | .slice _ n _ => n | _ => 0

theorem OwnI.fresh {w : World} {base : Nat} {v : Value} {l : List Int} (h : OwnI w base v l) {b : Nat} (hb : w.heap.size ≤ b) : some b ≠ v.ownBlock := by
  obtain ⟨xs, h1, _⟩ := h
  intro e
  have := (h1.lt b e.symm).2
  omega

/-- A row of integers: all its memory lies in blocks of D. -/
def PvD (w : World) (D : Nat → Prop) (v : Value) (l : List Int) : Prop := ∃ A c, v = .slice A l.length c ∧ Pl (fun w v x => NIntV w D v x) w D A l.length c l
theorem PvD.pv {w : World} {D : Nat → Prop} {v : Value} {l : List Int} (h : PvD w D v l) : PV w D v l := by
  obtain ⟨A, c, e, h1⟩ := h
  exact ⟨A, c, e, h1.imp fun v x _ hx => NIntV.mono hx fun _ _ _ => trivial⟩
theorem Pl.d {w : World} {D E : Nat → Prop} {A : Option Addr} {n c : Nat} {l : List Int} (h : Pl (fun w v x => NIntV w E v x) w D A n c l) (hed : ∀ b, E b → D b) : PvD w D (.slice A n c) l := by
  have := h.len
  subst this
  exact ⟨A, c, rfl, h.imp fun v x _ hx => NIntV.mono hx fun b hb _ => hed b hb⟩
theorem PvD.slice_ {w : World} {D : Nat → Prop} {v : Value} {l : List Int} (h : PvD w D v l) : ∃ A c, v = .slice A l.length c := by
  obtain ⟨A, c, e, _⟩ := h
  exact ⟨A, c, e⟩
theorem PvD.mono {w : World} {D D' : Nat → Prop} {v : Value} {l : List Int} (h : PvD w D v l) (hm : ∀ b, D b → b < w.heap.size → D' b) : PvD w D' v l := by
  obtain ⟨A, c, e, h1⟩ := h
  exact ⟨A, c, e, (h1.mono hm).imp fun v x _ hx => NIntV.mono hx hm⟩
instance (D : Nat → Prop) : Stays (fun w v x => NIntV w D v x) := ⟨fun h hb => NIntV.below h hb⟩
theorem PvD.below {w w' : World} {D : Nat → Prop} {v : Value} {l : List Int} (h : PvD w D v l) (hb : Below w.heap.size w w') : PvD w' D v l := by
  obtain ⟨A, c, e, h1⟩ := h
  exact ⟨A, c, e, h1.below hb⟩
/-- A list of integers of the call's own, all its memory from base on. -/
def OwnJ (w : World) (base : Nat) (v : Value) (l : List Int) : Prop := ∃ xs, w.ownsRow base 63 2 v l.length xs ∧ Cs w (fun b => base ≤ b ∧ some b ≠ v.ownBlock) xs l
section
variable {w w' : World} {base : Nat} {v : Value} {l : List Int}
theorem OwnJ.nil (w : World) (base : Nat) : OwnJ w base (.slice none 0 0) [] := ⟨[], World.ownsRow_nil _ _ _ _, Cs.nil⟩
theorem OwnJ.slice (h : OwnJ w base v l) : ∃ A c, v = .slice A l.length c ∧ l.length ≤ c ∧ c ≤ maxLen := by
  obtain ⟨xs, h1, _⟩ := h
  exact own_slice h1
theorem OwnJ.slice_ (h : OwnJ w base v l) {n : Nat} (hn : l.length = n) : ∃ A c, v = .slice A n c ∧ n ≤ c ∧ c ≤ maxLen := by subst hn; exact h.slice
theorem OwnJ.below (h : OwnJ w base v l) (hb : Below w.heap.size w w') : OwnJ w' base v l := by
  obtain ⟨xs, h1, h2⟩ := h
  refine ⟨xs, ⟨h1.1, ?_⟩, h2.below hb⟩
  rcases h1.2 with h3 | ⟨g, cap, cur, e, h4, h5, h6⟩
  · exact .inl h3
  · exact .inr ⟨g, cap, cur, e, h4, (hb.block g (h1.lt g (by rw [e]; rfl)).2).trans h5, h6⟩
theorem OwnJ.fresh (h : OwnJ w base v l) {b : Nat} (hb : w.heap.size ≤ b) : some b ≠ v.ownBlock := by
  obtain ⟨xs, h1, _⟩ := h
  intro e
  have := (h1.lt b e.symm).2
  omega
theorem OwnJ.pv (h : OwnJ w base v l) : PvD w (base ≤ ·) v l := by
  obtain ⟨xs, h1, h2⟩ := h
  obtain ⟨A, c, rfl, hc1, hc2⟩ := own_slice h1
  refine ⟨A, c, rfl, rfl, hc1, hc2, fun hn => ?_⟩
  obtain ⟨g, cap, e, hb, _, _, _, hc⟩ := own_cells h1 hn
  injection e with e1 e2 e3
  subst e1
  refine ⟨g, 0, rfl, hb, fun j hj => ?_⟩
  obtain ⟨neg, B, m, k, e0, e1, e2⟩ := h2.2 j hj
  exact ⟨neg, B, m, k, by rw [Nat.zero_add]; exact hc _ _ e0, by rw [Nat.zero_add]; exact hc _ _ e1, e2.mono fun b hb _ => hb.1⟩

variable (w0 : World)
/-- append(own, x) of one integer that lies in a block made just before. -/
theorem wpList_pushJ {ops : Array Oper} {rest : List Oper} {o : Oper} {a : Act} {Q : Exit → Act → World → Prop} (hgd : o.guard = none) (s x : Operand) (t t' : TypeId)
    (ho : o.op = .call { callee := .builtin .append, args := #[s, x], argTypes := #[t, t'] })
    (base : Nat) (ht : Tryz.prog.underlying t = some (.slice 63)) (ht' : Tryz.prog.underlying t' = some (.slice 63))
    (v : Value) (l : List Int) (n : Nat) (hln : l.length = n) (hs : a.eval s = v) (hown : OwnJ w0 base v l)
    (neg : Bool) (B : Option Addr) (m k : Nat) (y : Int) (hx : a.eval x = .slice (some ⟨w0.heap.size, 0, none⟩) 1 1) (hy : NIntV w0 (fun b => base ≤ b ∧ some b ≠ v.ownBlock) (.agg #[.bool neg, .slice B m k]) y)
    (h63 : n + 1 ≤ 1000000000) (hbase : base ≤ w0.heap.size)
    (h : ∀ A' c' w', OwnJ w' base (.slice A' (n + 1) c') (l ++ [y]) → w0.grownBy w' v.ownBlock → Below base w0 w' → wpList Tryz.prog ops Q rest (a.put o.dst (.slice A' (n + 1) c')) w') :
    wpList Tryz.prog ops Q (o :: rest) a (w0.alloc (.cells #[.bool neg, .slice B m k] 63)) := by
  subst hln
  obtain ⟨xs, hrow, hcs⟩ := hown
  refine wpList_app _ hgd s x t t' ho base 63 63 (.agg #[.bool false, .slice none 0 0]) 2 32 ht ht' info_Int rfl (by omega) v l.length xs hs (hrow.alloc _) _ 1 1 [.bool neg, .slice B m k] hx (src_block (heap_alloc_new w0 _) 1 2 rfl) (by simp [Value.oneCell']) (by unfold maxLen; omega) (by omega) (by simp; omega) ?_
  intro v' w' hown' hg hob
  obtain ⟨A', c', rfl, _, _⟩ := own_slice hown'
  have hg0 : w0.grownBy w' v.ownBlock := grownBy_trans (World.grownBy_alloc w0 _ _) hg
  refine h A' c' w' ⟨_, by rw [List.length_append]; exact hown', ?_⟩ hg0 ((Below.refl _ _).grown hg0 hbase (fun k hk => (hrow.lt k hk).1))
  have hk : ∀ b o, some b ≠ v.ownBlock → b < w0.heap.size → w'.cell? ⟨b, o, none⟩ = w0.cell? ⟨b, o, none⟩ := fun b o hd hb => World.cell?_of_block (hg0.block b hb hd)
  have hc2 : Cs w0 (fun b => base ≤ b ∧ some b ≠ v.ownBlock) (xs ++ [.bool neg, .slice B m k]) (l ++ [y]) := hcs.snoc hy
  have hc3 : Cs w0 (fun b => (base ≤ b ∧ some b ≠ v.ownBlock) ∧ b < w0.heap.size) (xs ++ [.bool neg, .slice B m k]) (l ++ [y]) := hc2.mono fun b h1 h2 => ⟨h1, h2⟩
  refine (hc3.keep (w' := w') fun b o hd hb => hk b o hd.1.2 hb).mono fun b hd _ => ⟨hd.1.1, ?_⟩
  rcases hob with e | e
  · rw [e]; exact hd.1.2
  · rw [e]
    intro e2
    have := hd.2
    simp at e2
    omega
end

set_option maxHeartbeats 1000000 in
theorem normalD_any {A : Option Addr} {n c : Nat} {l : List Int} {w : World} (h : Pl IntB w (fun _ => True) A n c l) (hn : n ≤ 1000000) :
    Calls Tryz.prog 67 #[.slice A n c] w (Gives w fun w' v => PvD w' (w.heap.size ≤ ·) v (tz l)) := by
  have hm := h.room
  have hc := h.cap
  have hl := Lib.hid h.len
  go_enter Tryz.func67, Tryz.ntmps67
  go_wp2_with fail
  go_loopw [3, 8] (fun ov iv wr => ∃ k : Nat, iv = .int .i64 k ∧ k ≤ n ∧ OwnJ wr w.heap.size ov (l.take k) ∧ Below w.heap.size w wr) (fun _ iv _ => n - (intOf iv).toNat)
  case atStart => exact ⟨0, rfl, by omega, OwnJ.nil _ _, Below.refl _ _⟩
  case round =>
    obtain ⟨k, rfl, hk, hown, hbr⟩ := hrel
    rcases Nat.lt_or_ge k n with hkn | hkn
    · obtain ⟨b, off, rfl, _, hcell⟩ := (h.below hbr).cells (by omega)
      obtain ⟨neg, B, m, q, e0, e1, e2⟩ := hcell k hkn
      clear hcell
      have HBW : Below wr.heap.size wr (wr.alloc (.cells #[.bool neg, .slice B m q] 63)) := (Below.refl _ _).alloc (Nat.le_refl _) _
      go_wp2_with (first
        | (go_at_call 102; go_must (refine (Normal_any (e2.below HBW).int e2.wl).mono ?_); rintro e w1 ⟨v1, rfl, ⟨A1, c1, rfl, hw1⟩, hb1⟩; have hb2 := HBW.trans (hb1.mono HBW.size))
        | (at_builtin; go_must (refine wpList_pushJ _ rfl _ _ _ _ rfl w.heap.size Tryz.underlying66 Tryz.underlying66 u3 (l.take k) k (by rw [List.length_take, hl.out]; omega) rfl (hown.below hb2) _ A1 _ c1 (gz l k) rfl ⟨A1, c1, rfl, hw1.mono fun b hb _ => (show _ ∧ _ from ⟨by have h1 : (World.alloc _ _).heap.size ≤ b := hb; have := hbr.size; have := HBW.size; omega, hown.fresh (Nat.le_trans HBW.size hb)⟩)⟩ (by omega) (by have := hbr.size; have := hb2.size; omega) ?_); intro A2 c2 w2 hown2 hgr2 hb3))
      go_round
      case rel => exact ⟨k + 1, by go_num, by omega, by rw [take_succ_gz (by rw [hl.out]; exact hkn)]; exact hown2, (hbr.trans (hb2.mono hbr.size)).trans hb3⟩
      case measure => simp [intOf]; omega
    · obtain rfl : k = n := by omega
      rw [List.take_of_length_le (by rw [hl.out]; exact Nat.le_refl _)] at hown
      obtain ⟨A1, c1, hu3, hpl⟩ := hown.pv
      rw [hl.out] at hu3 hpl
      subst hu3
      have hc1 := hpl.cap
      have hm1 := hpl.room
      clear h hown
      go_wp2_with fail
      obtain ⟨wo, rfl⟩ : ∃ wo : World, wo = wr := ⟨_, rfl⟩
      go_loopw [3] (fun ov wr => ∃ j : Nat, ov = .slice A1 j c1 ∧ j ≤ k ∧ Hid (tz l = tz (l.take j)) ∧ Below wo.heap.size wo wr) (fun ov _ => slN ov)
      case atStart => exact ⟨k, rfl, Nat.le_refl _, by rw [List.take_of_length_le (by rw [hl.out]; exact Nat.le_refl _)]; rfl, Below.refl _ _⟩
      case round =>
        obtain ⟨j, rfl, hj, ht, hbr2⟩ := hrel
        rcases Nat.eq_zero_or_pos j with h0 | h0
        · subst h0
          go_wp2_with fail
          go_ret
          refine ⟨_, rfl, ?_, hbr.trans (hbr2.mono hbr.size)⟩
          rw [ht.out, List.take_zero]
          exact ⟨_, _, rfl, Pl.nil c1 hm1⟩
        · obtain ⟨i, rfl⟩ : ∃ i, j = i + 1 := ⟨j - 1, by omega⟩
          have hpl2 := hpl.below hbr2
          obtain ⟨b, off, rfl, _, hcell⟩ := hpl2.cells (by omega)
          obtain ⟨neg, B, m, q, e0, e1, e2⟩ := hcell i (by omega)
          clear hcell
          by_cases hz : gz l i = 0
          · have hz' : decide (gz l i = 0) = true := by simp [hz]
            have HZ := Lib.hid hz
            clear hz
            go_wp2_with (go_at_call 88; go_must (refine (Zero_any e2).mono ?_); rintro e w1 ⟨rfl, hb1⟩; rw [hz'])
            go_round
            case rel => exact ⟨i, rfl, by omega, by show _ = _; rw [ht.out, tz_take_zero (by rw [hl.out]; omega) HZ.out], hbr2.trans (hb1.mono hbr2.size)⟩
            case measure => simp [slN]
          · have hz' : decide (gz l i = 0) = false := by simp [hz]
            have HZ := Lib.hid hz
            clear hz
            go_wp2_with (go_at_call 88; go_must (refine (Zero_any e2).mono ?_); rintro e w1 ⟨rfl, hb1⟩; rw [hz'])
            go_ret
            refine ⟨_, rfl, ?_, (hbr.trans (hbr2.mono hbr.size)).trans (hb1.mono (Nat.le_trans hbr.size hbr2.size))⟩
            rw [ht.out, tz_take_ne (by rw [hl.out]; omega) HZ.out]
            exact ((hpl2.below hb1).take (by omega) (by omega) (Nat.le_refl _)).d (fun _ h => h)
theorem normal_any {A : Option Addr} {n c : Nat} {l : List Int} {w : World} (h : Pl IntB w (fun _ => True) A n c l) (hn : n ≤ 1000000) :
    Calls Tryz.prog 67 #[.slice A n c] w (Gives w fun w' v => PV w' (w.heap.size ≤ ·) v (tz l)) := by
  refine (normalD_any h hn).mono ?_
  rintro e w2 ⟨v2, rfl, hv2, hb2⟩
  exact ⟨v2, rfl, hv2.pv, hb2⟩
end Go.Proofs.YtdmdagilopckgaaGreat

namespace Go.Proofs.YtdmdagilopckgaaGreat
open Go.RowKit

theorem NI.below {w w' : World} {v : Value} {x : Int} (h : NI w v x) (hb : Below w.heap.size w w') : NI w' v x := NIntV.below h hb

/-- Block g is an array of the call's own that holds the integers l, in normal form. -/
def IArr (w : World) (g : Nat) (l : List Int) : Prop := ∃ xs, Arr w g 63 xs ∧ Cs w (· ≠ g) xs l
section
variable {w w' : World} {g : Nat} {l : List Int}
theorem IArr.lt (h : IArr w g l) : g < w.heap.size := by obtain ⟨xs, h1, _⟩ := h; exact h1.lt
theorem IArr.below (h : IArr w g l) (hb : Below w.heap.size w w') : IArr w' g l := by obtain ⟨xs, h1, h2⟩ := h; exact ⟨xs, h1.below' hb, h2.below hb⟩
theorem IArr.frozen (h : IArr w g l) (i : Nat) : w.frozen? ⟨g, i, none⟩ = false := by obtain ⟨xs, h1, _⟩ := h; exact h1.frozen i
theorem IArr.cells (h : IArr w g l) {j : Nat} (hj : j < l.length) : ∃ neg B m k, w.cell? ⟨g, j * 2, none⟩ = some (.bool neg) ∧ w.cell? ⟨g, j * 2 + 1, none⟩ = some (.slice B m k) ∧ NIntV w (· ≠ g) (.agg #[.bool neg, .slice B m k]) (gz l j) := by
  obtain ⟨xs, h1, h2⟩ := h
  obtain ⟨neg, B, m, k, e0, e1, e2⟩ := h2.2 j hj
  exact ⟨neg, B, m, k, (h1.cell _).trans e0, (h1.cell _).trans e1, e2⟩
theorem IArr.pl (h : IArr w g l) {D : Nat → Prop} (hd : D g) (hm : l.length ≤ maxLen) : Pl NI w D (some ⟨g, 0, none⟩) l.length l.length l := by
  obtain ⟨xs, h1, h2⟩ := h
  exact pl_of_arr h1 h2 hd rfl hm
theorem Cs.setCell {D : Nat → Prop} {xs : List Value} (h : Cs w D xs l) {p : Addr} (hp : ¬ D p.block) (u : Value) : Cs (w.setCell p u) D xs l :=
  h.keep fun b o hd _ => World.cell?_setCell_other w p ⟨b, o, none⟩ u (fun e => hp (by subst e; exact hd))
theorem IArr.set (h : IArr w g l) {i : Nat} (hi : i < l.length) {neg : Bool} {B : Option Addr} {m k : Nat} {x : Int} (hx : NIntV w (· ≠ g) (.agg #[.bool neg, .slice B m k]) x) :
    IArr ((w.setCell ⟨g, i * 2, none⟩ (.bool neg)).setCell ⟨g, i * 2 + 1, none⟩ (.slice B m k)) g (l.set i x) := by
  obtain ⟨xs, h1, h2⟩ := h
  exact ⟨_, (h1.set_ _ _).set_ _ _, ((h2.set hi hx).setCell (by simp) _).setCell (by simp) _⟩
theorem toList_madeCells_two (z z' : Value) (n : Nat) : (madeCells #[z, z'] (n * 2)).toList = (List.replicate n [z, z']).flatten := by
  apply List.ext_getElem?
  intro i
  have hsz := size_madeCells #[z, z'] (n * 2)
  have hfl : (List.replicate n [z, z']).flatten.length = n * 2 := by simp
  rcases Nat.lt_or_ge i (n * 2) with hi | hi
  · have h1 : (madeCells #[z, z'] (n * 2)).toList[i]? = some (#[z, z'][i % 2]!) := by
      simp [madeCells, hi]
    rw [h1]
    clear h1 hsz hfl
    induction n generalizing i with
    | zero => omega
    | succ n ih =>
      rw [List.replicate_succ, List.flatten_cons]
      rcases Nat.lt_or_ge i 2 with h2 | h2
      · rw [List.getElem?_append_left (by simpa using h2)]
        rcases i with _ | _ | i
        · rfl
        · rfl
        · omega
      · rw [List.getElem?_append_right (by simpa using h2)]
        have e : i % 2 = (i - 2) % 2 := by omega
        rw [e]
        exact ih (i - 2) (by omega)
  · rw [List.getElem?_eq_none (by rw [Array.length_toList, hsz]; exact hi), List.getElem?_eq_none (by rw [hfl]; exact hi)]
theorem IArr.made {n : Nat} (h : Arr w g 63 (madeCells (Value.agg #[.bool false, .slice none 0 0]).cells (n * 2)).toList) : IArr w g (List.replicate n 0) := by
  rw [show (Value.agg #[.bool false, .slice none 0 0]).cells = #[.bool false, .slice none 0 0] from rfl, toList_madeCells_two] at h
  exact ⟨_, h, Cs.zeros n⟩
end

end Go.Proofs.YtdmdagilopckgaaGreat
