/- Lists of integers in memory: slices whose elements are api.Int. Growing lists of integers: append of one integer onto a list of the call's own; package brandt's normal. Arrays of integers of the call's own. graph.stepped: the numbers of walks that are one step longer. graph.walks, graph.small. graph.Closed. -/
import Derived.Test.YtpkjdnplmgfbbaaGreatDoorA2
import Derived.Test.YtpkjdnplmgfbbaaGreatDoorA3
import Derived.Test.YtpkjdnplmgfbbaaGreatDoorG6
import Derived.Test.YtpkjdnplmgfbbaaGreatDoorG7
namespace Go.Proofs.YtpkjdnplmgfbbaaGreatDoor
open Go.RowKit

/-- The element of a list of integers, 0 behind its end. -/
def gz (l : List Int) (j : Nat) : Int := l.getD j 0
theorem gz_nil (j : Nat) : gz [] j = 0 := by simp [gz]
theorem gz_cons_zero (x : Int) (l : List Int) : gz (x :: l) 0 = x := rfl
theorem gz_cons_succ (x : Int) (l : List Int) (j : Nat) : gz (x :: l) (j + 1) = gz l j := rfl
theorem gz_lt {l : List Int} {j : Nat} (h : j < l.length) : l[j]? = some (gz l j) := by simp [gz, List.getD, List.getElem?_eq_getElem h]
theorem gz_ge {l : List Int} {j : Nat} (h : l.length ≤ j) : gz l j = 0 := by simp [gz, List.getD, List.getElem?_eq_none h]
theorem gz_mem {l : List Int} {j : Nat} (h : j < l.length) : gz l j ∈ l := List.mem_of_getElem? (gz_lt h)
theorem gz_take {l : List Int} {j k : Nat} (h : j < k) : gz (l.take k) j = gz l j := by simp [gz, List.getD, h]
theorem gz_drop (l : List Int) (k j : Nat) : gz (l.drop k) j = gz l (k + j) := by simp [gz, List.getD, List.getElem?_drop]
theorem gz_append_left {l m : List Int} {j : Nat} (h : j < l.length) : gz (l ++ m) j = gz l j := by simp [gz, List.getD, List.getElem?_append_left h]
theorem gz_append_at (l : List Int) (x : Int) (m : List Int) : gz (l ++ x :: m) l.length = x := by simp [gz, List.getD]
theorem take_succ_gz {l : List Int} {k : Nat} (h : k < l.length) : l.take (k + 1) = l.take k ++ [gz l k] := by rw [List.take_add_one, gz_lt h]; simp
theorem gz_ext {l m : List Int} (hl : l.length = m.length) (h : ∀ j, j < l.length → gz l j = gz m j) : l = m := by
  apply List.ext_getElem?
  intro j
  rcases Nat.lt_or_ge j l.length with hj | hj
  · rw [gz_lt hj, gz_lt (hl ▸ hj), h j hj]
  · rw [List.getElem?_eq_none hj, List.getElem?_eq_none (hl ▸ hj)]
theorem gz_set {l : List Int} {i j : Nat} {x : Int} (hi : i < l.length) : gz (l.set i x) j = if i = j then x else gz l j := by
  simp only [gz, List.getD, List.getElem?_set]
  by_cases h : i = j
  · subst h; simp [hi]
  · simp [h]
theorem gz_replicate (n j : Nat) : gz (List.replicate n 0) j = 0 := by
  rcases Nat.lt_or_ge j n with h | h
  · simp [gz, List.getD, h]
  · exact gz_ge (by simpa using h)

/-- Without zeros at the end. -/
def tz : List Int → List Int
  | [] => []
  | x :: r => match tz r with
    | [] => if x = 0 then [] else [x]
    | y :: s => x :: y :: s
theorem tz_length_le (l : List Int) : (tz l).length ≤ l.length := by
  induction l with
  | nil => simp [tz]
  | cons x r ih =>
    unfold tz
    split
    · split <;> simp
    · rename_i y s h; rw [h] at ih; simp at ih ⊢; omega
theorem tz_eq_take (l : List Int) : tz l = l.take (tz l).length := by
  induction l with
  | nil => simp [tz]
  | cons x r ih =>
    unfold tz
    split
    · split <;> simp
    · rename_i y s h; rw [h] at ih; simp only [List.length_cons, List.take_succ_cons]; rw [← List.length_cons (a := y), ← ih]
theorem tz_snoc_zero (l : List Int) : tz (l ++ [0]) = tz l := by
  induction l with
  | nil => simp [tz]
  | cons x r ih => simp only [List.cons_append]; unfold tz; rw [ih]
theorem tz_snoc_ne (l : List Int) (x : Int) (h : x ≠ 0) : tz (l ++ [x]) = l ++ [x] := by
  induction l with
  | nil => simp [tz, h]
  | cons y r ih =>
    simp only [List.cons_append]
    unfold tz
    rw [ih]
    cases r <;> simp
theorem tz_take_zero {l : List Int} {k : Nat} (h : k < l.length) (h0 : gz l k = 0) : tz (l.take (k + 1)) = tz (l.take k) := by rw [take_succ_gz h, h0, tz_snoc_zero]
theorem tz_take_ne {l : List Int} {k : Nat} (h : k < l.length) (h0 : gz l k ≠ 0) : tz (l.take (k + 1)) = l.take (k + 1) := by rw [take_succ_gz h, tz_snoc_ne _ _ h0]
theorem tz_mem {l : List Int} {x : Int} (h : x ∈ tz l) : x ∈ l := by rw [tz_eq_take] at h; exact List.mem_of_mem_take h
theorem tz_tz (l : List Int) : tz (tz l) = tz l := by
  induction l with
  | nil => rfl
  | cons x r ih =>
    rw [tz]
    split
    · split
      · rfl
      · rename_i h; simp [tz, h]
    · rename_i y s h
      rw [h] at ih
      rw [tz, ih]

/-- The slice A, n, c of the program holds the integers l: the array lies in a block of D, each element is one of E. -/
structure Pl (E : World → Value → Int → Prop) (w : World) (D : Nat → Prop) (A : Option Addr) (n c : Nat) (l : List Int) : Prop where
  len : l.length = n
  cap : n ≤ c
  room : c ≤ maxLen
  cells : 0 < n → ∃ b off, A = some ⟨b, off, none⟩ ∧ D b ∧ ∀ j, j < n → ∃ neg B m k, w.cell? ⟨b, off + j * 2, none⟩ = some (.bool neg) ∧ w.cell? ⟨b, off + j * 2 + 1, none⟩ = some (.slice B m k) ∧ E w (.agg #[.bool neg, .slice B m k]) (gz l j)

/-- A kind of element that memory made later leaves as it is. -/
class Stays (E : World → Value → Int → Prop) : Prop where
  below : ∀ {w w' v x}, E w v x → Below w.heap.size w w' → E w' v x

/-- An integer in normal form, wherever it lies. -/
def NI (w : World) (v : Value) (x : Int) : Prop := NIntV w (fun _ => True) v x
instance : Stays NI := ⟨fun h hb => h.below hb⟩
instance : Stays IntB := ⟨fun h hb => h.below hb⟩

section
variable {E E' : World → Value → Int → Prop} {w w' : World} {D D' : Nat → Prop} {A : Option Addr} {n c : Nat} {l : List Int}
theorem Pl.mono (h : Pl E w D A n c l) (hd : ∀ b, D b → b < w.heap.size → D' b) : Pl E w D' A n c l :=
  ⟨h.len, h.cap, h.room, fun hn => by
    obtain ⟨b, off, e, hb, hc⟩ := h.cells hn
    obtain ⟨_, _, _, _, h0, _⟩ := hc 0 hn
    exact ⟨b, off, e, hd b hb (cell_lt h0), hc⟩⟩
theorem Pl.imp (h : Pl E w D A n c l) (he : ∀ v x, x ∈ l → E w v x → E' w v x) : Pl E' w D A n c l :=
  ⟨h.len, h.cap, h.room, fun hn => by
    obtain ⟨b, off, e, hb, hc⟩ := h.cells hn
    refine ⟨b, off, e, hb, fun j hj => ?_⟩
    obtain ⟨neg, B, m, k, h0, h1, h2⟩ := hc j hj
    exact ⟨neg, B, m, k, h0, h1, he _ _ (gz_mem (by rw [h.len]; exact hj)) h2⟩⟩
theorem Pl.below [Stays E] (h : Pl E w D A n c l) (hb : Below w.heap.size w w') : Pl E w' D A n c l :=
  ⟨h.len, h.cap, h.room, fun hn => by
    obtain ⟨b, off, e, hd, hc⟩ := h.cells hn
    refine ⟨b, off, e, hd, fun j hj => ?_⟩
    obtain ⟨neg, B, m, k, h0, h1, h2⟩ := hc j hj
    exact ⟨neg, B, m, k, ((bcell hb).1 _ _ (cell_lt h0)).trans h0, ((bcell hb).1 _ _ (cell_lt h1)).trans h1, Stays.below h2 hb⟩⟩
theorem Pl.nil (c : Nat) (hc : c ≤ maxLen) : Pl E w D A 0 c [] := ⟨rfl, Nat.zero_le _, hc, fun h => absurd h (by omega)⟩
theorem Pl.take (h : Pl E w D A n c l) {k c' : Nat} (hk : k ≤ n) (hc1 : k ≤ c') (hc2 : c' ≤ c) : Pl E w D A k c' (l.take k) :=
  ⟨by rw [List.length_take, h.len]; omega, hc1, by have := h.room; omega, fun hn => by
    obtain ⟨b, off, e, hb, hc⟩ := h.cells (by omega)
    exact ⟨b, off, e, hb, fun j hj => by rw [gz_take hj]; exact hc j (by omega)⟩⟩
end

/-- A slice value that holds integers in normal form. -/
def PV (w : World) (D : Nat → Prop) (v : Value) (l : List Int) : Prop := ∃ A c, v = .slice A l.length c ∧ Pl NI w D A l.length c l

/-- The cells xs are those of the integers l (normal forms, their words in blocks of D). -/
def Cs (w : World) (D : Nat → Prop) (xs : List Value) (l : List Int) : Prop :=
  xs.length = l.length * 2 ∧ ∀ j, j < l.length → ∃ neg B m k, xs[j * 2]? = some (.bool neg) ∧ xs[j * 2 + 1]? = some (.slice B m k) ∧ NIntV w D (.agg #[.bool neg, .slice B m k]) (gz l j)
section
variable {w w' : World} {D D' : Nat → Prop} {xs : List Value} {l : List Int}
theorem Cs.nil : Cs w D [] [] := ⟨rfl, fun j hj => absurd hj (by simp)⟩
theorem Cs.mono (h : Cs w D xs l) (hd : ∀ b, D b → b < w.heap.size → D' b) : Cs w D' xs l :=
  ⟨h.1, fun j hj => by obtain ⟨neg, B, m, k, h0, h1, h2⟩ := h.2 j hj; exact ⟨neg, B, m, k, h0, h1, h2.mono hd⟩⟩
theorem Cs.below (h : Cs w D xs l) (hb : Below w.heap.size w w') : Cs w' D xs l :=
  ⟨h.1, fun j hj => by obtain ⟨neg, B, m, k, h0, h1, h2⟩ := h.2 j hj; exact ⟨neg, B, m, k, h0, h1, h2.below hb⟩⟩
theorem Cs.keep (h : Cs w D xs l) (hk : ∀ b o, D b → b < w.heap.size → w'.cell? ⟨b, o, none⟩ = w.cell? ⟨b, o, none⟩) : Cs w' D xs l :=
  ⟨h.1, fun j hj => by obtain ⟨neg, B, m, k, h0, h1, A, c, e, h2⟩ := h.2 j hj; exact ⟨neg, B, m, k, h0, h1, A, c, e, h2.keep hk⟩⟩
theorem Cs.snoc (h : Cs w D xs l) {neg : Bool} {B : Option Addr} {m k : Nat} {x : Int} (hx : NIntV w D (.agg #[.bool neg, .slice B m k]) x) : Cs w D (xs ++ [.bool neg, .slice B m k]) (l ++ [x]) := by
  refine ⟨by simp [h.1]; omega, fun j hj => ?_⟩
  simp only [List.length_append, List.length_singleton] at hj
  rcases Nat.lt_or_ge j l.length with hlt | hge
  · obtain ⟨neg, B, m, k, h0, h1, h2⟩ := h.2 j hlt
    exact ⟨neg, B, m, k, by rw [List.getElem?_append_left (by rw [h.1]; omega)]; exact h0, by rw [List.getElem?_append_left (by rw [h.1]; omega)]; exact h1, by rw [gz_append_left hlt]; exact h2⟩
  · obtain rfl : j = l.length := by omega
    refine ⟨neg, B, m, k, ?_, ?_, by rw [gz_append_at]; exact hx⟩
    · rw [List.getElem?_append_right (by rw [h.1]; omega), h.1]; simp
    · rw [List.getElem?_append_right (by rw [h.1]; omega), h.1]; simp
theorem Cs.set (h : Cs w D xs l) {i : Nat} (hi : i < l.length) {neg : Bool} {B : Option Addr} {m k : Nat} {x : Int} (hx : NIntV w D (.agg #[.bool neg, .slice B m k]) x) : Cs w D ((xs.set (i * 2) (.bool neg)).set (i * 2 + 1) (.slice B m k)) (l.set i x) := by
  refine ⟨by simp [h.1], fun j hj => ?_⟩
  simp only [List.length_set] at hj
  rw [gz_set hi]
  by_cases he : i = j
  · subst he
    refine ⟨neg, B, m, k, ?_, ?_, by rw [if_pos rfl]; exact hx⟩
    · rw [List.getElem?_set_ne (by omega), List.getElem?_set_self (by rw [h.1]; omega)]
    · rw [List.getElem?_set_self (by rw [List.length_set, h.1]; omega)]
  · rw [if_neg he]
    obtain ⟨neg, B, m, k, h0, h1, h2⟩ := h.2 j hj
    exact ⟨neg, B, m, k, by rw [List.getElem?_set_ne (by omega), List.getElem?_set_ne (by omega)]; exact h0, by rw [List.getElem?_set_ne (by omega), List.getElem?_set_ne (by omega)]; exact h1, h2⟩
theorem Cs.zeros (n : Nat) : Cs w D (List.replicate n [Value.bool false, .slice none 0 0]).flatten (List.replicate n 0) := by
  induction n with
  | zero => exact Cs.nil
  | succ n ih =>
    rw [List.replicate_succ', List.replicate_succ', List.flatten_append]
    simp only [List.flatten_cons, List.flatten_nil, List.append_nil]
    exact ih.snoc (NIntV.zero w D)
end

/-- What an own row of integers holds. -/
theorem pl_of_own {w : World} {base : Nat} {D' : Nat → Prop} {n : Nat} {v : Value} {xs : List Value} {l : List Int} (h : w.ownsRow base 39 2 v n xs) (hc : Cs w D' xs l) (hn : l.length = n) (hm : n ≤ maxLen) :
    ∃ A c, v = .slice A n c ∧ Pl NI w (base ≤ ·) A n c l := by
  rcases Nat.eq_zero_or_pos n with h0 | h0
  · subst h0
    obtain rfl := List.eq_nil_of_length_eq_zero hn
    obtain ⟨A, c, rfl, h1, h2⟩ := own_slice h
    exact ⟨A, c, rfl, Pl.nil c h2⟩
  · obtain ⟨g, cap, rfl, hb, h1, h2, h3, h4⟩ := own_cells h h0
    refine ⟨_, cap, rfl, hn, h1, h2, fun _ => ⟨g, 0, rfl, hb, fun j hj => ?_⟩⟩
    obtain ⟨neg, B, m, k, e0, e1, e2⟩ := hc.2 j (by omega)
    exact ⟨neg, B, m, k, by rw [Nat.zero_add]; exact h4 _ _ e0, by rw [Nat.zero_add]; exact h4 _ _ e1, e2.mono (fun _ _ _ => trivial)⟩
theorem pl_of_arr {w : World} {D D' : Nat → Prop} {n g : Nat} {t : TypeId} {xs : List Value} {l : List Int} (h : Arr w g t xs) (hc : Cs w D' xs l) (hd : D g) (hn : l.length = n) (hm : n ≤ maxLen) :
    Pl NI w D (some ⟨g, 0, none⟩) n n l :=
  ⟨hn, Nat.le_refl _, hm, fun _ => ⟨g, 0, rfl, hd, fun j hj => by
    obtain ⟨neg, B, m, k, e0, e1, e2⟩ := hc.2 j (by omega)
    exact ⟨neg, B, m, k, by rw [Nat.zero_add, Arr.cell h]; exact e0, by rw [Nat.zero_add, Arr.cell h]; exact e1, e2.mono (fun _ _ _ => trivial)⟩⟩⟩
theorem info_Int : (Tryz.prog.info? 39).map (fun i => (i.zero, i.size, i.bytes)) = some (some (.agg #[.bool false, .slice none 0 0]), 2, 32) := by kernel_rfl

end Go.Proofs.YtpkjdnplmgfbbaaGreatDoor

namespace Go.Proofs.YtpkjdnplmgfbbaaGreatDoor
open Go.RowKit

/-- The slice value v is a list of the call's own (memory from base on) that holds the integers l, in normal form. -/
def OwnI (w : World) (base : Nat) (v : Value) (l : List Int) : Prop := ∃ xs, w.ownsRow base 39 2 v l.length xs ∧ Cs w (fun b => some b ≠ v.ownBlock) xs l

section
variable {w w' : World} {base : Nat} {v : Value} {l : List Int}
theorem OwnI.nil (w : World) (base : Nat) : OwnI w base (.slice none 0 0) [] := ⟨[], World.ownsRow_nil _ _ _ _, Cs.nil⟩
theorem OwnI.slice (h : OwnI w base v l) : ∃ A c, v = .slice A l.length c := by
  obtain ⟨xs, h1, _⟩ := h
  obtain ⟨A, c, e, _⟩ := own_slice h1
  exact ⟨A, c, e⟩
theorem OwnI.pl (h : OwnI w base v l) (hm : l.length ≤ maxLen) : ∃ A c, v = .slice A l.length c ∧ Pl NI w (base ≤ ·) A l.length c l := by
  obtain ⟨xs, h1, h2⟩ := h
  exact pl_of_own h1 h2 rfl hm
theorem OwnI.below (h : OwnI w base v l) (hb : Below w.heap.size w w') : OwnI w' base v l := by
  obtain ⟨xs, h1, h2⟩ := h
  refine ⟨xs, ⟨h1.1, ?_⟩, h2.below hb⟩
  rcases h1.2 with h3 | ⟨g, cap, cur, e, h4, h5, h6⟩
  · exact .inl h3
  · exact .inr ⟨g, cap, cur, e, h4, (hb.block g (h1.lt g (by rw [e]; rfl)).2).trans h5, h6⟩
end

section
variable (w0 : World)
/-- append(own, x) of one integer that lies in a block made just before. -/
theorem wpList_pushI {ops : Array Oper} {rest : List Oper} {o : Oper} {a : Act} {Q : Exit → Act → World → Prop} (hgd : o.guard = none) (s x : Operand) (t t' : TypeId)
    (ho : o.op = .call { callee := .builtin .append, args := #[s, x], argTypes := #[t, t'] })
    (base : Nat) (ht : Tryz.prog.underlying t = some (.slice 39)) (ht' : Tryz.prog.underlying t' = some (.slice 39))
    (v : Value) (l : List Int) (n : Nat) (hln : l.length = n) (hs : a.eval s = v) (hown : OwnI w0 base v l)
    (neg : Bool) (B : Option Addr) (m k : Nat) (y : Int) (hx : a.eval x = .slice (some ⟨w0.heap.size, 0, none⟩) 1 1) (hy : NIntV w0 (fun b => some b ≠ v.ownBlock) (.agg #[.bool neg, .slice B m k]) y)
    (h63 : n + 1 ≤ 1000000000) (hbase : base ≤ w0.heap.size)
    (h : ∀ A' c' w', OwnI w' base (.slice A' (n + 1) c') (l ++ [y]) → w0.grownBy w' v.ownBlock → Below base w0 w' → wpList Tryz.prog ops Q rest (a.put o.dst (.slice A' (n + 1) c')) w') :
    wpList Tryz.prog ops Q (o :: rest) a (w0.alloc (.cells #[.bool neg, .slice B m k] 39)) := by
  subst hln
  obtain ⟨xs, hrow, hcs⟩ := hown
  refine wpList_app _ hgd s x t t' ho base 39 39 (.agg #[.bool false, .slice none 0 0]) 2 32 ht ht' info_Int rfl (by omega) v l.length xs hs (hrow.alloc _) _ 1 1 [.bool neg, .slice B m k] hx (src_block (heap_alloc_new w0 _) 1 2 rfl) (by simp [Value.oneCell']) (by unfold maxLen; omega) (by omega) (by simp; omega) ?_
  intro v' w' hown' hg hob
  obtain ⟨A', c', rfl, _, _⟩ := own_slice hown'
  have hg0 : w0.grownBy w' v.ownBlock := grownBy_trans (World.grownBy_alloc w0 _ _) hg
  refine h A' c' w' ⟨_, by rw [List.length_append]; exact hown', ?_⟩ hg0 ((Below.refl _ _).grown hg0 hbase (fun k hk => (hrow.lt k hk).1))
  have hk : ∀ b o, some b ≠ v.ownBlock → b < w0.heap.size → w'.cell? ⟨b, o, none⟩ = w0.cell? ⟨b, o, none⟩ := fun b o hd hb => World.cell?_of_block (hg0.block b hb hd)
  have hb2 : Below w0.heap.size w0 w0 := Below.refl _ _
  have hc2 : Cs w0 (fun b => some b ≠ v.ownBlock) (xs ++ [.bool neg, .slice B m k]) (l ++ [y]) := hcs.snoc hy
  have hc3 : Cs w0 (fun b => some b ≠ v.ownBlock ∧ b < w0.heap.size) (xs ++ [.bool neg, .slice B m k]) (l ++ [y]) := hc2.mono fun b h1 h2 => ⟨h1, h2⟩
  refine (hc3.keep (w' := w') fun b o hd hb => hk b o hd.1 hb).mono fun b hd _ => ?_
  rcases hob with e | e
  · rw [e]; exact hd.1
  · rw [e]
    intro e2
    have := hd.2
    simp at e2
    omega
end

theorem Pl.v {w : World} {D : Nat → Prop} {A : Option Addr} {n c : Nat} {l : List Int} (h : Pl NI w D A n c l) : PV w D (.slice A n c) l := by
  have := h.len
  subst this
  exact ⟨A, c, rfl, h⟩

def slN : Value → Nat | .slice _ n _ => n | _ => 0

theorem OwnI.fresh {w : World} {base : Nat} {v : Value} {l : List Int} (h : OwnI w base v l) {b : Nat} (hb : w.heap.size ≤ b) : some b ≠ v.ownBlock := by
  obtain ⟨xs, h1, _⟩ := h
  intro e
  have := (h1.lt b e.symm).2
  omega

end Go.Proofs.YtpkjdnplmgfbbaaGreatDoor

namespace Go.Proofs.YtpkjdnplmgfbbaaGreatDoor
open Go.RowKit

theorem NI.below {w w' : World} {v : Value} {x : Int} (h : NI w v x) (hb : Below w.heap.size w w') : NI w' v x := NIntV.below h hb

/-- Block g is an array of the call's own that holds the integers l, in normal form. -/
def IArr (w : World) (g : Nat) (l : List Int) : Prop := ∃ xs, Arr w g 39 xs ∧ Cs w (· ≠ g) xs l
section
variable {w w' : World} {g : Nat} {l : List Int}
theorem IArr.lt (h : IArr w g l) : g < w.heap.size := by obtain ⟨xs, h1, _⟩ := h; exact h1.lt
theorem IArr.below (h : IArr w g l) (hb : Below w.heap.size w w') : IArr w' g l := by obtain ⟨xs, h1, h2⟩ := h; exact ⟨xs, h1.below' hb, h2.below hb⟩
theorem IArr.frozen (h : IArr w g l) (i : Nat) : w.frozen? ⟨g, i, none⟩ = false := by obtain ⟨xs, h1, _⟩ := h; exact h1.frozen i
theorem IArr.cells (h : IArr w g l) {j : Nat} (hj : j < l.length) : ∃ neg B m k, w.cell? ⟨g, j * 2, none⟩ = some (.bool neg) ∧ w.cell? ⟨g, j * 2 + 1, none⟩ = some (.slice B m k) ∧ NIntV w (· ≠ g) (.agg #[.bool neg, .slice B m k]) (gz l j) := by
  obtain ⟨xs, h1, h2⟩ := h
  obtain ⟨neg, B, m, k, e0, e1, e2⟩ := h2.2 j hj
  exact ⟨neg, B, m, k, (h1.cell _).trans e0, (h1.cell _).trans e1, e2⟩
theorem IArr.pl (h : IArr w g l) {D : Nat → Prop} (hd : D g) (hm : l.length ≤ maxLen) : Pl NI w D (some ⟨g, 0, none⟩) l.length l.length l := by
  obtain ⟨xs, h1, h2⟩ := h
  exact pl_of_arr h1 h2 hd rfl hm
theorem Cs.setCell {D : Nat → Prop} {xs : List Value} (h : Cs w D xs l) {p : Addr} (hp : ¬ D p.block) (u : Value) : Cs (w.setCell p u) D xs l :=
  h.keep fun b o hd _ => World.cell?_setCell_other w p ⟨b, o, none⟩ u (fun e => hp (by subst e; exact hd))
theorem IArr.set (h : IArr w g l) {i : Nat} (hi : i < l.length) {neg : Bool} {B : Option Addr} {m k : Nat} {x : Int} (hx : NIntV w (· ≠ g) (.agg #[.bool neg, .slice B m k]) x) :
    IArr ((w.setCell ⟨g, i * 2, none⟩ (.bool neg)).setCell ⟨g, i * 2 + 1, none⟩ (.slice B m k)) g (l.set i x) := by
  obtain ⟨xs, h1, h2⟩ := h
  exact ⟨_, (h1.set_ _ _).set_ _ _, ((h2.set hi hx).setCell (by simp) _).setCell (by simp) _⟩
theorem toList_madeCells_two (z z' : Value) (n : Nat) : (madeCells #[z, z'] (n * 2)).toList = (List.replicate n [z, z']).flatten := by
  apply List.ext_getElem?
  intro i
  have hsz := size_madeCells #[z, z'] (n * 2)
  have hfl : (List.replicate n [z, z']).flatten.length = n * 2 := by simp
  rcases Nat.lt_or_ge i (n * 2) with hi | hi
  · have h1 : (madeCells #[z, z'] (n * 2)).toList[i]? = some (#[z, z'][i % 2]!) := by
      simp [madeCells, hi]
    rw [h1]
    clear h1 hsz hfl
    induction n generalizing i with
    | zero => omega
    | succ n ih =>
      rw [List.replicate_succ, List.flatten_cons]
      rcases Nat.lt_or_ge i 2 with h2 | h2
      · rw [List.getElem?_append_left (by simpa using h2)]
        rcases i with _ | _ | i
        · rfl
        · rfl
        · omega
      · rw [List.getElem?_append_right (by simpa using h2)]
        have e : i % 2 = (i - 2) % 2 := by omega
        rw [e]
        exact ih (i - 2) (by omega)
  · rw [List.getElem?_eq_none (by rw [Array.length_toList, hsz]; exact hi), List.getElem?_eq_none (by rw [hfl]; exact hi)]
theorem IArr.made {n : Nat} (h : Arr w g 39 (madeCells (Value.agg #[.bool false, .slice none 0 0]).cells (n * 2)).toList) : IArr w g (List.replicate n 0) := by
  rw [show (Value.agg #[.bool false, .slice none 0 0]).cells = #[.bool false, .slice none 0 0] from rfl, toList_madeCells_two] at h
  exact ⟨_, h, Cs.zeros n⟩
end

end Go.Proofs.YtpkjdnplmgfbbaaGreatDoor

namespace Go.Proofs.YtpkjdnplmgfbbaaGreatDoor
open Go.RowKit

/-- The first n values of f. -/
def lf (f : Nat → Nat) (n : Nat) : List Int := (List.range n).map fun i => (f i : Int)
theorem lf_length (f : Nat → Nat) (n : Nat) : (lf f n).length = n := by simp [lf]
theorem lf_get {f : Nat → Nat} {n i : Nat} (h : i < n) : gz (lf f n) i = (f i : Int) := by simp [gz, lf, List.getD, h]
theorem lf_ext {f g : Nat → Nat} {n : Nat} (h : ∀ i, i < n → f i = g i) : lf f n = lf g n := by
  unfold lf
  refine List.map_congr_left fun i hi => ?_
  rw [h i (List.mem_range.1 hi)]
theorem lf_set {f : Nat → Nat} {n i x : Nat} (hi : i < n) : (lf f n).set i (x : Int) = lf (fun j => if j = i then x else f j) n := by
  refine gz_ext (by simp [lf_length]) fun j hj => ?_
  rw [List.length_set, lf_length] at hj
  rw [gz_set (by rw [lf_length]; exact hi), lf_get hj, lf_get hj]
  by_cases h : i = j
  · subst h; simp
  · rw [if_neg h, if_neg (fun e => h e.symm)]
theorem lf_mem {f : Nat → Nat} {n : Nat} {x : Int} (h : x ∈ lf f n) : ∃ i, i < n ∧ x = (f i : Int) := by
  obtain ⟨i, hi, rfl⟩ := List.mem_map.1 h
  exact ⟨i, List.mem_range.1 hi, rfl⟩

/-- The sums in the midst of row i. -/
def po (E : List (List Nat)) (f : Nat → Nat) (i t v : Nat) : Nat := ps E f v i + f i * ((gr E i).take t).count v
theorem po_zero (E : List (List Nat)) (f : Nat → Nat) (i v : Nat) : po E f i 0 v = ps E f v i := by simp [po]
theorem po_full (E : List (List Nat)) (f : Nat → Nat) (i v : Nat) : po E f i (gr E i).length v = ps E f v (i + 1) := by simp [po, ps]
theorem po_succ {E : List (List Nat)} {f : Nat → Nat} {i t x : Nat} (hx : (gr E i)[t]? = some x) (v : Nat) : po E f i (t + 1) v = if v = x then po E f i t v + f i else po E f i t v := by
  unfold po
  rw [List.take_add_one, hx, List.count_append]
  by_cases h : v = x
  · subst h; simp [Nat.mul_add]; omega
  · rw [if_neg h]
    have : ([x] : List Nat).count v = 0 := List.count_eq_zero.2 (by simpa using h)
    simp [this]
theorem po_le {E : List (List Nat)} {f : Nat → Nat} {i t v B K : Nat} (hf : ∀ i, f i ≤ B) (hK : ∀ i, (gr E i).length ≤ K) : po E f i t v ≤ (i + 1) * (B * K) := by
  have h1 := ps_le (v := v) hf hK (i + 1)
  refine Nat.le_trans ?_ h1
  unfold po
  rw [ps]
  have h2 : ((gr E i).take t).count v ≤ (gr E i).count v := (List.take_sublist t (gr E i)).count_le v
  exact Nat.add_le_add_left (Nat.mul_le_mul_left _ h2) _
theorem wl_pow {x M : Nat} (h : x ≤ 2 ^ M) : wl x ≤ M + 1 := by
  refine dig_length_le (by omega) ?_
  have h1 : 2 ^ M ≤ 4294967296 ^ M := Nat.pow_le_pow_left (by omega) M
  have h2 : 4294967296 ^ M < 4294967296 ^ (M + 1) := Nat.pow_lt_pow_right (by omega) (by omega)
  omega

/-- What stepped leaves: an array of its own. -/
def IntsAt (w : World) (l : List Int) (w' : World) (v : Value) : Prop := ∃ S, w.heap.size ≤ S ∧ v = .slice (some ⟨S, 0, none⟩) l.length l.length ∧ IArr w' S l
theorem IArr.cast {w : World} {g : Nat} {l m : List Int} (h : IArr w g l) (e : l = m) : IArr w g m := e ▸ h

set_option maxHeartbeats 4000000 in
set_option maxRecDepth 100000 in
theorem stepped_any {w : World} {v : Value} {names : List ByteArray} {E : List (List Nat)} (h : GrV w v names (toI E)) (hk : Ok names E) {A : Option Addr} {c : Nat} {f : Nat → Nat} {M : Nat} (hl : Pl NI w (fun _ => True) A E.length c (lf f E.length)) (hf : ∀ i, f i ≤ 2 ^ M) (hM : M ≤ 1000000) :
    Calls Tryz.prog 90 #[v, .slice A E.length c] w (Gives w (IntsAt w (lf (fun v => ps E f v E.length) E.length))) := by
  have hsm := hk.small
  obtain ⟨A1, c1, A', c', rfl, hs, hg⟩ := h
  rw [toI_length] at *
  have hr := hg.room
  have hr1 := hl.room
  unfold maxLen at hr hr1
  have hr2 := hl.cap
  obtain ⟨W, G, hW, hG, hbW, c0, c1', hGl, hwG⟩ := gbox w (.slice A1 names.length c1) (.slice A' E.length c')
  replace hg := hg.below hbW
  replace hl := hl.below hbW
  have HW := Lib.hid hW
  have HG := Lib.hid hG
  have HK := Lib.hid hk
  have HF := Lib.hid hf
  clear hW hG c0 hs hk hf
  obtain ⟨S, hS⟩ : ∃ S, S = W.heap.size := ⟨_, rfl⟩
  have HS := Lib.hid hS
  have hSW : W.heap.size ≤ S := by omega
  have hGS : G < S := by omega
  clear hS
  go_enter Tryz.func90, Tryz.ntmps90
  go_wp2_with (refine wpList_make_arr _ rfl _ _ 42 rfl 39 (.agg #[.bool false, .slice none 0 0]) 2 32 Tryz.underlying42 info_Int _ _ _ _ E.length rfl rfl rfl rfl (by omega) (by omega) ?_; rw [← HW.out, ← HS.out]; intro w1 har hb1 hs1; have hna := IArr.made har; have HNA := Lib.hid hna; clear har hna hs1)
  rw [← HG.out]
  go_loopw [15] (fun i wr => ∃ k : Nat, k ≤ E.length ∧ i = .int .i64 (k : Nat) ∧ IArr wr S (lf (po E f k 0) E.length) ∧ Below S W wr) (fun i _ => E.length - (intOf i).toNat)
  case atStart => exact ⟨0, Nat.zero_le _, rfl, HNA.out.cast (by unfold lf; refine List.ext_getElem (by simp) fun i h1 h2 => by simp [po, ps]), hb1⟩
  case round =>
    clear HNA hb1 w1
    obtain ⟨k, hkl, rfl, hia, hbr⟩ := hrel
    have hbr' : Below W.heap.size W wr := by rw [← HS.out]; exact hbr
    by_cases hlt : k < E.length
    · obtain ⟨b, off, rfl, _, hcell⟩ := hl.cells (by omega)
      obtain ⟨neg, B, m, q, e0', e1', e2⟩ := hcell k hlt
      rw [lf_get hlt] at e2
      have e0 := ((bcell hbr').1 _ _ (cell_some_lt e0')).trans e0'
      have e1 := ((bcell hbr').1 _ _ (cell_some_lt e1')).trans e1'
      obtain ⟨b2, off2, A2, c2, rfl, hrow', hr3, hr4, hil⟩ := hg.row hlt
      have hrow := ((bcell hbr').1 _ _ (cell_some_lt hrow')).trans hrow'
      have d1 := ((bcell hbr').1 _ 1 hGl).trans c1'
      have hki : (k : Int) < (E.length : Int) := by omega
      have hbl := cell_some_lt e0
      have hGr : G < wr.heap.size := Nat.lt_of_lt_of_le hGl hbr'.size
      have hrl := cell_some_lt hrow
      have E2 := Lib.hid e2
      have HIL := Lib.hid hil
      clear hcell e0' e1' hrow' e2 hil
      go_wp2_with fail
      obtain ⟨W2, N, hW2, hN⟩ : ∃ W2 N, W2 = wr.alloc (.cells #[.bool neg, .slice B m q] 39) ∧ N = wr.heap.size := ⟨_, _, rfl, rfl⟩
      have x0 : W2.cell? ⟨N, 0, none⟩ = some (.bool neg) := by rw [hW2, hN]; go_simp
      have x1 : W2.cell? ⟨N, 1, none⟩ = some (.slice B m q) := by rw [hW2, hN]; go_simp
      have hia2 : IArr W2 S (lf (po E f k 0) E.length) := by rw [hW2]; exact hia.below ((Below.refl _ _).alloc (Nat.le_refl _) _)
      have hb2 : Below S W W2 := by rw [hW2]; exact hbr.alloc (by rw [HS.out]; exact hbr.size) _
      have hSN : S < N := by rw [hN]; exact hia.lt
      rw [← hW2, ← hN]
      clear hW2 hN hia hbr hbr' e0 e1 hrow d1 hbl hGr hrl
      go_loopw [26] (fun i wr => ∃ t : Nat, t ≤ (gr E k).length ∧ i = .int .i64 (t : Nat) ∧ IArr wr S (lf (po E f k t) E.length) ∧ Fr (· = S) W2 wr) (fun i _ => (gr E k).length - (intOf i).toNat)
      case atStart => exact ⟨0, Nat.zero_le _, rfl, hia2, Fr.refl _ _⟩
      case round =>
        clear hia2
        obtain ⟨t, htl, rfl, hia, hfr⟩ := hrel
        have hbr : Below S W wr := hb2.trans (hfr.below (by rw [HS.out]; exact hb2.size) (fun b hb => by rw [hb]; exact Nat.le_refl _))
        have hbr' : Below W.heap.size W wr := by rw [← HS.out]; exact hbr
        by_cases htt : t < (gr E k).length
        · obtain ⟨x, hx⟩ : ∃ x, (gr E k)[t]? = some x := ⟨_, List.getElem?_eq_getElem htt⟩
          have hxl : x < E.length := HK.out.valid k hlt x (List.mem_of_getElem? hx)
          obtain ⟨b3, off3, rfl, hcx⟩ := (HIL.out.below hbr').num hx
          obtain ⟨neg3, B3, m3, q3, o0, o1, o2⟩ := hia.cells (j := x) (by rw [lf_length]; exact hxl)
          rw [lf_get hxl] at o2
          have z0 := hia.frozen (x * 2)
          have z1 := hia.frozen (x * 2 + 1)
          have y0 := (hfr.cell (cell_some_lt x0) (show ¬ N = S by omega)).trans x0
          have y1 := (hfr.cell (cell_some_lt x1) (show ¬ N = S by omega)).trans x1
          have hwl : wl (po E f k t x) ≤ 2000000 := by
            have h1 := po_le (i := k) (t := t) (v := x) HF.out HK.out.deg
            have h2 : (k + 1) * (2 ^ M * 400) ≤ 2 ^ (M + 20) := by
              have h3 : (k + 1) * (2 ^ M * 400) = (k + 1) * 400 * 2 ^ M := by rw [Nat.mul_comm (2 ^ M) 400, Nat.mul_assoc]
              rw [h3, Nat.pow_add, Nat.mul_comm (2 ^ M)]
              exact Nat.mul_le_mul_right _ (by omega)
            have := wl_pow (Nat.le_trans h1 h2)
            omega
          have hwf : wl (f k) ≤ 2000000 := by have := wl_pow (HF.out k); omega
          have HA := Lib.hid (fun w' (hb : Below wr.heap.size wr w') => Add_any (o2.below hb).int ((NI.below E2.out (hbr'.trans (hb.mono hbr'.size)))).int (by rw [Int.natAbs_natCast]; omega) (by rw [Int.natAbs_natCast]; omega))
          have hSr : S < wr.heap.size := hia.lt
          have hxi : (x : Int) < (E.length : Int) := by omega
          have hx0 : (0 : Int) ≤ (x : Int) := by omega
          have et := po_succ (f := f) hx
          have ET := Lib.hid et
          have HIA := Lib.hid hia
          clear hx et hwl hwf hia o2
          have hdr : Below wr.heap.size wr wr.drew := (Below.refl _ _).drew
          go_wp2_with fail
          go_region_with (first
            | (go_at_call 14; ((with_reducible refine (HA.out _ hdr).mono ?_)); rintro e w4 ⟨v4, rfl, ⟨A4, c4, rfl, hv4⟩, hb4⟩; have hB4 := hdr.trans (hb4.mono hdr.size); have t0 := (hB4.cell (p := ⟨S, x * 2, none⟩) hSr).trans o0; have t1 := (hB4.cell (p := ⟨S, x * 2 + 1, none⟩) hSr).trans o1; have zz0 := (hB4.frozen (p := ⟨S, x * 2, none⟩) hSr).trans z0; have zz1 := (hB4.frozen (p := ⟨S, x * 2 + 1, none⟩) hSr).trans z1))
          all_goals
            go_wp2_with fail
            go_roundw
            case rel =>
              have hn4 : NIntV w4 (· ≠ S) (.agg #[.bool _, .slice A4 _ c4]) ((po E f k t x : Int) + (f k : Int)) := ⟨A4, c4, rfl, hv4.mono fun b hb _ => by have h1 : wr.heap.size ≤ b := hb; omega⟩
              have hset := (HIA.out.below hB4).set (i := x) (by rw [lf_length]; exact hxl) hn4
              refine ⟨t + 1, by omega, by go_num, hset.cast ?_, ?_⟩
              · rw [show (po E f k t x : Int) + (f k : Int) = ((po E f k t x + f k : Nat) : Int) by omega, lf_set hxl]
                refine lf_ext fun j _ => ?_
                rw [ET.out j]
                by_cases hj : j = x
                · subst hj; simp
                · simp [hj]
              · exact ((hfr.trans (Fr.of_below' hB4)).trans (Fr.setCell (O := (· = S)) (p := ⟨S, x * 2, none⟩) (fun _ => rfl) _)).trans (Fr.setCell (O := (· = S)) (p := ⟨S, x * 2 + 1, none⟩) (fun _ => rfl) _)
            case measure => simp [intOf]; omega
        · obtain rfl : t = (gr E k).length := by omega
          have hia3 : IArr wr S (lf (po E f (k + 1) 0) E.length) := hia.cast (lf_ext fun j _ => by rw [po_full, po_zero])
          clear hia
          go_wp2_with fail
          go_roundw
          case rel => exact ⟨k + 1, by omega, by go_num, hia3, hbr⟩
          case measure => simp [intOf]; omega
    · obtain rfl : k = E.length := by omega
      have hia3 : IArr wr S (lf (fun v => ps E f v E.length) E.length) := hia.cast (lf_ext fun j _ => by rw [po_zero])
      clear hia
      go_wp2_with fail
      go_ret
      exact ⟨_, rfl, ⟨S, Nat.le_trans hbW.size hSW, by rw [lf_length]; rfl, hia3⟩, hbW.trans (hbr.mono (by have := hbW.size; omega))⟩
end Go.Proofs.YtpkjdnplmgfbbaaGreatDoor

namespace Go.Proofs.YtpkjdnplmgfbbaaGreatDoor
open Go.RowKit

theorem IntsAt.le {w w1 w' : World} {l : List Int} {v : Value} (h : IntsAt w1 l w' v) (hb : w.heap.size ≤ w1.heap.size) : IntsAt w l w' v := by
  obtain ⟨S, h1, h2, h3⟩ := h
  exact ⟨S, Nat.le_trans hb h1, h2, h3⟩
theorem wn_small {names : List ByteArray} {E : List (List Nat)} (hk : Ok names E) (u m v : Nat) : wn E u m v ≤ 2 ^ (20 * m) := wn_le hk.deg (by have := hk.small; omega) m v

set_option maxHeartbeats 4000000 in
set_option maxRecDepth 100000 in
theorem walks_any {w : World} {v : Value} {names : List ByteArray} {E : List (List Nat)} (h : GrV w v names (toI E)) (hk : Ok names E) {u n : Nat} (hu : u < E.length) (hn : n ≤ 100) :
    Calls Tryz.prog 65 #[v, .int .i64 (u : Nat), .int .i64 (n : Nat)] w (Gives w (IntsAt w (lf (wn E u n) E.length))) := by
  have hsm := hk.small
  have HST := Lib.hid (fun w' (hb : Below w.heap.size w w') A c k (hk2 : k ≤ 100) (hl : Pl NI w' (fun _ => True) A E.length c (lf (wn E u k) E.length)) => stepped_any (h.below hb) hk hl (M := 20 * k) (fun i => wn_small hk u k i) (by omega))
  obtain ⟨A1, c1, A', c', rfl, hs, hg⟩ := h
  rw [toI_length] at *
  obtain ⟨W, G, hW, hG, hbW, c0, c1', hGl, hwG⟩ := gbox w (.slice A1 names.length c1) (.slice A' E.length c')
  have HW := Lib.hid hW
  have HG := Lib.hid hG
  have HK := Lib.hid hk
  clear hW hG hs hk hg
  obtain ⟨S, hS⟩ : ∃ S, S = W.heap.size := ⟨_, rfl⟩
  have HS := Lib.hid hS
  have hSW : W.heap.size ≤ S := by omega
  have hGS : G < S := by omega
  have hui : (u : Int) < (E.length : Int) := by omega
  clear hS
  go_enter Tryz.func65, Tryz.ntmps65
  go_wp2_with (first
    | (refine wpList_make_arr _ rfl _ _ 42 rfl 39 (.agg #[.bool false, .slice none 0 0]) 2 32 Tryz.underlying42 info_Int _ _ _ _ E.length rfl rfl rfl rfl (by omega) (by omega) ?_; rw [← HW.out, ← HS.out]; intro w1 har hb1 hs1; have hna := IArr.made har; have HNA := Lib.hid hna; clear har hna hs1)
    | (go_at_call 29; rw [← HG.out]; refine (Of_any 1 _ (by omega) (by omega)).mono ?_; rintro e w4 ⟨v4, rfl, ⟨A4, c4, rfl, hv4⟩, hb4⟩; have hia4 := HNA.out.below hb4; obtain ⟨neg3, B3, m3, q3, o0, o1, o2⟩ := hia4.cells (j := u) (by simpa using hu); have z0 := hia4.frozen (u * 2); have z1 := hia4.frozen (u * 2 + 1)))
  have hn4 : NIntV w4 (· ≠ S) (.agg #[.bool _, .slice A4 _ c4]) 1 := ⟨A4, c4, rfl, hv4.mono fun b hb _ => by have h1 : w1.heap.size ≤ b := hb; have := HNA.out.lt; omega⟩
  have hset := hia4.set (i := u) (by simpa using hu) hn4
  have hset2 := hset.cast (show (List.replicate E.length (0 : Int)).set u 1 = lf (wn E u 0) E.length by
    refine gz_ext (by simp [lf_length]) fun j hj => ?_
    rw [List.length_set, List.length_replicate] at hj
    rw [gz_set (by simpa using hu), lf_get hj, gz_replicate, wn]
    by_cases e : u = j
    · rw [if_pos e, if_pos e.symm]; rfl
    · rw [if_neg e, if_neg (fun e2 => e e2.symm)]; rfl)
  have hb5 : Below S W w4 := hb1.trans (hb4.mono (by have := HNA.out.lt; omega))
  have hb6 := (hb5.setCell (p := ⟨S, u * 2, none⟩) (Nat.le_refl _) (.bool (decide ((1 : Int) < 0)))).setCell (p := ⟨S, u * 2 + 1, none⟩) (Nat.le_refl _) (.slice A4 (wl (1 : Int).natAbs) c4)
  go_loopw [7, 17] (fun o i wr => ∃ k S' : Nat, k ≤ n ∧ i = .int .i64 (k : Nat) ∧ o = .slice (some ⟨S', 0, none⟩) E.length E.length ∧ IArr wr S' (lf (wn E u k) E.length) ∧ S ≤ S' ∧ Below S W wr) (fun _ i _ => n - (intOf i).toNat)
  case atStart => exact ⟨0, S, Nat.zero_le _, rfl, rfl, hset2, Nat.le_refl _, hb6⟩
  case round =>
    clear hset2 hb6 hset hn4 o0 o1 o2 z0 z1 hia4 hb5 hb4 hv4 HNA hb1
    obtain ⟨k, S', hkl, rfl, rfl, hia, hSS, hbr⟩ := hrel
    have hb7 : Below w.heap.size w wr := hbW.trans (hbr.mono (by have := hbW.size; omega))
    have d0 := (hbr.cell (p := ⟨G, 0, none⟩) hGS).trans c0
    have d1 := (hbr.cell (p := ⟨G, 1, none⟩) hGS).trans c1'
    by_cases hlt : k < n
    · have hpl := hia.pl (D := fun _ => True) trivial (by rw [lf_length]; unfold maxLen; omega)
      rw [lf_length] at hpl
      go_wp2_with (go_at_call 90; refine (HST.out _ hb7 _ _ k (by omega) hpl).mono ?_; rintro e w8 ⟨v8, rfl, ⟨S8, hS8, rfl, hia8⟩, hb8⟩; rw [lf_length])
      go_roundw
      case rel => exact ⟨k + 1, S8, by omega, by go_num, rfl, hia8, by have := hbr.size; have := HS.out; omega, hbr.trans (hb8.mono (by have := hbr.size; have := HS.out; omega))⟩
      case measure => simp [intOf]; omega
    · obtain rfl : k = n := by omega
      go_wp2_with fail
      go_ret
      exact ⟨_, rfl, ⟨S', by have := hbW.size; omega, by rw [lf_length]; rfl, hia⟩, hb7⟩

/-- The error of a graph whose matrix is asked for. -/
noncomputable def sml (names : List ByteArray) (E : List (List Int)) : Nat := if chk names E ≠ 0 then chk names E else if 60 < names.length then 8 else 0
set_option maxHeartbeats 1000000 in
theorem small_any {w : World} {v : Value} {names : List ByteArray} {E : List (List Int)} (h : GrV w v names E) :
    Calls Tryz.prog 27 #[v] w (ChkR w (sml names E)) := by
  have HC := Lib.hid (fun w' hb => Check_any (h.at w' hb))
  obtain ⟨A, c, A', c', rfl, hs, hg⟩ := h
  have hr := hs.room
  unfold maxLen at hr
  obtain ⟨W, G, hW, hG, hbW, c0, c1, hGl, hwG⟩ := gbox w (.slice A names.length c) (.slice A' E.length c')
  have HW := Lib.hid hW
  have HG := Lib.hid hG
  clear hW hG hs hg
  by_cases hc : chk names E = 0
  · rw [hc] at HC
    by_cases h60 : 60 < names.length
    · have e : 8 = sml names E := by unfold sml; rw [if_neg (by simp [hc]), if_pos h60]
      have HE := Lib.hid e
      clear e hc
      go_enter Tryz.func27, Tryz.ntmps27
      go_wp2_with (go_at_call 55; rw [← HW.out, ← HG.out]; refine (HC.out _ hbW).mono ?_; rintro e w1 ⟨rfl, hb1⟩; have d0 := ((bcell hb1).1 _ 0 hGl).trans c0)
      go_ret
      exact chkR_of HE.out (hbW.trans (hb1.mono hbW.size))
    · have e : 0 = sml names E := by unfold sml; rw [if_neg (by simp [hc]), if_neg h60]
      have HE := Lib.hid e
      clear e hc
      go_enter Tryz.func27, Tryz.ntmps27
      go_wp2_with (go_at_call 55; rw [← HW.out, ← HG.out]; refine (HC.out _ hbW).mono ?_; rintro e w1 ⟨rfl, hb1⟩; have d0 := ((bcell hb1).1 _ 0 hGl).trans c0)
      go_ret
      exact chkR_of HE.out (hbW.trans (hb1.mono hbW.size))
  · have e : chk names E = sml names E := by unfold sml; rw [if_pos hc]
    have HE := Lib.hid e
    clear e
    generalize chk names E = q at *
    have hz : (((q : Nat) : Int) != 0) = true := by simp [hc]
    clear hc
    go_enter Tryz.func27, Tryz.ntmps27
    go_wp2_with (go_at_call 55; rw [← HW.out, ← HG.out]; refine (HC.out _ hbW).mono ?_; rintro e w1 ⟨rfl, hb1⟩)
    go_ret
    exact chkR_of HE.out (hbW.trans (hb1.mono hbW.size))
end Go.Proofs.YtpkjdnplmgfbbaaGreatDoor

namespace Go.Proofs.YtpkjdnplmgfbbaaGreatDoor
open Go.RowKit

/-- The box of a graph argument, and the variable of an integer that is returned. -/
theorem cbox (w : World) (s t : Value) : ∃ W G R, W = (w.alloc (.cells #[s, t] 25)).alloc (.cells #[.bool false, .slice none 0 0] 39) ∧ G = w.heap.size ∧ R = w.heap.size + 1 ∧ Below w.heap.size w W ∧ W.cell? ⟨G, 0, none⟩ = some s ∧ W.cell? ⟨G, 1, none⟩ = some t ∧ Arr W R 39 [.bool false, .slice none 0 0] ∧ G < R ∧ W.heap.size = R + 1 ∧ w.heap.size ≤ G := by
  have hs : (w.alloc (.cells #[s, t] 25)).heap.size = w.heap.size + 1 := by simp
  have h8 := heap_alloc_new (w.alloc (.cells #[s, t] 25)) (.cells #[.bool false, .slice none 0 0] 39)
  rw [hs] at h8
  exact ⟨_, _, _, rfl, rfl, rfl, ((Below.refl _ _).alloc (Nat.le_refl _) _).alloc (by simp) _, by go_simp, by go_simp, h8, by omega, by simp, Nat.le_refl _⟩

theorem Arr.two {w : World} {g : Nat} {t : TypeId} {a b : Value} (h : Arr w g t [a, b]) : w.cell? ⟨g, 0, none⟩ = some a ∧ w.cell? ⟨g, 1, none⟩ = some b ∧ w.frozen? ⟨g, 0, none⟩ = false ∧ w.frozen? ⟨g, 1, none⟩ = false :=
  ⟨h.cell 0, h.cell 1, h.frozen 0, h.frozen 1⟩

set_option maxHeartbeats 1000000 in
theorem Closed_bad {w : World} {v : Value} {names : List ByteArray} {E : List (List Int)} (h : GrV w v names E) (n : Int) (hc : sml names E ≠ 0) :
    Calls Tryz.prog 25 #[v, .int .i64 n] w fun e w' => e = .returned (.tuple #[.agg #[.bool false, .slice none 0 0], .int .i64 (sml names E : Nat)]) ∧ Below w.heap.size w w' := by
  have HC := Lib.hid (fun w' hb => small_any (h.at w' hb))
  generalize sml names E = q at *
  have hz : (((q : Nat) : Int) != 0) = true := by simp [hc]
  clear hc
  obtain ⟨A, c, A', c', rfl, hs, hg⟩ := h
  obtain ⟨W, G, R, hW, hG, hR, hbW, c0, c1, har, hGR, hRW, hwG⟩ := cbox w (.slice A names.length c) (.slice A' E.length c')
  have HW := Lib.hid hW
  have HG := Lib.hid hG
  have HR := Lib.hid hR
  clear hW hG hR
  go_enter Tryz.func25, Tryz.ntmps25
  go_wp2_with (go_at_call 27; rw [← HW.out, ← HR.out, ← HG.out]; refine (HC.out _ hbW).mono ?_; rintro e w1 ⟨rfl, hb1⟩; obtain ⟨r0, r1, f0, f1⟩ := (har.below' hb1).two)
  refine bodyPost_ret (v := .tuple #[.agg #[.bool false, .slice none 0 0], .int .i64 q]) (by simp [results, Tryz.results25, go_sem, r0, r1]) rfl ⟨rfl, ?_⟩
  exact ((hbW.trans (hb1.mono hbW.size)).setCell (p := ⟨R, 0, none⟩) (by simp; omega) _).setCell (p := ⟨R, 1, none⟩) (by simp; omega) _

set_option maxHeartbeats 1000000 in
theorem Closed_range {w : World} {v : Value} {names : List ByteArray} {E : List (List Int)} (h : GrV w v names E) (n : Int) (hc : sml names E = 0) (hn : n < 0 ∨ 100 < n) :
    Calls Tryz.prog 25 #[v, .int .i64 n] w fun e w' => e = .returned (.tuple #[.agg #[.bool false, .slice none 0 0], .int .i64 2]) ∧ Below w.heap.size w w' := by
  have HC := Lib.hid (fun w' hb => small_any (h.at w' hb))
  rw [hc] at HC
  clear hc
  obtain ⟨A, c, A', c', rfl, hs, hg⟩ := h
  obtain ⟨W, G, R, hW, hG, hR, hbW, c0, c1, har, hGR, hRW, hwG⟩ := cbox w (.slice A names.length c) (.slice A' E.length c')
  have HW := Lib.hid hW
  have HG := Lib.hid hG
  have HR := Lib.hid hR
  clear hW hG hR
  by_cases h0 : n < 0
  · clear hn
    go_enter Tryz.func25, Tryz.ntmps25
    go_wp2_with (go_at_call 27; rw [← HW.out, ← HR.out, ← HG.out]; refine (HC.out _ hbW).mono ?_; rintro e w1 ⟨rfl, hb1⟩; obtain ⟨r0, r1, f0, f1⟩ := (har.below' hb1).two)
    refine bodyPost_ret (v := .tuple #[.agg #[.bool false, .slice none 0 0], .int .i64 2]) (by simp [results, Tryz.results25, go_sem, r0, r1]) rfl ⟨rfl, ?_⟩
    exact ((hbW.trans (hb1.mono hbW.size)).setCell (p := ⟨R, 0, none⟩) (by simp; omega) _).setCell (p := ⟨R, 1, none⟩) (by simp; omega) _
  · have h1 : 100 < n := by omega
    have hd : decide (n < 0) = false := by simpa using h0
    clear hn
    go_enter Tryz.func25, Tryz.ntmps25
    go_wp2_with (go_at_call 27; rw [← HW.out, ← HR.out, ← HG.out]; refine (HC.out _ hbW).mono ?_; rintro e w1 ⟨rfl, hb1⟩; obtain ⟨r0, r1, f0, f1⟩ := (har.below' hb1).two)
    refine bodyPost_ret (v := .tuple #[.agg #[.bool false, .slice none 0 0], .int .i64 2]) (by simp [results, Tryz.results25, go_sem, r0, r1]) rfl ⟨rfl, ?_⟩
    exact ((hbW.trans (hb1.mono hbW.size)).setCell (p := ⟨R, 0, none⟩) (by simp; omega) _).setCell (p := ⟨R, 1, none⟩) (by simp; omega) _

/-- Block P is a variable that holds the integer x, in normal form; its words lie behind it. -/
def IVar (w : World) (P : Nat) (x : Int) : Prop := ∃ neg B m q, Arr w P 39 [.bool neg, .slice B m q] ∧ NIntV w (P < ·) (.agg #[.bool neg, .slice B m q]) x
theorem IVar.lt {w : World} {P : Nat} {x : Int} (h : IVar w P x) : P < w.heap.size := by obtain ⟨_, _, _, _, h, _⟩ := h; exact h.lt
theorem IVar.put {w : World} {P : Nat} {a b : Value} (h : Arr w P 39 [a, b]) {neg : Bool} {B : Option Addr} {m q : Nat} {x : Int} (hx : NIntV w (P < ·) (.agg #[.bool neg, .slice B m q]) x) : IVar ((w.setCell ⟨P, 0, none⟩ (.bool neg)).setCell ⟨P, 1, none⟩ (.slice B m q)) P x :=
  ⟨neg, B, m, q, (h.set_ 0 _).set_ 1 _, (hx.setCell (p := ⟨P, 0, none⟩) (by simp) _).setCell (p := ⟨P, 1, none⟩) (by simp) _⟩

def CloR (w : World) (E : List (List Nat)) (n : Nat) (e : Ending) (w' : World) : Prop := ∃ v, e = .returned (.tuple #[v, .int .i64 0]) ∧ NIntV w' (w.heap.size ≤ ·) v (tr E n E.length : Nat) ∧ Below w.heap.size w w'

set_option maxHeartbeats 4000000 in
set_option maxRecDepth 100000 in
theorem Closed_ok {w : World} {v : Value} {names : List ByteArray} {E : List (List Nat)} (h : GrV w v names (toI E)) (hc : sml names (toI E) = 0) (hk : Ok names E) {n : Nat} (hn : n ≤ 100) :
    Calls Tryz.prog 25 #[v, .int .i64 (n : Nat)] w (CloR w E n) := by
  have hsm := hk.small
  have HC := Lib.hid (fun w' hb => small_any (h.at w' hb))
  rw [hc] at HC
  clear hc
  have HWK := Lib.hid (fun w' (hb : Below w.heap.size w w') u (hu : u < E.length) => walks_any (h.below hb) hk hu hn)
  have HWL := Lib.hid (fun (x : Nat) (hx : x ≤ 2500 * 2 ^ (20 * n)) => show wl (x : Int).natAbs ≤ 1000000000000 by
    rw [Int.natAbs_natCast]
    have h1 : x ≤ 2 ^ (20 * n + 12) := Nat.le_trans hx (by rw [Nat.pow_add, Nat.mul_comm]; exact Nat.mul_le_mul_left _ (by omega))
    have := wl_pow h1
    omega)
  have HTR := Lib.hid (fun i (hi : i ≤ E.length) => show tr E n i ≤ 2500 * 2 ^ (20 * n) from Nat.le_trans (tr_le hk.deg (by omega) n i) (Nat.mul_le_mul_right _ (by omega)))
  have HWN := Lib.hid (fun u v => show wn E u n v ≤ 2500 * 2 ^ (20 * n) from Nat.le_trans (wn_small hk u n v) (Nat.le_mul_of_pos_left _ (by omega)))
  obtain ⟨A, c, A', c', rfl, hs, hg⟩ := h
  rw [toI_length] at *
  have hr := hg.room
  unfold maxLen at hr
  obtain ⟨W, G, R, hW, hG, hR, hbW, c0, c1, har, hGR, hRW, hwG⟩ := cbox w (.slice A names.length c) (.slice A' E.length c')
  have HW := Lib.hid hW
  have HG := Lib.hid hG
  have HR := Lib.hid hR
  have HRW := Lib.hid hRW
  clear hW hG hR hk hs hg
  have hGW : G < W.heap.size := by omega
  clear hRW
  go_enter Tryz.func25, Tryz.ntmps25
  go_wp2_with (go_at_call 27; rw [← HW.out, ← HR.out, ← HG.out]; refine (HC.out _ hbW).mono ?_; rintro e w1 ⟨rfl, hb1⟩; have har1 := har.below' hb1; have d0 := ((bcell hb1).1 _ 0 hGW).trans c0; have d1 := ((bcell hb1).1 _ 1 hGW).trans c1; have hb2 := hbW.trans (hb1.mono hbW.size); have hG1 := Nat.lt_of_lt_of_le hGW hb1.size)
  obtain ⟨w2, P, hw2, hP⟩ : ∃ w2 P, w2 = w1.alloc (.cells #[.bool false, .slice none 0 0] 39) ∧ P = w1.heap.size := ⟨_, _, rfl, rfl⟩
  have hiv : IVar w2 P (tr E n 0 : Nat) := by
    rw [hw2, hP]
    exact ⟨false, none, 0, 0, heap_alloc_new w1 _, NIntV.zero _ _⟩
  have har2 : Arr w2 R 39 [.bool false, .slice none 0 0] := by rw [hw2]; exact har1.alloc _
  have hb3 : Below w1.heap.size w1 w2 := by rw [hw2]; exact (Below.refl _ _).alloc (Nat.le_refl _) _
  have e0 := (hb3.cell (p := ⟨G, 0, none⟩) hG1).trans d0
  have e1 := (hb3.cell (p := ⟨G, 1, none⟩) hG1).trans d1
  have hGP : G < P := by rw [hP]; exact hG1
  have hRP : R < P := by rw [hP]; exact har1.lt
  have hPw : w.heap.size ≤ P := by rw [hP]; exact hb2.size
  have hb4 := hb2.trans (hb3.mono hb2.size)
  rw [← hw2, ← hP]
  clear hw2 hP har1 d0 d1 hb1 hb2 hb3 har c0 c1
  go_loopw [26] (fun i wr => ∃ k : Nat, k ≤ E.length ∧ i = .int .i64 (k : Nat) ∧ IVar wr P (tr E n k : Nat) ∧ Fr (· = P) w2 wr) (fun i _ => E.length - (intOf i).toNat)
  case atStart => exact ⟨0, Nat.zero_le _, rfl, hiv, Fr.refl _ _⟩
  case round =>
    clear hiv
    obtain ⟨k, hkl, rfl, hiv, hfr⟩ := hrel
    have hPr := hiv.lt
    obtain ⟨neg, B, m, q, harP, hnv⟩ := hiv
    obtain ⟨p0, p1, z0, z1⟩ := harP.two
    have g0 := (hfr.cell (cell_some_lt e0) (show ¬ G = P by omega)).trans e0
    have g1 := (hfr.cell (cell_some_lt e1) (show ¬ G = P by omega)).trans e1
    have hb5 : Below w.heap.size w wr := hb4.trans (hfr.below hb4.size (fun b hb => by rw [hb]; exact hPw))
    by_cases hlt : k < E.length
    · have hki : (k : Int) < (E.length : Int) := by omega
      have hk0 : (0 : Int) ≤ (k : Int) := by omega
      have hdr : Below wr.heap.size wr wr.drew := (Below.refl _ _).drew
      have HK2 := Lib.hid (HWK.out _ (hb5.trans (hdr.mono hb5.size)) k hlt)
      have HA := Lib.hid (fun w' v' D (hb : Below wr.heap.size wr w') (hv : NIntV w' D v' (wn E k n k : Nat)) => Add_any (hnv.below hb).int hv.int (HWL.out _ (HTR.out k hkl)) (HWL.out _ (HWN.out k k)))
      have hGr : G < wr.heap.size := Nat.lt_trans hGP hPr
      have HPP := Lib.hid harP
      clear hnv harP
      go_wp2_with fail
      go_region_with (first
        | (go_at_call 65; ((with_reducible refine HK2.out.mono ?_)); rintro e w5 ⟨v5, rfl, ⟨S5, hS5, rfl, hia5⟩, hb6⟩; rw [lf_length]; have hB6 := hdr.trans (hb6.mono hdr.size); have s0 := (hB6.cell (p := ⟨P, 0, none⟩) hPr).trans p0; have s1 := (hB6.cell (p := ⟨P, 1, none⟩) hPr).trans p1; obtain ⟨neg3, B3, m3, q3, o0, o1, o2⟩ := hia5.cells (j := k) (by rw [lf_length]; exact hlt); rw [lf_get hlt] at o2; have O2 := Lib.hid o2; clear o2)
        | (go_at_call 14; ((with_reducible refine (HA.out _ _ _ hB6 O2.out).mono ?_)); rintro e w4 ⟨v4, rfl, ⟨A4, c4, rfl, hv4⟩, hb7⟩; have hB4 := hB6.trans (hb7.mono hB6.size); have t0 := (hB4.cell (p := ⟨P, 0, none⟩) hPr).trans p0; have t1 := (hB4.cell (p := ⟨P, 1, none⟩) hPr).trans p1; have zz0 := (hB4.frozen (p := ⟨P, 0, none⟩) hPr).trans z0; have zz1 := (hB4.frozen (p := ⟨P, 1, none⟩) hPr).trans z1))
      all_goals
        go_wp2_with fail
        go_roundw
        case rel =>
          have hn4 : NIntV w4 (P < ·) (.agg #[.bool _, .slice A4 _ c4]) ((tr E n k : Nat) + (wn E k n k : Nat) : Int) := ⟨A4, c4, rfl, hv4.mono fun b hb _ => by have h1 : w5.heap.size ≤ b := hb; have := hB6.size; omega⟩
          have hset := IVar.put (HPP.out.below' hB4) hn4
          refine ⟨k + 1, by omega, by go_num, ?_, ?_⟩
          · have e : ((tr E n (k + 1) : Nat) : Int) = (tr E n k : Nat) + (wn E k n k : Nat) := by rw [tr]; omega
            rw [e]
            exact hset
          · exact ((hfr.trans (Fr.of_below' hB4)).trans (Fr.setCell (O := (· = P)) (p := ⟨P, 0, none⟩) (fun _ => rfl) _)).trans (Fr.setCell (O := (· = P)) (p := ⟨P, 1, none⟩) (fun _ => rfl) _)
        case measure => simp [intOf]; omega
    · obtain rfl : k = E.length := by omega
      obtain ⟨r0, r1, f0, f1⟩ := (hfr.arr har2 (show ¬ R = P by omega)).two
      go_wp2_with fail
      refine bodyPost_ret (v := .tuple #[.agg #[.bool neg, .slice B m q], .int .i64 0]) (by simp [results, Tryz.results25, go_sem, r0, r1]) rfl ⟨_, rfl, ?_, ?_⟩
      · exact ((hnv.setCell (p := ⟨R, 0, none⟩) (by simp; omega) _).setCell (p := ⟨R, 1, none⟩) (by simp; omega) _).mono (fun b hb _ => by have h1 : P < b := hb; show w.heap.size ≤ b; omega)
      · exact (hb5.setCell (p := ⟨R, 0, none⟩) (by simp; omega) _).setCell (p := ⟨R, 1, none⟩) (by simp; omega) _
end Go.Proofs.YtpkjdnplmgfbbaaGreatDoor
