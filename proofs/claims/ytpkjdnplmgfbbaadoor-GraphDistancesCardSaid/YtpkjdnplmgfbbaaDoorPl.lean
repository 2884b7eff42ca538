/- Lists of integers in memory: slices whose elements are api.Int. -/
import Derived.Test.YtpkjdnplmgfbbaaDoorInt4
import Derived.Test.YtpkjdnplmgfbbaaDoorRof
namespace Go.Proofs.YtpkjdnplmgfbbaaDoor
open Go.RowKit

/-- The element of a list of integers, 0 behind its end. -/
def gz (l : List Int) (j : Nat) : Int := l.getD j 0
theorem gz_nil (j : Nat) : gz [] j = 0 := by simp [gz]
theorem gz_cons_zero (x : Int) (l : List Int) : gz (x :: l) 0 = x := rfl
theorem gz_cons_succ (x : Int) (l : List Int) (j : Nat) : gz (x :: l) (j + 1) = gz l j := rfl
theorem gz_lt {l : List Int} {j : Nat} (h : j < l.length) : l[j]? = some (gz l j) := by simp [gz, List.getD, List.getElem?_eq_getElem h]
theorem gz_ge {l : List Int} {j : Nat} (h : l.length ≤ j) : gz l j = 0 := by simp [gz, List.getD, List.getElem?_eq_none h]
theorem gz_mem {l : List Int} {j : Nat} (h : j < l.length) : gz l j ∈ l := List.mem_of_getElem? (gz_lt h)
theorem gz_take {l : List Int} {j k : Nat} (h : j < k) : gz (l.take k) j = gz l j := by simp [gz, List.getD, h]
theorem gz_drop (l : List Int) (k j : Nat) : gz (l.drop k) j = gz l (k + j) := by simp [gz, List.getD, List.getElem?_drop]
theorem gz_append_left {l m : List Int} {j : Nat} (h : j < l.length) : gz (l ++ m) j = gz l j := by simp [gz, List.getD, List.getElem?_append_left h]
theorem gz_append_at (l : List Int) (x : Int) (m : List Int) : gz (l ++ x :: m) l.length = x := by simp [gz, List.getD]
theorem take_succ_gz {l : List Int} {k : Nat} (h : k < l.length) : l.take (k + 1) = l.take k ++ [gz l k] := by rw [List.take_add_one, gz_lt h]; simp
theorem gz_ext {l m : List Int} (hl : l.length = m.length) (h : ∀ j, j < l.length → gz l j = gz m j) : l = m := by
  apply List.ext_getElem?
  intro j
  rcases Nat.lt_or_ge j l.length with hj | hj
  · rw [gz_lt hj, gz_lt (hl ▸ hj), h j hj]
  · rw [List.getElem?_eq_none hj, List.getElem?_eq_none (hl ▸ hj)]
theorem gz_set {l : List Int} {i j : Nat} {x : Int} (hi : i < l.length) : gz (l.set i x) j = if i = j then x else gz l j := by
  simp only [gz, List.getD, List.getElem?_set]
  by_cases h : i = j
  · subst h; simp [hi]
  · simp [h]
theorem gz_replicate (n j : Nat) : gz (List.replicate n 0) j = 0 := by
  rcases Nat.lt_or_ge j n with h | h
  · simp [gz, List.getD, h]
  · exact gz_ge (by simpa using h)

/-- Without zeros at the end. -/
def tz : List Int → List Int
  | [] => []
  | x :: r => match tz r with
    | [] => if x = 0 then [] else [x]
    | y :: s => x :: y :: s
theorem tz_length_le (l : List Int) : (tz l).length ≤ l.length := by
  induction l with
  | nil => simp [tz]
  | cons x r ih =>
    unfold tz
    split
    · split <;> simp
    · rename_i y s h; rw [h] at ih; simp at ih ⊢; omega
theorem tz_eq_take (l : List Int) : tz l = l.take (tz l).length := by
  induction l with
  | nil => simp [tz]
  | cons x r ih =>
    unfold tz
    split
    · split <;> simp
    · rename_i y s h; rw [h] at ih; simp only [List.length_cons, List.take_succ_cons]; rw [← List.length_cons (a := y), ← ih]
theorem tz_snoc_zero (l : List Int) : tz (l ++ [0]) = tz l := by
  induction l with
  | nil => simp [tz]
  | cons x r ih => simp only [List.cons_append]; unfold tz; rw [ih]
theorem tz_snoc_ne (l : List Int) (x : Int) (h : x ≠ 0) : tz (l ++ [x]) = l ++ [x] := by
  induction l with
  | nil => simp [tz, h]
  | cons y r ih =>
    simp only [List.cons_append]
    unfold tz
    rw [ih]
    cases r <;> simp
theorem tz_take_zero {l : List Int} {k : Nat} (h : k < l.length) (h0 : gz l k = 0) : tz (l.take (k + 1)) = tz (l.take k) := by rw [take_succ_gz h, h0, tz_snoc_zero]
theorem tz_take_ne {l : List Int} {k : Nat} (h : k < l.length) (h0 : gz l k ≠ 0) : tz (l.take (k + 1)) = l.take (k + 1) := by rw [take_succ_gz h, tz_snoc_ne _ _ h0]
theorem tz_mem {l : List Int} {x : Int} (h : x ∈ tz l) : x ∈ l := by rw [tz_eq_take] at h; exact List.mem_of_mem_take h
theorem tz_tz (l : List Int) : tz (tz l) = tz l := by
  induction l with
  | nil => rfl
  | cons x r ih =>
    rw [tz]
    split
    · split
      · rfl
      · rename_i h; simp [tz, h]
    · rename_i y s h
      rw [h] at ih
      rw [tz, ih]

/-- The slice A, n, c of the program holds the integers l: the array lies in a block of D, each element is one of E. -/
structure Pl (E : World → Value → Int → Prop) (w : World) (D : Nat → Prop) (A : Option Addr) (n c : Nat) (l : List Int) : Prop where
  len : l.length = n
  cap : n ≤ c
  room : c ≤ maxLen
  cells : 0 < n → ∃ b off, A = some ⟨b, off, none⟩ ∧ D b ∧ ∀ j, j < n → ∃ neg B m k, w.cell? ⟨b, off + j * 2, none⟩ = some (.bool neg) ∧ w.cell? ⟨b, off + j * 2 + 1, none⟩ = some (.slice B m k) ∧ E w (.agg #[.bool neg, .slice B m k]) (gz l j)

/-- A kind of element that memory made later leaves as it is. -/
class Stays (E : World → Value → Int → Prop) : Prop where
  below : ∀ {w w' v x}, E w v x → Below w.heap.size w w' → E w' v x

/-- An integer in normal form, wherever it lies. -/
def NI (w : World) (v : Value) (x : Int) : Prop := NIntV w (fun _ => True) v x
instance : Stays NI := ⟨fun h hb => h.below hb⟩
instance : Stays IntB := ⟨fun h hb => h.below hb⟩

section
variable {E E' : World → Value → Int → Prop} {w w' : World} {D D' : Nat → Prop} {A : Option Addr} {n c : Nat} {l : List Int}
theorem Pl.mono (h : Pl E w D A n c l) (hd : ∀ b, D b → b < w.heap.size → D' b) : Pl E w D' A n c l :=
  ⟨h.len, h.cap, h.room, fun hn => by
    obtain ⟨b, off, e, hb, hc⟩ := h.cells hn
    obtain ⟨_, _, _, _, h0, _⟩ := hc 0 hn
    exact ⟨b, off, e, hd b hb (cell_lt h0), hc⟩⟩
theorem Pl.imp (h : Pl E w D A n c l) (he : ∀ v x, x ∈ l → E w v x → E' w v x) : Pl E' w D A n c l :=
  ⟨h.len, h.cap, h.room, fun hn => by
    obtain ⟨b, off, e, hb, hc⟩ := h.cells hn
    refine ⟨b, off, e, hb, fun j hj => ?_⟩
    obtain ⟨neg, B, m, k, h0, h1, h2⟩ := hc j hj
    exact ⟨neg, B, m, k, h0, h1, he _ _ (gz_mem (by rw [h.len]; exact hj)) h2⟩⟩
theorem Pl.below [Stays E] (h : Pl E w D A n c l) (hb : Below w.heap.size w w') : Pl E w' D A n c l :=
  ⟨h.len, h.cap, h.room, fun hn => by
    obtain ⟨b, off, e, hd, hc⟩ := h.cells hn
    refine ⟨b, off, e, hd, fun j hj => ?_⟩
    obtain ⟨neg, B, m, k, h0, h1, h2⟩ := hc j hj
    exact ⟨neg, B, m, k, ((bcell hb).1 _ _ (cell_lt h0)).trans h0, ((bcell hb).1 _ _ (cell_lt h1)).trans h1, Stays.below h2 hb⟩⟩
theorem Pl.nil (c : Nat) (hc : c ≤ maxLen) : Pl E w D A 0 c [] := ⟨rfl, Nat.zero_le _, hc, fun h => absurd h (by omega)⟩
theorem Pl.take (h : Pl E w D A n c l) {k c' : Nat} (hk : k ≤ n) (hc1 : k ≤ c') (hc2 : c' ≤ c) : Pl E w D A k c' (l.take k) :=
  ⟨by rw [List.length_take, h.len]; omega, hc1, by have := h.room; omega, fun hn => by
    obtain ⟨b, off, e, hb, hc⟩ := h.cells (by omega)
    exact ⟨b, off, e, hb, fun j hj => by rw [gz_take hj]; exact hc j (by omega)⟩⟩
end

/-- A slice value that holds integers in normal form. -/
def PV (w : World) (D : Nat → Prop) (v : Value) (l : List Int) : Prop := ∃ A c, v = .slice A l.length c ∧ Pl NI w D A l.length c l

/-- The cells xs are those of the integers l (normal forms, their words in blocks of D). -/
def Cs (w : World) (D : Nat → Prop) (xs : List Value) (l : List Int) : Prop :=
  xs.length = l.length * 2 ∧ ∀ j, j < l.length → ∃ neg B m k, xs[j * 2]? = some (.bool neg) ∧ xs[j * 2 + 1]? = some (.slice B m k) ∧ NIntV w D (.agg #[.bool neg, .slice B m k]) (gz l j)
section
variable {w w' : World} {D D' : Nat → Prop} {xs : List Value} {l : List Int}
theorem Cs.nil : Cs w D [] [] := ⟨rfl, fun j hj => absurd hj (by simp)⟩
theorem Cs.mono (h : Cs w D xs l) (hd : ∀ b, D b → b < w.heap.size → D' b) : Cs w D' xs l :=
  ⟨h.1, fun j hj => by obtain ⟨neg, B, m, k, h0, h1, h2⟩ := h.2 j hj; exact ⟨neg, B, m, k, h0, h1, h2.mono hd⟩⟩
theorem Cs.below (h : Cs w D xs l) (hb : Below w.heap.size w w') : Cs w' D xs l :=
  ⟨h.1, fun j hj => by obtain ⟨neg, B, m, k, h0, h1, h2⟩ := h.2 j hj; exact ⟨neg, B, m, k, h0, h1, h2.below hb⟩⟩
theorem Cs.keep (h : Cs w D xs l) (hk : ∀ b o, D b → b < w.heap.size → w'.cell? ⟨b, o, none⟩ = w.cell? ⟨b, o, none⟩) : Cs w' D xs l :=
  ⟨h.1, fun j hj => by obtain ⟨neg, B, m, k, h0, h1, A, c, e, h2⟩ := h.2 j hj; exact ⟨neg, B, m, k, h0, h1, A, c, e, h2.keep hk⟩⟩
theorem Cs.snoc (h : Cs w D xs l) {neg : Bool} {B : Option Addr} {m k : Nat} {x : Int} (hx : NIntV w D (.agg #[.bool neg, .slice B m k]) x) : Cs w D (xs ++ [.bool neg, .slice B m k]) (l ++ [x]) := by
  refine ⟨by simp [h.1]; omega, fun j hj => ?_⟩
  simp only [List.length_append, List.length_singleton] at hj
  rcases Nat.lt_or_ge j l.length with hlt | hge
  · obtain ⟨neg, B, m, k, h0, h1, h2⟩ := h.2 j hlt
    exact ⟨neg, B, m, k, by rw [List.getElem?_append_left (by rw [h.1]; omega)]; exact h0, by rw [List.getElem?_append_left (by rw [h.1]; omega)]; exact h1, by rw [gz_append_left hlt]; exact h2⟩
  · obtain rfl : j = l.length := by omega
    refine ⟨neg, B, m, k, ?_, ?_, by rw [gz_append_at]; exact hx⟩
    · rw [List.getElem?_append_right (by rw [h.1]; omega), h.1]; simp
    · rw [List.getElem?_append_right (by rw [h.1]; omega), h.1]; simp
theorem Cs.set (h : Cs w D xs l) {i : Nat} (hi : i < l.length) {neg : Bool} {B : Option Addr} {m k : Nat} {x : Int} (hx : NIntV w D (.agg #[.bool neg, .slice B m k]) x) : Cs w D ((xs.set (i * 2) (.bool neg)).set (i * 2 + 1) (.slice B m k)) (l.set i x) := by
  refine ⟨by simp [h.1], fun j hj => ?_⟩
  simp only [List.length_set] at hj
  rw [gz_set hi]
  by_cases he : i = j
  · subst he
    refine ⟨neg, B, m, k, ?_, ?_, by rw [if_pos rfl]; exact hx⟩
    · rw [List.getElem?_set_ne (by omega), List.getElem?_set_self (by rw [h.1]; omega)]
    · rw [List.getElem?_set_self (by rw [List.length_set, h.1]; omega)]
  · rw [if_neg he]
    obtain ⟨neg, B, m, k, h0, h1, h2⟩ := h.2 j hj
    exact ⟨neg, B, m, k, by rw [List.getElem?_set_ne (by omega), List.getElem?_set_ne (by omega)]; exact h0, by rw [List.getElem?_set_ne (by omega), List.getElem?_set_ne (by omega)]; exact h1, h2⟩
theorem Cs.zeros (n : Nat) : Cs w D (List.replicate n [Value.bool false, .slice none 0 0]).flatten (List.replicate n 0) := by
  induction n with
  | zero => exact Cs.nil
  | succ n ih =>
    rw [List.replicate_succ', List.replicate_succ', List.flatten_append]
    simp only [List.flatten_cons, List.flatten_nil, List.append_nil]
    exact ih.snoc (NIntV.zero w D)
end

/-- What an own row of integers holds. -/
theorem pl_of_own {w : World} {base : Nat} {D' : Nat → Prop} {n : Nat} {v : Value} {xs : List Value} {l : List Int} (h : w.ownsRow base 46 2 v n xs) (hc : Cs w D' xs l) (hn : l.length = n) (hm : n ≤ maxLen) :
    ∃ A c, v = .slice A n c ∧ Pl NI w (base ≤ ·) A n c l := by
  rcases Nat.eq_zero_or_pos n with h0 | h0
  · subst h0
    obtain rfl := List.eq_nil_of_length_eq_zero hn
    obtain ⟨A, c, rfl, h1, h2⟩ := own_slice h
    exact ⟨A, c, rfl, Pl.nil c h2⟩
  · obtain ⟨g, cap, rfl, hb, h1, h2, h3, h4⟩ := own_cells h h0
    refine ⟨_, cap, rfl, hn, h1, h2, fun _ => ⟨g, 0, rfl, hb, fun j hj => ?_⟩⟩
    obtain ⟨neg, B, m, k, e0, e1, e2⟩ := hc.2 j (by omega)
    exact ⟨neg, B, m, k, by rw [Nat.zero_add]; exact h4 _ _ e0, by rw [Nat.zero_add]; exact h4 _ _ e1, e2.mono (fun _ _ _ => trivial)⟩
theorem pl_of_arr {w : World} {D D' : Nat → Prop} {n g : Nat} {t : TypeId} {xs : List Value} {l : List Int} (h : Arr w g t xs) (hc : Cs w D' xs l) (hd : D g) (hn : l.length = n) (hm : n ≤ maxLen) :
    Pl NI w D (some ⟨g, 0, none⟩) n n l :=
  ⟨hn, Nat.le_refl _, hm, fun _ => ⟨g, 0, rfl, hd, fun j hj => by
    obtain ⟨neg, B, m, k, e0, e1, e2⟩ := hc.2 j (by omega)
    exact ⟨neg, B, m, k, by rw [Nat.zero_add, Arr.cell h]; exact e0, by rw [Nat.zero_add, Arr.cell h]; exact e1, e2.mono (fun _ _ _ => trivial)⟩⟩⟩
theorem info_Int : (Tryd.prog.info? 46).map (fun i => (i.zero, i.size, i.bytes)) = some (some (.agg #[.bool false, .slice none 0 0]), 2, 32) := by kernel_rfl

end Go.Proofs.YtpkjdnplmgfbbaaDoor
