/- Graphs in memory: slices of one-cell values, of ints, of texts, of slices; package api's Graph. First walks over graphs: has, isName, Light. The reference's Check. -/
import Derived.Test.YtpkjdnplmgfbbaaGreatDoorA1
import Derived.Test.YtpkjdnplmgfbbaaGreatDoorG1
import Derived.StillTailTactics
import Derived.Lib.IndexAny
import Derived.IntWalk
namespace Go.Proofs.YtpkjdnplmgfbbaaGreatDoor
open Go.RowKit

/-- The slice value with address A, length n and capacity c holds the one-cell values xs. -/
structure Rw (w : World) (A : Option Addr) (n c : Nat) (xs : List Value) : Prop where
  len : xs.length = n
  cap : n ≤ c
  room : c ≤ maxLen
  cells : 0 < n → ∃ b off, A = some ⟨b, off, none⟩ ∧ ∀ j u, xs[j]? = some u → w.cell? ⟨b, off + j, none⟩ = some u

theorem cell_some_lt {w : World} {b o : Nat} {u : Value} (h : w.cell? ⟨b, o, none⟩ = some u) : b < w.heap.size := by
  rcases Nat.lt_or_ge b w.heap.size with h1 | h1
  · exact h1
  · have : w.heap[b]? = none := Array.getElem?_eq_none h1
    simp [World.cell?, this] at h

section
variable {w w' : World} {A : Option Addr} {n c : Nat} {xs : List Value}
theorem Rw.keep (h : Rw w A n c xs) (hk : ∀ b o, b < w.heap.size → w'.cell? ⟨b, o, none⟩ = w.cell? ⟨b, o, none⟩) : Rw w' A n c xs :=
  ⟨h.len, h.cap, h.room, fun hn => by
    obtain ⟨b, off, e, hc⟩ := h.cells hn
    exact ⟨b, off, e, fun j u hu => (hk b _ (cell_some_lt (hc j u hu))).trans (hc j u hu)⟩⟩
theorem Rw.below (h : Rw w A n c xs) (hb : Below w.heap.size w w') : Rw w' A n c xs := h.keep (bcell hb).1
end

/-- .. holds ints. -/
def Il (w : World) (A : Option Addr) (n c : Nat) (l : List Int) : Prop := Rw w A n c (l.map (Value.int .i64)) ∧ ∀ x ∈ l, -9223372036854775808 ≤ x ∧ x ≤ 9223372036854775807
/-- .. holds texts. -/
def Sl (w : World) (A : Option Addr) (n c : Nat) (l : List ByteArray) : Prop := Rw w A n c (l.map Value.string) ∧ ∀ s ∈ l, s.size ≤ maxLen
/-- .. holds slices of ints. -/
def Gl (w : World) (A : Option Addr) (n c : Nat) (E : List (List Int)) : Prop :=
  ∃ vs, Rw w A n c vs ∧ vs.length = E.length ∧ ∀ (i : Nat) v l, vs[i]? = some v → E[i]? = some l → ∃ A' c', v = .slice A' l.length c' ∧ Il w A' l.length c' l

section
variable {w w' : World} {A : Option Addr} {n c : Nat}
theorem Il.below {l : List Int} (h : Il w A n c l) (hb : Below w.heap.size w w') : Il w' A n c l := ⟨h.1.below hb, h.2⟩
theorem Sl.below {l : List ByteArray} (h : Sl w A n c l) (hb : Below w.heap.size w w') : Sl w' A n c l := ⟨h.1.below hb, h.2⟩
theorem Gl.below {E : List (List Int)} (h : Gl w A n c E) (hb : Below w.heap.size w w') : Gl w' A n c E := by
  obtain ⟨vs, h1, h2, h3⟩ := h
  refine ⟨vs, h1.below hb, h2, fun i v l hv hl => ?_⟩
  obtain ⟨A', c', e, hi⟩ := h3 i v l hv hl
  exact ⟨A', c', e, hi.below hb⟩
theorem Il.len {l : List Int} (h : Il w A n c l) : l.length = n := by have := h.1.len; simpa using this
theorem Sl.len {l : List ByteArray} (h : Sl w A n c l) : l.length = n := by have := h.1.len; simpa using this
theorem Gl.len {E : List (List Int)} (h : Gl w A n c E) : E.length = n := by
  obtain ⟨vs, h1, h2, _⟩ := h
  rw [← h2, h1.len]
theorem Il.room {l : List Int} (h : Il w A n c l) : n ≤ c ∧ c ≤ maxLen := ⟨h.1.cap, h.1.room⟩
theorem Sl.room {l : List ByteArray} (h : Sl w A n c l) : n ≤ c ∧ c ≤ maxLen := ⟨h.1.cap, h.1.room⟩
theorem Gl.room {E : List (List Int)} (h : Gl w A n c E) : n ≤ c ∧ c ≤ maxLen := by obtain ⟨vs, h1, _⟩ := h; exact ⟨h1.cap, h1.room⟩
/-- The cell of an int. -/
theorem Il.cell {l : List Int} (h : Il w A n c l) (hn : 0 < n) : ∃ b off, A = some ⟨b, off, none⟩ ∧ ∀ j x, l[j]? = some x → w.cell? ⟨b, off + j, none⟩ = some (.int .i64 x) := by
  obtain ⟨b, off, e, hc⟩ := h.1.cells hn
  exact ⟨b, off, e, fun j x hx => hc j _ (by rw [List.getElem?_map, hx]; rfl)⟩
theorem Sl.cell {l : List ByteArray} (h : Sl w A n c l) (hn : 0 < n) : ∃ b off, A = some ⟨b, off, none⟩ ∧ ∀ j x, l[j]? = some x → w.cell? ⟨b, off + j, none⟩ = some (.string x) := by
  obtain ⟨b, off, e, hc⟩ := h.1.cells hn
  exact ⟨b, off, e, fun j x hx => hc j _ (by rw [List.getElem?_map, hx]; rfl)⟩
theorem Gl.cell {E : List (List Int)} (h : Gl w A n c E) (hn : 0 < n) : ∃ b off, A = some ⟨b, off, none⟩ ∧ ∀ j l, E[j]? = some l → ∃ A' c', w.cell? ⟨b, off + j, none⟩ = some (.slice A' l.length c') ∧ Il w A' l.length c' l := by
  obtain ⟨vs, h1, h2, h3⟩ := h
  obtain ⟨b, off, e, hc⟩ := h1.cells hn
  refine ⟨b, off, e, fun j l hl => ?_⟩
  have hj : j < vs.length := by
    rw [h2]
    rcases Nat.lt_or_ge j E.length with h4 | h4
    · exact h4
    · rw [List.getElem?_eq_none h4] at hl; cases hl
  obtain ⟨A', c', e', hi⟩ := h3 j _ l (List.getElem?_eq_getElem hj) hl
  exact ⟨A', c', by rw [← e']; exact hc j _ (List.getElem?_eq_getElem hj), hi⟩
end

/-- A graph as it stands as an argument. -/
def GrV (w : World) (v : Value) (names : List ByteArray) (E : List (List Int)) : Prop :=
  ∃ A c A' c', v = .agg #[.slice A names.length c, .slice A' E.length c'] ∧ Sl w A names.length c names ∧ Gl w A' E.length c' E
theorem GrV.below {w w' : World} {v : Value} {names : List ByteArray} {E : List (List Int)} (h : GrV w v names E) (hb : Below w.heap.size w w') : GrV w' v names E := by
  obtain ⟨A, c, A', c', e, h1, h2⟩ := h
  exact ⟨A, c, A', c', e, h1.below hb, h2.below hb⟩

/-- The box of a graph argument: the world behind it under a name, with what is known of it. -/
theorem gbox (w : World) (s t : Value) : ∃ W G, W = w.alloc (.cells #[s, t] 25) ∧ G = w.heap.size ∧ Below w.heap.size w W ∧ W.cell? ⟨G, 0, none⟩ = some s ∧ W.cell? ⟨G, 1, none⟩ = some t ∧ G < W.heap.size ∧ w.heap.size ≤ G :=
  ⟨_, _, rfl, rfl, (Below.refl _ _).alloc (Nat.le_refl _) _, by simp, by simp, by simp, Nat.le_refl _⟩

theorem ret_bool {a b : Bool} (h : a = b) : Ending.returned (.bool a) = .returned (.bool b) := by rw [h]

/-- The first number that is not 0. -/
def fnz (f : Nat → Nat) : Nat → Nat
  | 0 => 0
  | n + 1 => if fnz f n = 0 then f n else fnz f n
theorem fnz_none {f : Nat → Nat} {n : Nat} (h : ∀ i, i < n → f i = 0) : fnz f n = 0 := by
  induction n with
  | zero => rfl
  | succ n ih => rw [fnz, if_pos (ih fun i hi => h i (by omega))]; exact h n (by omega)
theorem fnz_hit {f : Nat → Nat} {n k : Nat} (h : ∀ i, i < k → f i = 0) (hk : k < n) (hf : f k ≠ 0) : fnz f n = f k := by
  induction n with
  | zero => omega
  | succ n ih =>
    rw [fnz]
    rcases Nat.lt_or_ge k n with h1 | h1
    · rw [if_neg (by rw [ih h1]; exact hf), ih h1]
    · obtain rfl : k = n := by omega
      rw [if_pos (fnz_none h)]
theorem fnz_zero {f : Nat → Nat} {n : Nat} (h : fnz f n = 0) : ∀ i, i < n → f i = 0 := by
  induction n with
  | zero => intro i hi; omega
  | succ n ih =>
    rw [fnz] at h
    by_cases h1 : fnz f n = 0
    · rw [if_pos h1] at h
      intro i hi
      rcases Nat.lt_or_ge i n with h2 | h2
      · exact ih h1 i h2
      · obtain rfl : i = n := by omega
        exact h
    · rw [if_neg h1] at h; exact absurd h h1

/-- A text that may be a name. -/
def okName (s : ByteArray) : Prop := s.size ≠ 0 ∧ s.size ≤ 40 ∧ ∀ b ∈ s.data.toList, b ≠ 32 ∧ b ≠ 10
noncomputable def nameB (s : ByteArray) : Bool := @decide (okName s) (Classical.propDecidable _)
theorem nameB_true {s : ByteArray} : nameB s = true ↔ okName s := by unfold nameB; exact @decide_eq_true_iff _ (Classical.propDecidable _)
theorem nameB_false {s : ByteArray} : nameB s = false ↔ ¬ okName s := by unfold nameB; exact @decide_eq_false_iff_not _ (Classical.propDecidable _)

/-- The error of one neighbour: no vertex; smaller than the one before. -/
def rowAt (n : Nat) (l : List Int) (k : Nat) : Nat :=
  if ¬ (0 ≤ l.getD k 0 ∧ l.getD k 0 < n) then 6 else if 0 < k ∧ l.getD k 0 < l.getD (k - 1) 0 then 14 else 0
def rowC (n : Nat) (l : List Int) : Nat := if 400 < l.length then 8 else fnz (rowAt n l) l.length
open Classical in
/-- The error of one vertex. -/
noncomputable def atC (names : List ByteArray) (E : List (List Int)) (i : Nat) : Nat :=
  if nameB (names.getD i ByteArray.empty) = false then 4 else if names.getD i ByteArray.empty ∈ names.take i then 5 else rowC names.length (E.getD i [])
/-- The error of a graph. -/
noncomputable def chk (names : List ByteArray) (E : List (List Int)) : Nat :=
  if names.length ≠ E.length then 9 else if 2500 < names.length then 8 else fnz (atC names E) names.length

end Go.Proofs.YtpkjdnplmgfbbaaGreatDoor

namespace Go.Proofs.YtpkjdnplmgfbbaaGreatDoor
open Go.RowKit

def hasB (n : Nat) (x : Int) : Bool := decide (0 ≤ x ∧ x < n)

/-- The reference's Has. -/
theorem rHas_any {w : World} {v : Value} {names : List ByteArray} {E : List (List Int)} (h : GrV w v names E) (x : Int) :
    Calls Tryz.prog 33 #[v, .int .i64 x] w fun e w' => e = .returned (.bool (hasB names.length x)) ∧ Below w.heap.size w w' := by
  obtain ⟨A, c, A', c', rfl, hs, hg⟩ := h
  have hr := hs.room
  unfold maxLen at hr
  by_cases h0 : 0 ≤ x
  · by_cases h1 : x < names.length
    · have e : hasB names.length x = true := by unfold hasB; simp [h0, h1]
      rw [e]
      go_enter Tryz.func33, Tryz.ntmps33
      go_wp2
      go_ret
      exact ⟨rfl, (Below.refl _ _).alloc (Nat.le_refl _) _⟩
    · have e : hasB names.length x = false := by unfold hasB; simp; omega
      rw [e]
      have hd : decide (x < (names.length : Int)) = false := by simpa using h1
      go_enter Tryz.func33, Tryz.ntmps33
      go_wp2
      go_ret
      exact ⟨rfl, (Below.refl _ _).alloc (Nat.le_refl _) _⟩
  · have e : hasB names.length x = false := by unfold hasB; simp; omega
    rw [e]
    have hd : decide (0 ≤ x) = false := by simpa using h0
    go_enter Tryz.func33, Tryz.ntmps33
    go_wp2
    go_ret
    exact ⟨rfl, (Below.refl _ _).alloc (Nat.le_refl _) _⟩
/-- graph.has. -/
theorem has_any {w : World} {v : Value} {names : List ByteArray} {E : List (List Int)} (h : GrV w v names E) (x : Int) :
    Calls Tryz.prog 62 #[v, .int .i64 x] w fun e w' => e = .returned (.bool (hasB names.length x)) ∧ Below w.heap.size w w' := by
  obtain ⟨A, c, A', c', rfl, hs, hg⟩ := h
  have hr := hs.room
  unfold maxLen at hr
  by_cases h0 : 0 ≤ x
  · by_cases h1 : x < names.length
    · have e : hasB names.length x = true := by unfold hasB; simp [h0, h1]
      rw [e]
      go_enter Tryz.func62, Tryz.ntmps62
      go_wp2
      go_ret
      exact ⟨rfl, (Below.refl _ _).alloc (Nat.le_refl _) _⟩
    · have e : hasB names.length x = false := by unfold hasB; simp; omega
      rw [e]
      have hd : decide (x < (names.length : Int)) = false := by simpa using h1
      go_enter Tryz.func62, Tryz.ntmps62
      go_wp2
      go_ret
      exact ⟨rfl, (Below.refl _ _).alloc (Nat.le_refl _) _⟩
  · have e : hasB names.length x = false := by unfold hasB; simp; omega
    rw [e]
    have hd : decide (0 ≤ x) = false := by simpa using h0
    go_enter Tryz.func62, Tryz.ntmps62
    go_wp2
    go_ret
    exact ⟨rfl, (Below.refl _ _).alloc (Nat.le_refl _) _⟩

def LightP (names : List ByteArray) (E : List (List Int)) : Prop :=
  (names.length ≤ 9 ∨ 2500 < names.length) ∧ names.length ≤ 2600 ∧ E.length ≤ 2600 ∧ (∀ s ∈ names, s.size ≤ 60) ∧ ∀ l ∈ E, (l.length ≤ 30 ∨ 400 < l.length) ∧ l.length ≤ 450
def LightR (names : List ByteArray) (E : List (List Int)) (w : World) (e : Ending) (w' : World) : Prop :=
  ∃ b : Bool, e = .returned (.bool b) ∧ (b = true → LightP names E) ∧ Below w.heap.size w w'

theorem mem_getElem {α : Type} {l : List α} {x : α} (h : x ∈ l) : ∃ i : Nat, i < l.length ∧ l[i]? = some x := by
  obtain ⟨i, hi⟩ := List.getElem?_of_mem h
  refine ⟨i, ?_, hi⟩
  rcases Nat.lt_or_ge i l.length with h1 | h1
  · exact h1
  · rw [List.getElem?_eq_none h1] at hi; cases hi

theorem isName_any {w : World} {s : ByteArray} (hs : s.size ≤ maxLen) : Calls Tryz.prog 32 #[.string s] w fun e w' => e = .returned (.bool (nameB s)) ∧ w = w' := by
  unfold maxLen at hs
  by_cases h0 : s.size = 0
  · have e : nameB s = false := nameB_false.2 fun h => h.1 h0
    rw [e]
    have hz : s.toList.isEmpty = true := by rw [Lib.toList_data, List.isEmpty_iff]; exact List.length_eq_zero_iff.1 (by rw [← Lib.size_eq]; exact h0)
    go_enter Tryz.func32, Tryz.ntmps32
    go_wp2
    go_ret
    exact ⟨rfl, rfl⟩
  · have hz : s.toList.isEmpty = false := by
      rw [Lib.toList_data]
      cases hl : s.data.toList with
      | nil => exact absurd (by rw [Lib.size_eq, hl]; rfl) h0
      | cons a t => rfl
    by_cases h1 : s.size ≤ 40
    · have hd : decide (40 < (s.size : Int)) = false := by simp; omega
      go_enter Tryz.func32, Tryz.ntmps32
      go_wp2
      go_loop [3] (fun i => ∃ k : Nat, k ≤ s.size ∧ i = .int .i64 k ∧ ∀ j b, j < k → s.data.toList[j]? = some b → b ≠ 32 ∧ b ≠ 10) (fun i => s.size - (intOf i).toNat)
      case atStart => exact ⟨0, Nat.zero_le _, rfl, fun j b hj => by omega⟩
      case round =>
        obtain ⟨k, hk, rfl, hno⟩ := hrel
        have HN := Lib.hid hno; clear hno
        by_cases hlt : k < s.size
        · obtain ⟨x, hx⟩ : ∃ x : UInt8, s[k]'hlt = x := ⟨_, rfl⟩
          have hxl : s.data.toList[k]? = some x := by rw [← hx]; exact Lib.data_getElem? s k hlt
          have HX := Lib.hid hxl; clear hxl
          by_cases h32 : x = 32
          · subst h32
            have e : nameB s = false := nameB_false.2 fun h => (h.2.2 32 (List.mem_of_getElem? HX.out)).1 rfl
            have HE := Lib.hid e; clear e
            go_wp2
            go_ret
            exact ⟨ret_bool HE.out.symm, rfl⟩
          · by_cases h10 : x = 10
            · subst h10
              have e : nameB s = false := nameB_false.2 fun h => (h.2.2 10 (List.mem_of_getElem? HX.out)).2 rfl
              have HE := Lib.hid e; clear e
              go_wp2
              go_ret
              exact ⟨ret_bool HE.out.symm, rfl⟩
            · have g1 : ((x.toNat : Int) == 32) = false := beq_eq_false_iff_ne.2 fun e => h32 (UInt8.toNat_inj.1 (by simp; omega))
              have g2 : ((x.toNat : Int) == 10) = false := beq_eq_false_iff_ne.2 fun e => h10 (UInt8.toNat_inj.1 (by simp; omega))
              have HH := Lib.hid (And.intro h32 h10); clear h32 h10
              go_wp2
              go_round
              case rel =>
                refine ⟨k + 1, by omega, by go_num, fun j b hj hb => ?_⟩
                rcases Nat.lt_or_ge j k with h2 | h2
                · exact HN.out j b h2 hb
                · obtain rfl : j = k := by omega
                  have := HX.out.symm.trans hb
                  cases this
                  exact HH.out
              case measure => simp [intOf]; omega
        · have e : nameB s = true := nameB_true.2 ⟨h0, h1, fun b hb => by
            obtain ⟨i, hi, hi2⟩ := mem_getElem hb
            rw [← Lib.size_eq] at hi
            exact HN.out i b (by omega) hi2⟩
          have HE := Lib.hid e; clear e
          go_wp2
          go_ret
          exact ⟨ret_bool HE.out.symm, rfl⟩
    · have e : nameB s = false := nameB_false.2 fun h => h1 h.2.1
      rw [e]
      have hd : decide (40 < (s.size : Int)) = true := by simp; omega
      go_enter Tryz.func32, Tryz.ntmps32
      go_wp2
      go_ret
      exact ⟨rfl, rfl⟩
theorem light_no {names : List ByteArray} {E : List (List Int)} {w w' : World} (hb : Below w.heap.size w w') : LightR names E w (.returned (.bool false)) w' := ⟨false, rfl, (fun h => by cases h), hb⟩

set_option maxHeartbeats 2000000 in
theorem Light_any {w : World} {v : Value} {names : List ByteArray} {E : List (List Int)} (h : GrV w v names E) :
    Calls Tryz.prog 5 #[v] w (LightR names E w) := by
  obtain ⟨A, c, A', c', rfl, hs, hg⟩ := h
  obtain ⟨hr1, hr2⟩ := hs.room
  obtain ⟨hr3, hr4⟩ := hg.room
  unfold maxLen at hr2 hr4
  by_cases ha : 9 < names.length ∧ names.length ≤ 2500
  · obtain ⟨ha1, ha2⟩ := ha
    go_enter Tryz.func5, Tryz.ntmps5
    go_wp2
    go_ret
    exact light_no ((Below.refl _ _).alloc (Nat.le_refl _) _)
  · by_cases hb : 2600 < names.length
    · have hd : decide (names.length ≤ 2500) = false := by simp; omega
      go_enter Tryz.func5, Tryz.ntmps5
      go_wp2
      go_ret
      exact light_no ((Below.refl _ _).alloc (Nat.le_refl _) _)
    · by_cases hc : 2600 < E.length
      · have hd : decide (2600 < names.length) = false := by simp; omega
        by_cases h9 : 9 < names.length
        all_goals
          go_enter Tryz.func5, Tryz.ntmps5
          go_wp2
          go_ret
          exact light_no ((Below.refl _ _).alloc (Nat.le_refl _) _)
      · have hn9 : names.length ≤ 9 ∨ 2500 < names.length := by omega
        have HN9 := Lib.hid hn9; clear hn9 ha
        have hlt1 : names.length ≤ 2600 := by omega
        have hlt2 : E.length ≤ 2600 := by omega
        obtain ⟨W, G, hW, hG, hbW, c0, c1, hGl, hwG⟩ := gbox w (.slice A names.length c) (.slice A' E.length c')
        have HW := Lib.hid hW
        have HG := Lib.hid hG
        clear hW hG
        replace hs := hs.below hbW
        replace hg := hg.below hbW
        rcases HN9.out with h9 | h9
        all_goals
          go_enter Tryz.func5, Tryz.ntmps5
          go_wp2
          rw [← HW.out, ← HG.out]
          clear h9
          go_loop [3] (fun i => ∃ k : Nat, k ≤ names.length ∧ i = .int .i64 k ∧ ∀ j s, j < k → names[j]? = some s → s.size ≤ 60) (fun i => names.length - (intOf i).toNat)
          case atStart => exact ⟨0, Nat.zero_le _, rfl, fun j s hj => by omega⟩
          case round =>
            obtain ⟨k, hk, rfl, hno⟩ := hrel
            have HN := Lib.hid hno; clear hno
            by_cases hlt : k < names.length
            · obtain ⟨b, off, rfl, hcell⟩ := hs.cell (by omega)
              obtain ⟨x, hx⟩ : ∃ x, names[k]? = some x := ⟨_, List.getElem?_eq_getElem hlt⟩
              have hcx := hcell k x hx
              have HX := Lib.hid hx
              clear hx hcell
              by_cases hsz : x.size ≤ 60
              · go_wp2
                go_round
                case rel =>
                  refine ⟨k + 1, by omega, by go_num, fun j s hj hs => ?_⟩
                  rcases Nat.lt_or_ge j k with h2 | h2
                  · exact HN.out j s h2 hs
                  · obtain rfl : j = k := by omega
                    have := HX.out.symm.trans hs
                    cases this
                    exact hsz
                case measure => simp [intOf]; omega
              · go_wp2
                go_ret
                exact light_no hbW
            · have hnm : ∀ s ∈ names, s.size ≤ 60 := fun s hs => by
                obtain ⟨i, hi, hi2⟩ := mem_getElem hs
                exact HN.out i s (by omega) hi2
              have HNM := Lib.hid hnm
              clear hnm HN
              go_wp2
              go_loop [4] (fun i => ∃ k : Nat, k ≤ E.length ∧ i = .int .i64 k ∧ ∀ j l, j < k → E[j]? = some l → (l.length ≤ 30 ∨ 400 < l.length) ∧ l.length ≤ 450) (fun i => E.length - (intOf i).toNat)
              case atStart => exact ⟨0, Nat.zero_le _, rfl, fun j s hj => by omega⟩
              case round =>
                obtain ⟨m, hm, rfl, hno⟩ := hrel
                have HN := Lib.hid hno; clear hno
                by_cases hlm : m < E.length
                · obtain ⟨b, off, rfl, hcell⟩ := hg.cell (by omega)
                  obtain ⟨x, hx⟩ : ∃ x, E[m]? = some x := ⟨_, List.getElem?_eq_getElem hlm⟩
                  obtain ⟨B, d, hcx, hil⟩ := hcell m x hx
                  have hxr := hil.room
                  unfold maxLen at hxr
                  have HX := Lib.hid hx
                  clear hx hcell
                  by_cases hok : (x.length ≤ 30 ∨ 400 < x.length) ∧ x.length ≤ 450
                  · have HOK := Lib.hid hok
                    rcases hok with ⟨hok1 | hok1, hok2⟩
                    all_goals
                      go_wp2
                      go_round
                      case rel =>
                        refine ⟨m + 1, by omega, by go_num, fun j s hj hs => ?_⟩
                        rcases Nat.lt_or_ge j m with h2 | h2
                        · exact HN.out j s h2 hs
                        · obtain rfl : j = m := by omega
                          have := HX.out.symm.trans hs
                          cases this
                          exact HOK.out
                      case measure => simp [intOf]; omega
                  · have hok' : (30 < x.length ∧ x.length ≤ 400) ∨ 450 < x.length := by omega
                    clear hok
                    rcases hok' with hok1 | hok1
                    all_goals
                      go_wp2
                      go_ret
                      exact light_no hbW
                · have hrow : ∀ l ∈ E, (l.length ≤ 30 ∨ 400 < l.length) ∧ l.length ≤ 450 := fun l hl => by
                    obtain ⟨i, hi, hi2⟩ := mem_getElem hl
                    exact HN.out i l (by omega) hi2
                  have HROW := Lib.hid hrow
                  clear hrow HN
                  go_wp2
                  go_ret
                  exact ⟨true, rfl, fun _ => ⟨HN9.out, hlt1, hlt2, HNM.out, HROW.out⟩, hbW⟩
end Go.Proofs.YtpkjdnplmgfbbaaGreatDoor

namespace Go.Proofs.YtpkjdnplmgfbbaaGreatDoor
open Go.RowKit

theorem getD_some {α : Type} {l : List α} {i : Nat} {x d : α} (h : l[i]? = some x) : l.getD i d = x := by simp [List.getD, h]
theorem lt_of_some {α : Type} {l : List α} {i : Nat} {x : α} (h : l[i]? = some x) : i < l.length := by
  rcases Nat.lt_or_ge i l.length with h1 | h1
  · exact h1
  · rw [List.getElem?_eq_none h1] at h; cases h
theorem mem_take {α : Type} {l : List α} {k : Nat} {x : α} : x ∈ l.take k ↔ ∃ j, j < k ∧ l[j]? = some x := by
  constructor
  · intro h
    obtain ⟨j, hj⟩ := List.getElem?_of_mem h
    have hl := lt_of_some hj
    rw [List.length_take] at hl
    rw [List.getElem?_take, if_pos (by omega)] at hj
    exact ⟨j, by omega, hj⟩
  · rintro ⟨j, hj, h⟩
    exact List.mem_of_getElem? (i := j) (by rw [List.getElem?_take, if_pos hj]; exact h)
theorem bytes_eq {a b : ByteArray} (h : a = b) : (a.toList == b.toList) = true := by simp [h]
theorem bytes_ne {a b : ByteArray} (h : a ≠ b) : (a.toList == b.toList) = false := by
  rw [beq_eq_false_iff_ne, Lib.toList_data, Lib.toList_data]
  intro e
  apply h
  cases a; cases b
  congr
  exact Array.toList_inj.1 e

theorem atC_name {names : List ByteArray} {E : List (List Int)} {i : Nat} {x : ByteArray} (hx : names[i]? = some x) (h : nameB x = false) : atC names E i = 4 := by unfold atC; rw [getD_some hx, if_pos h]
theorem atC_exists {names : List ByteArray} {E : List (List Int)} {i j : Nat} {x : ByteArray} (hx : names[i]? = some x) (h : nameB x = true) (hj : j < i) (hy : names[j]? = some x) : atC names E i = 5 := by
  unfold atC; rw [getD_some hx, if_neg (by rw [h]; simp), if_pos (mem_take.2 ⟨j, hj, hy⟩)]
theorem atC_row {names : List ByteArray} {E : List (List Int)} {i : Nat} {x : ByteArray} {l : List Int} (hx : names[i]? = some x) (h : nameB x = true) (hl : E[i]? = some l) (hno : ∀ j, j < i → names[j]? ≠ some x) : atC names E i = rowC names.length l := by
  unfold atC; rw [getD_some hx, if_neg (by rw [h]; simp), if_neg (fun hm => by obtain ⟨j, hj, h2⟩ := mem_take.1 hm; exact hno j hj h2), getD_some hl]
theorem chk_hit {names : List ByteArray} {E : List (List Int)} {k : Nat} (h1 : names.length = E.length) (h2 : names.length ≤ 2500) (hk : k < names.length) (hz : ∀ i, i < k → atC names E i = 0) (hf : atC names E k ≠ 0) : chk names E = atC names E k := by
  unfold chk; rw [if_neg (by omega), if_neg (by omega)]; exact fnz_hit hz hk hf
theorem chk_ok {names : List ByteArray} {E : List (List Int)} (h1 : names.length = E.length) (h2 : names.length ≤ 2500) (hz : ∀ i, i < names.length → atC names E i = 0) : chk names E = 0 := by
  unfold chk; rw [if_neg (by omega), if_neg (by omega)]; exact fnz_none hz
theorem rowC_hit {n k : Nat} {l : List Int} (h : l.length ≤ 400) (hk : k < l.length) (hz : ∀ i, i < k → rowAt n l i = 0) (hf : rowAt n l k ≠ 0) : rowC n l = rowAt n l k := by
  unfold rowC; rw [if_neg (by omega)]; exact fnz_hit hz hk hf
theorem rowC_ok {n : Nat} {l : List Int} (h : l.length ≤ 400) (hz : ∀ i, i < l.length → rowAt n l i = 0) : rowC n l = 0 := by
  unfold rowC; rw [if_neg (by omega)]; exact fnz_none hz

def ChkR (w : World) (c : Nat) (e : Ending) (w' : World) : Prop := e = .returned (.int .i64 (c : Nat)) ∧ Below w.heap.size w w'
theorem chkR_of {w w' : World} {c d : Nat} (h : d = c) (hb : Below w.heap.size w w') : ChkR w c (.returned (.int .i64 (d : Nat))) w' := ⟨by rw [h], hb⟩

set_option maxHeartbeats 2000000 in
set_option maxRecDepth 100000 in
theorem rCheck_any {w : World} {v : Value} {names : List ByteArray} {E : List (List Int)} (h : GrV w v names E) :
    Calls Tryz.prog 9 #[v] w (ChkR w (chk names E)) := by
  obtain ⟨A, c, A', c', rfl, hs, hg⟩ := h
  obtain ⟨hr1, hr2⟩ := hs.room
  obtain ⟨hr3, hr4⟩ := hg.room
  unfold maxLen at hr2 hr4
  by_cases hne : names.length = E.length
  · by_cases hlg : 2500 < names.length
    · have e : chk names E = 8 := by unfold chk; rw [if_neg (by omega), if_pos hlg]
      rw [e]
      have hb : ((names.length : Int) != (E.length : Int)) = false := by simp [hne]
      clear hne e
      go_enter Tryz.func9, Tryz.ntmps9
      go_wp2
      go_ret
      exact chkR_of rfl ((Below.refl _ _).alloc (Nat.le_refl _) _)
    · have hb : ((names.length : Int) != (E.length : Int)) = false := by simp [hne]
      have HNE := Lib.hid hne
      clear hne
      obtain ⟨W, G, hW, hG, hbW, c0, c1, hGl, hwG⟩ := gbox w (.slice A names.length c) (.slice A' E.length c')
      have HW := Lib.hid hW
      have HG := Lib.hid hG
      clear hW hG
      replace hs := hs.below hbW
      replace hg := hg.below hbW
      go_enter Tryz.func9, Tryz.ntmps9
      go_wp2
      rw [← HW.out, ← HG.out]
      clear hb
      go_loopw [3] (fun i wr => ∃ k : Nat, k ≤ names.length ∧ i = .int .i64 k ∧ (∀ j, j < k → atC names E j = 0) ∧ Below W.heap.size W wr) (fun i _ => names.length - (intOf i).toNat)
      case atStart => exact ⟨0, Nat.zero_le _, rfl, fun j hj => by omega, Below.refl _ _⟩
      case round =>
        obtain ⟨k, hk, rfl, hno, hbr⟩ := hrel
        have HN := Lib.hid hno; clear hno
        obtain ⟨hc, hf⟩ := bcell hbr
        have d0 := (hc _ 0 hGl).trans c0
        have d1 := (hc _ 1 hGl).trans c1
        clear hc hf
        by_cases hlt : k < names.length
        · have hs2 := hs.below hbr
          have hg2 := hg.below hbr
          obtain ⟨b, off, rfl, hcell⟩ := hs2.cell (by omega)
          obtain ⟨x, hx⟩ : ∃ x, names[k]? = some x := ⟨_, List.getElem?_eq_getElem hlt⟩
          have hcx := hcell k x hx
          have hxm := hs.2 x (List.mem_of_getElem? hx)
          have HX := Lib.hid hx
          have HC := Lib.hid hcell
          clear hx hcell
          cases hnb : nameB x
          · have HB := Lib.hid hnb; clear hnb
            go_wp2_with (go_at_call 32; refine (isName_any hxm).mono ?_; rintro e w' ⟨rfl, rfl⟩; rw [HB.out])
            go_ret
            exact chkR_of (by rw [chk_hit HNE.out (by omega) hlt HN.out (by rw [atC_name HX.out HB.out]; decide), atC_name HX.out HB.out]) (hbW.trans (hbr.mono hbW.size))
          · have HB := Lib.hid hnb; clear hnb
            go_wp2_with (go_at_call 32; refine (isName_any hxm).mono ?_; rintro e w' ⟨rfl, rfl⟩; rw [HB.out])
            obtain ⟨wo, rfl⟩ : ∃ wo : World, wo = wr := ⟨_, rfl⟩
            go_loopw [4] (fun i wr => ∃ q : Nat, q ≤ k ∧ i = .int .i64 q ∧ (∀ j, j < q → names[j]? ≠ some x) ∧ ∃ m, wr = wo.drewN m) (fun i _ => k - (intOf i).toNat)
            case atStart => exact ⟨0, Nat.zero_le _, rfl, fun j hj => by omega, 0, rfl⟩
            case round =>
              obtain ⟨q, hq, rfl, hnq, m, rfl⟩ := hrel
              have HQ := Lib.hid hnq; clear hnq
              by_cases hqk : q < k
              · obtain ⟨y, hy⟩ : ∃ y, names[q]? = some y := ⟨_, List.getElem?_eq_getElem (by omega)⟩
                have hcy := HC.out q y hy
                have HY := Lib.hid hy; clear hy
                have i1 : (q : Int) < (names.length : Int) := by omega
                have i2 : (k : Int) < (names.length : Int) := by omega
                by_cases hyx : y = x
                · have hbq := bytes_eq hyx
                  have HYX := Lib.hid hyx; clear hyx
                  go_wp2_with fail
                  go_quiet (fail)
                  go_wp2_with fail
                  go_ret
                  have ea := atC_exists (E := E) HX.out HB.out hqk (by rw [HY.out, HYX.out])
                  exact chkR_of (by rw [chk_hit HNE.out (by omega) hlt HN.out (by rw [ea]; decide), ea]) (below_drewN' (below_drewN' (hbW.trans (hbr.mono hbW.size)) _) _)
                · have hbq := bytes_ne hyx
                  have HYX := Lib.hid hyx; clear hyx
                  go_wp2_with fail
                  go_quiet (fail)
                  go_wp2_with fail
                  go_roundw
                  case rel =>
                    refine ⟨q + 1, by omega, by go_num, fun j hj => ?_, _, rfl⟩
                    rcases Nat.lt_or_ge j q with h2 | h2
                    · exact HQ.out j h2
                    · obtain rfl : j = q := by omega
                      rw [HY.out]; intro e; injection e with e; exact HYX.out e
                  case measure => simp [intOf]; omega
              · obtain rfl : q = k := by omega
                obtain ⟨b2, off2, rfl, hcell2⟩ := hg2.cell (by have := HNE.out; omega)
                obtain ⟨l, hl⟩ : ∃ l, E[q]? = some l := ⟨_, List.getElem?_eq_getElem (by have := HNE.out; omega)⟩
                obtain ⟨B, d, hcl, hil⟩ := hcell2 q l hl
                have hrow := atC_row (E := E) HX.out HB.out hl HQ.out
                have HROW := Lib.hid hrow
                have HL := Lib.hid hl
                obtain ⟨hd1, hd2⟩ := hil.room
                unfold maxLen at hd2
                have hqE : q < E.length := by have := HNE.out; omega
                clear hl hcell2 hrow HQ HC
                by_cases h400 : 400 < l.length
                · go_wp2_with fail
                  go_ret
                  have ea : atC names E q = 8 := by rw [HROW.out]; unfold rowC; rw [if_pos h400]
                  exact chkR_of (by rw [chk_hit HNE.out (by omega) hlt HN.out (by rw [ea]; decide), ea]) (below_drewN' (hbW.trans (hbr.mono hbW.size)) _)
                · go_wp2_with fail
                  have hil2 : Il (wo.drewN m) B l.length d l := hil.below (below_drewN' (Below.refl _ _) m)
                  have hbr2 : Below W.heap.size W (wo.drewN m) := below_drewN' hbr m
                  have d0' : (wo.drewN m).cell? ⟨G, 0, none⟩ = _ := d0
                  have d1' : (wo.drewN m).cell? ⟨G, 1, none⟩ = _ := d1
                  clear hil hbr d0 d1 hcx hcl
                  generalize wo.drewN m = w2 at *
                  have hgv : GrV w2 (.agg #[.slice (some ⟨b, off, none⟩) names.length c, .slice (some ⟨b2, off2, none⟩) E.length c']) names E := ⟨_, _, _, _, rfl, hs.below hbr2, hg.below hbr2⟩
                  have hGl2 : G < w2.heap.size := Nat.lt_of_lt_of_le hGl hbr2.size
                  go_loopw [6] (fun i wr => ∃ t : Nat, t ≤ l.length ∧ i = .int .i64 t ∧ (∀ j, j < t → rowAt names.length l j = 0) ∧ Below w2.heap.size w2 wr) (fun i _ => l.length - (intOf i).toNat)
                  case atStart => exact ⟨0, Nat.zero_le _, rfl, fun j hj => by omega, Below.refl _ _⟩
                  case round =>
                    obtain ⟨t, ht, rfl, hnt, hbt⟩ := hrel
                    have HT := Lib.hid hnt; clear hnt
                    obtain ⟨hc, hf⟩ := bcell hbt
                    have e0 := (hc _ 0 hGl2).trans d0'
                    have e1 := (hc _ 1 hGl2).trans d1'
                    clear hc hf
                    by_cases htl : t < l.length
                    · obtain ⟨b3, off3, rfl, hcell3⟩ := (hil2.below hbt).cell (by omega)
                      obtain ⟨y, hy⟩ : ∃ y, l[t]? = some y := ⟨_, List.getElem?_eq_getElem htl⟩
                      have hcy := hcell3 t y hy
                      have HC3 := Lib.hid hcell3
                      have HY := Lib.hid hy
                      have hyr := hil2.2 y (List.mem_of_getElem? hy)
                      have i1 : (t : Int) < (l.length : Int) := by omega
                      have i2 : 0 ≤ (t : Int) := by omega
                      clear hcell3 hy
                      go_wp2_with fail
                      go_still_tail 5, (by kernel_rfl)
                      have hbt2 : Below w2.heap.size w2 wr.drew := hbt.drew
                      have hgv2 := hgv.below hbt2
                      have hbw2 : Below w.heap.size w wr.drew := (hbW.trans (hbr2.mono hbW.size)).trans (hbt2.mono (Nat.le_trans hbW.size hbr2.size))
                      change wpList _ _ _ _ _ wr.drew
                      have g0 : wr.drew.cell? ⟨b3, off3 + t, none⟩ = _ := hcy
                      have g3 : ∀ j x, l[j]? = some x → wr.drew.cell? ⟨b3, off3 + j, none⟩ = _ := HC3.out
                      have HC4 := Lib.hid g3
                      clear hcy HC3 e0 e1 hbt g3
                      generalize wr.drew = w3 at *
                      cases hh : hasB names.length y
                      · have HH := Lib.hid hh; clear hh
                        go_wp2_with (go_at_call 33; refine (rHas_any hgv2 y).mono ?_; rintro e w4 ⟨rfl, hb4⟩; rw [HH.out])
                        go_ret
                        have er : rowAt names.length l t = 6 := by unfold rowAt; rw [getD_some HY.out, if_pos (by have := HH.out; unfold hasB at this; simpa using this)]
                        have ea : atC names E q = 6 := by rw [HROW.out, rowC_hit (by omega) htl HT.out (by rw [er]; decide), er]
                        exact chkR_of (by rw [chk_hit HNE.out (by omega) hlt HN.out (by rw [ea]; decide), ea]) (hbw2.trans (hb4.mono hbw2.size))
                      · have HH := Lib.hid hh; clear hh
                        have hyn : 0 ≤ y ∧ y < names.length := by have := HH.out; unfold hasB at this; simpa using this
                        go_wp2_with (go_at_call 33; refine (rHas_any hgv2 y).mono ?_; rintro e w4 ⟨rfl, hb4⟩; rw [HH.out])
                        obtain ⟨hc4, hf4⟩ := bcell hb4
                        have f0 := (hc4 _ (off3 + t) (cell_some_lt g0)).trans g0
                        by_cases ht0 : t = 0
                        · have hd0 : decide (0 < t) = false := by simp; omega
                          have HT0 := Lib.hid ht0; clear ht0 hc4 hf4
                          go_quiet (fail)
                          go_wp2_with fail
                          go_roundw
                          case rel =>
                            refine ⟨t + 1, by omega, by go_num, fun j hj => ?_, below_drewN' (hbt2.trans (hb4.mono hbt2.size)) _⟩
                            rcases Nat.lt_or_ge j t with h2 | h2
                            · exact HT.out j h2
                            · obtain rfl : j = t := by omega
                              unfold rowAt; rw [getD_some HY.out, if_neg (by simpa using hyn), if_neg (by have := HT0.out; omega)]
                          case measure => simp [intOf]; omega
                        · obtain ⟨z, hz⟩ : ∃ z, l[t - 1]? = some z := ⟨_, List.getElem?_eq_getElem (by omega)⟩
                          have f1 := (hc4 _ (off3 + (t - 1)) (cell_some_lt (HC4.out _ _ hz))).trans (HC4.out _ _ hz)
                          have hzr := hil2.2 z (List.mem_of_getElem? hz)
                          have HZ := Lib.hid hz
                          have ht1 : 0 < t := by omega
                          have ht2 : (0 : Int) < (t : Int) := by omega
                          have ht3 : 0 ≤ (t : Int) - 1 := by omega
                          have ht4 : (t : Int) - 1 < (l.length : Int) := by omega
                          have ht5 : 1 ≤ (t : Int) := by omega
                          have ht6 : IntKind.i64.wrap ((t : Int) - 1) = (t : Int) - 1 := IntWalk.i64_in _ (by omega)
                          have ht7 : ((t : Int) - 1).toNat = t - 1 := by omega
                          clear ht0 hz hc4 hf4
                          by_cases hyz : y < z
                          · go_quiet (fail)
                            clear ht6 ht7
                            go_wp2_with fail
                            go_ret
                            have er : rowAt names.length l t = 14 := by unfold rowAt; rw [getD_some HY.out, getD_some HZ.out, if_neg (by simpa using hyn), if_pos ⟨ht1, hyz⟩]
                            have ea : atC names E q = 14 := by rw [HROW.out, rowC_hit (by omega) htl HT.out (by rw [er]; decide), er]
                            exact chkR_of (by rw [chk_hit HNE.out (by omega) hlt HN.out (by rw [ea]; decide), ea]) (below_drewN' (hbw2.trans (hb4.mono hbw2.size)) _)
                          · go_quiet (fail)
                            clear ht6 ht7
                            go_wp2_with fail
                            go_roundw
                            case rel =>
                              refine ⟨t + 1, by omega, by go_num, fun j hj => ?_, below_drewN' (hbt2.trans (hb4.mono hbt2.size)) _⟩
                              rcases Nat.lt_or_ge j t with h2 | h2
                              · exact HT.out j h2
                              · obtain rfl : j = t := by omega
                                unfold rowAt; rw [getD_some HY.out, getD_some HZ.out, if_neg (by simpa using hyn), if_neg (fun h => hyz h.2)]
                            case measure => simp [intOf]; omega
                    · obtain rfl : t = l.length := by omega
                      have ea : atC names E q = 0 := by rw [HROW.out, rowC_ok (by omega) HT.out]
                      have HEA := Lib.hid ea; clear ea
                      have hbt2 := hbr2.trans (hbt.mono hbr2.size)
                      go_wp2_with fail
                      go_roundw
                      case rel =>
                        refine ⟨q + 1, by omega, by go_num, fun j hj => ?_, hbt2⟩
                        rcases Nat.lt_or_ge j q with h2 | h2
                        · exact HN.out j h2
                        · obtain rfl : j = q := by omega
                          exact HEA.out
                      case measure => simp [intOf]; omega
        · go_wp2
          go_ret
          exact chkR_of (by rw [chk_ok HNE.out (by omega) (fun i hi => HN.out i (by omega))]) (hbW.trans (hbr.mono hbW.size))
  · have e : chk names E = 9 := by unfold chk; rw [if_pos hne]
    rw [e]
    have hb : ((names.length : Int) != (E.length : Int)) = true := by simp; omega
    clear hne e
    go_enter Tryz.func9, Tryz.ntmps9
    go_wp2
    go_ret
    exact chkR_of rfl ((Below.refl _ _).alloc (Nat.le_refl _) _)
end Go.Proofs.YtpkjdnplmgfbbaaGreatDoor
