/- Words for memory: a slice that reads as a list of cells, contracts that only make new memory. Numbers as lists of digits: values, canonical digits, lists without zeros at the end. Plain Lean. Slices of machine words that read as lists of numbers; package integer's functions on words. append onto a slice of the call's own: the source nil, empty or not, of a slice type of its own. Package integer: sums of words. Package integer: differences of words. Package integer: words of a machine word; words compared. Package integer: products of words. Integers of several words as values: what their fields hold; package integer's functions that make and take them apart. Package integer: normal forms, sums, differences, products, comparisons. Package integer: differences, comparisons, machine integers; package wide's small functions. Package integer: machine integers; package wide's small functions. Slices of ints that hold half words (the references' digits). The references' digits of an integer. The references' integers, made of digits. The references' sums of digits. The references' differences of digits. The references' comparison of digits. The references' products of digits. The references' integers: normal forms, sums, differences, products, signs. The references' integers of machine integers. -/
import Derived.Test.YtefcdclmabdmbaaGreatDoorProg
import Derived.WalkKit
import Derived.WalkSpells
import Derived.WalkLawsBesides
import Derived.Lib.Hide
import Derived.Deep.QuietTactic
import Derived.BigQuiet
import Derived.Deep.RegionHeld3
import Derived.Deep.AppendLies
import Derived.Deep.DeepCutAuto
import Derived.Maps.AppendAt
import Derived.KernelRfl
namespace Go.Proofs.YtefcdclmabdmbaaGreatDoor
open Go.RowKit

/-- What a contract of a function that only makes new memory says. -/
def Gives (w : World) (R : World → Value → Prop) (e : Ending) (w' : World) : Prop := ∃ v, e = .returned v ∧ R w' v ∧ Below w.heap.size w w'

theorem bcell {W w1 : World} (hb : Below W.heap.size W w1) : (∀ b o, b < W.heap.size → w1.cell? ⟨b, o, none⟩ = W.cell? ⟨b, o, none⟩) ∧ (∀ b o, b < W.heap.size → w1.frozen? ⟨b, o, none⟩ = W.frozen? ⟨b, o, none⟩) :=
  ⟨fun b o h => hb.cell (p := ⟨b, o, none⟩) h, fun b o h => hb.frozen (p := ⟨b, o, none⟩) h⟩

/-- Block g is an array of the call's own: its cells are xs, none frozen. -/
def Arr (w : World) (g : Nat) (t : TypeId) (xs : List Value) : Prop := w.heap[g]? = some (.cells xs.toArray t (0, 0))

section
variable {w w' : World} {g : Nat} {t : TypeId} {xs : List Value}
theorem Arr.lt (h : Arr w g t xs) : g < w.heap.size := by
  rcases Nat.lt_or_ge g w.heap.size with hlt | hge
  · exact hlt
  · unfold Arr at h; rw [Array.getElem?_eq_none hge] at h; cases h
theorem Arr.cell (h : Arr w g t xs) (i : Nat) : w.cell? ⟨g, i, none⟩ = xs[i]? := by
  rw [cell_of_row w g i _ t (0, 0) h]; simp
theorem Arr.frozen (h : Arr w g t xs) (i : Nat) : w.frozen? ⟨g, i, none⟩ = false := by
  unfold Arr at h
  simp [World.frozen?, h]
theorem Arr.drew (h : Arr w g t xs) : Arr w.drew g t xs := h
theorem Arr.drewN (h : Arr w g t xs) (n : Nat) : Arr (w.drewN n) g t xs := h
theorem Arr.alloc (h : Arr w g t xs) (o : Obj) : Arr (w.alloc o) g t xs := (Below.heap_alloc w o g h.lt).trans h
theorem Arr.new (w : World) (t : TypeId) (xs : List Value) : Arr (w.alloc (.cells xs.toArray t)) w.heap.size t xs := heap_alloc_new w _
theorem Arr.set_ (h : Arr w g t xs) (i : Nat) (u : Value) : Arr (w.setCell ⟨g, i, none⟩ u) g t (xs.set i u) := by
  unfold Arr at h ⊢
  simp [World.setCell, Array.getElem?_modify, h]
theorem Arr.far (h : Arr w g t xs) {p : Addr} (hp : g ≠ p.block) (u : Value) : Arr (w.setCell p u) g t xs := (Below.heap_setCell w p u g hp).trans h
theorem Arr.below {B : Nat} (h : Arr w g t xs) (hb : Below B w w') (hg : g < B) : Arr w' g t xs := (hb.block g hg).trans h
theorem Arr.below' (h : Arr w g t xs) (hb : Below w.heap.size w w') : Arr w' g t xs := (hb.block g h.lt).trans h
end

theorem below_drewN' {B : Nat} {a w : World} (h : Below B a w) (n : Nat) : Below B a (w.drewN n) := ⟨h.os, h.tape, h.output, h.size, h.block⟩

theorem quiet_left {P : Program} {f : FuncId} {args : Array Value} {w : World} {n : Nat} {v : Value}
    (h : Calls P f args (w.drewN n) fun e w' => e = .returned v ∧ w.drewN n = w') : Calls P f args (w.drewN n) fun e w'' => e = .returned v ∧ ∃ m, w'' = w.drewN m :=
  h.mono fun _ _ ⟨he, hm⟩ => ⟨he, n, hm.symm⟩
/-- make([]T, n): a new array of n elements that are the zero value. -/
theorem wpList_make_arr {P : Program} (w : World) {ops : Array Oper} {rest : List Oper} {o : Oper} {a : Act} {Q : Exit → Act → World → Prop}
    (hg : o.guard = none) (l c : Operand) (t : TypeId) (hop : o.op = Op.makeSlice t l c)
    (e : TypeId) (z : Value) (size bytes : Nat) (h1 : P.underlying t = some (.slice e)) (h2 : (P.info? e).map (fun i => (i.zero, i.size, i.bytes)) = some (some z, size, bytes))
    (kl kc : IntKind) (L C : Int) (n : Nat) (hl : a.eval l = .int kl L) (hc : a.eval c = .int kc C) (hL : L = (n : Int)) (hC : C = (n : Int)) (b2 : bytes * n ≤ 281474976710656) (b3 : n ≤ 9223372036854775807)
    (hK : ∀ w', Arr w' w.heap.size e (madeCells z.cells (n * size)).toList → Below w.heap.size w w' → w'.heap.size = w.heap.size + 1 → wpList P ops Q rest (a.put o.dst (.slice (some ⟨w.heap.size, 0, none⟩) n n)) w') :
    wpList P ops Q (o :: rest) a w := by
  refine wpList_plain hg fun K hK' => ?_
  obtain ⟨i, hi, hz, hs, hby⟩ := info_parts h2
  subst hs hby hL hC
  have hb : (i.bytes : Int) * (n : Int) ≤ 281474976710656 := by
    have h : ((i.bytes * n : Nat) : Int) ≤ 281474976710656 := by omega
    rwa [Int.natCast_mul] at h
  have hrun := run_make (P := P) w t e i z h1 hi hz kl kc n n (by omega) (by omega) hb (by omega)
  simp only [Int.toNat_natCast] at hrun
  unfold Oper.wp
  simp [execOp, hop, hl, hc, hrun, Result.andThen]
  refine hK' _ _ (hK _ ?_ ((Below.refl _ _).alloc (Nat.le_refl _) _) (by simp))
  have := Arr.new w e (madeCells z.cells (n * i.size)).toList
  simpa using this

theorem cell_lt {w : World} {b o : Nat} {v : Value} (h : w.cell? ⟨b, o, none⟩ = some v) : b < w.heap.size := World.block_lt_of_cell? w _ h

end Go.Proofs.YtefcdclmabdmbaaGreatDoor

namespace Go.Proofs.YtefcdclmabdmbaaGreatDoor

/-- The element of a list, 0 behind its end. -/
def gw (l : List Nat) (j : Nat) : Nat := l.getD j 0

theorem gw_nil (j : Nat) : gw [] j = 0 := by simp [gw]
theorem gw_cons_succ (x : Nat) (l : List Nat) (j : Nat) : gw (x :: l) (j + 1) = gw l j := rfl
theorem gw_lt {l : List Nat} {j : Nat} (h : j < l.length) : l[j]? = some (gw l j) := by
  simp [gw, List.getD, List.getElem?_eq_getElem h]
theorem gw_ge {l : List Nat} {j : Nat} (h : l.length ≤ j) : gw l j = 0 := by
  simp [gw, List.getD, List.getElem?_eq_none h]
theorem gw_mem {l : List Nat} {j : Nat} (h : j < l.length) : gw l j ∈ l := by
  have := gw_lt h
  exact List.mem_of_getElem? this
theorem gw_bound {l : List Nat} {b : Nat} (h : ∀ x ∈ l, x < b) (hb : 0 < b) (j : Nat) : gw l j < b := by
  rcases Nat.lt_or_ge j l.length with hj | hj
  · exact h _ (gw_mem hj)
  · rw [gw_ge hj]; exact hb
theorem gw_take {l : List Nat} {j k : Nat} (h : j < k) : gw (l.take k) j = gw l j := by
  simp [gw, List.getD, h]
/-- Without zeros at the end. -/
def trim : List Nat → List Nat
  | [] => []
  | x :: r => match trim r with
    | [] => if x = 0 then [] else [x]
    | y :: s => x :: y :: s

theorem trim_length_le (l : List Nat) : (trim l).length ≤ l.length := by
  induction l with
  | nil => simp [trim]
  | cons x r ih =>
    unfold trim
    split
    · split <;> simp
    · rename_i y s h; rw [h] at ih; simp at ih ⊢; omega

theorem trim_eq_take (l : List Nat) : trim l = l.take (trim l).length := by
  induction l with
  | nil => simp [trim]
  | cons x r ih =>
    unfold trim
    split
    · split <;> simp
    · rename_i y s h; rw [h] at ih; simp only [List.length_cons, List.take_succ_cons]; rw [← List.length_cons (a := y), ← ih]

theorem trim_snoc_zero (l : List Nat) : trim (l ++ [0]) = trim l := by
  induction l with
  | nil => simp [trim]
  | cons x r ih => simp only [List.cons_append]; unfold trim; rw [ih]

theorem trim_snoc_ne (l : List Nat) (x : Nat) (h : x ≠ 0) : trim (l ++ [x]) = l ++ [x] := by
  induction l with
  | nil => simp [trim, h]
  | cons y r ih =>
    simp only [List.cons_append]
    unfold trim
    rw [ih]
    cases r <;> simp

theorem take_succ_gw {l : List Nat} {k : Nat} (h : k < l.length) : l.take (k + 1) = l.take k ++ [gw l k] := by
  rw [List.take_add_one, gw_lt h]; simp

theorem trim_take_zero {l : List Nat} {k : Nat} (h : k < l.length) (h0 : gw l k = 0) : trim (l.take (k + 1)) = trim (l.take k) := by
  rw [take_succ_gw h, h0, trim_snoc_zero]
theorem trim_take_ne {l : List Nat} {k : Nat} (h : k < l.length) (h0 : gw l k ≠ 0) : trim (l.take (k + 1)) = l.take (k + 1) := by
  rw [take_succ_gw h, trim_snoc_ne _ _ h0]

theorem trim_mem {l : List Nat} {x : Nat} (h : x ∈ trim l) : x ∈ l := by
  rw [trim_eq_take] at h
  exact List.mem_of_mem_take h

/-- The value of digits to a base. -/
def val (b : Nat) : List Nat → Nat
  | [] => 0
  | x :: r => x + b * val b r

theorem val_append (b : Nat) (l m : List Nat) : val b (l ++ m) = val b l + b ^ l.length * val b m := by
  induction l with
  | nil => simp [val]
  | cons x r ih => simp only [List.cons_append, val, ih, List.length_cons, Nat.pow_succ]; rw [Nat.mul_add, Nat.add_assoc]; congr 2; rw [Nat.mul_comm (b ^ r.length) b, Nat.mul_assoc]

theorem val_snoc (b : Nat) (l : List Nat) (x : Nat) : val b (l ++ [x]) = val b l + b ^ l.length * x := by
  rw [val_append]; simp [val]

theorem val_trim (b : Nat) (l : List Nat) : val b (trim l) = val b l := by
  induction l with
  | nil => rfl
  | cons x r ih =>
    unfold trim
    split
    · rename_i h; rw [h] at ih; simp only [val] at ih ⊢; rw [← ih]; clear ih h; split <;> simp_all [val]
    · rename_i y s h; rw [h] at ih; simp only [val] at ih ⊢; rw [← ih]

theorem val_lt {b : Nat} {l : List Nat} (h : ∀ x ∈ l, x < b) : val b l < b ^ l.length := by
  induction l with
  | nil => simp [val]
  | cons x r ih =>
    have h1 := ih (fun y hy => h y (List.mem_cons_of_mem _ hy))
    have h2 := h x (List.mem_cons_self ..)
    simp only [val, List.length_cons, Nat.pow_succ]
    calc x + b * val b r < b + b * val b r := by omega
      _ = b * (val b r + 1) := by rw [Nat.mul_add]; omega
      _ ≤ b * b ^ r.length := Nat.mul_le_mul_left _ h1
      _ = b ^ r.length * b := Nat.mul_comm _ _

/-- The canonical digits of a number, with fuel. -/
def digF (b : Nat) : Nat → Nat → List Nat
  | 0, _ => []
  | f + 1, n => if n = 0 then [] else (n % b) :: digF b f (n / b)
def dig (b n : Nat) : List Nat := digF b n n

theorem digF_enough {b : Nat} (hb : 2 ≤ b) : ∀ (f g n : Nat), n ≤ f → n ≤ g → digF b f n = digF b g n := by
  intro f
  induction f with
  | zero => intro g n hf _; obtain rfl : n = 0 := by omega
            cases g <;> simp [digF]
  | succ f ih =>
    intro g n hf hg
    cases g with
    | zero => obtain rfl : n = 0 := by omega
              simp [digF]
    | succ g =>
      simp only [digF]
      split
      · rfl
      · rename_i hn
        have : n / b < n := Nat.div_lt_self (by omega) hb
        rw [ih g (n / b) (by omega) (by omega)]

theorem dig_zero (b : Nat) : dig b 0 = [] := rfl
theorem dig_pos {b n : Nat} (hb : 2 ≤ b) (hn : n ≠ 0) : dig b n = (n % b) :: dig b (n / b) := by
  unfold dig
  obtain ⟨m, rfl⟩ : ∃ m, n = m + 1 := ⟨n - 1, by omega⟩
  simp only [digF, if_neg hn]
  rw [digF_enough hb m ((m + 1) / b) ((m + 1) / b) _ (Nat.le_refl _)]
  have : (m + 1) / b < m + 1 := Nat.div_lt_self (by omega) hb
  omega

theorem trim_eq_dig {b : Nat} (hb : 2 ≤ b) {l : List Nat} (h : ∀ x ∈ l, x < b) : trim l = dig b (val b l) := by
  induction l with
  | nil => rfl
  | cons x r ih =>
    have h1 := ih (fun y hy => h y (List.mem_cons_of_mem _ hy))
    have h2 := h x (List.mem_cons_self ..)
    simp only [val]
    have hv := val_trim b r
    unfold trim
    split
    · rename_i e
      rw [e] at hv
      simp only [val] at hv
      rw [← hv]
      split
      · subst_vars; rfl
      · rename_i hx
        have e1 : (x + b * 0) = x := by omega
        rw [e1, dig_pos hb hx, Nat.mod_eq_of_lt h2, Nat.div_eq_of_lt h2, dig_zero]
    · rename_i y s e
      have hne : val b r ≠ 0 := by
        intro h0
        rw [h0, dig_zero] at h1
        rw [h1] at e
        cases e
      have hn : x + b * val b r ≠ 0 := by
        have : 0 < b * val b r := Nat.mul_pos (by omega) (by omega)
        omega
      rw [dig_pos hb hn, Nat.add_mul_mod_self_left, Nat.mod_eq_of_lt h2, Nat.add_mul_div_left _ _ (by omega), Nat.div_eq_of_lt h2, Nat.zero_add, ← h1, e]

theorem dig_lt {b : Nat} (hb : 2 ≤ b) : ∀ (n : Nat), ∀ x ∈ dig b n, x < b := by
  intro n
  induction n using Nat.strongRecOn with
  | ind n ih =>
    intro x hx
    by_cases hn : n = 0
    · subst hn; simp [dig_zero] at hx
    · rw [dig_pos hb hn] at hx
      rcases List.mem_cons.1 hx with rfl | hx
      · exact Nat.mod_lt _ (by omega)
      · exact ih (n / b) (Nat.div_lt_self (by omega) hb) x hx

theorem val_dig {b : Nat} (hb : 2 ≤ b) : ∀ (n : Nat), val b (dig b n) = n := by
  intro n
  induction n using Nat.strongRecOn with
  | ind n ih =>
    by_cases hn : n = 0
    · subst hn; rfl
    · rw [dig_pos hb hn]
      simp only [val]
      rw [ih (n / b) (Nat.div_lt_self (by omega) hb)]
      exact Nat.mod_add_div n b

theorem trim_dig {b : Nat} (hb : 2 ≤ b) (n : Nat) : trim (dig b n) = dig b n := by
  rw [trim_eq_dig hb (dig_lt hb n), val_dig hb]

theorem dig_eq_nil {b : Nat} (hb : 2 ≤ b) {n : Nat} : dig b n = [] ↔ n = 0 := by
  constructor
  · intro h
    have := val_dig hb n
    rw [h] at this
    exact this.symm
  · rintro rfl; rfl

theorem dig_length_le {b : Nat} (hb : 2 ≤ b) {n k : Nat} (h : n < b ^ k) : (dig b n).length ≤ k := by
  induction k generalizing n with
  | zero => obtain rfl : n = 0 := by simp at h; omega
            simp [dig_zero]
  | succ k ih =>
    by_cases hn : n = 0
    · subst hn; simp [dig_zero]
    · rw [dig_pos hb hn, List.length_cons]
      have : n / b < b ^ k := Nat.div_lt_of_lt_mul (by rw [Nat.pow_succ] at h; rw [Nat.mul_comm]; exact h)
      have := ih this
      omega

end Go.Proofs.YtefcdclmabdmbaaGreatDoor

namespace Go.Proofs.YtefcdclmabdmbaaGreatDoor
open Go.RowKit

/-- The slice value with address A, length n and capacity c holds the 32-bit words l, in a block of D. -/
structure Wd (w : World) (D : Nat → Prop) (A : Option Addr) (n c : Nat) (l : List Nat) : Prop where
  len : l.length = n
  cap : n ≤ c
  room : c ≤ maxLen
  small : ∀ x ∈ l, x < 4294967296
  cells : 0 < n → ∃ b off, A = some ⟨b, off, none⟩ ∧ D b ∧ ∀ j, j < n → w.cell? ⟨b, off + j, none⟩ = some (.int .u32 (gw l j))

section
variable {w w' : World} {D D' : Nat → Prop} {A : Option Addr} {n c : Nat} {l : List Nat}
theorem Wd.mono (h : Wd w D A n c l) (hd : ∀ b, D b → b < w.heap.size → D' b) : Wd w D' A n c l :=
  ⟨h.len, h.cap, h.room, h.small, fun hn => by
    obtain ⟨b, off, e, hb, hc⟩ := h.cells hn
    exact ⟨b, off, e, hd b hb (cell_lt (hc 0 hn)), hc⟩⟩
/-- What keeps the blocks of D keeps the words. -/
theorem Wd.keep (h : Wd w D A n c l) (hk : ∀ b o, D b → b < w.heap.size → w'.cell? ⟨b, o, none⟩ = w.cell? ⟨b, o, none⟩) : Wd w' D A n c l :=
  ⟨h.len, h.cap, h.room, h.small, fun hn => by
    obtain ⟨b, off, e, hb, hc⟩ := h.cells hn
    have hlt := cell_lt (hc 0 hn)
    exact ⟨b, off, e, hb, fun j hj => (hk b _ hb hlt).trans (hc j hj)⟩⟩
theorem Wd.below (h : Wd w D A n c l) (hb : Below w.heap.size w w') : Wd w' D A n c l := h.keep fun _ _ _ hl => (bcell hb).1 _ _ hl
theorem Wd.alloc (h : Wd w D A n c l) (o : Obj) : Wd (w.alloc o) D A n c l := h.below ((Below.refl _ _).alloc (Nat.le_refl _) o)
theorem Wd.drewN (h : Wd w D A n c l) (m : Nat) : Wd (w.drewN m) D A n c l := h.keep fun _ _ _ _ => rfl
theorem Wd.drew (h : Wd w D A n c l) : Wd w.drew D A n c l := h.keep fun _ _ _ _ => rfl
theorem Wd.setCell (h : Wd w D A n c l) {p : Addr} (hp : ¬ D p.block) (u : Value) : Wd (w.setCell p u) D A n c l :=
  h.keep fun b o hd _ => World.cell?_setCell_other w p ⟨b, o, none⟩ u (fun e => hp (by subst e; exact hd))
theorem Wd.nil (c : Nat) (hc : c ≤ maxLen) : Wd w D A 0 c [] := ⟨rfl, Nat.zero_le _, hc, fun _ h => (by cases h), fun h => absurd h (by omega)⟩
theorem Wd.take (h : Wd w D A n c l) {k : Nat} (hk : k ≤ n) : Wd w D A k k (l.take k) :=
  ⟨by rw [List.length_take, h.len]; omega, Nat.le_refl _, by have := h.room; have := h.cap; omega, fun x hx => h.small x (List.mem_of_mem_take hx), fun hn => by
    obtain ⟨b, off, e, hb, hc⟩ := h.cells (by omega)
    exact ⟨b, off, e, hb, fun j hj => by rw [hc j (by omega), gw_take hj]⟩⟩
theorem Wd.trim (h : Wd w D A n c l) : Wd w D A (trim l).length (trim l).length (trim l) := by
  have h1 := h.take (k := (Go.Proofs.YtefcdclmabdmbaaGreatDoor.trim l).length) (by rw [← h.len]; exact trim_length_le l)
  rwa [← trim_eq_take] at h1
end

/-- trimmed: words without zeros at the end, in the same memory. -/
theorem trimmed_any {D : Nat → Prop} {A : Option Addr} {n c : Nat} {l : List Nat} {w : World} (h : Wd w D A n c l) :
    Calls Tryz.prog 130 #[.slice A n c] w fun e w' => e = .returned (.slice A (trim l).length (trim l).length) ∧ w = w' := by
  have hm := h.room
  have hc := h.cap
  unfold maxLen at hm
  go_enter Tryz.func130, Tryz.ntmps130
  go_wp2
  go_loop [3] (fun i => ∃ k : Nat, k ≤ n ∧ i = .int .i64 k ∧ trim l = trim (l.take k)) (fun i => (intOf i).toNat)
  case atStart => exact ⟨n, Nat.le_refl _, rfl, by rw [List.take_of_length_le (by rw [h.len]; exact Nat.le_refl _)]⟩
  case round =>
    obtain ⟨k, hk, rfl, ht⟩ := hrel
    have HT := Lib.hid ht; clear ht
    rcases Nat.eq_zero_or_pos k with h0 | h0
    · subst h0
      go_wp2
      go_ret
      have e := HT.out
      simp only [List.take_zero] at e
      simp [e, trim]
    · obtain ⟨j, rfl⟩ : ∃ j, k = j + 1 := ⟨k - 1, by omega⟩
      obtain ⟨b, off, rfl, hb, hcell⟩ := h.cells (by omega)
      have h1 := hcell j (by omega)
      clear hcell
      have hl : j < l.length := by rw [h.len]; omega
      by_cases hz : gw l j = 0
      · have hz' : ((gw l j : Int) == 0) = true := by simp [hz]
        have HZ := Lib.hid hz; clear hz
        go_wp2
        go_round
        case rel => exact ⟨j, by omega, rfl, by rw [HT.out, trim_take_zero hl HZ.out]⟩
        case measure => simp [intOf]
      · have hz' : ((gw l j : Int) == 0) = false := by simpa using hz
        have HZ := Lib.hid hz; clear hz
        go_wp2
        go_ret
        have e := HT.out
        rw [trim_take_ne hl HZ.out] at e
        have e2 : (trim l).length = j + 1 := by rw [e, List.length_take]; omega
        simp [e2]

/-- A slice value that holds words. -/
def WdV (w : World) (D : Nat → Prop) (v : Value) (l : List Nat) : Prop := ∃ A c, v = .slice A l.length c ∧ Wd w D A l.length c l

theorem Wd.v {w : World} {D : Nat → Prop} {A : Option Addr} {n c : Nat} {l : List Nat} (h : Wd w D A n c l) : WdV w D (.slice A n c) l := by
  have := h.len
  subst this
  exact ⟨A, c, rfl, h⟩

/-- An array of words. -/
def WArr (w : World) (g : Nat) (l : List Nat) : Prop := Arr w g 136 (l.map fun x : Nat => Value.int .u32 (x : Int))
section
variable {w w' : World} {g : Nat} {l : List Nat}
theorem WArr.cell (h : WArr w g l) {i : Nat} (hi : i < l.length) : w.cell? ⟨g, i, none⟩ = some (.int .u32 (gw l i)) := by
  rw [Arr.cell h, List.getElem?_map, gw_lt hi]; rfl
theorem WArr.frozen (h : WArr w g l) (i : Nat) : w.frozen? ⟨g, i, none⟩ = false := Arr.frozen h i
theorem WArr.set_ (h : WArr w g l) (i x : Nat) : WArr (w.setCell ⟨g, i, none⟩ (.int .u32 (x : Int))) g (l.set i x) := by
  have := Arr.set_ h i (.int .u32 (x : Int))
  unfold WArr
  rwa [List.map_set]
theorem WArr.wd (h : WArr w g l) (hs : ∀ x ∈ l, x < 4294967296) (hm : l.length ≤ maxLen) {D : Nat → Prop} (hd : D g) : Wd w D (some ⟨g, 0, none⟩) l.length l.length l :=
  ⟨rfl, Nat.le_refl _, hm, hs, fun _ => ⟨g, 0, rfl, hd, fun j hj => by rw [Nat.zero_add]; exact h.cell hj⟩⟩
theorem WArr.made {n : Nat} (h : Arr w g 136 (madeCells (Value.int .u32 0).cells (n * 1)).toList) : WArr w g (List.replicate n 0) := by
  unfold WArr
  rw [List.map_replicate]
  have e := toList_madeCells_one (.int .u32 0) n
  rw [Nat.mul_one] at h
  rw [show (Value.int .u32 0).cells = #[Value.int .u32 0] from rfl, e] at h
  exact h
end

theorem info_u32 : (Tryz.prog.info? 136).map (fun i => (i.zero, i.size, i.bytes)) = some (some (.int .u32 0), 1, 4) := by kernel_rfl

/-- words.at: a word, 0 behind the end. -/
theorem at_any {D : Nat → Prop} {A : Option Addr} {n c : Nat} {l : List Nat} {w : World} (h : Wd w D A n c l) (i : Int) (h0 : 0 ≤ i) :
    Calls Tryz.prog 131 #[.slice A n c, .int .i64 i] w fun e w' => e = .returned (.int .u64 (gw l i.toNat)) ∧ w = w' := by
  obtain ⟨j, rfl⟩ := Int.eq_ofNat_of_zero_le h0
  rw [Int.toNat_natCast]
  have hl := h.len
  rcases Nat.lt_or_ge j n with hj | hj
  · obtain ⟨b, off, rfl, hb, hcell⟩ := h.cells (by omega)
    have h1 := hcell j hj
    have h2 := gw_bound h.small (by omega) j
    clear hcell
    go_enter Tryz.func131, Tryz.ntmps131
    go_wp2
    go_ret
    simp
  · have hz := gw_ge (l := l) (j := j) (by omega)
    rw [hz]
    clear hz hl
    go_enter Tryz.func131, Tryz.ntmps131
    go_wp2
    go_ret
    simp

end Go.Proofs.YtefcdclmabdmbaaGreatDoor

namespace Go.Proofs.YtefcdclmabdmbaaGreatDoor
open Go.RowKit

/-- The slice A, m, .. holds the cells news. -/
def Src (w : World) (size : Nat) (A : Option Addr) (m : Nat) (news : List Value) : Prop :=
  news.length = m * size ∧ (0 < m → ∃ ad, A = some ad ∧ ∀ j u, news[j]? = some u → w.cell? (ad.add j) = some u)

section
variable {P : Program} (w : World)

theorem run_append_types (t t' ty e e' : TypeId) (ht : P.underlying t = some (.slice e)) (ht' : P.underlying t' = some (.slice e')) (B : Option Addr) (n k : Nat) (x : Value) :
    (Builtin.append_ #[t, t'] ty #[.slice B n k, x]).run P w = (Builtin.append_ #[t, t] ty #[.slice B n k, x]).run P w := by
  simp [Builtin.append_, run_underlying ht, run_underlying ht']

theorem run_append_of_nil (base : Nat) (t ty e : TypeId) (i : TypeInfo) (size : Nat) (ht : P.underlying t = some (.slice e)) (hi : P.info? e = some i)
    (v : Value) (n : Nat) (xs : List Value) (hown : w.ownsRow base e size v n xs) (c : Nat) : (Builtin.append_ #[t, t] ty #[v, .slice none 0 c]).run P w = .ok v w := by
  rcases hown.2 with ⟨rfl, rfl⟩ | ⟨g, cap, cur, rfl, _, _, hnc, _⟩
  · simp [Builtin.append_, run_underlying ht, sizeOf, typeInfo, hi, Builtin.lenOf, Builtin.firstCells]
  · simp [Builtin.append_, run_underlying ht, sizeOf, typeInfo, hi, Builtin.lenOf, Builtin.firstCells, hnc, storeCells]

theorem run_app (base : Nat) (t t' ty e e' : TypeId) (z : Value) (size bytes : Nat) (ht : P.underlying t = some (.slice e)) (ht' : P.underlying t' = some (.slice e'))
    (hinfo : (P.info? e).map (fun i => (i.zero, i.size, i.bytes)) = some (some z, size, bytes)) (hzs : z.cells.size = size) (hsz : 0 < size)
    (v : Value) (n : Nat) (xs : List Value) (hown : w.ownsRow base e size v n xs)
    (A : Option Addr) (m c : Nat) (news : List Value) (hr : Src w size A m news) (h1 : ∀ u ∈ news, u.oneCell' = true)
    (h63 : n + m ≤ maxLen) (hbytes : (n + m) * bytes ≤ 140737488355328) (hbase : base ≤ w.heap.size) :
    ∃ v' w', (Builtin.append_ #[t, t'] ty #[v, .slice A m c]).run P w = .ok v' w' ∧ w'.ownsRow base e size v' (n + m) (xs ++ news) ∧ w.grownBy w' v.ownBlock ∧
      (v'.ownBlock = v.ownBlock ∨ v'.ownBlock = some w.heap.size) := by
  have hty : (Builtin.append_ #[t, t'] ty #[v, .slice A m c]).run P w = (Builtin.append_ #[t, t] ty #[v, .slice A m c]).run P w := by
    rcases hown.2 with ⟨rfl, rfl⟩ | ⟨g, cap, cur, rfl, _⟩ <;> exact run_append_types w t t' ty e e' ht ht' _ _ _ _
  rw [hty]
  obtain ⟨i, hi, hz, hs, hby⟩ := info_parts hinfo
  rcases A with _ | ad
  · have hm : m = 0 := by
      rcases Nat.eq_zero_or_pos m with h0 | h0
      · exact h0
      · obtain ⟨ad, h, _⟩ := hr.2 h0
        cases h
    subst hm
    have hn : news = [] := List.eq_nil_of_length_eq_zero (by simpa using hr.1)
    subst hn
    exact ⟨v, w, run_append_of_nil w base t ty e i size ht hi v n xs hown c, by simpa using hown, World.grownBy.refl w _, .inl rfl⟩
  · have hcells : ∀ j u, news[j]? = some u → w.cell? (ad.add j) = some u := by
      intro j u hu
      rcases Nat.eq_zero_or_pos m with h0 | h0
      · subst h0
        have hn : news = [] := List.eq_nil_of_length_eq_zero (by simpa using hr.1)
        subst hn
        simp at hu
      · obtain ⟨ad', h, hc⟩ := hr.2 h0
        injection h with h
        subst h
        exact hc j u hu
    obtain ⟨v', w', hrun, h2, h3, _, h5⟩ := run_append_own_at (P := P) w base t ty e i z size bytes ht hi hz hs hby hzs hsz v n xs hown ad m c news hr.1 hcells h1 h63 hbytes hbase
    exact ⟨v', w', hrun, h2, h3, h5⟩

theorem wp_app {o : Oper} {a : Act} {K : Act → World → Prop} {Q : Exit → Act → World → Prop} (s x : Operand) (t t' : TypeId)
    (ho : o.op = .call { callee := .builtin .append, args := #[s, x], argTypes := #[t, t'] })
    (base : Nat) (e e' : TypeId) (z : Value) (size bytes : Nat) (ht : P.underlying t = some (.slice e)) (ht' : P.underlying t' = some (.slice e'))
    (hinfo : (P.info? e).map (fun i => (i.zero, i.size, i.bytes)) = some (some z, size, bytes)) (hzs : z.cells.size = size) (hsz : 0 < size)
    (v : Value) (n : Nat) (xs : List Value) (hs : a.eval s = v) (hown : w.ownsRow base e size v n xs)
    (A : Option Addr) (m c : Nat) (news : List Value) (hx : a.eval x = .slice A m c) (hr : Src w size A m news) (h1 : ∀ u ∈ news, u.oneCell' = true)
    (h63 : n + m ≤ maxLen) (hbytes : (n + m) * bytes ≤ 140737488355328) (hbase : base ≤ w.heap.size)
    (h : ∀ v' w', w'.ownsRow base e size v' (n + m) (xs ++ news) → w.grownBy w' v.ownBlock → (v'.ownBlock = v.ownBlock ∨ v'.ownBlock = some w.heap.size) → K (a.put o.dst v') w') : o.wp P a w K Q := by
  obtain ⟨v', w', hrun, h2, h3, h4⟩ := run_app (P := P) w base t t' o.type e e' z size bytes ht ht' hinfo hzs hsz v n xs hown A m c news hr h1 h63 hbytes hbase
  unfold Oper.wp execOp
  simp only [ho, resolve, invoke, builtin, Sem.run_bind, Sem.run_pure, Result.andThen_ok, List.map_toArray, List.map_cons, List.map_nil, hs, hx, hrun]
  exact h v' w' h2 h3 h4

theorem wpList_app {ops : Array Oper} {rest : List Oper} {o : Oper} {a : Act} {Q : Exit → Act → World → Prop} (hgd : o.guard = none) (s x : Operand) (t t' : TypeId)
    (ho : o.op = .call { callee := .builtin .append, args := #[s, x], argTypes := #[t, t'] })
    (base : Nat) (e e' : TypeId) (z : Value) (size bytes : Nat) (ht : P.underlying t = some (.slice e)) (ht' : P.underlying t' = some (.slice e'))
    (hinfo : (P.info? e).map (fun i => (i.zero, i.size, i.bytes)) = some (some z, size, bytes)) (hzs : z.cells.size = size) (hsz : 0 < size)
    (v : Value) (n : Nat) (xs : List Value) (hs : a.eval s = v) (hown : w.ownsRow base e size v n xs)
    (A : Option Addr) (m c : Nat) (news : List Value) (hx : a.eval x = .slice A m c) (hr : Src w size A m news) (h1 : ∀ u ∈ news, u.oneCell' = true)
    (h63 : n + m ≤ maxLen) (hbytes : (n + m) * bytes ≤ 140737488355328) (hbase : base ≤ w.heap.size)
    (h : ∀ v' w', w'.ownsRow base e size v' (n + m) (xs ++ news) → w.grownBy w' v.ownBlock → (v'.ownBlock = v.ownBlock ∨ v'.ownBlock = some w.heap.size) → wpList P ops Q rest (a.put o.dst v') w') : wpList P ops Q (o :: rest) a w :=
  wpList_plain hgd fun _ hK => wp_app w s x t t' ho base e e' z size bytes ht ht' hinfo hzs hsz v n xs hs hown A m c news hx hr h1 h63 hbytes hbase fun v' w' h2 h3 h4 => hK _ _ (h v' w' h2 h3 h4)

end

theorem below_of_grown {w w' : World} (h : w.grownBy w' none) : Below w.heap.size w w' :=
  ⟨h.os, h.tape, h.output, h.size, fun k hk => h.block k hk (by simp)⟩

/-- What an own row holds, cell by cell. -/
theorem own_cells {w : World} {base : Nat} {e : TypeId} {size n : Nat} {v : Value} {xs : List Value} (h : w.ownsRow base e size v n xs) (hn : 0 < n) :
    ∃ g cap, v = .slice (some ⟨g, 0, none⟩) n cap ∧ base ≤ g ∧ n ≤ cap ∧ cap ≤ maxLen ∧ (∀ i, w.frozen? ⟨g, i, none⟩ = false) ∧ ∀ j u, xs[j]? = some u → w.cell? ⟨g, j, none⟩ = some u := by
  rcases h.2 with ⟨rfl, rfl⟩ | ⟨g, cap, cur, rfl, hb, hh, hnc, hm, hsz, ht⟩
  · omega
  · refine ⟨g, cap, rfl, hb, hnc, hm, fun i => by simp [World.frozen?, hh], fun j u hu => ?_⟩
    have := h.cells (g := g) rfl j u hu
    unfold Addr.add at this
    split at this
    · rename_i h0; subst h0; exact this
    · simpa using this
theorem own_slice {w : World} {base : Nat} {e : TypeId} {size n : Nat} {v : Value} {xs : List Value} (h : w.ownsRow base e size v n xs) :
    ∃ A c, v = .slice A n c ∧ n ≤ c ∧ c ≤ maxLen := by
  rcases h.2 with ⟨rfl, rfl⟩ | ⟨g, cap, cur, rfl, hb, hh, hnc, hm, hsz, ht⟩
  · exact ⟨none, 0, rfl, by omega, by unfold maxLen; omega⟩
  · exact ⟨_, _, rfl, hnc, hm⟩

section
variable {P : Program} (w : World)
/-- append([]T(nil), src...): a copy in new memory. -/
theorem wpList_app_nil {ops : Array Oper} {rest : List Oper} {o : Oper} {a : Act} {Q : Exit → Act → World → Prop} (hgd : o.guard = none) (s x : Operand) (t t' : TypeId)
    (ho : o.op = .call { callee := .builtin .append, args := #[s, x], argTypes := #[t, t'] })
    (e e' : TypeId) (z : Value) (size bytes : Nat) (ht : P.underlying t = some (.slice e)) (ht' : P.underlying t' = some (.slice e'))
    (hinfo : (P.info? e).map (fun i => (i.zero, i.size, i.bytes)) = some (some z, size, bytes)) (hzs : z.cells.size = size) (hsz : 0 < size)
    (hs : a.eval s = .slice none 0 0)
    (A : Option Addr) (m c : Nat) (news : List Value) (hx : a.eval x = .slice A m c) (hr : Src w size A m news) (h1 : ∀ u ∈ news, u.oneCell' = true)
    (h63 : m ≤ maxLen) (hbytes : m * bytes ≤ 140737488355328)
    (h : ∀ A' c' w', w'.ownsRow w.heap.size e size (.slice A' m c') m news → Below w.heap.size w w' → wpList P ops Q rest (a.put o.dst (.slice A' m c')) w') : wpList P ops Q (o :: rest) a w := by
  refine wpList_app w hgd s x t t' ho w.heap.size e e' z size bytes ht ht' hinfo hzs hsz (.slice none 0 0) 0 [] hs (World.ownsRow_nil _ _ _ _) A m c news hx hr h1 (by omega) (by rw [Nat.zero_add]; exact hbytes) (Nat.le_refl _) ?_
  intro v' w' hown hg _
  rw [Nat.zero_add, List.nil_append] at hown
  obtain ⟨A', c', rfl, _, _⟩ := own_slice hown
  exact h A' c' w' hown (below_of_grown hg)
end

theorem grownBy_trans {a b c : World} {row : Option Nat} (h : a.grownBy b row) (k : b.grownBy c row) : a.grownBy c row := World.grownBy.trans h k

theorem src_block {w : World} {g : Nat} {t : TypeId} {cs : List Value} (h : w.heap[g]? = some (.cells cs.toArray t (0, 0))) (m : Nat) (size : Nat) (hl : cs.length = m * size) : Src w size (some ⟨g, 0, none⟩) m cs := by
  refine ⟨hl, fun _ => ⟨_, rfl, fun j u hu => ?_⟩⟩
  have hc : w.cell? ⟨g, j, none⟩ = some u := by
    rw [cell_of_row w g j _ t (0, 0) h]
    simpa using hu
  unfold Addr.add
  split
  · rename_i h0; subst h0; exact hc
  · simpa using hc

section
variable {P : Program} (w0 : World)
/-- append(own, x): x was put into a new block just before. -/
theorem wpList_push {ops : Array Oper} {rest : List Oper} {o : Oper} {a : Act} {Q : Exit → Act → World → Prop} (hgd : o.guard = none) (s x : Operand) (t t' : TypeId)
    (ho : o.op = .call { callee := .builtin .append, args := #[s, x], argTypes := #[t, t'] })
    (base : Nat) (e e' : TypeId) (z : Value) (size bytes : Nat) (ht : P.underlying t = some (.slice e)) (ht' : P.underlying t' = some (.slice e'))
    (hinfo : (P.info? e).map (fun i => (i.zero, i.size, i.bytes)) = some (some z, size, bytes)) (hzs : z.cells.size = size) (hsz : 0 < size)
    (v : Value) (n : Nat) (xs : List Value) (hs : a.eval s = v) (hown : w0.ownsRow base e size v n xs)
    (cs : List Value) (hx : a.eval x = .slice (some ⟨w0.heap.size, 0, none⟩) 1 1) (hcs : cs.length = size) (h1 : ∀ u ∈ cs, u.oneCell' = true)
    (h63 : n + 1 ≤ maxLen) (hbytes : (n + 1) * bytes ≤ 140737488355328) (hbase : base ≤ w0.heap.size)
    (h : ∀ A' c' w', w'.ownsRow base e size (.slice A' (n + 1) c') (n + 1) (xs ++ cs) → w0.grownBy w' v.ownBlock → Below base w0 w' → wpList P ops Q rest (a.put o.dst (.slice A' (n + 1) c')) w') :
    wpList P ops Q (o :: rest) a (w0.alloc (.cells cs.toArray e)) := by
  refine wpList_app _ hgd s x t t' ho base e e' z size bytes ht ht' hinfo hzs hsz v n xs hs (hown.alloc _) _ 1 1 cs hx (src_block (heap_alloc_new w0 _) 1 size (by omega)) h1 h63 hbytes (by simp; omega) ?_
  intro v' w' hown' hg _
  obtain ⟨A', c', rfl, _, _⟩ := own_slice hown'
  have hg0 : w0.grownBy w' v.ownBlock := grownBy_trans (World.grownBy_alloc w0 _ _) hg
  exact h A' c' w' hown' hg0 ((Below.refl _ _).grown hg0 hbase (fun k hk => (hown.lt k hk).1))
end

end Go.Proofs.YtefcdclmabdmbaaGreatDoor

namespace Go.Proofs.YtefcdclmabdmbaaGreatDoor
open Go.RowKit

theorem val_take_succ (b : Nat) (l : List Nat) (k : Nat) : val b (l.take (k + 1)) = val b (l.take k) + b ^ k * gw l k := by
  rcases Nat.lt_or_ge k l.length with h | h
  · rw [take_succ_gw h, val_snoc, List.length_take, Nat.min_eq_left (by omega)]
  · rw [List.take_of_length_le (by omega), List.take_of_length_le (by omega), gw_ge h]; simp


theorem plus_step {B x a b s y q : Nat} (k : Nat) (hs : s = a + b + x) (hy : y = s % B) (hq : q = s / B) (p1 p2 p3 : Nat) (hi : p1 + B ^ k * x = p2 + p3) :
    p1 + B ^ k * y + B ^ (k + 1) * q = p2 + B ^ k * a + (p3 + B ^ k * b) := by
  have e : B ^ (k + 1) * q = B ^ k * (B * q) := by rw [Nat.pow_succ, Nat.mul_assoc]
  have e2 : y + B * q = s := by rw [hy, hq]; exact Nat.mod_add_div s B
  rw [e, Nat.add_assoc, ← Nat.mul_add, e2, hs, Nat.mul_add, Nat.mul_add]
  omega

theorem set_take_ge {l : List Nat} {k x : Nat} : (l.set k x).take k = l.take k := by
  rw [List.take_set_of_le (Nat.le_refl _)]
theorem gw_set_self {l : List Nat} {k x : Nat} (h : k < l.length) : gw (l.set k x) k = x := by
  simp [gw, List.getD, h]

set_option maxHeartbeats 400000 in
theorem plus_any {D : Nat → Prop} {A A' : Option Addr} {n c n' c' : Nat} {l l' : List Nat} {w : World} (h : Wd w D A n c l) (h' : Wd w D A' n' c' l') (hn : n ≤ 1000000000000) (hn' : n' ≤ 1000000000000) :
    Calls Tryz.prog 58 #[.slice A n c, .slice A' n' c'] w (Gives w fun w' v => WdV w' (w.heap.size ≤ ·) v (dig 4294967296 (val 4294967296 l + val 4294967296 l'))) := by
  obtain ⟨N, hN⟩ : ∃ N, N = max n n' + 1 := ⟨_, rfl⟩
  have hN1 : n < N := by omega
  have hN2 : n' < N := by omega
  have hN3 : N ≤ 1000000000001 := by omega
  have HN := Lib.hid hN
  clear hN
  rcases Nat.lt_or_ge n n' with hlt | hge
  all_goals
    go_enter Tryz.func58, Tryz.ntmps58
    go_wp2_with (at_make; go_must (refine wpList_make_arr _ rfl _ _ _ rfl 136 (.int .u32 0) 1 4 Tryz.underlying89 info_u32 _ _ _ _ N rfl rfl (by have := HN.out; omega) (by have := HN.out; omega) (by omega) (by omega) ?_); intro w1 ha hb hz)
    have HZ := Lib.hid hz
    clear hz
    go_loopw [6, 18] (fun cr i wr => ∃ (k x : Nat) (out : List Nat), k ≤ N ∧ i = .int .i64 k ∧ cr = .int .u64 x ∧ x ≤ 1 ∧ WArr wr w.heap.size out ∧ Hid (out.length = N) ∧ (∀ y ∈ out, y < 4294967296) ∧ Below w.heap.size w wr ∧ 
       Hid (val 4294967296 (out.take k) + 4294967296 ^ k * x = val 4294967296 (l.take k) + val 4294967296 (l'.take k))) (fun _ i _ => N - (intOf i).toNat)
    case atStart => 
      exact ⟨0, 0, List.replicate N 0, by omega, rfl, rfl, by omega, WArr.made ha, List.length_replicate, fun y hy => by rw [List.eq_of_mem_replicate hy]; omega, hb, by simp [Hid, val]⟩
    case round =>
      obtain ⟨k, x, out, hk, rfl, rfl, hx, harr, hlen, hsm, hbl, hinv⟩ := hrel
      have hw1 := h.below hbl
      have hw2 := h'.below hbl
      have g1 := gw_bound h.small (by omega) k
      have g2 := gw_bound h'.small (by omega) k
      rcases Nat.lt_or_ge k N with hkN | hkN
      · have hcell := harr.cell (i := k) (by rw [hlen.out]; exact hkN)
        have hfz := harr.frozen k
        go_wp2_with (first 
          | (go_at_call 131; ((with_reducible refine (at_any hw1 _ (by omega)).mono ?_); rintro e w' ⟨rfl, rfl⟩))
          | (go_at_call 131; ((with_reducible refine (at_any hw2 _ (by omega)).mono ?_); rintro e w' ⟨rfl, rfl⟩)))
        go_roundw
        case rel =>
          have e : ((gw l k : Int) + gw l' k + x) = ((gw l k + gw l' k + x : Nat) : Int) := by omega
          rw [e]
          generalize hs : gw l k + gw l' k + x = s
          refine ⟨k + 1, s / 4294967296, out.set k (s % 4294967296), by omega, by go_num, by go_num, by omega, by simpa using harr.set_ k (s % 4294967296), by simpa [Hid] using hlen, fun y hy => ?_, hbl.setCell (Nat.le_refl _) _, ?_⟩
          · rcases List.mem_or_eq_of_mem_set hy with hy | rfl
            · exact hsm y hy
            · omega
          · show _ = _
            rw [val_take_succ, val_take_succ, val_take_succ, set_take_ge, gw_set_self (by rw [hlen.out]; exact hkN)]
            exact plus_step k hs.symm rfl rfl _ _ _ hinv.out
        case measure => simp [intOf]; omega
      · obtain rfl : k = N := by omega
        have hlen' := hlen.out
        have hwd := harr.wd hsm (by rw [hlen']; unfold maxLen; omega) (D := (w.heap.size ≤ ·)) (Nat.le_refl _)
        rw [hlen'] at hwd
        clear hlen'
        go_wp2_with (go_at_call 130; ((with_reducible refine (trimmed_any hwd).mono ?_); rintro e w' ⟨rfl, rfl⟩))
        go_ret
        refine ⟨_, rfl, ?_, hbl⟩
        have hv := hinv.out
        have hl1 : k = out.length := hlen.out.symm
        rw [List.take_of_length_le (by omega), List.take_of_length_le (by rw [h.len]; omega), List.take_of_length_le (by rw [h'.len]; omega)] at hv
        have hx0 : x = 0 := by
          rcases Nat.eq_zero_or_pos x with h0 | h0
          · exact h0
          · exfalso
            have b1 := val_lt h.small
            have b2 := val_lt h'.small
            rw [h.len] at b1
            rw [h'.len] at b2
            have c1 : 4294967296 ^ n ≤ 4294967296 ^ (k - 1) := Nat.pow_le_pow_right (by omega) (by omega)
            have c2 : 4294967296 ^ n' ≤ 4294967296 ^ (k - 1) := Nat.pow_le_pow_right (by omega) (by omega)
            have c3 : 4294967296 ^ k = 4294967296 ^ (k - 1) * 4294967296 := by rw [← Nat.pow_succ]; congr 1; omega
            have c4 : 4294967296 ^ k * 1 ≤ 4294967296 ^ k * x := Nat.mul_le_mul_left _ h0
            omega
        rw [hx0, Nat.mul_zero, Nat.add_zero] at hv
        rw [← hv, ← trim_eq_dig (by omega) hsm]
        exact hwd.trim.v

end Go.Proofs.YtefcdclmabdmbaaGreatDoor

namespace Go.Proofs.YtefcdclmabdmbaaGreatDoor
open Go.RowKit

theorem val_split (b : Nat) (l : List Nat) (k : Nat) : val b l = val b (l.take k) + b ^ k * val b (l.drop k) := by
  rcases Nat.lt_or_ge k l.length with h | h
  · have e := val_append b (l.take k) (l.drop k)
    rw [List.take_append_drop, List.length_take, Nat.min_eq_left (by omega)] at e
    exact e
  · rw [List.take_of_length_le h, List.drop_of_length_le h]; simp [val]

theorem val_take_of_lt {b : Nat} {l : List Nat} {k : Nat} (h : val b l < b ^ k) : val b (l.take k) = val b l := by
  have e := val_split b l k
  have : val b (l.drop k) = 0 := by
    rcases Nat.eq_zero_or_pos (val b (l.drop k)) with h0 | h0
    · exact h0
    · have : b ^ k * 1 ≤ b ^ k * val b (l.drop k) := Nat.mul_le_mul_left _ h0
      omega
  rw [this] at e
  omega

theorem sub_step (a b x : Nat) (ha : a < 4294967296) (hb : b < 4294967296) (hx : x ≤ 1) :
    ∃ y q : Nat, IntKind.u64.wrap (IntKind.u64.wrap ((a : Int) - b) - x) / 9223372036854775808 = (q : Int) ∧ IntKind.u64.wrap (IntKind.u64.wrap ((a : Int) - b) - x) % 4294967296 = (y : Int) ∧
      y < 4294967296 ∧ q ≤ 1 ∧ y + b + x = a + 4294967296 * q := by
  have hw : IntKind.u64.wrap (IntKind.u64.wrap ((a : Int) - b) - x) = ((a : Int) - b - x) % 18446744073709551616 := by
    simp [IntKind.wrap, IntKind.bits, IntKind.signed]
  rw [hw]
  rcases Nat.lt_or_ge a (b + x) with h | h
  · refine ⟨a + 4294967296 - b - x, 1, ?_, ?_, ?_, ?_, ?_⟩ <;> omega
  · refine ⟨a - b - x, 0, ?_, ?_, ?_, ?_, ?_⟩ <;> omega

theorem minus_step {B x a b y q : Nat} (k : Nat) (p1 p2 p3 : Nat) (hi : p1 + p2 = p3 + B ^ k * x) (e : y + b + x = a + B * q) :
    p1 + B ^ k * y + (p2 + B ^ k * b) = p3 + B ^ k * a + B ^ (k + 1) * q := by
  have e1 : B ^ (k + 1) * q = B ^ k * (B * q) := by rw [Nat.pow_succ, Nat.mul_assoc]
  have e2 : B ^ k * (y + b + x) = B ^ k * (a + B * q) := by rw [e]
  rw [Nat.mul_add, Nat.mul_add, Nat.mul_add] at e2
  rw [e1]
  omega

set_option maxHeartbeats 400000 in
theorem minus_any {D : Nat → Prop} {A A' : Option Addr} {n c n' c' : Nat} {l l' : List Nat} {w : World} (h : Wd w D A n c l) (h' : Wd w D A' n' c' l') (hn : n ≤ 1000000000000) (hle : val 4294967296 l' ≤ val 4294967296 l) :
    Calls Tryz.prog 60 #[.slice A n c, .slice A' n' c'] w (Gives w fun w' v => WdV w' (w.heap.size ≤ ·) v (dig 4294967296 (val 4294967296 l - val 4294967296 l'))) := by
  have HLE := Lib.hid hle
  clear hle
  go_enter Tryz.func60, Tryz.ntmps60
  go_wp2_with (at_make; go_must (refine wpList_make_arr _ rfl _ _ _ rfl 136 (.int .u32 0) 1 4 Tryz.underlying89 info_u32 _ _ _ _ n rfl rfl (by omega) (by omega) (by omega) (by omega) ?_); intro w1 ha hb hz)
  have HZ := Lib.hid hz
  clear hz
  go_loopw [6, 14] (fun cr i wr => ∃ (k x : Nat) (out : List Nat), k ≤ n ∧ i = .int .i64 k ∧ cr = .int .u64 x ∧ x ≤ 1 ∧ WArr wr w.heap.size out ∧ Hid (out.length = n) ∧ (∀ y ∈ out, y < 4294967296) ∧ Below w.heap.size w wr ∧ 
       Hid (val 4294967296 (out.take k) + val 4294967296 (l'.take k) = val 4294967296 (l.take k) + 4294967296 ^ k * x)) (fun _ i _ => n - (intOf i).toNat)
  case atStart =>
    exact ⟨0, 0, List.replicate n 0, by omega, rfl, rfl, by omega, WArr.made ha, List.length_replicate, fun y hy => by rw [List.eq_of_mem_replicate hy]; omega, hb, by simp [Hid, val]⟩
  case round =>
    obtain ⟨k, x, out, hk, rfl, rfl, hx, harr, hlen, hsm, hbl, hinv⟩ := hrel
    have hw1 := h.below hbl
    have hw2 := h'.below hbl
    have g1 := gw_bound h.small (by omega) k
    have g2 := gw_bound h'.small (by omega) k
    rcases Nat.lt_or_ge k n with hkN | hkN
    · have hcell := harr.cell (i := k) (by rw [hlen.out]; exact hkN)
      have hfz := harr.frozen k
      obtain ⟨b, off, rfl, hbD, hcl⟩ := hw1.cells (by omega)
      have hc1 := hcl k hkN
      have hu1 : IntKind.u64.wrap (gw l k : Int) = gw l k := IntWalk.u64_in _ (by omega)
      clear hcl
      go_wp2_with fail
      go_quiet ((go_at_call 131; go_must (exact quiet_left (at_any (hw2.drewN _) (k : Int) (by omega)))))
      go_wp2_with fail
      go_roundw
      case rel =>
        obtain ⟨y, q, e1, e2, e3, e4, e5⟩ := sub_step (gw l k) (gw l' k) x g1 g2 hx
        rw [e1, e2]
        refine ⟨k + 1, q, out.set k y, by omega, by go_num, rfl, e4, harr.set_ k y, by simpa [Hid] using hlen, fun z hz => ?_, (below_drewN' hbl nq).setCell (Nat.le_refl _) _, ?_⟩
        · rcases List.mem_or_eq_of_mem_set hz with hz | rfl
          · exact hsm z hz
          · exact e3
        · show _ = _
          rw [val_take_succ, val_take_succ, val_take_succ, set_take_ge, gw_set_self (by rw [hlen.out]; exact hkN)]
          exact minus_step k _ _ _ hinv.out e5
      case measure => simp [intOf]; omega
    · obtain rfl : k = n := by omega
      have hlen' := hlen.out
      have hwd := harr.wd hsm (by rw [hlen']; unfold maxLen; omega) (D := (w.heap.size ≤ ·)) (Nat.le_refl _)
      rw [hlen'] at hwd
      clear hlen'
      go_wp2_with (go_at_call 130; ((with_reducible refine (trimmed_any hwd).mono ?_); rintro e w' ⟨rfl, rfl⟩))
      go_ret
      refine ⟨_, rfl, ?_, hbl⟩
      have hv := hinv.out
      have hl1 : k = out.length := hlen.out.symm
      have b1 := val_lt h.small
      rw [h.len] at b1
      have b2 := val_lt hsm
      rw [← hl1] at b2
      have hle := HLE.out
      rw [List.take_of_length_le (by omega), List.take_of_length_le (l := l) (by rw [h.len]; omega), val_take_of_lt (l := l') (by omega)] at hv
      have hx0 : x = 0 := by
        rcases Nat.eq_zero_or_pos x with h0 | h0
        · exact h0
        · exfalso
          have c4 : 4294967296 ^ k * 1 ≤ 4294967296 ^ k * x := Nat.mul_le_mul_left _ h0
          omega
      rw [hx0, Nat.mul_zero, Nat.add_zero] at hv
      rw [show val 4294967296 l - val 4294967296 l' = val 4294967296 out from by omega, ← trim_eq_dig (by omega) hsm]
      exact hwd.trim.v

end Go.Proofs.YtefcdclmabdmbaaGreatDoor

namespace Go.Proofs.YtefcdclmabdmbaaGreatDoor
open Go.RowKit

theorem ret_int {k : IntKind} {a b : Int} (h : a = b) : Ending.returned (.int k a) = .returned (.int k b) := by rw [h]

theorem of_any (x : Nat) (w : World) (hx : x < 18446744073709551616) :
    Calls Tryz.prog 57 #[.int .u64 x] w (Gives w fun w' v => WdV w' (w.heap.size ≤ ·) v (dig 4294967296 x)) := by
  have h2 : x / 4294967296 < 4294967296 := by omega
  have HX := Lib.hid hx
  clear hx
  have hs : ∀ y ∈ [x % 4294967296, x / 4294967296], y < 4294967296 := by
    intro y hy
    rcases List.mem_cons.1 hy with rfl | hy
    · omega
    · rcases List.mem_cons.1 hy with rfl | hy
      · exact h2
      · cases hy
  have HS := Lib.hid hs
  clear hs
  have ha : WArr (w.alloc (.cells #[.int .u32 ((x : Int) % 4294967296), .int .u32 ((x : Int) / 4294967296)] 136)) w.heap.size [x % 4294967296, x / 4294967296] := by
    have := Arr.new w 136 [.int .u32 ((x : Int) % 4294967296), .int .u32 ((x : Int) / 4294967296)]
    unfold WArr
    simpa using this
  have hwd : Wd _ (w.heap.size ≤ ·) _ 2 2 _ := WArr.wd ha HS.out (by simp [maxLen]) (D := (w.heap.size ≤ ·)) (Nat.le_refl _)
  go_enter Tryz.func57, Tryz.ntmps57
  go_wp2_with (go_at_call 130; go_must ((with_reducible refine (trimmed_any hwd).mono ?_); rintro e w' ⟨rfl, rfl⟩))
  go_ret
  refine ⟨_, rfl, ?_, (Below.refl _ _).alloc (Nat.le_refl _) _⟩
  have e : dig 4294967296 x = trim [x % 4294967296, x / 4294967296] := by
    rw [trim_eq_dig (by omega) HS.out]
    congr 1
    simp only [val]
    omega
  rw [e]
  exact hwd.trim.v

/-- How two numbers compare. -/
def cmpN (a b : Nat) : Int := if a < b then -1 else if a = b then 0 else 1
theorem cmpN_lt {a b : Nat} (h : a < b) : cmpN a b = -1 := by simp [cmpN, h]
theorem cmpN_eq (a : Nat) : cmpN a a = 0 := by simp [cmpN]
theorem cmpN_gt {a b : Nat} (h : b < a) : cmpN a b = 1 := by unfold cmpN; rw [if_neg (by omega), if_neg (by omega)]

theorem trim_last {l : List Nat} (ht : trim l = l) {k : Nat} (hk : l.length = k + 1) : gw l k ≠ 0 := by
  intro h0
  have h1 := trim_take_zero (l := l) (k := k) (by omega) h0
  rw [List.take_of_length_le (by omega), ht] at h1
  have h2 := trim_length_le (l.take k)
  rw [← h1, List.length_take] at h2
  omega

theorem val_ge_of_trim {b : Nat} {l : List Nat} (ht : trim l = l) {k : Nat} (hk : l.length = k + 1) : b ^ k ≤ val b l := by
  have e := val_take_succ b l k
  rw [List.take_of_length_le (by omega)] at e
  have h0 := trim_last ht hk
  have : b ^ k * 1 ≤ b ^ k * gw l k := Nat.mul_le_mul_left _ (by omega)
  omega

theorem val_lt_of_length {b : Nat} (hb : 0 < b) {l l' : List Nat} (hs : ∀ x ∈ l, x < b) (ht' : trim l' = l') (h : l.length < l'.length) : val b l < val b l' := by
  have h1 := val_lt hs
  obtain ⟨k, hk⟩ : ∃ k, l'.length = k + 1 := ⟨l'.length - 1, by omega⟩
  have h2 := val_ge_of_trim (b := b) ht' hk
  have h3 : b ^ l.length ≤ b ^ k := Nat.pow_le_pow_right hb (by omega)
  omega

theorem drop_gw {l : List Nat} {k : Nat} (h : k < l.length) : l.drop k = gw l k :: l.drop (k + 1) := by
  rw [List.drop_eq_getElem_cons h]
  simp [gw, List.getD, h]

theorem val_lt_of_drop {b : Nat} {l l' : List Nat} {k : Nat} (hs : ∀ x ∈ l, x < b) (hl : k < l.length) (hl' : k < l'.length) (hd : l.drop (k + 1) = l'.drop (k + 1)) (hlt : gw l k < gw l' k) : val b l < val b l' := by
  have e := val_split b l k
  have e' := val_split b l' k
  rw [drop_gw hl] at e
  rw [drop_gw hl'] at e'
  simp only [val] at e e'
  rw [hd] at e
  have h1 : val b (l.take k) < b ^ k := by
    have := val_lt (b := b) (l := l.take k) (fun x hx => hs x (List.mem_of_mem_take hx))
    rwa [List.length_take, Nat.min_eq_left (by omega)] at this
  rw [Nat.mul_add] at e e'
  have h2 : b ^ k * (gw l k + 1) ≤ b ^ k * gw l' k := Nat.mul_le_mul_left _ hlt
  rw [Nat.mul_add] at h2
  omega

set_option maxHeartbeats 400000 in
theorem compare_any {D : Nat → Prop} {A A' : Option Addr} {n c n' c' : Nat} {l l' : List Nat} {w : World} (h : Wd w D A n c l) (h' : Wd w D A' n' c' l') (ht : trim l = l) (ht' : trim l' = l') :
    Calls Tryz.prog 59 #[.slice A n c, .slice A' n' c'] w fun e w' => e = .returned (.int .i64 (cmpN (val 4294967296 l) (val 4294967296 l'))) ∧ ∃ m, w' = w.drewN m := by
  have HT := Lib.hid ht
  have HT' := Lib.hid ht'
  clear ht ht'
  have hr := h.room
  have hc := h.cap
  unfold maxLen at hr
  rcases Nat.lt_trichotomy n n' with hlt | heq | hgt
  · have hne : ((n : Int) != n') = true := by rw [bne_iff_ne]; omega
    go_enter Tryz.func59, Tryz.ntmps59
    go_wp2_with fail
    go_ret
    exact ⟨ret_int (cmpN_lt (val_lt_of_length (by omega) h.small HT'.out (by rw [h.len, h'.len]; exact hlt))).symm, 0, rfl⟩
  · subst heq
    have hne : ((n : Int) != n) = false := by simp
    go_enter Tryz.func59, Tryz.ntmps59
    go_wp2_with fail
    go_loopw [5] (fun i wr => ∃ (k : Nat), k ≤ n ∧ i = .int .i64 (k - 1) ∧ Hid (l.drop k = l'.drop k) ∧ ∃ m, wr = w.drewN m) (fun i _ => (intOf i + 1).toNat)
    case atStart => exact ⟨n, Nat.le_refl _, rfl, by rw [List.drop_of_length_le (by rw [h.len]; omega), List.drop_of_length_le (by rw [h'.len]; omega)]; rfl, 0, rfl⟩
    case round =>
      obtain ⟨k, hk, rfl, hd, m, rfl⟩ := hrel
      rcases Nat.eq_zero_or_pos k with h0 | h0
      · subst h0
        go_wp2_with fail
        go_ret
        have e := hd.out
        simp only [List.drop_zero] at e
        exact ⟨ret_int (by rw [e, cmpN_eq]), m, rfl⟩
      · obtain ⟨j, rfl⟩ : ∃ j, k = j + 1 := ⟨k - 1, by omega⟩
        obtain ⟨b, off, rfl, hb, hcell⟩ := h.cells (by omega)
        obtain ⟨b', off', rfl, hb', hcell'⟩ := h'.cells (by omega)
        have hc1 := hcell j (by omega)
        have hc2 := hcell' j (by omega)
        clear hcell hcell'
        have hi : (((j + 1 : Nat) : Int) - 1) = (j : Int) := by omega
        rw [hi]
        clear hi
        have hj0 : (0 : Int) ≤ (j : Int) := by omega
        have hjn : (j : Int) < (n : Int) := by omega
        have hl1 := h.len
        have hl2 := h'.len
        have HL1 := Lib.hid hl1
        have HL2 := Lib.hid hl2
        clear hl1 hl2
        rcases Nat.lt_trichotomy (gw l j) (gw l' j) with hlt | heq | hgt
        · have e1 : ((gw l j : Int) != gw l' j) = true := by rw [bne_iff_ne]; omega
          go_wp2_with fail
          go_quiet (fail)
          go_wp2_with fail
          go_quiet (fail)
          go_wp2_with fail
          go_ret
          exact ⟨ret_int (cmpN_lt (val_lt_of_drop (k := j) h.small (by rw [HL1.out]; omega) (by rw [HL2.out]; omega) hd.out hlt)).symm, _, by rw [World.drewN_drewN, World.drewN_drewN]⟩
        · have e1 : ((gw l j : Int) != gw l' j) = false := by simp [heq]
          have HE := Lib.hid heq
          clear heq
          go_wp2_with fail
          go_quiet (fail)
          go_wp2_with fail
          go_roundw
          case rel => 
            refine ⟨j, by omega, rfl, ?_, _, rfl⟩
            show _ = _
            rw [drop_gw (l := l) (k := j) (by rw [HL1.out]; omega), drop_gw (l := l') (k := j) (by rw [HL2.out]; omega), hd.out, HE.out]
          case measure => simp [intOf]
        · have e1 : ((gw l j : Int) != gw l' j) = true := by rw [bne_iff_ne]; omega
          go_wp2_with fail
          go_quiet (fail)
          go_wp2_with fail
          go_quiet (fail)
          go_wp2_with fail
          go_ret
          exact ⟨ret_int (cmpN_gt (val_lt_of_drop (k := j) h'.small (by rw [HL2.out]; omega) (by rw [HL1.out]; omega) hd.out.symm hgt)).symm, _, by rw [World.drewN_drewN, World.drewN_drewN]⟩
  · have hne : ((n : Int) != n') = true := by rw [bne_iff_ne]; omega
    go_enter Tryz.func59, Tryz.ntmps59
    go_wp2_with fail
    go_ret
    exact ⟨ret_int (cmpN_gt (val_lt_of_length (by omega) h'.small HT.out (by rw [h.len, h'.len]; exact hgt))).symm, 0, rfl⟩

end Go.Proofs.YtefcdclmabdmbaaGreatDoor

namespace Go.Proofs.YtefcdclmabdmbaaGreatDoor
open Go.RowKit

end Go.Proofs.YtefcdclmabdmbaaGreatDoor

namespace Go.Proofs.YtefcdclmabdmbaaGreatDoor
open Go.RowKit

/-- A number with a sign. -/
def sg (neg : Bool) (m : Nat) : Int := if neg then -(m : Int) else m
/-- How many words a number has. -/
def wl (m : Nat) : Nat := (dig 4294967296 m).length

/-- An api.Int that reads as x, in whatever form. -/
def IntV (w : World) (D : Nat → Prop) (v : Value) (x : Int) : Prop :=
  ∃ neg A n c l, v = .agg #[.bool neg, .slice A n c] ∧ Wd w D A n c l ∧ x = sg neg (val 4294967296 l)
/-- An api.Int in normal form that reads as x. -/
def NIntV (w : World) (D : Nat → Prop) (v : Value) (x : Int) : Prop :=
  ∃ A c, v = .agg #[.bool (decide (x < 0)), .slice A (wl x.natAbs) c] ∧ Wd w D A (wl x.natAbs) c (dig 4294967296 x.natAbs)

theorem sg_natAbs (neg : Bool) (m : Nat) : (sg neg m).natAbs = m := by unfold sg; split <;> omega
theorem sg_abs (x : Int) : sg (decide (x < 0)) x.natAbs = x := by
  unfold sg
  by_cases h : x < 0
  · simp [h]; omega
  · simp [h]; omega

section
variable {w w' : World} {D D' : Nat → Prop} {v : Value} {x : Int}
theorem NIntV.int (h : NIntV w D v x) : IntV w D v x := by
  obtain ⟨A, c, rfl, h⟩ := h
  exact ⟨_, A, _, c, _, rfl, h, by rw [val_dig (by omega), sg_abs]⟩
theorem IntV.mono (h : IntV w D v x) (hd : ∀ b, D b → b < w.heap.size → D' b) : IntV w D' v x := by
  obtain ⟨neg, A, n, c, l, rfl, h, rfl⟩ := h
  exact ⟨neg, A, n, c, l, rfl, h.mono hd, rfl⟩
theorem NIntV.mono (h : NIntV w D v x) (hd : ∀ b, D b → b < w.heap.size → D' b) : NIntV w D' v x := by
  obtain ⟨A, c, rfl, h⟩ := h
  exact ⟨A, c, rfl, h.mono hd⟩
theorem IntV.keep (h : IntV w D v x) (hk : ∀ b o, D b → b < w.heap.size → w'.cell? ⟨b, o, none⟩ = w.cell? ⟨b, o, none⟩) : IntV w' D v x := by
  obtain ⟨neg, A, n, c, l, rfl, h, rfl⟩ := h
  exact ⟨neg, A, n, c, l, rfl, h.keep hk, rfl⟩
theorem NIntV.keep (h : NIntV w D v x) (hk : ∀ b o, D b → b < w.heap.size → w'.cell? ⟨b, o, none⟩ = w.cell? ⟨b, o, none⟩) : NIntV w' D v x := by
  obtain ⟨A, c, rfl, h⟩ := h
  exact ⟨A, c, rfl, h.keep hk⟩
theorem IntV.below (h : IntV w D v x) (hb : Below w.heap.size w w') : IntV w' D v x := h.keep fun _ _ _ hl => (bcell hb).1 _ _ hl
theorem NIntV.below (h : NIntV w D v x) (hb : Below w.heap.size w w') : NIntV w' D v x := h.keep fun _ _ _ hl => (bcell hb).1 _ _ hl
theorem NIntV.setCell (h : NIntV w D v x) {p : Addr} (hp : ¬ D p.block) (u : Value) : NIntV (w.setCell p u) D v x :=
  h.keep fun b o hd _ => World.cell?_setCell_other w p ⟨b, o, none⟩ u (fun e => hp (by subst e; exact hd))
theorem NIntV.zero (w : World) (D : Nat → Prop) : NIntV w D (.agg #[.bool false, .slice none 0 0]) 0 :=
  ⟨none, 0, rfl, Wd.nil 0 (by unfold maxLen; omega)⟩
theorem Wd.src {A : Option Addr} {n c : Nat} {l : List Nat} (h : Wd w D A n c l) : Src w 1 A n (l.map fun x : Nat => Value.int .u32 (x : Int)) := by
  refine ⟨by rw [List.length_map, h.len, Nat.mul_one], fun hn => ?_⟩
  obtain ⟨b, off, rfl, _, hc⟩ := h.cells hn
  refine ⟨_, rfl, fun j u hu => ?_⟩
  rw [List.getElem?_map] at hu
  rcases Nat.lt_or_ge j l.length with hj | hj
  · rw [gw_lt hj] at hu
    simp only [Option.map_some, Option.some.injEq] at hu
    subst hu
    have := hc j (by rw [← h.len]; exact hj)
    unfold Addr.add
    split
    · rename_i h0; subst h0; exact this
    · exact this
  · rw [List.getElem?_eq_none hj] at hu
    cases hu
end

theorem words_oneCell (l : List Nat) : ∀ u ∈ l.map (fun x : Nat => Value.int .u32 (x : Int)), u.oneCell' = true := by
  intro u hu
  obtain ⟨x, _, rfl⟩ := List.mem_map.1 hu
  rfl

/-- A row of words of the call's own. -/
theorem wd_of_own {w : World} {base n : Nat} {v : Value} {l : List Nat} (h : w.ownsRow base 136 1 v n (l.map fun x : Nat => Value.int .u32 (x : Int))) (hs : ∀ x ∈ l, x < 4294967296) :
    ∃ A c, v = .slice A n c ∧ Wd w (base ≤ ·) A n c l := by
  have hl : l.length = n := by have := h.1; rw [List.length_map, Nat.mul_one] at this; exact this
  obtain ⟨A, c, rfl, hc, hm⟩ := own_slice h
  refine ⟨A, c, rfl, hl, hc, hm, hs, fun hn => ?_⟩
  obtain ⟨g, cap, hv, hb, _, _, _, hcell⟩ := own_cells h hn
  injection hv with hA
  subst hA
  exact ⟨g, 0, rfl, hb, fun j hj => by rw [Nat.zero_add]; exact hcell j _ (by rw [List.getElem?_map, gw_lt (by omega)]; rfl)⟩

theorem nint_of {w : World} {D : Nat → Prop} {neg : Bool} {A : Option Addr} {m c k : Nat} {T : List Nat} (h : Wd w D A m c T) (hT : T = dig 4294967296 k) (h0 : k ≠ 0) :
    NIntV w D (.agg #[.bool neg, .slice A m c]) (sg neg k) := by
  subst hT
  have hm := h.len
  subst hm
  refine ⟨A, c, ?_, by rw [sg_natAbs]; exact h⟩
  have : decide (sg neg k < 0) = neg := by
    unfold sg
    cases neg <;> simp <;> omega
  rw [this, sg_natAbs]
  rfl

/-- size: the words of an integer's size. -/
theorem size_any {D : Nat → Prop} {neg : Bool} {A : Option Addr} {n c : Nat} {l : List Nat} {w : World} (h : Wd w D A n c l) :
    Calls Tryz.prog 56 #[.agg #[.bool neg, .slice A n c]] w fun e w' => e = .returned (.slice A (trim l).length (trim l).length) ∧ Below w.heap.size w w' := by
  go_enter Tryz.func56, Tryz.ntmps56
  go_wp2_with (go_at_call 130; ((with_reducible refine (trimmed_any (h.alloc _)).mono ?_); rintro e w' ⟨rfl, rfl⟩))
  go_ret
  exact ⟨rfl, (Below.refl _ _).alloc (Nat.le_refl _) _⟩

set_option maxHeartbeats 400000 in
theorem made_any {D : Nat → Prop} {neg : Bool} {A : Option Addr} {n c : Nat} {l : List Nat} {w : World} (h : Wd w D A n c l) (hl : (trim l).length ≤ 10000000000000) :
    Calls Tryz.prog 54 #[.bool neg, .slice A n c] w (Gives w fun w' v => NIntV w' (w.heap.size ≤ ·) v (sg neg (val 4294967296 l))) := by
  have ht := h.trim
  have e1 := trim_eq_dig (b := 4294967296) (by omega) h.small
  have E1 := Lib.hid e1
  clear e1
  generalize hT : trim l = T at *
  have HT := Lib.hid hT
  clear hT
  generalize hm : T.length = m at *
  have HM := Lib.hid hm
  clear hm
  by_cases h0 : m = 0
  · have hz : ((m : Int) == 0) = true := by simp [h0]
    go_enter Tryz.func54, Tryz.ntmps54
    go_wp2_with (go_at_call 130; ((with_reducible refine (trimmed_any (h.alloc _)).mono ?_); rintro e w' ⟨rfl, rfl⟩; rw [HT.out, HM.out]))
    refine bodyPost_ret (v := .agg #[.bool false, .slice none 0 0]) (by simp [results, Tryz.results54, go_sem]) rfl ⟨_, rfl, ?_, (Below.refl _ _).alloc (Nat.le_refl _) _⟩
    have hv : val 4294967296 l = 0 := by
      have e := E1.out
      rw [List.eq_nil_of_length_eq_zero (HM.out.trans h0)] at e
      exact (dig_eq_nil (by omega)).1 e.symm
    rw [hv]
    have : sg neg 0 = 0 := by unfold sg; split <;> rfl
    rw [this]
    exact NIntV.zero _ _
  · have hz : ((m : Int) == 0) = false := by simpa using h0
    go_enter Tryz.func54, Tryz.ntmps54
    go_wp2_with (first
      | (go_at_call 130; ((with_reducible refine (trimmed_any (h.alloc _)).mono ?_); rintro e w' ⟨rfl, rfl⟩; rw [HT.out, HM.out]))
      | (at_builtin; go_must (refine wpList_app_nil _ rfl _ _ _ _ rfl 136 136 (.int .u32 0) 1 4 Tryz.underlying40 Tryz.underlying89 info_u32 rfl (by omega) rfl A m m (T.map fun x : Nat => Value.int .u32 (x : Int)) rfl ((ht.alloc _).src) (words_oneCell T) (by unfold maxLen; omega) (by omega) ?_); intro A1 c1 w1 hown hb; obtain ⟨hc, hf⟩ := bcell hb))
    refine bodyPost_ret (v := .agg #[.bool neg, .slice A1 m c1]) (by simp [results, Tryz.results54, go_sem, hc]) rfl ⟨_, rfl, ?_, ?_⟩
    · have hw := wd_of_own hown (fun x hx => ht.small x hx)
      obtain ⟨A2, c2, he, hw⟩ := hw
      injection he with e1 e2 e3
      subst e1 e3
      have hv : val 4294967296 l ≠ 0 := by
        intro hv
        have e := E1.out
        rw [hv, dig_zero] at e
        exact h0 (by rw [← HM.out, e]; rfl)
      have hn := nint_of (neg := neg) hw E1.out hv
      exact ((hn.setCell (p := ⟨w.heap.size, 0, none⟩) (by simp) _).setCell (p := ⟨w.heap.size, 1, none⟩) (by simp) _).mono (fun b hb _ => by simp at hb; omega)
    · exact ((((Below.refl _ _).alloc (Nat.le_refl _) _).trans (hb.mono (by simp))).setCell (Nat.le_refl _) _).setCell (Nat.le_refl _) _

end Go.Proofs.YtefcdclmabdmbaaGreatDoor

namespace Go.Proofs.YtefcdclmabdmbaaGreatDoor
open Go.RowKit

/-- Below block R the world is as W was; block R is a variable for an integer, the call's own. -/
def Held (R : Nat) (W w' : World) : Prop := Below R W w' ∧ ∃ u0 u1, w'.heap[R]? = some (.cells #[u0, u1] 42 (0, 0))

section
variable {R : Nat} {W w1 w2 : World}
theorem Held.lt (h : Held R W w1) : R < w1.heap.size := by
  obtain ⟨_, u0, u1, h⟩ := h
  rcases Nat.lt_or_ge R w1.heap.size with hlt | hge
  · exact hlt
  · rw [Array.getElem?_eq_none hge] at h; cases h
theorem Held.init (u0 u1 : Value) (h : W.heap[R]? = some (.cells #[u0, u1] 42 (0, 0))) : (∀ b o, b < R → W.drew.cell? ⟨b, o, none⟩ = W.cell? ⟨b, o, none⟩) ∧ Held R W W.drew :=
  ⟨fun _ _ _ => rfl, (Below.refl _ _).drew, u0, u1, h⟩
theorem Held.call (hb : Below w1.heap.size w1 w2) (h : Held R W w1) : (∀ b o, b < R → w2.cell? ⟨b, o, none⟩ = W.cell? ⟨b, o, none⟩) ∧ Held R W w2 := by
  have hlt := h.lt
  have hb2 := h.1.trans (hb.mono (Nat.le_of_lt hlt))
  obtain ⟨_, u0, u1, hr⟩ := h
  exact ⟨fun b o hbr => hb2.cell (p := ⟨b, o, none⟩) hbr, hb2, u0, u1, (hb.block R hlt).trans hr⟩
theorem Held.call_lt (_ : Below w1.heap.size w1 w2) (h : Held R W w1) : R < w1.heap.size := h.lt
theorem Held.store (h : Held R W w1) (a b : Value) : (∀ c o, c < R → ((w1.setCell ⟨R, 0, none⟩ a).setCell ⟨R, 1, none⟩ b).cell? ⟨c, o, none⟩ = W.cell? ⟨c, o, none⟩) ∧ Held R W ((w1.setCell ⟨R, 0, none⟩ a).setCell ⟨R, 1, none⟩ b) := by
  obtain ⟨hb, u0, u1, hr⟩ := h
  have hb2 := (hb.setCell (p := ⟨R, 0, none⟩) (Nat.le_refl _) a).setCell (p := ⟨R, 1, none⟩) (Nat.le_refl _) b
  refine ⟨fun c o hc => hb2.cell (p := ⟨c, o, none⟩) hc, hb2, a, b, ?_⟩
  simp [World.setCell, Array.getElem?_modify, hr]
theorem Held.again (h : Held R W w1) : (∀ b o, b < R → w1.drew.cell? ⟨b, o, none⟩ = W.cell? ⟨b, o, none⟩) ∧ Held R W w1.drew :=
  ⟨fun b o hbr => h.1.cell (p := ⟨b, o, none⟩) hbr, h.1.drew, h.2⟩
theorem Held.drewN (h : Held R W w1) (n : Nat) : Held R W (w1.drewN n) := ⟨below_drewN' h.1 n, h.2⟩
/-- From the call's start to a world that is held. -/
theorem Held.from (h : Held R W w1) {w : World} (hb : Below w.heap.size w W) (hlt : w.heap.size ≤ R) : Below w.heap.size w w1 := hb.trans (h.1.mono hlt)
theorem Held.put (h : Held R W w1) {w : World} (hb : Below w.heap.size w W) (hlt : w.heap.size ≤ R) (a b : Value) : Below w.heap.size w ((w1.setCell ⟨R, 0, none⟩ a).setCell ⟨R, 1, none⟩ b) :=
  (h.store a b).2.from hb hlt
theorem Held.cells (h : Held R W w1) : ∃ u0 u1, w1.cell? ⟨R, 0, none⟩ = some u0 ∧ w1.cell? ⟨R, 1, none⟩ = some u1 ∧ w1.frozen? ⟨R, 0, none⟩ = false ∧ w1.frozen? ⟨R, 1, none⟩ = false := by
  obtain ⟨_, u0, u1, hr⟩ := h
  exact ⟨u0, u1, by rw [cell_of_row w1 R 0 _ _ _ hr]; rfl, by rw [cell_of_row w1 R 1 _ _ _ hr]; rfl, by simp [World.frozen?, hr], by simp [World.frozen?, hr]⟩
end

theorem trim_trim {b : Nat} (hb : 2 ≤ b) {l : List Nat} (h : ∀ x ∈ l, x < b) : trim (trim l) = trim l := by
  rw [trim_eq_dig hb h, trim_dig hb]

/-- The boxes of two parameters, and the variable of the result. -/
theorem boxes2 (w : World) (a0 a1 b0 b1 : Value) : ∃ W P R, W = ((w.alloc (.cells #[a0, a1] 42)).alloc (.cells #[b0, b1] 42)).alloc (.cells #[.bool false, .slice none 0 0] 42) ∧ P = w.heap.size + 1 ∧ R = w.heap.size + 1 + 1 ∧
    Below w.heap.size w W ∧ Hid (W.heap[R]? = some (.cells #[.bool false, .slice none 0 0] 42 (0, 0))) ∧ W.cell? ⟨w.heap.size, 0, none⟩ = some a0 ∧ W.cell? ⟨w.heap.size, 1, none⟩ = some a1 ∧
      W.cell? ⟨P, 0, none⟩ = some b0 ∧ W.cell? ⟨P, 1, none⟩ = some b1 ∧ w.heap.size < R ∧ P < R := by
  refine ⟨_, _, _, rfl, rfl, rfl, (((Below.refl _ _).alloc (Nat.le_refl _) _).alloc (by simp) _).alloc (by simp; omega) _, ?_, by go_simp, by go_simp, by go_simp, by go_simp, by omega, by omega⟩
  show _ = _
  simpa using heap_alloc_new ((w.alloc (.cells #[a0, a1] 42)).alloc (.cells #[b0, b1] 42)) (.cells #[.bool false, .slice none 0 0] 42)

theorem wl_trim {l : List Nat} (h : ∀ x ∈ l, x < 4294967296) : (trim l).length = wl (val 4294967296 l) := by
  rw [trim_eq_dig (by omega) h]; rfl
/-- The result, behind the store into its variable. -/
theorem nint_put {R : Nat} {w w1 w2 : World} {A : Option Addr} {c : Nat} {x : Int} (hl : R < w1.heap.size) (hwd : Wd w2 (w1.heap.size ≤ ·) A (wl x.natAbs) c (dig 4294967296 x.natAbs)) (hle : w.heap.size ≤ R) (a b : Value) :
    NIntV ((w2.setCell ⟨R, 0, none⟩ a).setCell ⟨R, 1, none⟩ b) (w.heap.size ≤ ·) (.agg #[.bool (decide (x < 0)), .slice A (wl x.natAbs) c]) x := by
  have h : NIntV w2 (w1.heap.size ≤ ·) (.agg #[.bool (decide (x < 0)), .slice A (wl x.natAbs) c]) x := ⟨A, c, rfl, hwd⟩
  exact ((h.setCell (p := ⟨R, 0, none⟩) (by simp; omega) a).setCell (p := ⟨R, 1, none⟩) (by simp; omega) b).mono (fun k hk _ => by have : w1.heap.size ≤ k := hk; show w.heap.size ≤ k; omega)

theorem wl_le {a b : Nat} (h : a ≤ b) : wl a ≤ wl b := by
  unfold wl
  have h1 := val_lt (dig_lt (b := 4294967296) (by omega) b)
  rw [val_dig (by omega)] at h1
  exact dig_length_le (by omega) (by omega)
theorem wl_add (a b : Nat) : wl (a + b) ≤ max (wl a) (wl b) + 1 := by
  have h1 := val_lt (dig_lt (b := 4294967296) (by omega) a)
  have h2 := val_lt (dig_lt (b := 4294967296) (by omega) b)
  rw [val_dig (by omega)] at h1 h2
  refine dig_length_le (by omega) ?_
  have e1 : 4294967296 ^ (dig 4294967296 a).length ≤ 4294967296 ^ max (wl a) (wl b) := Nat.pow_le_pow_right (by omega) (Nat.le_max_left _ _)
  have e2 : 4294967296 ^ (dig 4294967296 b).length ≤ 4294967296 ^ max (wl a) (wl b) := Nat.pow_le_pow_right (by omega) (Nat.le_max_right _ _)
  rw [Nat.pow_succ]
  omega
theorem sg_same (neg : Bool) (a b : Nat) : sg neg (a + b) = sg neg a + sg neg b := by unfold sg; split <;> omega
theorem sg_diff1 {n1 n2 : Bool} (h : (n1 == n2) = false) {a b : Nat} (hle : b ≤ a) : sg n1 (a - b) = sg n1 a + sg n2 b := by
  unfold sg; cases n1 <;> cases n2 <;> simp at h ⊢ <;> omega
theorem sg_diff2 {n1 n2 : Bool} (h : (n1 == n2) = false) {a b : Nat} (hle : a ≤ b) : sg n2 (b - a) = sg n1 a + sg n2 b := by
  unfold sg; cases n1 <;> cases n2 <;> simp at h ⊢ <;> omega
theorem compare_b {D : Nat → Prop} {A A' : Option Addr} {n c n' c' : Nat} {l l' : List Nat} {w : World} (h : Wd w D A n c l) (h' : Wd w D A' n' c' l') (ht : trim l = l) (ht' : trim l' = l') :
    Calls Tryz.prog 59 #[.slice A n c, .slice A' n' c'] w fun e w' => e = .returned (.int .i64 (cmpN (val 4294967296 l) (val 4294967296 l'))) ∧ Below w.heap.size w w' :=
  (compare_any h h' ht ht').mono fun e w' ⟨he, m, hw⟩ => ⟨he, by rw [hw]; exact below_drewN' (Below.refl _ _) m⟩

set_option maxHeartbeats 1000000 in
theorem Add_any {D D' : Nat → Prop} {v v' : Value} {x y : Int} {w : World} (h : IntV w D v x) (h' : IntV w D' v' y) (hl : wl x.natAbs ≤ 1000000000000) (hl' : wl y.natAbs ≤ 1000000000000) :
    Calls Tryz.prog 16 #[v, v'] w (Gives w fun w' v => NIntV w' (w.heap.size ≤ ·) v (x + y)) := by
  replace h := h.mono (D' := fun _ => True) (fun _ _ _ => trivial)
  replace h' := h'.mono (D' := fun _ => True) (fun _ _ _ => trivial)
  obtain ⟨neg, A, n, c, l, rfl, h, rfl⟩ := h
  obtain ⟨neg', A', n', c', l', rfl, h', rfl⟩ := h'
  rw [sg_natAbs] at hl hl'
  have HL := Lib.hid hl
  have HL' := Lib.hid hl'
  clear hl hl'
  have TL := Lib.hid (trim_trim (b := 4294967296) (by omega) h.small)
  have TL' := Lib.hid (trim_trim (b := 4294967296) (by omega) h'.small)
  by_cases hne : neg = neg'
  · have ht : (neg == neg') = true := by simp [hne]
    have HN := Lib.hid hne
    clear hne
    go_enter Tryz.func16, Tryz.ntmps16
    go_wp2_with fail
    obtain ⟨W, P, R, hW, hP, hR, hbW, HR, c0, c1, d0, d1, hlt, hlt2⟩ := boxes2 w (.bool neg) (.slice A n c) (.bool neg') (.slice A' n' c')
    rw [← hW, ← hR, ← hP]
    clear hW hP hR
    go_region_held3 (fun w' => (∀ b o, b < R → w'.cell? ⟨b, o, none⟩ = W.cell? ⟨b, o, none⟩) ∧ Held R W w')
      (first | exact Held.init _ _ HR.out | (go_split_ands; exact Held.call (by assumption) (by assumption)) | (go_split_ands; exact Held.again (by assumption)) | (go_split_ands; exact Held.store (by assumption) _ _))
      (first
        | (go_at_call 56; go_split_ands; ((with_reducible refine (size_any (h.below (Held.from (R := R) (W := W) (by assumption) hbW (by omega)))).mono ?_)); rintro e w' ⟨rfl, hb1⟩)
        | (go_at_call 56; go_split_ands; ((with_reducible refine (size_any (h'.below (Held.from (R := R) (W := W) (by assumption) hbW (by omega)))).mono ?_)); rintro e w' ⟨rfl, hb1⟩))
    go_wp2_with fail
    go_region_held3 (fun w' => (∀ b o, b < R → w'.cell? ⟨b, o, none⟩ = W.cell? ⟨b, o, none⟩) ∧ Held R W w')
      (first | exact Held.init _ _ HR.out | (go_split_ands; exact Held.call (by assumption) (by assumption)) | (go_split_ands; exact Held.again (by assumption)) | (go_split_ands; exact Held.store (by assumption) _ _))
      (first
        | (go_at_call 58; go_split_ands; ((with_reducible refine (plus_any (h.trim.below (Held.from (R := R) (W := W) (by assumption) hbW (by omega))) (h'.trim.below (Held.from (R := R) (W := W) (by assumption) hbW (by omega))) (by have := HL.out; rw [wl_trim h.small]; omega) (by have := HL'.out; rw [wl_trim h'.small]; omega)).mono ?_)); rintro e w3 ⟨v3, rfl, ⟨A3, c3, rfl, hwd3⟩, hb3⟩)
        | (go_at_call 54; go_split_ands; ((with_reducible refine (made_any hwd3 (by rw [wl_trim hwd3.small, val_dig (by omega), val_trim, val_trim]; have := HL.out; have := HL'.out; have := wl_add (val 4294967296 l) (val 4294967296 l'); omega)).mono ?_)); rintro e w2 ⟨v2, rfl, ⟨A2, c2, rfl, hwd2⟩, hb2⟩; have hh := (Held.call hb2 (by assumption)).2; have hl2 := Held.call_lt (R := R) (W := W) hb2 (by assumption); obtain ⟨u0, u1, hr0, hr1, hf0, hf1⟩ := hh.cells))
    go_wp2_with fail
    refine bodyPost_ret (v := .agg #[.bool _, .slice A2 _ c2]) (by simp [results, Tryz.results16, go_sem, hr0, hr1]; exact ⟨rfl, rfl⟩) rfl ⟨_, rfl, ?_, hh.put hbW (by omega) _ _⟩
    have e : sg neg (val 4294967296 l) + sg neg' (val 4294967296 l') = sg neg (val 4294967296 (dig 4294967296 (val 4294967296 (trim l) + val 4294967296 (trim l')))) := by
      rw [val_dig (by omega), val_trim, val_trim, sg_same, HN.out]
    rw [e]
    exact nint_put hl2 hwd2 (by omega) _ _
  · have ht : (neg == neg') = false := by simp [hne]
    have HN := Lib.hid ht
    by_cases hle : val 4294967296 l' ≤ val 4294967296 l
    · have hcmp : (0 : Int) ≤ cmpN (val 4294967296 (trim l)) (val 4294967296 (trim l')) := by
        rw [val_trim, val_trim]; unfold cmpN; split <;> (try split) <;> omega
      have HLE := Lib.hid hle
      clear hle
      go_enter Tryz.func16, Tryz.ntmps16
      go_wp2_with fail
      obtain ⟨W, P, R, hW, hP, hR, hbW, HR, c0, c1, d0, d1, hlt, hlt2⟩ := boxes2 w (.bool neg) (.slice A n c) (.bool neg') (.slice A' n' c')
      rw [← hW, ← hR, ← hP]
      clear hW hP hR
      go_region_held3 (fun w' => (∀ b o, b < R → w'.cell? ⟨b, o, none⟩ = W.cell? ⟨b, o, none⟩) ∧ Held R W w')
        (first | exact Held.init _ _ HR.out | (go_split_ands; exact Held.call (by assumption) (by assumption)) | (go_split_ands; exact Held.again (by assumption)) | (go_split_ands; exact Held.store (by assumption) _ _))
        (first
          | (go_at_call 56; go_split_ands; ((with_reducible refine (size_any (h.below (Held.from (R := R) (W := W) (by assumption) hbW (by omega)))).mono ?_)); rintro e w' ⟨rfl, hb1⟩)
          | (go_at_call 56; go_split_ands; ((with_reducible refine (size_any (h'.below (Held.from (R := R) (W := W) (by assumption) hbW (by omega)))).mono ?_)); rintro e w' ⟨rfl, hb1⟩))
      go_split_ands
      go_wp2_with (go_at_call 59; ((with_reducible refine (compare_b (h.trim.below (Held.from (R := R) (W := W) (by assumption) hbW (by omega))) (h'.trim.below (Held.from (R := R) (W := W) (by assumption) hbW (by omega))) TL.out TL'.out).mono ?_)); rintro e w3 ⟨rfl, hb3⟩; obtain ⟨hd3a, hd3⟩ := Held.call (R := R) (W := W) hb3 (by assumption))
      go_region_held3 (fun w' => (∀ b o, b < R → w'.cell? ⟨b, o, none⟩ = W.cell? ⟨b, o, none⟩) ∧ Held R W w')
        (first | exact Held.init _ _ HR.out | (go_split_ands; exact Held.call (by assumption) (by assumption)) | (go_split_ands; exact Held.again (by assumption)) | (go_split_ands; exact Held.store (by assumption) _ _))
        (first
          | (go_at_call 60; go_split_ands; ((with_reducible refine (minus_any (h.trim.below (Held.from (R := R) (W := W) (by assumption) hbW (by omega))) (h'.trim.below (Held.from (R := R) (W := W) (by assumption) hbW (by omega))) (by have := HL.out; rw [wl_trim h.small]; omega) (by rw [val_trim, val_trim]; exact HLE.out)).mono ?_)); rintro e w3 ⟨v3, rfl, ⟨A3, c3, rfl, hwd3⟩, hb3⟩)
          | (go_at_call 54; go_split_ands; ((with_reducible refine (made_any hwd3 (by rw [wl_trim hwd3.small, val_dig (by omega), val_trim, val_trim]; have := HL.out; have := HL'.out; have := wl_le (Nat.sub_le (val 4294967296 l) (val 4294967296 l')); omega)).mono ?_)); rintro e w2 ⟨v2, rfl, ⟨A2, c2, rfl, hwd2⟩, hb2⟩; have hh := (Held.call hb2 (by assumption)).2; have hl2 := Held.call_lt (R := R) (W := W) hb2 (by assumption); obtain ⟨u0, u1, hr0, hr1, hf0, hf1⟩ := hh.cells))
      go_wp2_with fail
      refine bodyPost_ret (v := .agg #[.bool _, .slice A2 _ c2]) (by simp [results, Tryz.results16, go_sem, hr0, hr1]; exact ⟨rfl, rfl⟩) rfl ⟨_, rfl, ?_, hh.put hbW (by omega) _ _⟩
      have e : sg neg (val 4294967296 l) + sg neg' (val 4294967296 l') = sg neg (val 4294967296 (dig 4294967296 (val 4294967296 (trim l) - val 4294967296 (trim l')))) := by
        rw [val_dig (by omega), val_trim, val_trim, sg_diff1 HN.out HLE.out]
      rw [e]
      exact nint_put hl2 hwd2 (by omega) _ _
    · have hcmp : cmpN (val 4294967296 (trim l)) (val 4294967296 (trim l')) < 0 := by
        rw [val_trim, val_trim, cmpN_lt (by omega)]; omega
      have HLE := Lib.hid (show val 4294967296 l ≤ val 4294967296 l' by omega)
      clear hle
      go_enter Tryz.func16, Tryz.ntmps16
      go_wp2_with fail
      obtain ⟨W, P, R, hW, hP, hR, hbW, HR, c0, c1, d0, d1, hlt, hlt2⟩ := boxes2 w (.bool neg) (.slice A n c) (.bool neg') (.slice A' n' c')
      rw [← hW, ← hR, ← hP]
      clear hW hP hR
      go_region_held3 (fun w' => (∀ b o, b < R → w'.cell? ⟨b, o, none⟩ = W.cell? ⟨b, o, none⟩) ∧ Held R W w')
        (first | exact Held.init _ _ HR.out | (go_split_ands; exact Held.call (by assumption) (by assumption)) | (go_split_ands; exact Held.again (by assumption)) | (go_split_ands; exact Held.store (by assumption) _ _))
        (first
          | (go_at_call 56; go_split_ands; ((with_reducible refine (size_any (h.below (Held.from (R := R) (W := W) (by assumption) hbW (by omega)))).mono ?_)); rintro e w' ⟨rfl, hb1⟩)
          | (go_at_call 56; go_split_ands; ((with_reducible refine (size_any (h'.below (Held.from (R := R) (W := W) (by assumption) hbW (by omega)))).mono ?_)); rintro e w' ⟨rfl, hb1⟩))
      go_split_ands
      go_wp2_with (go_at_call 59; ((with_reducible refine (compare_b (h.trim.below (Held.from (R := R) (W := W) (by assumption) hbW (by omega))) (h'.trim.below (Held.from (R := R) (W := W) (by assumption) hbW (by omega))) TL.out TL'.out).mono ?_)); rintro e w3 ⟨rfl, hb3⟩; obtain ⟨hd3a, hd3⟩ := Held.call (R := R) (W := W) hb3 (by assumption))
      go_region_held3 (fun w' => (∀ b o, b < R → w'.cell? ⟨b, o, none⟩ = W.cell? ⟨b, o, none⟩) ∧ Held R W w')
        (first | exact Held.init _ _ HR.out | (go_split_ands; exact Held.call (by assumption) (by assumption)) | (go_split_ands; exact Held.again (by assumption)) | (go_split_ands; exact Held.store (by assumption) _ _))
        (first
          | (go_at_call 60; go_split_ands; ((with_reducible refine (minus_any (h'.trim.below (Held.from (R := R) (W := W) (by assumption) hbW (by omega))) (h.trim.below (Held.from (R := R) (W := W) (by assumption) hbW (by omega))) (by have := HL'.out; rw [wl_trim h'.small]; omega) (by rw [val_trim, val_trim]; exact HLE.out)).mono ?_)); rintro e w3 ⟨v3, rfl, ⟨A3, c3, rfl, hwd3⟩, hb3⟩)
          | (go_at_call 54; go_split_ands; ((with_reducible refine (made_any hwd3 (by rw [wl_trim hwd3.small, val_dig (by omega), val_trim, val_trim]; have := HL.out; have := HL'.out; have := wl_le (Nat.sub_le (val 4294967296 l') (val 4294967296 l)); omega)).mono ?_)); rintro e w2 ⟨v2, rfl, ⟨A2, c2, rfl, hwd2⟩, hb2⟩; have hh := (Held.call hb2 (by assumption)).2; have hl2 := Held.call_lt (R := R) (W := W) hb2 (by assumption); obtain ⟨u0, u1, hr0, hr1, hf0, hf1⟩ := hh.cells))
      go_wp2_with fail
      refine bodyPost_ret (v := .agg #[.bool _, .slice A2 _ c2]) (by simp [results, Tryz.results16, go_sem, hr0, hr1]; exact ⟨rfl, rfl⟩) rfl ⟨_, rfl, ?_, hh.put hbW (by omega) _ _⟩
      have e : sg neg (val 4294967296 l) + sg neg' (val 4294967296 l') = sg neg' (val 4294967296 (dig 4294967296 (val 4294967296 (trim l') - val 4294967296 (trim l)))) := by
        rw [val_dig (by omega), val_trim, val_trim, sg_diff2 HN.out HLE.out]
      rw [e]
      exact nint_put hl2 hwd2 (by omega) _ _

end Go.Proofs.YtefcdclmabdmbaaGreatDoor

namespace Go.Proofs.YtefcdclmabdmbaaGreatDoor
open Go.RowKit

theorem Held.self {R : Nat} {W : World} {u0 u1 : Value} (h : W.heap[R]? = some (.cells #[u0, u1] 42 (0, 0))) : Held R W W := ⟨Below.refl _ _, u0, u1, h⟩
theorem Wd.int {w : World} {D : Nat → Prop} {A : Option Addr} {n c : Nat} {l : List Nat} (h : Wd w D A n c l) (neg : Bool) : IntV w D (.agg #[.bool neg, .slice A n c]) (sg neg (val 4294967296 l)) := ⟨neg, A, n, c, l, rfl, h, rfl⟩
theorem IntV.t {w : World} {D : Nat → Prop} {v : Value} {x : Int} (h : IntV w D v x) : IntV w (fun _ => True) v x := h.mono fun _ _ _ => trivial

end Go.Proofs.YtefcdclmabdmbaaGreatDoor

namespace Go.Proofs.YtefcdclmabdmbaaGreatDoor
open Go.RowKit

theorem neg_wrap {n : Int} (h : -9223372036854775808 ≤ n) (h0 : n < 0) : IntKind.u64.wrap (-(IntKind.u64.wrap n)) = (n.natAbs : Int) := by
  simp [IntKind.wrap, IntKind.bits, IntKind.signed]
  omega
theorem pos_wrap {n : Int} (h : n ≤ 9223372036854775807) (h0 : 0 ≤ n) : IntKind.u64.wrap n = (n.natAbs : Int) := by
  simp [IntKind.wrap, IntKind.bits, IntKind.signed]
  omega

theorem NIntV.cast {w : World} {D : Nat → Prop} {v : Value} {x y : Int} (h : NIntV w D v x) (e : x = y) : NIntV w D v y := e ▸ h

theorem wl_word {m : Nat} (h : m < 18446744073709551616) : wl m ≤ 2 := dig_length_le (by omega) (by omega)

set_option maxHeartbeats 1000000 in
theorem Of_any (n : Int) (w : World) (h : -9223372036854775808 ≤ n) (h' : n ≤ 9223372036854775807) :
    Calls Tryz.prog 15 #[.int .i64 n] w (Gives w fun w' v => NIntV w' (w.heap.size ≤ ·) v n) := by
  have HLT := Lib.hid (show n.natAbs < 18446744073709551616 by omega)
  obtain ⟨W, hW⟩ : ∃ W, W = w.alloc (.cells #[.bool false, .slice none 0 0] 42) := ⟨_, rfl⟩
  have hbW : Below w.heap.size w W := by rw [hW]; exact (Below.refl _ _).alloc (Nat.le_refl _) _
  have HR : Hid (W.heap[w.heap.size]? = some (.cells #[.bool false, .slice none 0 0] 42 (0, 0))) := by rw [hW]; exact heap_alloc_new _ _
  have HWW := Lib.hid hW
  clear hW
  by_cases h0 : n < 0
  · have HW := Lib.hid (neg_wrap h h0)
    clear h h'
    go_enter Tryz.func15, Tryz.ntmps15
    go_wp2_with (first
      | (go_at_call 57; rw [← HWW.out, HW.out]; go_must (refine (of_any _ _ HLT.out).mono ?_); rintro e w1 ⟨v1, rfl, ⟨A1, c1, rfl, hwd1⟩, hb1⟩; have hh1 := (Held.call hb1 (Held.self HR.out)).2)
      | (go_at_call 54; go_must (refine (made_any hwd1 ?_).mono ?_); (rw [wl_trim hwd1.small, val_dig (by omega)]; have := wl_word HLT.out; omega); rintro e w2 ⟨v2, rfl, ⟨A2, c2, rfl, hwd2⟩, hb2⟩; have hh := (Held.call hb2 hh1).2; have hl2 := hh1.lt; obtain ⟨u0, u1, hr0, hr1, hf0, hf1⟩ := hh.cells))
    refine bodyPost_ret (v := .agg #[.bool _, .slice A2 _ c2]) (by simp [results, Tryz.results15, go_sem, hr0, hr1]; exact ⟨rfl, rfl⟩) rfl ⟨_, rfl, ?_, hh.put hbW (by omega) _ _⟩
    exact (nint_put (w := w) hl2 hwd2 (Nat.le_refl _) _ _).cast (by rw [val_dig (by omega)]; simp [sg]; omega)
  · have HW := Lib.hid (pos_wrap h' (by omega))
    clear h h'
    go_enter Tryz.func15, Tryz.ntmps15
    go_wp2_with (first
      | (go_at_call 57; rw [← HWW.out, HW.out]; go_must (refine (of_any _ _ HLT.out).mono ?_); rintro e w1 ⟨v1, rfl, ⟨A1, c1, rfl, hwd1⟩, hb1⟩; have hh1 := (Held.call hb1 (Held.self HR.out)).2)
      | (go_at_call 54; go_must (refine (made_any hwd1 ?_).mono ?_); (rw [wl_trim hwd1.small, val_dig (by omega)]; have := wl_word HLT.out; omega); rintro e w2 ⟨v2, rfl, ⟨A2, c2, rfl, hwd2⟩, hb2⟩; have hh := (Held.call hb2 hh1).2; have hl2 := hh1.lt; obtain ⟨u0, u1, hr0, hr1, hf0, hf1⟩ := hh.cells))
    refine bodyPost_ret (v := .agg #[.bool _, .slice A2 _ c2]) (by simp [results, Tryz.results15, go_sem, hr0, hr1]; exact ⟨rfl, rfl⟩) rfl ⟨_, rfl, ?_, hh.put hbW (by omega) _ _⟩
    exact (nint_put (w := w) hl2 hwd2 (Nat.le_refl _) _ _).cast (by rw [val_dig (by omega)]; simp [sg]; omega)

end Go.Proofs.YtefcdclmabdmbaaGreatDoor

namespace Go.Proofs.YtefcdclmabdmbaaGreatDoor
open Go.RowKit

/-- The slice value with address A, length n and capacity c holds the half words l, in a block of D. -/
structure Hd (w : World) (D : Nat → Prop) (A : Option Addr) (n c : Nat) (l : List Nat) : Prop where
  len : l.length = n
  cap : n ≤ c
  room : c ≤ maxLen
  small : ∀ x ∈ l, x < 65536
  cells : 0 < n → ∃ b off, A = some ⟨b, off, none⟩ ∧ D b ∧ ∀ j, j < n → w.cell? ⟨b, off + j, none⟩ = some (.int .i64 (gw l j))

section
variable {w w' : World} {D D' : Nat → Prop} {A : Option Addr} {n c : Nat} {l : List Nat}
theorem Hd.mono (h : Hd w D A n c l) (hd : ∀ b, D b → b < w.heap.size → D' b) : Hd w D' A n c l :=
  ⟨h.len, h.cap, h.room, h.small, fun hn => by
    obtain ⟨b, off, e, hb, hc⟩ := h.cells hn
    exact ⟨b, off, e, hd b hb (cell_lt (hc 0 hn)), hc⟩⟩
/-- What keeps the blocks of D keeps the words. -/
theorem Hd.keep (h : Hd w D A n c l) (hk : ∀ b o, D b → b < w.heap.size → w'.cell? ⟨b, o, none⟩ = w.cell? ⟨b, o, none⟩) : Hd w' D A n c l :=
  ⟨h.len, h.cap, h.room, h.small, fun hn => by
    obtain ⟨b, off, e, hb, hc⟩ := h.cells hn
    have hlt := cell_lt (hc 0 hn)
    exact ⟨b, off, e, hb, fun j hj => (hk b _ hb hlt).trans (hc j hj)⟩⟩
theorem Hd.below (h : Hd w D A n c l) (hb : Below w.heap.size w w') : Hd w' D A n c l := h.keep fun _ _ _ hl => (bcell hb).1 _ _ hl
theorem Hd.alloc (h : Hd w D A n c l) (o : Obj) : Hd (w.alloc o) D A n c l := h.below ((Below.refl _ _).alloc (Nat.le_refl _) o)
theorem Hd.drewN (h : Hd w D A n c l) (m : Nat) : Hd (w.drewN m) D A n c l := h.keep fun _ _ _ _ => rfl
theorem Hd.drew (h : Hd w D A n c l) : Hd w.drew D A n c l := h.keep fun _ _ _ _ => rfl
theorem Hd.setCell (h : Hd w D A n c l) {p : Addr} (hp : ¬ D p.block) (u : Value) : Hd (w.setCell p u) D A n c l :=
  h.keep fun b o hd _ => World.cell?_setCell_other w p ⟨b, o, none⟩ u (fun e => hp (by subst e; exact hd))
theorem Hd.nil (c : Nat) (hc : c ≤ maxLen) : Hd w D A 0 c [] := ⟨rfl, Nat.zero_le _, hc, fun _ h => (by cases h), fun h => absurd h (by omega)⟩
theorem Hd.take (h : Hd w D A n c l) {k : Nat} (hk : k ≤ n) : Hd w D A k k (l.take k) :=
  ⟨by rw [List.length_take, h.len]; omega, Nat.le_refl _, by have := h.room; have := h.cap; omega, fun x hx => h.small x (List.mem_of_mem_take hx), fun hn => by
    obtain ⟨b, off, e, hb, hc⟩ := h.cells (by omega)
    exact ⟨b, off, e, hb, fun j hj => by rw [hc j (by omega), gw_take hj]⟩⟩
theorem Hd.trim (h : Hd w D A n c l) : Hd w D A (trim l).length (trim l).length (trim l) := by
  have h1 := h.take (k := (Go.Proofs.YtefcdclmabdmbaaGreatDoor.trim l).length) (by rw [← h.len]; exact trim_length_le l)
  rwa [← trim_eq_take] at h1
end

/-- A slice value that holds words. -/
def HdV (w : World) (D : Nat → Prop) (v : Value) (l : List Nat) : Prop := ∃ A c, v = .slice A l.length c ∧ Hd w D A l.length c l

theorem Hd.v {w : World} {D : Nat → Prop} {A : Option Addr} {n c : Nat} {l : List Nat} (h : Hd w D A n c l) : HdV w D (.slice A n c) l := by
  have := h.len
  subst this
  exact ⟨A, c, rfl, h⟩

/-- An array of words. -/
def HArr (w : World) (g : Nat) (l : List Nat) : Prop := Arr w g 3 (l.map fun x : Nat => Value.int .i64 (x : Int))
section
variable {w w' : World} {g : Nat} {l : List Nat}
theorem HArr.cell (h : HArr w g l) {i : Nat} (hi : i < l.length) : w.cell? ⟨g, i, none⟩ = some (.int .i64 (gw l i)) := by
  rw [Arr.cell h, List.getElem?_map, gw_lt hi]; rfl
theorem HArr.frozen (h : HArr w g l) (i : Nat) : w.frozen? ⟨g, i, none⟩ = false := Arr.frozen h i
theorem HArr.set_ (h : HArr w g l) (i x : Nat) : HArr (w.setCell ⟨g, i, none⟩ (.int .i64 (x : Int))) g (l.set i x) := by
  have := Arr.set_ h i (.int .i64 (x : Int))
  unfold HArr
  rwa [List.map_set]
theorem HArr.wd (h : HArr w g l) (hs : ∀ x ∈ l, x < 65536) (hm : l.length ≤ maxLen) {D : Nat → Prop} (hd : D g) : Hd w D (some ⟨g, 0, none⟩) l.length l.length l :=
  ⟨rfl, Nat.le_refl _, hm, hs, fun _ => ⟨g, 0, rfl, hd, fun j hj => by rw [Nat.zero_add]; exact h.cell hj⟩⟩
theorem HArr.made {n : Nat} (h : Arr w g 3 (madeCells (Value.int .i64 0).cells (n * 1)).toList) : HArr w g (List.replicate n 0) := by
  unfold HArr
  rw [List.map_replicate]
  have e := toList_madeCells_one (.int .i64 0) n
  rw [Nat.mul_one] at h
  rw [show (Value.int .i64 0).cells = #[Value.int .i64 0] from rfl, e] at h
  exact h
end

theorem info_intA : (Tryz.prog.info? 3).map (fun i => (i.zero, i.size, i.bytes)) = some (some (.int .i64 0), 1, 8) := by kernel_rfl

theorem Hd.src {w : World} {D : Nat → Prop} {A : Option Addr} {n c : Nat} {l : List Nat} (h : Hd w D A n c l) : Src w 1 A n (l.map fun x : Nat => Value.int .i64 (x : Int)) := by
  refine ⟨by rw [List.length_map, h.len, Nat.mul_one], fun hn => ?_⟩
  obtain ⟨b, off, rfl, _, hc⟩ := h.cells hn
  refine ⟨_, rfl, fun j u hu => ?_⟩
  rw [List.getElem?_map] at hu
  rcases Nat.lt_or_ge j l.length with hj | hj
  · rw [gw_lt hj] at hu
    simp only [Option.map_some, Option.some.injEq] at hu
    subst hu
    have := hc j (by rw [← h.len]; exact hj)
    unfold Addr.add
    split
    · rename_i h0; subst h0; exact this
    · exact this
  · rw [List.getElem?_eq_none hj] at hu
    cases hu
theorem halves_oneCell (l : List Nat) : ∀ u ∈ l.map (fun x : Nat => Value.int .i64 (x : Int)), u.oneCell' = true := by
  intro u hu
  obtain ⟨x, _, rfl⟩ := List.mem_map.1 hu
  rfl
theorem hd_of_own {w : World} {base n : Nat} {v : Value} {l : List Nat} (h : w.ownsRow base 3 1 v n (l.map fun x : Nat => Value.int .i64 (x : Int))) (hs : ∀ x ∈ l, x < 65536) :
    ∃ A c, v = .slice A n c ∧ Hd w (base ≤ ·) A n c l := by
  have hl : l.length = n := by have := h.1; rw [List.length_map, Nat.mul_one] at this; exact this
  obtain ⟨A, c, rfl, hc, hm⟩ := own_slice h
  refine ⟨A, c, rfl, hl, hc, hm, hs, fun hn => ?_⟩
  obtain ⟨g, cap, hv, hb, _, _, _, hcell⟩ := own_cells h hn
  injection hv with hA
  subst hA
  exact ⟨g, 0, rfl, hb, fun j hj => by rw [Nat.zero_add]; exact hcell j _ (by rw [List.getElem?_map, gw_lt (by omega)]; rfl)⟩
/-- A slice that is cut keeps its capacity. -/
theorem Hd.cut {w : World} {D : Nat → Prop} {A : Option Addr} {n c : Nat} {l : List Nat} (h : Hd w D A n c l) {k : Nat} (hk : k ≤ n) : Hd w D A k c (l.take k) :=
  ⟨by rw [List.length_take, h.len]; omega, by have := h.cap; omega, h.room, fun x hx => h.small x (List.mem_of_mem_take hx), fun hn => by
    obtain ⟨b, off, e, hb, hc⟩ := h.cells (by omega)
    exact ⟨b, off, e, hb, fun j hj => by rw [hc j (by omega), gw_take hj]⟩⟩

set_option maxHeartbeats 400000 in
/-- trim: digits without zeros at the end, in new memory. -/
theorem rtrim_any {D : Nat → Prop} {A : Option Addr} {n c : Nat} {l : List Nat} {w : World} (h : Hd w D A n c l) (hn : n ≤ 10000000000000) :
    Calls Tryz.prog 151 #[.slice A n c] w (Gives w fun w' v => HdV w' (w.heap.size ≤ ·) v (trim l)) := by
  have hc := h.cap
  have hroom := h.room
  unfold maxLen at hroom
  go_enter Tryz.func151, Tryz.ntmps151
  go_wp2
  go_loop [3] (fun i => ∃ k : Nat, k ≤ n ∧ i = .int .i64 k ∧ trim l = trim (l.take k)) (fun i => (intOf i).toNat)
  case atStart => exact ⟨n, Nat.le_refl _, rfl, by rw [List.take_of_length_le (by rw [h.len]; exact Nat.le_refl _)]⟩
  case round =>
    obtain ⟨k, hk, rfl, ht⟩ := hrel
    have HT := Lib.hid ht; clear ht
    have hfin : ∀ (w1 : World) (k : Nat) (v' : Value), k ≤ n → trim l = l.take k → w1.ownsRow w.heap.size 3 1 v' (0 + k) ([] ++ (l.take k).map fun x : Nat => Value.int .i64 (x : Int)) → HdV w1 (w.heap.size ≤ ·) v' (trim l) := by
      intro w1 k v' hk ht hown
      rw [Nat.zero_add, List.nil_append] at hown
      obtain ⟨A', c', rfl, hd⟩ := hd_of_own hown (fun x hx => h.small x (List.mem_of_mem_take hx))
      rw [ht]
      exact hd.v
    have HF := Lib.hid hfin
    clear hfin
    rcases Nat.eq_zero_or_pos k with h0 | h0
    · subst h0
      have e : trim l = l.take 0 := HT.out
      have HE := Lib.hid e
      clear e
      have hcut := h.cut (k := 0) (by omega)
      go_wp2_with (at_builtin; go_must (refine wpList_app _ rfl _ _ _ _ rfl w.heap.size 3 3 (.int .i64 0) 1 8 Tryz.underlying55 Tryz.underlying55 info_intA rfl (by omega) (.slice (some ⟨w.heap.size, 0, none⟩) 0 0) 0 [] rfl (World.ownsRow_lit w #[] 0 (Nat.le_refl _) (by unfold maxLen; omega) rfl) A 0 c _ rfl ((hcut.alloc _).src) (halves_oneCell _) (by unfold maxLen; omega) (by omega) (by simp) ?_); intro v1 w1 hown hgr hat)
      go_ret
      exact ⟨_, rfl, HF.out _ 0 _ (by omega) HE.out hown, ((Below.refl _ _).alloc (Nat.le_refl _) _).grown hgr (by simp) (by simp [Value.ownBlock])⟩
    · obtain ⟨j, rfl⟩ : ∃ j, k = j + 1 := ⟨k - 1, by omega⟩
      obtain ⟨b, off, rfl, hb, hcell⟩ := h.cells (by omega)
      have h1 := hcell j (by omega)
      clear hcell
      have hl : j < l.length := by rw [h.len]; omega
      by_cases hz : gw l j = 0
      · have hz' : ((gw l j : Int) == 0) = true := by simp [hz]
        have HZ := Lib.hid hz; clear hz
        go_wp2
        go_round
        case rel => exact ⟨j, by omega, rfl, by rw [HT.out, trim_take_zero hl HZ.out]⟩
        case measure => simp [intOf]
      · have hz' : ((gw l j : Int) == 0) = false := by simpa using hz
        have e : trim l = l.take (j + 1) := by rw [HT.out, trim_take_ne hl hz]
        have HE := Lib.hid e
        clear e hz
        have hcut := h.cut (k := j + 1) (by omega)
        go_wp2_with (at_builtin; go_must (refine wpList_app _ rfl _ _ _ _ rfl w.heap.size 3 3 (.int .i64 0) 1 8 Tryz.underlying55 Tryz.underlying55 info_intA rfl (by omega) (.slice (some ⟨w.heap.size, 0, none⟩) 0 0) 0 [] rfl (World.ownsRow_lit w #[] 0 (Nat.le_refl _) (by unfold maxLen; omega) rfl) (some ⟨b, off, none⟩) (j + 1) c _ rfl ((hcut.alloc _).src) (halves_oneCell _) (by unfold maxLen; omega) (by omega) (by simp) ?_); intro v1 w1 hown hgr hat)
        go_ret
        exact ⟨_, rfl, HF.out _ (j + 1) _ (by omega) HE.out hown, ((Below.refl _ _).alloc (Nat.le_refl _) _).grown hgr (by simp) (by simp [Value.ownBlock])⟩

end Go.Proofs.YtefcdclmabdmbaaGreatDoor

namespace Go.Proofs.YtefcdclmabdmbaaGreatDoor
open Go.RowKit

/-- An api.Int that reads as x, whose list of words is not too long. -/
def IntB (w : World) (v : Value) (x : Int) : Prop :=
  ∃ neg A n c l, v = .agg #[.bool neg, .slice A n c] ∧ Wd w (fun _ => True) A n c l ∧ x = sg neg (val 4294967296 l) ∧ n ≤ 1000000000000
theorem IntB.int {w : World} {v : Value} {x : Int} (h : IntB w v x) : IntV w (fun _ => True) v x := by
  obtain ⟨neg, A, n, c, l, e, h, hx, _⟩ := h
  exact ⟨neg, A, n, c, l, e, h, hx⟩
theorem IntB.wl {w : World} {v : Value} {x : Int} (h : IntB w v x) : wl x.natAbs ≤ 1000000000000 := by
  obtain ⟨neg, A, n, c, l, e, h, rfl, hn⟩ := h
  rw [sg_natAbs]
  have := val_lt h.small
  have := dig_length_le (b := 4294967296) (by omega) this
  unfold Go.Proofs.YtefcdclmabdmbaaGreatDoor.wl
  rw [h.len] at this
  omega
theorem NIntV.b {w : World} {D : Nat → Prop} {v : Value} {x : Int} (h : NIntV w D v x) (hl : Go.Proofs.YtefcdclmabdmbaaGreatDoor.wl x.natAbs ≤ 1000000000000) : IntB w v x := by
  replace h := h.mono (D' := fun _ => True) (fun _ _ _ => trivial)
  obtain ⟨A, c, rfl, h⟩ := h
  exact ⟨_, A, _, c, _, rfl, h, by rw [val_dig (by omega), sg_abs], hl⟩
theorem IntB.below {w w' : World} {v : Value} {x : Int} (h : IntB w v x) (hb : Below w.heap.size w w') : IntB w' v x := by
  obtain ⟨neg, A, n, c, l, e, h, hx, hn⟩ := h
  exact ⟨neg, A, n, c, l, e, h.below hb, hx, hn⟩

end Go.Proofs.YtefcdclmabdmbaaGreatDoor

namespace Go.Proofs.YtefcdclmabdmbaaGreatDoor
open Go.RowKit

/-- Half words in pairs. -/
def pk : List Nat → List Nat
  | [] => []
  | [x] => [x]
  | x :: y :: r => (x + y * 65536) :: pk r
theorem pk_val : ∀ l : List Nat, val 4294967296 (pk l) = val 65536 l
  | [] => rfl
  | [x] => by simp [pk, val]
  | x :: y :: r => by simp only [pk, val, pk_val r]; omega
theorem pk_small : ∀ {l : List Nat}, (∀ x ∈ l, x < 65536) → ∀ x ∈ pk l, x < 4294967296
  | [], _, x, hx => by cases hx
  | [y], h, x, hx => by
    simp only [pk, List.mem_singleton] at hx
    subst hx
    have := h x (List.mem_singleton.2 rfl)
    omega
  | y :: z :: r, h, x, hx => by
    simp only [pk, List.mem_cons] at hx
    rcases hx with rfl | hx
    · have := h y (by simp)
      have := h z (by simp)
      omega
    · exact pk_small (fun u hu => h u (by simp [hu])) x hx
theorem pk_gw : ∀ (l : List Nat) (k : Nat), gw (pk l) k = gw l (2 * k) + gw l (2 * k + 1) * 65536
  | [], k => by simp [pk, gw_nil]
  | [x], 0 => by simp [pk, gw]
  | [x], k + 1 => by
    rw [show 2 * (k + 1) = 2 * k + 1 + 1 from by omega]
    simp [pk, gw]
  | x :: y :: r, 0 => by simp [pk, gw]
  | x :: y :: r, k + 1 => by
    rw [show 2 * (k + 1) = 2 * k + 1 + 1 from by omega]
    simp only [pk, gw_cons_succ]
    exact pk_gw r k
theorem pk_length : ∀ l : List Nat, (pk l).length = (l.length + 1) / 2
  | [] => rfl
  | [x] => by simp [pk]
  | x :: y :: r => by simp only [pk, List.length_cons, pk_length r]; omega
theorem pk_trim {l : List Nat} (h : ∀ x ∈ l, x < 65536) (ht : trim l = l) : pk l = dig 4294967296 (val 65536 l) := by
  rw [← pk_val, ← trim_eq_dig (by omega) (pk_small h)]
  rcases Nat.eq_zero_or_pos l.length with h0 | h0
  · rw [List.eq_nil_of_length_eq_zero h0]; rfl
  · have hl := pk_length l
    obtain ⟨k, hk⟩ : ∃ k, (pk l).length = k + 1 := ⟨(pk l).length - 1, by omega⟩
    have hne : gw (pk l) k ≠ 0 := by
      rw [pk_gw]
      obtain ⟨j, hj⟩ : ∃ j, l.length = j + 1 := ⟨l.length - 1, by omega⟩
      have hz := trim_last ht hj
      rcases Nat.lt_or_ge (2 * k + 1) l.length with h1 | h1
      · have : 2 * k + 1 = j := by omega
        rw [this]; omega
      · have : 2 * k = j := by omega
        rw [this]; omega
    have := trim_take_ne (l := pk l) (k := k) (by omega) hne
    rw [List.take_of_length_le (by omega)] at this
    exact this.symm

theorem nint_of_digits {w : World} {D : Nat → Prop} {neg s : Bool} {A : Option Addr} {k c V m : Nat} {T U : List Nat} (h : Wd w D A k c U) (hU : U = dig 4294967296 V) (hs : s = (neg && decide (0 < m))) (hm : m = T.length) (hT : T = dig 65536 V) :
    NIntV w D (.agg #[.bool s, .slice A k c]) (sg neg V) := by
  by_cases h0 : V = 0
  · subst h0
    rw [dig_zero] at hU hT
    subst hU hT
    have hk := h.len
    simp only [List.length_nil] at hk hm
    subst hk hm
    have e1 : sg neg 0 = 0 := by unfold sg; split <;> rfl
    have e2 : s = false := by rw [hs]; simp
    rw [e1, e2]
    exact ⟨A, c, rfl, h⟩
  · have hpos : 0 < m := by
      rw [hm]
      rcases Nat.eq_zero_or_pos T.length with h1 | h1
      · rw [List.eq_nil_of_length_eq_zero h1] at hT
        exact absurd ((dig_eq_nil (by omega)).1 hT.symm) h0
      · exact h1
    have e2 : s = neg := by rw [hs]; simp [hpos]
    rw [e2]
    exact nint_of h hU h0

theorem Arr.grown {w w' : World} {g : Nat} {t : TypeId} {xs : List Value} {row : Option Nat} (h : Arr w g t xs) (hb : w.grownBy w' row) (hg : some g ≠ row) : Arr w' g t xs := (hb.block g h.lt hg).trans h

set_option maxRecDepth 100000 in
set_option maxHeartbeats 2000000 in
theorem rmade_any {D : Nat → Prop} {neg : Bool} {A : Option Addr} {n c : Nat} {l : List Nat} {w : World} (h : Hd w D A n c l) (hn : n ≤ 10000000000000) :
    Calls Tryz.prog 101 #[.bool neg, .slice A n c] w (Gives w fun w' v => NIntV w' (w.heap.size ≤ ·) v (sg neg (val 65536 l))) := by
  have hts : ∀ x ∈ trim l, x < 65536 := fun x hx => h.small x (trim_mem hx)
  have htt := trim_trim (by omega) h.small
  have hpk := pk_trim hts htt
  rw [val_trim] at hpk
  have hdg := trim_eq_dig (b := 65536) (by omega) h.small
  have htn : (trim l).length ≤ n := by rw [← h.len]; exact trim_length_le l
  generalize hT : trim l = T at *
  have HPK := Lib.hid hpk
  have HDG := Lib.hid hdg
  clear hdg
  have HTT := Lib.hid htt
  have HT := Lib.hid hT
  clear hpk htt hT
  generalize hm : T.length = m at *
  have HM := Lib.hid hm
  clear hm
  have hcases : (neg = false) ∨ (neg = true ∧ m ≤ 0) ∨ (neg = true ∧ 0 < m) := by cases neg <;> simp <;> omega
  obtain ⟨W, hW⟩ : ∃ W, W = w.alloc (.cells #[.bool false, .slice none 0 0] 42) := ⟨_, rfl⟩
  have hbW : Below w.heap.size w W := by rw [hW]; exact (Below.refl _ _).alloc (Nat.le_refl _) _
  have HR : Hid (W.heap[w.heap.size]? = some (.cells #[.bool false, .slice none 0 0] 42 (0, 0))) := by rw [hW]; exact heap_alloc_new _ _
  have HWW := Lib.hid hW
  clear hW
  obtain ⟨neg0, hn0⟩ : ∃ b, b = neg := ⟨_, rfl⟩
  have HN0 := Lib.hid hn0
  clear hn0
  rcases hcases with rfl | ⟨rfl, hpos⟩ | ⟨rfl, hpos⟩
  all_goals
    go_enter Tryz.func101, Tryz.ntmps101
    go_wp2_with (go_at_call 151; rw [← HWW.out]; ((with_reducible refine (rtrim_any (h.below hbW) hn).mono ?_)); rintro e w1 ⟨v1, rfl, ⟨A1, c1, rfl, hd1⟩, hb1⟩; rw [HT.out] at hd1 ⊢; rw [HM.out] at hd1 ⊢; have hh1 := (Held.call hb1 (Held.self HR.out)).2)
  all_goals
    go_loopw [6] (fun i wr => ∃ (p k : Nat) (s : Bool) (A2 : Option Addr) (c2 : Nat), i = .int .i64 p ∧ p ≤ 10000000000001 ∧ Hid (p = 2 * k) ∧ k ≤ (pk T).length ∧ Arr wr w1.heap.size 42 [.bool s, .slice A2 k c2] ∧ wr.ownsRow (w1.heap.size + 1) 136 1 (.slice A2 k c2) k (((pk T).take k).map fun x : Nat => Value.int .u32 (x : Int)) ∧
        Hid (s = (neg0 && decide (0 < m))) ∧ Below w1.heap.size w1 wr) (fun i _ => m - (intOf i).toNat)
    case atStart =>
      refine ⟨0, 0, _, none, 0, rfl, by omega, rfl, by omega, Arr.new _ _ [_, _], World.ownsRow_nil _ _ _ _, ?_, (Below.refl _ _).alloc (Nat.le_refl _) _⟩
      show _ = _
      rw [HN0.out]
      first | rfl | (simp; omega)
    case round =>
      obtain ⟨p, k, s, A2, c2, rfl, hp, hpk, hkl, harr, hown, hs, hbr⟩ := hrel
      have hO := harr.lt
      have f0 := harr.cell 0
      have f1 := harr.cell 1
      have z0 := harr.frozen 0
      have z1 := harr.frozen 1
      simp only [List.getElem?_cons_zero, List.getElem?_cons_succ] at f0 f1
      have hTl : T.length = m := HM.out
      have HTl := Lib.hid hTl
      clear hTl
      rcases Nat.lt_or_ge p m with hpm | hpm
      · try (exfalso; omega)
        all_goals
          obtain ⟨b1, off1, rfl, hbD, hcl⟩ := hd1.cells (by omega)
          have hb1l := cell_lt (hcl 0 (by omega))
          have e1 : wr.cell? ⟨b1, off1 + p, none⟩ = some (.int .i64 (gw T p)) := by
            rw [hbr.cell (p := ⟨b1, off1 + p, none⟩) hb1l]; exact hcl p hpm
          have g1 := gw_bound hts (by omega) p
          have g2 := gw_bound hts (by omega) (p + 1)
          have hpl := pk_length T
          have hkT : k < (pk T).length := by have := hpk.out; have := HTl.out; omega
          clear hpl
          have hk2 : k ≤ 10000000000000 := by have := hpk.out; omega
          have HOB := Lib.hid (fun g (hg : (Value.slice A2 k c2).ownBlock = some g) => (hown.lt g hg).1)
          by_cases hp1 : p + 1 < m
          · have e2 : wr.cell? ⟨b1, off1 + (p + 1), none⟩ = some (.int .i64 (gw T (p + 1))) := by
              rw [hbr.cell (p := ⟨b1, off1 + (p + 1), none⟩) hb1l]; exact hcl (p + 1) hp1
            clear hcl
            go_wp2_with (at_builtin; go_must (refine wpList_app _ rfl _ _ _ _ rfl (w1.heap.size + 1) 136 136 (.int .u32 0) 1 4 Tryz.underlying40 Tryz.underlying40 info_u32 rfl (by omega) (.slice A2 k c2) k _ rfl (hown.alloc _) (some ⟨wr.heap.size, 0, none⟩) 1 1 [.int .u32 ((gw T p : Int) + (gw T (p + 1) : Int) * 65536)] rfl (src_block (t := 136) (cs := [.int .u32 ((gw T p : Int) + (gw T (p + 1) : Int) * 65536)]) (heap_alloc_new wr _) 1 1 rfl) (by simp [Value.oneCell']) (by unfold maxLen; omega) (by omega) (by simp; omega) ?_); intro v3 w3 hown3 hgr3 hat3; obtain ⟨A3, c3, rfl, _, _⟩ := own_slice hown3; have q0 := hgr3.cell_far ⟨w1.heap.size, 0, none⟩ (by simp; omega) (fun e => by have := HOB.out _ e.symm; simp at this; omega); have q1 := hgr3.cell_far ⟨w1.heap.size, 1, none⟩ (by simp; omega) (fun e => by have := HOB.out _ e.symm; simp at this; omega); have q2 := hgr3.frozen_far ⟨w1.heap.size, 1, none⟩ (by simp; omega) (fun e => by have := HOB.out _ e.symm; simp at this; omega))
            go_roundw
            case rel =>
              refine ⟨p + 2, k + 1, s, A3, c3, by go_num, by omega, by show _ = _; have := hpk.out; omega, by omega, ?_, ?_, hs, ?_⟩
              · have ha := (((harr.alloc (.cells #[.int .u32 ((gw T p : Int) + (gw T (p + 1) : Int) * 65536)] 136)).grown hgr3 (fun e => by have := HOB.out _ e.symm; omega))).set_ 1 (.slice A3 (k + 1) c3)
                exact ha
              · rw [show (pk T).take (k + 1) = (pk T).take k ++ [gw (pk T) k] from take_succ_gw hkT, List.map_append]
                have e3 : (gw (pk T) k : Int) = ((gw T p : Int) + (gw T (p + 1) : Int) * 65536) := by
                  rw [pk_gw, ← hpk.out]; omega
                simp only [List.map_cons, List.map_nil, e3]
                exact ownsRow_setCell_below hown3 (Nat.lt_succ_self _) _
              · exact ((hbr.alloc (by omega) _).grown hgr3 (by simp; omega) (fun g hg => by have := HOB.out g hg; omega)).setCell (Nat.le_refl _) _
            case measure => simp [intOf]; omega
          · clear hcl
            go_wp2_with (at_builtin; go_must (refine wpList_app _ rfl _ _ _ _ rfl (w1.heap.size + 1) 136 136 (.int .u32 0) 1 4 Tryz.underlying40 Tryz.underlying40 info_u32 rfl (by omega) (.slice A2 k c2) k _ rfl (hown.alloc _) (some ⟨wr.heap.size, 0, none⟩) 1 1 [.int .u32 (gw T p : Int)] rfl (src_block (t := 136) (cs := [.int .u32 (gw T p : Int)]) (heap_alloc_new wr _) 1 1 rfl) (by simp [Value.oneCell']) (by unfold maxLen; omega) (by omega) (by simp; omega) ?_); intro v3 w3 hown3 hgr3 hat3; obtain ⟨A3, c3, rfl, _, _⟩ := own_slice hown3; have q0 := hgr3.cell_far ⟨w1.heap.size, 0, none⟩ (by simp; omega) (fun e => by have := HOB.out _ e.symm; simp at this; omega); have q1 := hgr3.cell_far ⟨w1.heap.size, 1, none⟩ (by simp; omega) (fun e => by have := HOB.out _ e.symm; simp at this; omega); have q2 := hgr3.frozen_far ⟨w1.heap.size, 1, none⟩ (by simp; omega) (fun e => by have := HOB.out _ e.symm; simp at this; omega))
            go_roundw
            case rel =>
              refine ⟨p + 2, k + 1, s, A3, c3, by go_num, by omega, by show _ = _; have := hpk.out; omega, by omega, ?_, ?_, hs, ?_⟩
              · have ha := (((harr.alloc (.cells #[.int .u32 (gw T p : Int)] 136)).grown hgr3 (fun e => by have := HOB.out _ e.symm; omega))).set_ 1 (.slice A3 (k + 1) c3)
                exact ha
              · rw [show (pk T).take (k + 1) = (pk T).take k ++ [gw (pk T) k] from take_succ_gw hkT, List.map_append]
                have e3 : (gw (pk T) k : Int) = (gw T p : Int) := by
                  rw [pk_gw, ← hpk.out]; rw [gw_ge (l := T) (j := p + 1) (by have := HTl.out; omega)]; omega
                simp only [List.map_cons, List.map_nil, e3]
                exact ownsRow_setCell_below hown3 (Nat.lt_succ_self _) _
              · exact ((hbr.alloc (by omega) _).grown hgr3 (by simp; omega) (fun g hg => by have := HOB.out g hg; omega)).setCell (Nat.le_refl _) _
            case measure => simp [intOf]; omega
      · have hkf : k = (pk T).length := by
          have h1 := pk_length T
          have h2 := hpk.out
          have h3 := HTl.out
          omega
        have hr := Held.call hbr hh1
        obtain ⟨u0, u1, r0, r1, y0, y1⟩ := hr.2.cells
        have HKF := Lib.hid hkf
        clear hkf
        have hne : w.heap.size < w1.heap.size := hh1.lt
        go_wp2_with fail
        refine bodyPost_ret (v := .agg #[.bool s, .slice A2 k c2]) (by simp [results, Tryz.results101, go_sem, r0, r1]) rfl ⟨_, rfl, ?_, hr.2.put hbW (Nat.le_refl _) _ _⟩
        have hk2 := HKF.out
        rw [List.take_of_length_le (by omega)] at hown
        obtain ⟨A4, c4, he, hwd⟩ := wd_of_own hown (pk_small hts)
        injection he with e1 e2 e3
        subst e1 e3
        have hni := nint_of_digits (m := m) hwd HPK.out hs.out HM.out.symm HDG.out
        rw [HN0.out] at hni
        exact ((hni.setCell (p := ⟨w.heap.size, 0, none⟩) (by simp; omega) _).setCell (p := ⟨w.heap.size, 1, none⟩) (by simp; omega) _).mono (fun b hb _ => by have : w1.heap.size + 1 ≤ b := hb; show w.heap.size ≤ b; omega)

end Go.Proofs.YtefcdclmabdmbaaGreatDoor

namespace Go.Proofs.YtefcdclmabdmbaaGreatDoor
open Go.RowKit

end Go.Proofs.YtefcdclmabdmbaaGreatDoor

namespace Go.Proofs.YtefcdclmabdmbaaGreatDoor
open Go.RowKit

end Go.Proofs.YtefcdclmabdmbaaGreatDoor

namespace Go.Proofs.YtefcdclmabdmbaaGreatDoor
open Go.RowKit

end Go.Proofs.YtefcdclmabdmbaaGreatDoor

namespace Go.Proofs.YtefcdclmabdmbaaGreatDoor
open Go.RowKit

end Go.Proofs.YtefcdclmabdmbaaGreatDoor

namespace Go.Proofs.YtefcdclmabdmbaaGreatDoor
open Go.RowKit

theorem Wd.b {w : World} {A : Option Addr} {n c : Nat} {l : List Nat} (h : Wd w (fun _ => True) A n c l) (neg : Bool) (hn : n ≤ 1000000000000) : IntB w (.agg #[.bool neg, .slice A n c]) (sg neg (val 4294967296 l)) := ⟨neg, A, n, c, l, rfl, h, rfl, hn⟩
end Go.Proofs.YtefcdclmabdmbaaGreatDoor

namespace Go.Proofs.YtefcdclmabdmbaaGreatDoor
open Go.RowKit

theorem few_digits {V k a N : Nat} (h : V + 65536 ^ k * a = N) (ha : 0 < a) (hN : N < 18446744073709551616) : k < 4 := by
  rcases Nat.lt_or_ge k 4 with h4 | h4
  · exact h4
  · exfalso
    have h1 : 65536 ^ 4 ≤ 65536 ^ k := Nat.pow_le_pow_right (by omega) h4
    have h2 : 65536 ^ k * 1 ≤ 65536 ^ k * a := Nat.mul_le_mul_left _ ha
    omega
theorem of_step {V k a N : Nat} (h : V + 65536 ^ k * a = N) : V + 65536 ^ k * (a % 65536) + 65536 ^ (k + 1) * (a / 65536) = N := by
  have e : 65536 ^ (k + 1) * (a / 65536) = 65536 ^ k * (65536 * (a / 65536)) := by rw [Nat.pow_succ, Nat.mul_assoc]
  rw [e, Nat.add_assoc, ← Nat.mul_add, Nat.mod_add_div, h]

set_option maxHeartbeats 1000000 in
theorem rOf_any (n : Int) (w : World) (h : -9223372036854775808 ≤ n) (h' : n ≤ 9223372036854775807) :
    Calls Tryz.prog 32 #[.int .i64 n] w (Gives w fun w' v => NIntV w' (w.heap.size ≤ ·) v n) := by
  have HLT := Lib.hid (show n.natAbs < 18446744073709551616 by omega)
  obtain ⟨W, hW⟩ : ∃ W, W = w.alloc (.cells #[.bool false, .slice none 0 0] 42) := ⟨_, rfl⟩
  have hbW : Below w.heap.size w W := by rw [hW]; exact (Below.refl _ _).alloc (Nat.le_refl _) _
  have HR : Hid (W.heap[w.heap.size]? = some (.cells #[.bool false, .slice none 0 0] 42 (0, 0))) := by rw [hW]; exact heap_alloc_new _ _
  have HWW := Lib.hid hW
  clear hW
  have HRW : Held w.heap.size W W := Held.self HR.out
  obtain ⟨N, hN⟩ : ∃ N, N = n.natAbs := ⟨_, rfl⟩
  have HN := Lib.hid hN
  by_cases h0 : n < 0
  · obtain rfl : n = -(N : Int) := by omega
    have hb63 : N ≤ 9223372036854775808 := by omega
    have hNpos : 0 < N := by omega
    clear h h' hN
    go_enter Tryz.func32, Tryz.ntmps32
    go_wp2_with fail
    rw [← HWW.out]
    go_loopg [0, 3] N (fun a nv ov wr => ∃ (k : Nat) (o : List Nat), nv = .int .i64 (-(a : Int)) ∧ a ≤ N ∧ wr.ownsRow W.heap.size 3 1 ov k (o.map fun x : Nat => Value.int .i64 (x : Int)) ∧ (∀ y ∈ o, y < 65536) ∧ Hid (val 65536 o + 65536 ^ k * a = N) ∧ Below W.heap.size W wr ∧ k ≤ 4)
    case atStart => exact ⟨0, [], rfl, Nat.le_refl _, World.ownsRow_nil _ _ _ _, fun y hy => (by cases hy), by simp [Hid, val], Below.refl _ _, by omega⟩
    case round =>
      obtain ⟨k, o, rfl, ha, hown, hsm, hinv, hbr, hk⟩ := hrel
      rcases Nat.eq_zero_or_pos gk with h1 | h1
      · subst h1
        rw [show (-((0 : Nat) : Int)) = 0 from rfl]
        obtain ⟨A1, c1, rfl, hd⟩ := hd_of_own hown hsm
        go_wp2_with (go_at_call 101; go_must (refine (rmade_any hd (by omega)).mono ?_); rintro e w2 ⟨v2, rfl, ⟨A2, c2, rfl, hwd2⟩, hb2⟩; have hh1 := (Held.call hbr HRW).2; have hl2 := hh1.lt; have hh := (Held.call hb2 hh1).2; obtain ⟨u0, u1, hr0, hr1, hf0, hf1⟩ := hh.cells)
        refine bodyPost_ret (v := .agg #[.bool _, .slice A2 _ c2]) (by simp [results, Tryz.results32, go_sem, hr0, hr1]; exact ⟨rfl, rfl⟩) rfl ⟨_, rfl, ?_, hh.put hbW (Nat.le_refl _) _ _⟩
        exact (nint_put (w := w) hl2 hwd2 (Nat.le_refl _) _ _).cast (by have := hinv.out; rw [Nat.mul_zero, Nat.add_zero] at this; rw [this]; rfl)
      · have t1 : ((-(gk : Int)) != 0) = true := by rw [bne_iff_ne]; omega
        have hk5 : k ≤ 4 := hk
        rcases Nat.eq_zero_or_pos (gk % 65536) with h2 | h2
        · have h3 : (gk : Int) % 65536 ≤ 0 := by omega
          have H2 := Lib.hid h2
          clear h2
          go_wp2_with (at_builtin; go_must (refine wpList_push _ rfl _ _ _ _ rfl W.heap.size 3 3 (.int .i64 0) 1 8 Tryz.underlying55 Tryz.underlying55 info_intA rfl (by omega) u3 k _ rfl hown [_] rfl rfl (by simp [Value.oneCell']) (by unfold maxLen; omega) (by omega) hbr.size ?_); intro A2 c2 w2 hown2 hgr2 hb2)
          go_roundg (gk / 65536)
          case measure => exact Nat.div_lt_self h1 (by omega)
          case rel =>
            have hk4 := few_digits hinv.out h1 (by have := HLT.out; omega)
            refine ⟨k + 1, o ++ [gk % 65536], by go_num, by have := Nat.div_le_self gk 65536; omega, ?_, fun y hy => ?_, ?_, hbr.trans (hb2.mono (Nat.le_refl _)), by omega⟩
            · rw [List.map_append]
              simp only [List.map_cons, List.map_nil]
              have e : (((gk % 65536 : Nat) : Int)) = -((gk : Int) % 65536) := by have := H2.out; omega
              rw [e]
              exact hown2
            · rcases List.mem_append.1 hy with hy | hy
              · exact hsm y hy
              · rw [List.mem_singleton.1 hy]; omega
            · show _ = _
              have hl : o.length = k := by have := hown.1; rw [List.length_map] at this; omega
              rw [val_snoc, hl]
              exact of_step hinv.out
        · have h3 : 0 < (gk : Int) % 65536 := by omega
          go_wp2_with (at_builtin; go_must (refine wpList_push _ rfl _ _ _ _ rfl W.heap.size 3 3 (.int .i64 0) 1 8 Tryz.underlying55 Tryz.underlying55 info_intA rfl (by omega) u3 k _ rfl hown [_] rfl rfl (by simp [Value.oneCell']) (by unfold maxLen; omega) (by omega) hbr.size ?_); intro A2 c2 w2 hown2 hgr2 hb2)
          go_roundg (gk / 65536)
          case measure => exact Nat.div_lt_self h1 (by omega)
          case rel =>
            have hk4 := few_digits hinv.out h1 (by have := HLT.out; omega)
            refine ⟨k + 1, o ++ [gk % 65536], by go_num, by have := Nat.div_le_self gk 65536; omega, ?_, fun y hy => ?_, ?_, hbr.trans (hb2.mono (Nat.le_refl _)), by omega⟩
            · rw [List.map_append]
              simp only [List.map_cons, List.map_nil]
              have e : (((gk % 65536 : Nat) : Int)) = ((gk : Int) % 65536) := by omega
              rw [e]
              exact hown2
            · rcases List.mem_append.1 hy with hy | hy
              · exact hsm y hy
              · rw [List.mem_singleton.1 hy]; omega
            · show _ = _
              have hl : o.length = k := by have := hown.1; rw [List.length_map] at this; omega
              rw [val_snoc, hl]
              exact of_step hinv.out
  · obtain rfl : n = (N : Int) := by omega
    have hb63 : N ≤ 9223372036854775807 := by omega
    clear h h' hN
    go_enter Tryz.func32, Tryz.ntmps32
    go_wp2_with fail
    rw [← HWW.out]
    go_loopg [0, 3] N (fun a nv ov wr => ∃ (k : Nat) (o : List Nat), nv = .int .i64 (a : Int) ∧ a ≤ N ∧ wr.ownsRow W.heap.size 3 1 ov k (o.map fun x : Nat => Value.int .i64 (x : Int)) ∧ (∀ y ∈ o, y < 65536) ∧ Hid (val 65536 o + 65536 ^ k * a = N) ∧ Below W.heap.size W wr ∧ k ≤ 4)
    case atStart => exact ⟨0, [], rfl, Nat.le_refl _, World.ownsRow_nil _ _ _ _, fun y hy => (by cases hy), by simp [Hid, val], Below.refl _ _, by omega⟩
    case round =>
      obtain ⟨k, o, rfl, ha, hown, hsm, hinv, hbr, hk⟩ := hrel
      rcases Nat.eq_zero_or_pos gk with h1 | h1
      · subst h1
        rw [show (((0 : Nat) : Int)) = 0 from rfl]
        obtain ⟨A1, c1, rfl, hd⟩ := hd_of_own hown hsm
        go_wp2_with (go_at_call 101; go_must (refine (rmade_any hd (by omega)).mono ?_); rintro e w2 ⟨v2, rfl, ⟨A2, c2, rfl, hwd2⟩, hb2⟩; have hh1 := (Held.call hbr HRW).2; have hl2 := hh1.lt; have hh := (Held.call hb2 hh1).2; obtain ⟨u0, u1, hr0, hr1, hf0, hf1⟩ := hh.cells)
        refine bodyPost_ret (v := .agg #[.bool _, .slice A2 _ c2]) (by simp [results, Tryz.results32, go_sem, hr0, hr1]; exact ⟨rfl, rfl⟩) rfl ⟨_, rfl, ?_, hh.put hbW (Nat.le_refl _) _ _⟩
        exact (nint_put (w := w) hl2 hwd2 (Nat.le_refl _) _ _).cast (by have := hinv.out; rw [Nat.mul_zero, Nat.add_zero] at this; rw [this]; rfl)
      · have t1 : (((gk : Int)) != 0) = true := by rw [bne_iff_ne]; omega
        · go_wp2_with (at_builtin; go_must (refine wpList_push _ rfl _ _ _ _ rfl W.heap.size 3 3 (.int .i64 0) 1 8 Tryz.underlying55 Tryz.underlying55 info_intA rfl (by omega) u3 k _ rfl hown [_] rfl rfl (by simp [Value.oneCell']) (by unfold maxLen; omega) (by omega) hbr.size ?_); intro A2 c2 w2 hown2 hgr2 hb2)
          go_roundg (gk / 65536)
          case measure => exact Nat.div_lt_self h1 (by omega)
          case rel =>
            have hk4 := few_digits hinv.out h1 (by have := HLT.out; omega)
            refine ⟨k + 1, o ++ [gk % 65536], by go_num, by have := Nat.div_le_self gk 65536; omega, ?_, fun y hy => ?_, ?_, hbr.trans (hb2.mono (Nat.le_refl _)), by omega⟩
            · rw [List.map_append]
              simp only [List.map_cons, List.map_nil]
              have e : (((gk % 65536 : Nat) : Int)) = ((gk : Int) % 65536) := by omega
              rw [e]
              exact hown2
            · rcases List.mem_append.1 hy with hy | hy
              · exact hsm y hy
              · rw [List.mem_singleton.1 hy]; omega
            · show _ = _
              have hl : o.length = k := by have := hown.1; rw [List.length_map] at this; omega
              rw [val_snoc, hl]
              exact of_step hinv.out

end Go.Proofs.YtefcdclmabdmbaaGreatDoor
