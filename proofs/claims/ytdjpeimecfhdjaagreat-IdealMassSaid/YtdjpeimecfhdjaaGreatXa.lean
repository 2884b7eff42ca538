/- Words for memory: a slice that reads as a list of cells, contracts that only make new memory. Numbers as lists of digits: values, canonical digits, lists without zeros at the end. Plain Lean. Slices of machine words that read as lists of numbers; package integer's functions on words. append onto a slice of the call's own: the source nil, empty or not, of a slice type of its own. Package integer: sums of words. Package integer: differences of words. Package integer: words of a machine word; words compared. Package integer: products of words. Integers of several words as values: what their fields hold; package integer's functions that make and take them apart. Package integer: normal forms, sums, differences, products, comparisons. Package integer: differences, comparisons, machine integers; package wide's small functions. Package integer: machine integers; package wide's small functions. Slices of ints that hold half words (the references' digits). The references' digits of an integer. The references' integers, made of digits. The references' sums of digits. The references' differences of digits. The references' comparison of digits. The references' products of digits. The references' integers: normal forms, sums, differences, products, signs. The references' integers of machine integers. -/
import Derived.Test.YtdjpeimecfhdjaaGreatProg
import Derived.WalkKit
import Derived.WalkSpells
import Derived.WalkLawsBesides
import Derived.Lib.Hide
import Derived.Deep.QuietTactic
import Derived.BigQuiet
import Derived.Deep.RegionHeld3
import Derived.Deep.AppendLies
import Derived.Deep.DeepCutAuto
import Derived.Maps.AppendAt
import Derived.KernelRfl
namespace Go.Proofs.YtdjpeimecfhdjaaGreat
open Go.RowKit
theorem sIB {α : Type} (l : List α) (i : Nat) (a : α) : l.toArray.setIfInBounds i a = (l.set i a).toArray := by simp only [List.setIfInBounds_toArray]
def Gives (w : World) (R : World → Value → Prop) (e : Ending) (w' : World) : Prop := ∃ v, e = .returned v ∧ R w' v ∧ Below w.heap.size w w'
theorem bcell {W w1 : World} (hb : Below W.heap.size W w1) : (∀ b o, b < W.heap.size → w1.cell? ⟨b, o, none⟩ = W.cell? ⟨b, o, none⟩) ∧ (∀ b o, b < W.heap.size → w1.frozen? ⟨b, o, none⟩ = W.frozen? ⟨b, o, none⟩) :=
 ⟨fun b o h => hb.cell (p := ⟨b, o, none⟩) h, fun b o h => hb.frozen (p := ⟨b, o, none⟩) h⟩
def Arr (w : World) (g : Nat) (t : TypeId) (xs : List Value) : Prop := w.heap[g]? = some (.cells xs.toArray t (0, 0))
section
variable {w w' : World} {g : Nat} {t : TypeId} {xs : List Value}
theorem Arr.lt (h : Arr w g t xs) : g < w.heap.size := by
 rcases Nat.lt_or_ge g w.heap.size with hlt | hge
 ·exact hlt
 ·unfold Arr at h; rw [Array.getElem?_eq_none hge] at h; cases h
theorem Arr.cell (h : Arr w g t xs) (i : Nat) : w.cell? ⟨g, i, none⟩ = xs[i]? := by
 rw [cell_of_row w g i _ t (0, 0) h]; simp
theorem Arr.frozen (h : Arr w g t xs) (i : Nat) : w.frozen? ⟨g, i, none⟩ = false := by
 unfold Arr at h
 simp [World.frozen?, h]
theorem Arr.alloc (h : Arr w g t xs) (o : Obj) : Arr (w.alloc o) g t xs := (Below.heap_alloc w o g h.lt).trans h
theorem Arr.new (w : World) (t : TypeId) (xs : List Value) : Arr (w.alloc (.cells xs.toArray t)) w.heap.size t xs := heap_alloc_new w _
theorem Arr.set_ (h : Arr w g t xs) (i : Nat) (u : Value) : Arr (w.setCell ⟨g, i, none⟩ u) g t (xs.set i u) := by
 unfold Arr at h ⊢
 simp [World.setCell, Array.getElem?_modify, h]
theorem Arr.far (h : Arr w g t xs) {p : Addr} (hp : g ≠ p.block) (u : Value) : Arr (w.setCell p u) g t xs := (Below.heap_setCell w p u g hp).trans h
theorem Arr.below' (h : Arr w g t xs) (hb : Below w.heap.size w w') : Arr w' g t xs := (hb.block g h.lt).trans h
end
theorem below_drewN' {B : Nat} {a w : World} (h : Below B a w) (n : Nat) : Below B a (w.drewN n) := ⟨h.os, h.tape, h.output, h.size, h.block⟩
theorem quiet_left {P : Program} {f : FuncId} {args : Array Value} {w : World} {n : Nat} {v : Value}
  (h : Calls P f args (w.drewN n) fun e w' => e = .returned v ∧ w.drewN n = w') : Calls P f args (w.drewN n) fun e w'' => e = .returned v ∧ ∃ m, w'' = w.drewN m :=
 h.mono fun _ _ ⟨he, hm⟩ => ⟨he, n, hm.symm⟩
theorem wpList_make_arr {P : Program} (w : World) {ops : Array Oper} {rest : List Oper} {o : Oper} {a : Act} {Q : Exit → Act → World → Prop}
  (hg : o.guard = none) (l c : Operand) (t : TypeId) (hop : o.op = Op.makeSlice t l c)
  (e : TypeId) (z : Value) (size bytes : Nat) (h1 : P.underlying t = some (.slice e)) (h2 : (P.info? e).map (fun i => (i.zero, i.size, i.bytes)) = some (some z, size, bytes))
  (kl kc : IntKind) (L C : Int) (n : Nat) (hl : a.eval l = .int kl L) (hc : a.eval c = .int kc C) (hL : L = (n : Int)) (hC : C = (n : Int)) (b2 : bytes * n ≤ 281474976710656) (b3 : n ≤ 9223372036854775807)
  (hK : ∀ w', Arr w' w.heap.size e (madeCells z.cells (n * size)).toList → Below w.heap.size w w' → w'.heap.size = w.heap.size + 1 → wpList P ops Q rest (a.put o.dst (.slice (some ⟨w.heap.size, 0, none⟩) n n)) w') :
  wpList P ops Q (o :: rest) a w := by
 refine wpList_plain hg fun K hK' => ?_
 obtain ⟨i, hi, hz, hs, hby⟩ := info_parts h2
 subst hs hby hL hC
 have hb : (i.bytes : Int) * (n : Int) ≤ 281474976710656 := by
  have h : ((i.bytes * n : Nat) : Int) ≤ 281474976710656 := by omega
  rwa [Int.natCast_mul] at h
 have hrun := run_make (P := P) w t e i z h1 hi hz kl kc n n (by omega) (by omega) hb (by omega)
 simp only [Int.toNat_natCast] at hrun
 unfold Oper.wp
 simp [execOp, hop, hl, hc, hrun, Result.andThen]
 refine hK' _ _ (hK _ ?_ ((Below.refl _ _).alloc (Nat.le_refl _) _) (by simp))
 have := Arr.new w e (madeCells z.cells (n * i.size)).toList
 simpa using this
theorem cell_lt {w : World} {b o : Nat} {v : Value} (h : w.cell? ⟨b, o, none⟩ = some v) : b < w.heap.size := World.block_lt_of_cell? w _ h
end Go.Proofs.YtdjpeimecfhdjaaGreat
namespace Go.Proofs.YtdjpeimecfhdjaaGreat
def gw (l : List Nat) (j : Nat) : Nat := l.getD j 0
theorem gw_nil (j : Nat) : gw [] j = 0 := by simp [gw]
theorem gw_cons_zero (x : Nat) (l : List Nat) : gw (x :: l) 0 = x := rfl
theorem gw_cons_succ (x : Nat) (l : List Nat) (j : Nat) : gw (x :: l) (j + 1) = gw l j := rfl
theorem gw_lt {l : List Nat} {j : Nat} (h : j < l.length) : l[j]? = some (gw l j) := by
 simp [gw, List.getD, List.getElem?_eq_getElem h]
theorem gw_ge {l : List Nat} {j : Nat} (h : l.length ≤ j) : gw l j = 0 := by
 simp [gw, List.getD, List.getElem?_eq_none h]
theorem gw_mem {l : List Nat} {j : Nat} (h : j < l.length) : gw l j ∈ l := by
 have := gw_lt h
 exact List.mem_of_getElem? this
theorem gw_bound {l : List Nat} {b : Nat} (h : ∀ x ∈ l, x < b) (hb : 0 < b) (j : Nat) : gw l j < b := by
 rcases Nat.lt_or_ge j l.length with hj | hj
 ·exact h _ (gw_mem hj)
 ·rw [gw_ge hj]; exact hb
theorem gw_take {l : List Nat} {j k : Nat} (h : j < k) : gw (l.take k) j = gw l j := by
 simp [gw, List.getD, h]
theorem gw_drop (l : List Nat) (k j : Nat) : gw (l.drop k) j = gw l (k + j) := by
 simp [gw, List.getD, List.getElem?_drop]
def trim : List Nat → List Nat
 | [] => []
 | x :: r => match trim r with
  | [] => if x = 0 then [] else [x]
  | y :: s => x :: y :: s
theorem trim_length_le (l : List Nat) : (trim l).length ≤ l.length := by
 induction l with
 | nil => simp [trim]
 | cons x r ih =>
  unfold trim
  split
  ·split <;> simp
  ·rename_i y s h; rw [h] at ih; simp at ih ⊢; omega
theorem trim_eq_take (l : List Nat) : trim l = l.take (trim l).length := by
 induction l with
 | nil => simp [trim]
 | cons x r ih =>
  unfold trim
  split
  ·split <;> simp
  ·rename_i y s h; rw [h] at ih; simp only [List.length_cons, List.take_succ_cons]; rw [← List.length_cons (a := y), ← ih]
theorem trim_snoc_zero (l : List Nat) : trim (l ++ [0]) = trim l := by
 induction l with
 | nil => simp [trim]
 | cons x r ih => simp only [List.cons_append]; unfold trim; rw [ih]
theorem trim_snoc_ne (l : List Nat) (x : Nat) (h : x ≠ 0) : trim (l ++ [x]) = l ++ [x] := by
 induction l with
 | nil => simp [trim, h]
 | cons y r ih =>
  simp only [List.cons_append]
  unfold trim
  rw [ih]
  cases r <;> simp
theorem take_succ_gw {l : List Nat} {k : Nat} (h : k < l.length) : l.take (k + 1) = l.take k ++ [gw l k] := by
 rw [List.take_add_one, gw_lt h]; simp
theorem trim_take_zero {l : List Nat} {k : Nat} (h : k < l.length) (h0 : gw l k = 0) : trim (l.take (k + 1)) = trim (l.take k) := by
 rw [take_succ_gw h, h0, trim_snoc_zero]
theorem trim_take_ne {l : List Nat} {k : Nat} (h : k < l.length) (h0 : gw l k ≠ 0) : trim (l.take (k + 1)) = l.take (k + 1) := by
 rw [take_succ_gw h, trim_snoc_ne _ _ h0]
def val (b : Nat) : List Nat → Nat
 | [] => 0
 | x :: r => x + b * val b r
theorem val_append (b : Nat) (l m : List Nat) : val b (l ++ m) = val b l + b ^ l.length * val b m := by
 induction l with
 | nil => simp [val]
 | cons x r ih => simp only [List.cons_append, val, ih, List.length_cons, Nat.pow_succ]; rw [Nat.mul_add, Nat.add_assoc]; congr 2; rw [Nat.mul_comm (b ^ r.length) b, Nat.mul_assoc]
theorem val_snoc (b : Nat) (l : List Nat) (x : Nat) : val b (l ++ [x]) = val b l + b ^ l.length * x := by
 rw [val_append]; simp [val]
theorem val_trim (b : Nat) (l : List Nat) : val b (trim l) = val b l := by
 induction l with
 | nil => rfl
 | cons x r ih =>
  unfold trim
  split
  ·rename_i h; rw [h] at ih; simp only [val] at ih ⊢; rw [← ih]; clear ih h; split <;> simp_all [val]
  ·rename_i y s h; rw [h] at ih; simp only [val] at ih ⊢; rw [← ih]
theorem val_lt {b : Nat} {l : List Nat} (h : ∀ x ∈ l, x < b) : val b l < b ^ l.length := by
 induction l with
 | nil => simp [val]
 | cons x r ih =>
  have h1 := ih (fun y hy => h y (List.mem_cons_of_mem _ hy))
  have h2 := h x (List.mem_cons_self ..)
  simp only [val, List.length_cons, Nat.pow_succ]
  calc x + b * val b r < b + b * val b r := by omega
   _ = b * (val b r + 1) := by rw [Nat.mul_add]; omega
   _ ≤ b * b ^ r.length := Nat.mul_le_mul_left _ h1
   _ = b ^ r.length * b := Nat.mul_comm _ _
def digF (b : Nat) : Nat → Nat → List Nat
 | 0, _ => []
 | f + 1, n => if n = 0 then [] else (n % b) :: digF b f (n / b)
def dig (b n : Nat) : List Nat := digF b n n
theorem digF_enough {b : Nat} (hb : 2 ≤ b) : ∀ (f g n : Nat), n ≤ f → n ≤ g → digF b f n = digF b g n := by
 intro f
 induction f with
 | zero => intro g n hf _; obtain rfl : n = 0 := by omega
           cases g <;> simp [digF]
 | succ f ih =>
  intro g n hf hg
  cases g with
  | zero => obtain rfl : n = 0 := by omega
            simp [digF]
  | succ g =>
   simp only [digF]
   split
   ·rfl
   ·rename_i hn
    have : n / b < n := Nat.div_lt_self (by omega) hb
    rw [ih g (n / b) (by omega) (by omega)]
theorem dig_zero (b : Nat) : dig b 0 = [] := rfl
theorem dig_pos {b n : Nat} (hb : 2 ≤ b) (hn : n ≠ 0) : dig b n = (n % b) :: dig b (n / b) := by
 unfold dig
 obtain ⟨m, rfl⟩ : ∃ m, n = m + 1 := ⟨n - 1, by omega⟩
 simp only [digF, if_neg hn]
 rw [digF_enough hb m ((m + 1) / b) ((m + 1) / b) _ (Nat.le_refl _)]
 have : (m + 1) / b < m + 1 := Nat.div_lt_self (by omega) hb
 omega
theorem trim_eq_dig {b : Nat} (hb : 2 ≤ b) {l : List Nat} (h : ∀ x ∈ l, x < b) : trim l = dig b (val b l) := by
 induction l with
 | nil => rfl
 | cons x r ih =>
  have h1 := ih (fun y hy => h y (List.mem_cons_of_mem _ hy))
  have h2 := h x (List.mem_cons_self ..)
  simp only [val]
  have hv := val_trim b r
  unfold trim
  split
  ·rename_i e
   rw [e] at hv
   simp only [val] at hv
   rw [← hv]
   split
   ·subst_vars; rfl
   ·rename_i hx
    have e1 : (x + b * 0) = x := by omega
    rw [e1, dig_pos hb hx, Nat.mod_eq_of_lt h2, Nat.div_eq_of_lt h2, dig_zero]
  ·rename_i y s e
   have hne : val b r ≠ 0 := by
    intro h0
    rw [h0, dig_zero] at h1
    rw [h1] at e
    cases e
   have hn : x + b * val b r ≠ 0 := by
    have : 0 < b * val b r := Nat.mul_pos (by omega) (by omega)
    omega
   rw [dig_pos hb hn, Nat.add_mul_mod_self_left, Nat.mod_eq_of_lt h2, Nat.add_mul_div_left _ _ (by omega), Nat.div_eq_of_lt h2, Nat.zero_add, ← h1, e]
theorem dig_lt {b : Nat} (hb : 2 ≤ b) : ∀ (n : Nat), ∀ x ∈ dig b n, x < b := by
 intro n
 induction n using Nat.strongRecOn with
 | ind n ih =>
  intro x hx
  by_cases hn : n = 0
  ·subst hn; simp [dig_zero] at hx
  ·rw [dig_pos hb hn] at hx
   rcases List.mem_cons.1 hx with rfl | hx
   ·exact Nat.mod_lt _ (by omega)
   ·exact ih (n / b) (Nat.div_lt_self (by omega) hb) x hx
theorem val_dig {b : Nat} (hb : 2 ≤ b) : ∀ (n : Nat), val b (dig b n) = n := by
 intro n
 induction n using Nat.strongRecOn with
 | ind n ih =>
  by_cases hn : n = 0
  ·subst hn; rfl
  ·rw [dig_pos hb hn]
   simp only [val]
   rw [ih (n / b) (Nat.div_lt_self (by omega) hb)]
   exact Nat.mod_add_div n b
theorem trim_dig {b : Nat} (hb : 2 ≤ b) (n : Nat) : trim (dig b n) = dig b n := by
 rw [trim_eq_dig hb (dig_lt hb n), val_dig hb]
theorem dig_eq_nil {b : Nat} (hb : 2 ≤ b) {n : Nat} : dig b n = [] ↔ n = 0 := by
 constructor
 ·intro h
  have := val_dig hb n
  rw [h] at this
  exact this.symm
 ·rintro rfl; rfl
theorem dig_length_le {b : Nat} (hb : 2 ≤ b) {n k : Nat} (h : n < b ^ k) : (dig b n).length ≤ k := by
 induction k generalizing n with
 | zero => obtain rfl : n = 0 := by simp at h; omega
           simp [dig_zero]
 | succ k ih =>
  by_cases hn : n = 0
  ·subst hn; simp [dig_zero]
  ·rw [dig_pos hb hn, List.length_cons]
   have : n / b < b ^ k := Nat.div_lt_of_lt_mul (by rw [Nat.pow_succ] at h; rw [Nat.mul_comm]; exact h)
   have := ih this
   omega
end Go.Proofs.YtdjpeimecfhdjaaGreat
namespace Go.Proofs.YtdjpeimecfhdjaaGreat
open Go.RowKit
structure Wd (w : World) (D : Nat → Prop) (A : Option Addr) (n c : Nat) (l : List Nat) : Prop where
 len : l.length = n
 cap : n ≤ c
 room : c ≤ maxLen
 small : ∀ x ∈ l, x < 4294967296
 cells : 0 < n → ∃ b off, A = some ⟨b, off, none⟩ ∧ D b ∧ ∀ j, j < n → w.cell? ⟨b, off + j, none⟩ = some (.int .u32 (gw l j))
section
variable {w w' : World} {D D' : Nat → Prop} {A : Option Addr} {n c : Nat} {l : List Nat}
theorem Wd.mono (h : Wd w D A n c l) (hd : ∀ b, D b → b < w.heap.size → D' b) : Wd w D' A n c l :=
 ⟨h.len, h.cap, h.room, h.small, fun hn => by
  obtain ⟨b, off, e, hb, hc⟩ := h.cells hn
  exact ⟨b, off, e, hd b hb (cell_lt (hc 0 hn)), hc⟩⟩
theorem Wd.keep (h : Wd w D A n c l) (hk : ∀ b o, D b → b < w.heap.size → w'.cell? ⟨b, o, none⟩ = w.cell? ⟨b, o, none⟩) : Wd w' D A n c l :=
 ⟨h.len, h.cap, h.room, h.small, fun hn => by
  obtain ⟨b, off, e, hb, hc⟩ := h.cells hn
  have hlt := cell_lt (hc 0 hn)
  exact ⟨b, off, e, hb, fun j hj => (hk b _ hb hlt).trans (hc j hj)⟩⟩
theorem Wd.below (h : Wd w D A n c l) (hb : Below w.heap.size w w') : Wd w' D A n c l := h.keep fun _ _ _ hl => (bcell hb).1 _ _ hl
theorem Wd.alloc (h : Wd w D A n c l) (o : Obj) : Wd (w.alloc o) D A n c l := h.below ((Below.refl _ _).alloc (Nat.le_refl _) o)
theorem Wd.drewN (h : Wd w D A n c l) (m : Nat) : Wd (w.drewN m) D A n c l := h.keep fun _ _ _ _ => rfl
theorem Wd.setCell (h : Wd w D A n c l) {p : Addr} (hp : ¬ D p.block) (u : Value) : Wd (w.setCell p u) D A n c l :=
 h.keep fun b o hd _ => World.cell?_setCell_other w p ⟨b, o, none⟩ u (fun e => hp (by subst e; exact hd))
theorem Wd.nil (c : Nat) (hc : c ≤ maxLen) : Wd w D A 0 c [] := ⟨rfl, Nat.zero_le _, hc, fun _ h => (by cases h), fun h => absurd h (by omega)⟩
theorem Wd.take (h : Wd w D A n c l) {k : Nat} (hk : k ≤ n) : Wd w D A k k (l.take k) :=
 ⟨by rw [List.length_take, h.len]; omega, Nat.le_refl _, by have := h.room; have := h.cap; omega, fun x hx => h.small x (List.mem_of_mem_take hx), fun hn => by
  obtain ⟨b, off, e, hb, hc⟩ := h.cells (by omega)
  exact ⟨b, off, e, hb, fun j hj => by rw [hc j (by omega), gw_take hj]⟩⟩
theorem Wd.trim (h : Wd w D A n c l) : Wd w D A (trim l).length (trim l).length (trim l) := by
 have h1 := h.take (k := (Go.Proofs.YtdjpeimecfhdjaaGreat.trim l).length) (by rw [← h.len]; exact trim_length_le l)
 rwa [← trim_eq_take] at h1
end
theorem trimmed_any {D : Nat → Prop} {A : Option Addr} {n c : Nat} {l : List Nat} {w : World} (h : Wd w D A n c l) :
  Calls Tryz.prog 207 #[.slice A n c] w fun e w' => e = .returned (.slice A (trim l).length (trim l).length) ∧ w = w' := by
 have hm := h.room
 have hc := h.cap
 unfold maxLen at hm
 go_enter Tryz.func207, Tryz.ntmps207
 go_wp2
 go_loop [3] (fun i => ∃ k : Nat, k ≤ n ∧ i = .int .i64 k ∧ trim l = trim (l.take k)) (fun i => (intOf i).toNat)
 case atStart => exact ⟨n, Nat.le_refl _, rfl, by rw [List.take_of_length_le (by rw [h.len]; exact Nat.le_refl _)]⟩
 case round =>
  obtain ⟨k, hk, rfl, ht⟩ := hrel
  have HT := Lib.hid ht; clear ht
  rcases Nat.eq_zero_or_pos k with h0 | h0
  ·subst h0
   go_wp2
   go_ret
   have e := HT.out
   simp only [List.take_zero] at e
   simp [e, trim]
  ·obtain ⟨j, rfl⟩ : ∃ j, k = j + 1 := ⟨k - 1, by omega⟩
   obtain ⟨b, off, rfl, hb, hcell⟩ := h.cells (by omega)
   have h1 := hcell j (by omega)
   clear hcell
   have hl : j < l.length := by rw [h.len]; omega
   by_cases hz : gw l j = 0
   ·have hz' : ((gw l j : Int) == 0) = true := by simp [hz]
    have HZ := Lib.hid hz; clear hz
    go_wp2
    go_round
    case rel => exact ⟨j, by omega, rfl, by rw [HT.out, trim_take_zero hl HZ.out]⟩
    case measure => simp [intOf]
   ·have hz' : ((gw l j : Int) == 0) = false := by simpa using hz
    have HZ := Lib.hid hz; clear hz
    go_wp2
    go_ret
    have e := HT.out
    rw [trim_take_ne hl HZ.out] at e
    have e2 : (trim l).length = j + 1 := by rw [e, List.length_take]; omega
    simp [e2]
def WdV (w : World) (D : Nat → Prop) (v : Value) (l : List Nat) : Prop := ∃ A c, v = .slice A l.length c ∧ Wd w D A l.length c l
theorem Wd.v {w : World} {D : Nat → Prop} {A : Option Addr} {n c : Nat} {l : List Nat} (h : Wd w D A n c l) : WdV w D (.slice A n c) l := by
 have := h.len
 subst this
 exact ⟨A, c, rfl, h⟩
def WArr (w : World) (g : Nat) (l : List Nat) : Prop := Arr w g 190 (l.map fun x : Nat => Value.int .u32 (x : Int))
section
variable {w w' : World} {g : Nat} {l : List Nat}
theorem WArr.cell (h : WArr w g l) {i : Nat} (hi : i < l.length) : w.cell? ⟨g, i, none⟩ = some (.int .u32 (gw l i)) := by
 rw [Arr.cell h, List.getElem?_map, gw_lt hi]; rfl
theorem WArr.frozen (h : WArr w g l) (i : Nat) : w.frozen? ⟨g, i, none⟩ = false := Arr.frozen h i
theorem WArr.set_ (h : WArr w g l) (i x : Nat) : WArr (w.setCell ⟨g, i, none⟩ (.int .u32 (x : Int))) g (l.set i x) := by
 have := Arr.set_ h i (.int .u32 (x : Int))
 unfold WArr
 rwa [List.map_set]
theorem WArr.wd (h : WArr w g l) (hs : ∀ x ∈ l, x < 4294967296) (hm : l.length ≤ maxLen) {D : Nat → Prop} (hd : D g) : Wd w D (some ⟨g, 0, none⟩) l.length l.length l :=
 ⟨rfl, Nat.le_refl _, hm, hs, fun _ => ⟨g, 0, rfl, hd, fun j hj => by rw [Nat.zero_add]; exact h.cell hj⟩⟩
theorem WArr.made {n : Nat} (h : Arr w g 190 (madeCells (Value.int .u32 0).cells (n * 1)).toList) : WArr w g (List.replicate n 0) := by
 unfold WArr
 rw [List.map_replicate]
 have e := toList_madeCells_one (.int .u32 0) n
 rw [Nat.mul_one] at h
 rw [show (Value.int .u32 0).cells = #[Value.int .u32 0] from rfl, e] at h
 exact h
end
theorem info_u32 : (Tryz.prog.info? 190).map (fun i => (i.zero, i.size, i.bytes)) = some (some (.int .u32 0), 1, 4) := by kernel_rfl
theorem at_any {D : Nat → Prop} {A : Option Addr} {n c : Nat} {l : List Nat} {w : World} (h : Wd w D A n c l) (i : Int) (h0 : 0 ≤ i) :
  Calls Tryz.prog 194 #[.slice A n c, .int .i64 i] w fun e w' => e = .returned (.int .u64 (gw l i.toNat)) ∧ w = w' := by
 obtain ⟨j, rfl⟩ := Int.eq_ofNat_of_zero_le h0
 rw [Int.toNat_natCast]
 have hl := h.len
 rcases Nat.lt_or_ge j n with hj | hj
 ·obtain ⟨b, off, rfl, hb, hcell⟩ := h.cells (by omega)
  have h1 := hcell j hj
  have h2 := gw_bound h.small (by omega) j
  clear hcell
  go_enter Tryz.func194, Tryz.ntmps194
  go_wp2
  go_ret
  simp
 ·have hz := gw_ge (l := l) (j := j) (by omega)
  rw [hz]
  clear hz hl
  go_enter Tryz.func194, Tryz.ntmps194
  go_wp2
  go_ret
  simp
end Go.Proofs.YtdjpeimecfhdjaaGreat
namespace Go.Proofs.YtdjpeimecfhdjaaGreat
open Go.RowKit
def Src (w : World) (size : Nat) (A : Option Addr) (m : Nat) (news : List Value) : Prop :=
 news.length = m * size ∧ (0 < m → ∃ ad, A = some ad ∧ ∀ j u, news[j]? = some u → w.cell? (ad.add j) = some u)
section
variable {P : Program} (w : World)
theorem run_append_types (t t' ty e e' : TypeId) (ht : P.underlying t = some (.slice e)) (ht' : P.underlying t' = some (.slice e')) (B : Option Addr) (n k : Nat) (x : Value) :
  (Builtin.append_ #[t, t'] ty #[.slice B n k, x]).run P w = (Builtin.append_ #[t, t] ty #[.slice B n k, x]).run P w := by
 simp [Builtin.append_, run_underlying ht, run_underlying ht']
theorem run_append_of_nil (base : Nat) (t ty e : TypeId) (i : TypeInfo) (size : Nat) (ht : P.underlying t = some (.slice e)) (hi : P.info? e = some i)
  (v : Value) (n : Nat) (xs : List Value) (hown : w.ownsRow base e size v n xs) (c : Nat) : (Builtin.append_ #[t, t] ty #[v, .slice none 0 c]).run P w = .ok v w := by
 rcases hown.2 with ⟨rfl, rfl⟩ | ⟨g, cap, cur, rfl, _, _, hnc, _⟩
 ·simp [Builtin.append_, run_underlying ht, sizeOf, typeInfo, hi, Builtin.lenOf, Builtin.firstCells]
 ·simp [Builtin.append_, run_underlying ht, sizeOf, typeInfo, hi, Builtin.lenOf, Builtin.firstCells, hnc, storeCells]
theorem run_app (base : Nat) (t t' ty e e' : TypeId) (z : Value) (size bytes : Nat) (ht : P.underlying t = some (.slice e)) (ht' : P.underlying t' = some (.slice e'))
  (hinfo : (P.info? e).map (fun i => (i.zero, i.size, i.bytes)) = some (some z, size, bytes)) (hzs : z.cells.size = size) (hsz : 0 < size)
  (v : Value) (n : Nat) (xs : List Value) (hown : w.ownsRow base e size v n xs)
  (A : Option Addr) (m c : Nat) (news : List Value) (hr : Src w size A m news) (h1 : ∀ u ∈ news, u.oneCell' = true)
  (h63 : n + m ≤ maxLen) (hbytes : (n + m) * bytes ≤ 140737488355328) (hbase : base ≤ w.heap.size) :
  ∃ v' w', (Builtin.append_ #[t, t'] ty #[v, .slice A m c]).run P w = .ok v' w' ∧ w'.ownsRow base e size v' (n + m) (xs ++ news) ∧ w.grownBy w' v.ownBlock ∧
   (v'.ownBlock = v.ownBlock ∨ v'.ownBlock = some w.heap.size) := by
 have hty : (Builtin.append_ #[t, t'] ty #[v, .slice A m c]).run P w = (Builtin.append_ #[t, t] ty #[v, .slice A m c]).run P w := by
  rcases hown.2 with ⟨rfl, rfl⟩ | ⟨g, cap, cur, rfl, _⟩ <;> exact run_append_types w t t' ty e e' ht ht' _ _ _ _
 rw [hty]
 obtain ⟨i, hi, hz, hs, hby⟩ := info_parts hinfo
 rcases A with _ | ad
 ·have hm : m = 0 := by
   rcases Nat.eq_zero_or_pos m with h0 | h0
   ·exact h0
   ·obtain ⟨ad, h, _⟩ := hr.2 h0
    cases h
  subst hm
  have hn : news = [] := List.eq_nil_of_length_eq_zero (by simpa using hr.1)
  subst hn
  exact ⟨v, w, run_append_of_nil w base t ty e i size ht hi v n xs hown c, by simpa using hown, World.grownBy.refl w _, .inl rfl⟩
 ·have hcells : ∀ j u, news[j]? = some u → w.cell? (ad.add j) = some u := by
   intro j u hu
   rcases Nat.eq_zero_or_pos m with h0 | h0
   ·subst h0
    have hn : news = [] := List.eq_nil_of_length_eq_zero (by simpa using hr.1)
    subst hn
    simp at hu
   ·obtain ⟨ad', h, hc⟩ := hr.2 h0
    injection h with h
    subst h
    exact hc j u hu
  obtain ⟨v', w', hrun, h2, h3, _, h5⟩ := run_append_own_at (P := P) w base t ty e i z size bytes ht hi hz hs hby hzs hsz v n xs hown ad m c news hr.1 hcells h1 h63 hbytes hbase
  exact ⟨v', w', hrun, h2, h3, h5⟩
theorem wp_app {o : Oper} {a : Act} {K : Act → World → Prop} {Q : Exit → Act → World → Prop} (s x : Operand) (t t' : TypeId)
  (ho : o.op = .call { callee := .builtin .append, args := #[s, x], argTypes := #[t, t'] })
  (base : Nat) (e e' : TypeId) (z : Value) (size bytes : Nat) (ht : P.underlying t = some (.slice e)) (ht' : P.underlying t' = some (.slice e'))
  (hinfo : (P.info? e).map (fun i => (i.zero, i.size, i.bytes)) = some (some z, size, bytes)) (hzs : z.cells.size = size) (hsz : 0 < size)
  (v : Value) (n : Nat) (xs : List Value) (hs : a.eval s = v) (hown : w.ownsRow base e size v n xs)
  (A : Option Addr) (m c : Nat) (news : List Value) (hx : a.eval x = .slice A m c) (hr : Src w size A m news) (h1 : ∀ u ∈ news, u.oneCell' = true)
  (h63 : n + m ≤ maxLen) (hbytes : (n + m) * bytes ≤ 140737488355328) (hbase : base ≤ w.heap.size)
  (h : ∀ v' w', w'.ownsRow base e size v' (n + m) (xs ++ news) → w.grownBy w' v.ownBlock → (v'.ownBlock = v.ownBlock ∨ v'.ownBlock = some w.heap.size) → K (a.put o.dst v') w') : o.wp P a w K Q := by
 obtain ⟨v', w', hrun, h2, h3, h4⟩ := run_app (P := P) w base t t' o.type e e' z size bytes ht ht' hinfo hzs hsz v n xs hown A m c news hr h1 h63 hbytes hbase
 unfold Oper.wp execOp
 simp only [ho, resolve, invoke, builtin, Sem.run_bind, Sem.run_pure, Result.andThen_ok, List.map_toArray, List.map_cons, List.map_nil, hs, hx, hrun]
 exact h v' w' h2 h3 h4
theorem wpList_app {ops : Array Oper} {rest : List Oper} {o : Oper} {a : Act} {Q : Exit → Act → World → Prop} (hgd : o.guard = none) (s x : Operand) (t t' : TypeId)
  (ho : o.op = .call { callee := .builtin .append, args := #[s, x], argTypes := #[t, t'] })
  (base : Nat) (e e' : TypeId) (z : Value) (size bytes : Nat) (ht : P.underlying t = some (.slice e)) (ht' : P.underlying t' = some (.slice e'))
  (hinfo : (P.info? e).map (fun i => (i.zero, i.size, i.bytes)) = some (some z, size, bytes)) (hzs : z.cells.size = size) (hsz : 0 < size)
  (v : Value) (n : Nat) (xs : List Value) (hs : a.eval s = v) (hown : w.ownsRow base e size v n xs)
  (A : Option Addr) (m c : Nat) (news : List Value) (hx : a.eval x = .slice A m c) (hr : Src w size A m news) (h1 : ∀ u ∈ news, u.oneCell' = true)
  (h63 : n + m ≤ maxLen) (hbytes : (n + m) * bytes ≤ 140737488355328) (hbase : base ≤ w.heap.size)
  (h : ∀ v' w', w'.ownsRow base e size v' (n + m) (xs ++ news) → w.grownBy w' v.ownBlock → (v'.ownBlock = v.ownBlock ∨ v'.ownBlock = some w.heap.size) → wpList P ops Q rest (a.put o.dst v') w') : wpList P ops Q (o :: rest) a w :=
 wpList_plain hgd fun _ hK => wp_app w s x t t' ho base e e' z size bytes ht ht' hinfo hzs hsz v n xs hs hown A m c news hx hr h1 h63 hbytes hbase fun v' w' h2 h3 h4 => hK _ _ (h v' w' h2 h3 h4)
end
theorem below_of_grown {w w' : World} (h : w.grownBy w' none) : Below w.heap.size w w' :=
 ⟨h.os, h.tape, h.output, h.size, fun k hk => h.block k hk (by simp)⟩
theorem own_cells {w : World} {base : Nat} {e : TypeId} {size n : Nat} {v : Value} {xs : List Value} (h : w.ownsRow base e size v n xs) (hn : 0 < n) :
  ∃ g cap, v = .slice (some ⟨g, 0, none⟩) n cap ∧ base ≤ g ∧ n ≤ cap ∧ cap ≤ maxLen ∧ (∀ i, w.frozen? ⟨g, i, none⟩ = false) ∧ ∀ j u, xs[j]? = some u → w.cell? ⟨g, j, none⟩ = some u := by
 rcases h.2 with ⟨rfl, rfl⟩ | ⟨g, cap, cur, rfl, hb, hh, hnc, hm, hsz, ht⟩
 ·omega
 ·refine ⟨g, cap, rfl, hb, hnc, hm, fun i => by simp [World.frozen?, hh], fun j u hu => ?_⟩
  have := h.cells (g := g) rfl j u hu
  unfold Addr.add at this
  split at this
  ·rename_i h0; subst h0; exact this
  ·simpa using this
theorem own_slice {w : World} {base : Nat} {e : TypeId} {size n : Nat} {v : Value} {xs : List Value} (h : w.ownsRow base e size v n xs) :
  ∃ A c, v = .slice A n c ∧ n ≤ c ∧ c ≤ maxLen := by
 rcases h.2 with ⟨rfl, rfl⟩ | ⟨g, cap, cur, rfl, hb, hh, hnc, hm, hsz, ht⟩
 ·exact ⟨none, 0, rfl, by omega, by unfold maxLen; omega⟩
 ·exact ⟨_, _, rfl, hnc, hm⟩
section
variable {P : Program} (w : World)
theorem wpList_app_nil {ops : Array Oper} {rest : List Oper} {o : Oper} {a : Act} {Q : Exit → Act → World → Prop} (hgd : o.guard = none) (s x : Operand) (t t' : TypeId)
  (ho : o.op = .call { callee := .builtin .append, args := #[s, x], argTypes := #[t, t'] })
  (e e' : TypeId) (z : Value) (size bytes : Nat) (ht : P.underlying t = some (.slice e)) (ht' : P.underlying t' = some (.slice e'))
  (hinfo : (P.info? e).map (fun i => (i.zero, i.size, i.bytes)) = some (some z, size, bytes)) (hzs : z.cells.size = size) (hsz : 0 < size)
  (hs : a.eval s = .slice none 0 0)
  (A : Option Addr) (m c : Nat) (news : List Value) (hx : a.eval x = .slice A m c) (hr : Src w size A m news) (h1 : ∀ u ∈ news, u.oneCell' = true)
  (h63 : m ≤ maxLen) (hbytes : m * bytes ≤ 140737488355328)
  (h : ∀ A' c' w', w'.ownsRow w.heap.size e size (.slice A' m c') m news → Below w.heap.size w w' → wpList P ops Q rest (a.put o.dst (.slice A' m c')) w') : wpList P ops Q (o :: rest) a w := by
 refine wpList_app w hgd s x t t' ho w.heap.size e e' z size bytes ht ht' hinfo hzs hsz (.slice none 0 0) 0 [] hs (World.ownsRow_nil _ _ _ _) A m c news hx hr h1 (by omega) (by rw [Nat.zero_add]; exact hbytes) (Nat.le_refl _) ?_
 intro v' w' hown hg _
 rw [Nat.zero_add, List.nil_append] at hown
 obtain ⟨A', c', rfl, _, _⟩ := own_slice hown
 exact h A' c' w' hown (below_of_grown hg)
end
theorem grownBy_trans {a b c : World} {row : Option Nat} (h : a.grownBy b row) (k : b.grownBy c row) : a.grownBy c row := World.grownBy.trans h k
theorem src_block {w : World} {g : Nat} {t : TypeId} {cs : List Value} (h : w.heap[g]? = some (.cells cs.toArray t (0, 0))) (m : Nat) (size : Nat) (hl : cs.length = m * size) : Src w size (some ⟨g, 0, none⟩) m cs := by
 refine ⟨hl, fun _ => ⟨_, rfl, fun j u hu => ?_⟩⟩
 have hc : w.cell? ⟨g, j, none⟩ = some u := by
  rw [cell_of_row w g j _ t (0, 0) h]
  simpa using hu
 unfold Addr.add
 split
 ·rename_i h0; subst h0; exact hc
 ·simpa using hc
section
variable {P : Program} (w0 : World)
theorem wpList_push {ops : Array Oper} {rest : List Oper} {o : Oper} {a : Act} {Q : Exit → Act → World → Prop} (hgd : o.guard = none) (s x : Operand) (t t' : TypeId)
  (ho : o.op = .call { callee := .builtin .append, args := #[s, x], argTypes := #[t, t'] })
  (base : Nat) (e e' : TypeId) (z : Value) (size bytes : Nat) (ht : P.underlying t = some (.slice e)) (ht' : P.underlying t' = some (.slice e'))
  (hinfo : (P.info? e).map (fun i => (i.zero, i.size, i.bytes)) = some (some z, size, bytes)) (hzs : z.cells.size = size) (hsz : 0 < size)
  (v : Value) (n : Nat) (xs : List Value) (hs : a.eval s = v) (hown : w0.ownsRow base e size v n xs)
  (cs : List Value) (hx : a.eval x = .slice (some ⟨w0.heap.size, 0, none⟩) 1 1) (hcs : cs.length = size) (h1 : ∀ u ∈ cs, u.oneCell' = true)
  (h63 : n + 1 ≤ maxLen) (hbytes : (n + 1) * bytes ≤ 140737488355328) (hbase : base ≤ w0.heap.size)
  (h : ∀ A' c' w', w'.ownsRow base e size (.slice A' (n + 1) c') (n + 1) (xs ++ cs) → w0.grownBy w' v.ownBlock → Below base w0 w' → wpList P ops Q rest (a.put o.dst (.slice A' (n + 1) c')) w') :
  wpList P ops Q (o :: rest) a (w0.alloc (.cells cs.toArray e)) := by
 refine wpList_app _ hgd s x t t' ho base e e' z size bytes ht ht' hinfo hzs hsz v n xs hs (hown.alloc _) _ 1 1 cs hx (src_block (heap_alloc_new w0 _) 1 size (by omega)) h1 h63 hbytes (by simp; omega) ?_
 intro v' w' hown' hg _
 obtain ⟨A', c', rfl, _, _⟩ := own_slice hown'
 have hg0 : w0.grownBy w' v.ownBlock := grownBy_trans (World.grownBy_alloc w0 _ _) hg
 exact h A' c' w' hown' hg0 ((Below.refl _ _).grown hg0 hbase (fun k hk => (hown.lt k hk).1))
end
end Go.Proofs.YtdjpeimecfhdjaaGreat
namespace Go.Proofs.YtdjpeimecfhdjaaGreat
open Go.RowKit
theorem val_take_succ (b : Nat) (l : List Nat) (k : Nat) : val b (l.take (k + 1)) = val b (l.take k) + b ^ k * gw l k := by
 rcases Nat.lt_or_ge k l.length with h | h
 ·rw [take_succ_gw h, val_snoc, List.length_take, Nat.min_eq_left (by omega)]
 ·rw [List.take_of_length_le (by omega), List.take_of_length_le (by omega), gw_ge h]; simp
theorem plus_step {B x a b s y q : Nat} (k : Nat) (hs : s = a + b + x) (hy : y = s % B) (hq : q = s / B) (p1 p2 p3 : Nat) (hi : p1 + B ^ k * x = p2 + p3) :
  p1 + B ^ k * y + B ^ (k + 1) * q = p2 + B ^ k * a + (p3 + B ^ k * b) := by
 have e : B ^ (k + 1) * q = B ^ k * (B * q) := by rw [Nat.pow_succ, Nat.mul_assoc]
 have e2 : y + B * q = s := by rw [hy, hq]; exact Nat.mod_add_div s B
 rw [e, Nat.add_assoc, ← Nat.mul_add, e2, hs, Nat.mul_add, Nat.mul_add]
 omega
theorem set_take_ge {l : List Nat} {k x : Nat} : (l.set k x).take k = l.take k := by
 rw [List.take_set_of_le (Nat.le_refl _)]
theorem gw_set_self {l : List Nat} {k x : Nat} (h : k < l.length) : gw (l.set k x) k = x := by
 simp [gw, List.getD, h]
set_option maxHeartbeats 400000 in
theorem plus_any {D : Nat → Prop} {A A' : Option Addr} {n c n' c' : Nat} {l l' : List Nat} {w : World} (h : Wd w D A n c l) (h' : Wd w D A' n' c' l') (hn : n ≤ 1000000000000) (hn' : n' ≤ 1000000000000) :
  Calls Tryz.prog 211 #[.slice A n c, .slice A' n' c'] w (Gives w fun w' v => WdV w' (w.heap.size ≤ ·) v (dig 4294967296 (val 4294967296 l + val 4294967296 l'))) := by
 obtain ⟨N, hN⟩ : ∃ N, N = max n n' + 1 := ⟨_, rfl⟩
 have hN1 : n < N := by omega
 have hN2 : n' < N := by omega
 have hN3 : N ≤ 1000000000001 := by omega
 have HN := Lib.hid hN
 clear hN
 rcases Nat.lt_or_ge n n' with hlt | hge
 all_goals
  go_enter Tryz.func211, Tryz.ntmps211
  go_wp2_with (at_make; go_must (refine wpList_make_arr _ rfl _ _ _ rfl 190 (.int .u32 0) 1 4 Tryz.underlying182 info_u32 _ _ _ _ N rfl rfl (by have := HN.out; omega) (by have := HN.out; omega) (by omega) (by omega) ?_); intro w1 ha hb hz)
  have HZ := Lib.hid hz
  clear hz
  go_loopw [6, 18] (fun cr i wr => ∃ (k x : Nat) (out : List Nat), k ≤ N ∧ i = .int .i64 k ∧ cr = .int .u64 x ∧ x ≤ 1 ∧ WArr wr w.heap.size out ∧ Hid (out.length = N) ∧ (∀ y ∈ out, y < 4294967296) ∧ Below w.heap.size w wr ∧ 
    Hid (val 4294967296 (out.take k) + 4294967296 ^ k * x = val 4294967296 (l.take k) + val 4294967296 (l'.take k))) (fun _ i _ => N - (intOf i).toNat)
  case atStart => 
   exact ⟨0, 0, List.replicate N 0, by omega, rfl, rfl, by omega, WArr.made ha, List.length_replicate, fun y hy => by rw [List.eq_of_mem_replicate hy]; omega, hb, by simp [Hid, val]⟩
  case round =>
   obtain ⟨k, x, out, hk, rfl, rfl, hx, harr, hlen, hsm, hbl, hinv⟩ := hrel
   have hw1 := h.below hbl
   have hw2 := h'.below hbl
   have g1 := gw_bound h.small (by omega) k
   have g2 := gw_bound h'.small (by omega) k
   rcases Nat.lt_or_ge k N with hkN | hkN
   ·have hcell := harr.cell (i := k) (by rw [hlen.out]; exact hkN)
    have hfz := harr.frozen k
    go_wp2_with (first 
     | (go_at_call 194; ((with_reducible refine (at_any hw1 _ (by omega)).mono ?_); rintro e w' ⟨rfl, rfl⟩))
     | (go_at_call 194; ((with_reducible refine (at_any hw2 _ (by omega)).mono ?_); rintro e w' ⟨rfl, rfl⟩)))
    go_roundw
    case rel =>
     have e : ((gw l k : Int) + gw l' k + x) = ((gw l k + gw l' k + x : Nat) : Int) := by omega
     rw [e]
     generalize hs : gw l k + gw l' k + x = s
     refine ⟨k + 1, s / 4294967296, out.set k (s % 4294967296), by omega, by go_num, by go_num, by omega, by simpa using harr.set_ k (s % 4294967296), by simpa [Hid] using hlen, fun y hy => ?_, hbl.setCell (Nat.le_refl _) _, ?_⟩
     ·rcases List.mem_or_eq_of_mem_set hy with hy | rfl
      ·exact hsm y hy
      ·omega
     ·show _ = _
      rw [val_take_succ, val_take_succ, val_take_succ, set_take_ge, gw_set_self (by rw [hlen.out]; exact hkN)]
      exact plus_step k hs.symm rfl rfl _ _ _ hinv.out
    case measure => simp [intOf]; omega
   ·obtain rfl : k = N := by omega
    have hlen' := hlen.out
    have hwd := harr.wd hsm (by rw [hlen']; unfold maxLen; omega) (D := (w.heap.size ≤ ·)) (Nat.le_refl _)
    rw [hlen'] at hwd
    clear hlen'
    go_wp2_with (go_at_call 207; ((with_reducible refine (trimmed_any hwd).mono ?_); rintro e w' ⟨rfl, rfl⟩))
    go_ret
    refine ⟨_, rfl, ?_, hbl⟩
    have hv := hinv.out
    have hl1 : k = out.length := hlen.out.symm
    rw [List.take_of_length_le (by omega), List.take_of_length_le (by rw [h.len]; omega), List.take_of_length_le (by rw [h'.len]; omega)] at hv
    have hx0 : x = 0 := by
     rcases Nat.eq_zero_or_pos x with h0 | h0
     ·exact h0
     ·exfalso
      have b1 := val_lt h.small
      have b2 := val_lt h'.small
      rw [h.len] at b1
      rw [h'.len] at b2
      have c1 : 4294967296 ^ n ≤ 4294967296 ^ (k - 1) := Nat.pow_le_pow_right (by omega) (by omega)
      have c2 : 4294967296 ^ n' ≤ 4294967296 ^ (k - 1) := Nat.pow_le_pow_right (by omega) (by omega)
      have c3 : 4294967296 ^ k = 4294967296 ^ (k - 1) * 4294967296 := by rw [← Nat.pow_succ]; congr 1; omega
      have c4 : 4294967296 ^ k * 1 ≤ 4294967296 ^ k * x := Nat.mul_le_mul_left _ h0
      omega
    rw [hx0, Nat.mul_zero, Nat.add_zero] at hv
    rw [← hv, ← trim_eq_dig (by omega) hsm]
    exact hwd.trim.v
end Go.Proofs.YtdjpeimecfhdjaaGreat
namespace Go.Proofs.YtdjpeimecfhdjaaGreat
open Go.RowKit
theorem val_split (b : Nat) (l : List Nat) (k : Nat) : val b l = val b (l.take k) + b ^ k * val b (l.drop k) := by
 rcases Nat.lt_or_ge k l.length with h | h
 ·have e := val_append b (l.take k) (l.drop k)
  rw [List.take_append_drop, List.length_take, Nat.min_eq_left (by omega)] at e
  exact e
 ·rw [List.take_of_length_le h, List.drop_of_length_le h]; simp [val]
theorem val_take_of_lt {b : Nat} {l : List Nat} {k : Nat} (h : val b l < b ^ k) : val b (l.take k) = val b l := by
 have e := val_split b l k
 have : val b (l.drop k) = 0 := by
  rcases Nat.eq_zero_or_pos (val b (l.drop k)) with h0 | h0
  ·exact h0
  ·have : b ^ k * 1 ≤ b ^ k * val b (l.drop k) := Nat.mul_le_mul_left _ h0
   omega
 rw [this] at e
 omega
theorem sub_step (a b x : Nat) (ha : a < 4294967296) (hb : b < 4294967296) (hx : x ≤ 1) :
  ∃ y q : Nat, IntKind.u64.wrap (IntKind.u64.wrap ((a : Int) - b) - x) / 9223372036854775808 = (q : Int) ∧ IntKind.u64.wrap (IntKind.u64.wrap ((a : Int) - b) - x) % 4294967296 = (y : Int) ∧
   y < 4294967296 ∧ q ≤ 1 ∧ y + b + x = a + 4294967296 * q := by
 have hw : IntKind.u64.wrap (IntKind.u64.wrap ((a : Int) - b) - x) = ((a : Int) - b - x) % 18446744073709551616 := by
  simp [IntKind.wrap, IntKind.bits, IntKind.signed]
 rw [hw]
 rcases Nat.lt_or_ge a (b + x) with h | h
 ·refine ⟨a + 4294967296 - b - x, 1, ?_, ?_, ?_, ?_, ?_⟩ <;> omega
 ·refine ⟨a - b - x, 0, ?_, ?_, ?_, ?_, ?_⟩ <;> omega
theorem minus_step {B x a b y q : Nat} (k : Nat) (p1 p2 p3 : Nat) (hi : p1 + p2 = p3 + B ^ k * x) (e : y + b + x = a + B * q) :
  p1 + B ^ k * y + (p2 + B ^ k * b) = p3 + B ^ k * a + B ^ (k + 1) * q := by
 have e1 : B ^ (k + 1) * q = B ^ k * (B * q) := by rw [Nat.pow_succ, Nat.mul_assoc]
 have e2 : B ^ k * (y + b + x) = B ^ k * (a + B * q) := by rw [e]
 rw [Nat.mul_add, Nat.mul_add, Nat.mul_add] at e2
 rw [e1]
 omega
set_option maxHeartbeats 400000 in
theorem minus_any {D : Nat → Prop} {A A' : Option Addr} {n c n' c' : Nat} {l l' : List Nat} {w : World} (h : Wd w D A n c l) (h' : Wd w D A' n' c' l') (hn : n ≤ 1000000000000) (hle : val 4294967296 l' ≤ val 4294967296 l) :
  Calls Tryz.prog 212 #[.slice A n c, .slice A' n' c'] w (Gives w fun w' v => WdV w' (w.heap.size ≤ ·) v (dig 4294967296 (val 4294967296 l - val 4294967296 l'))) := by
 have HLE := Lib.hid hle
 clear hle
 go_enter Tryz.func212, Tryz.ntmps212
 go_wp2_with (at_make; go_must (refine wpList_make_arr _ rfl _ _ _ rfl 190 (.int .u32 0) 1 4 Tryz.underlying182 info_u32 _ _ _ _ n rfl rfl (by omega) (by omega) (by omega) (by omega) ?_); intro w1 ha hb hz)
 have HZ := Lib.hid hz
 clear hz
 go_loopw [6, 14] (fun cr i wr => ∃ (k x : Nat) (out : List Nat), k ≤ n ∧ i = .int .i64 k ∧ cr = .int .u64 x ∧ x ≤ 1 ∧ WArr wr w.heap.size out ∧ Hid (out.length = n) ∧ (∀ y ∈ out, y < 4294967296) ∧ Below w.heap.size w wr ∧ 
      Hid (val 4294967296 (out.take k) + val 4294967296 (l'.take k) = val 4294967296 (l.take k) + 4294967296 ^ k * x)) (fun _ i _ => n - (intOf i).toNat)
 case atStart =>
  exact ⟨0, 0, List.replicate n 0, by omega, rfl, rfl, by omega, WArr.made ha, List.length_replicate, fun y hy => by rw [List.eq_of_mem_replicate hy]; omega, hb, by simp [Hid, val]⟩
 case round =>
  obtain ⟨k, x, out, hk, rfl, rfl, hx, harr, hlen, hsm, hbl, hinv⟩ := hrel
  have hw1 := h.below hbl
  have hw2 := h'.below hbl
  have g1 := gw_bound h.small (by omega) k
  have g2 := gw_bound h'.small (by omega) k
  rcases Nat.lt_or_ge k n with hkN | hkN
  ·have hcell := harr.cell (i := k) (by rw [hlen.out]; exact hkN)
   have hfz := harr.frozen k
   obtain ⟨b, off, rfl, hbD, hcl⟩ := hw1.cells (by omega)
   have hc1 := hcl k hkN
   have hu1 : IntKind.u64.wrap (gw l k : Int) = gw l k := IntWalk.u64_in _ (by omega)
   clear hcl
   go_wp2_with fail
   go_quiet ((go_at_call 194; go_must (exact quiet_left (at_any (hw2.drewN _) (k : Int) (by omega)))))
   go_wp2_with fail
   go_roundw
   case rel =>
    obtain ⟨y, q, e1, e2, e3, e4, e5⟩ := sub_step (gw l k) (gw l' k) x g1 g2 hx
    rw [e1, e2]
    refine ⟨k + 1, q, out.set k y, by omega, by go_num, rfl, e4, harr.set_ k y, by simpa [Hid] using hlen, fun z hz => ?_, (below_drewN' hbl nq).setCell (Nat.le_refl _) _, ?_⟩
    ·rcases List.mem_or_eq_of_mem_set hz with hz | rfl
     ·exact hsm z hz
     ·exact e3
    ·show _ = _
     rw [val_take_succ, val_take_succ, val_take_succ, set_take_ge, gw_set_self (by rw [hlen.out]; exact hkN)]
     exact minus_step k _ _ _ hinv.out e5
   case measure => simp [intOf]; omega
  ·obtain rfl : k = n := by omega
   have hlen' := hlen.out
   have hwd := harr.wd hsm (by rw [hlen']; unfold maxLen; omega) (D := (w.heap.size ≤ ·)) (Nat.le_refl _)
   rw [hlen'] at hwd
   clear hlen'
   go_wp2_with (go_at_call 207; ((with_reducible refine (trimmed_any hwd).mono ?_); rintro e w' ⟨rfl, rfl⟩))
   go_ret
   refine ⟨_, rfl, ?_, hbl⟩
   have hv := hinv.out
   have hl1 : k = out.length := hlen.out.symm
   have b1 := val_lt h.small
   rw [h.len] at b1
   have b2 := val_lt hsm
   rw [← hl1] at b2
   have hle := HLE.out
   rw [List.take_of_length_le (by omega), List.take_of_length_le (l := l) (by rw [h.len]; omega), val_take_of_lt (l := l') (by omega)] at hv
   have hx0 : x = 0 := by
    rcases Nat.eq_zero_or_pos x with h0 | h0
    ·exact h0
    ·exfalso
     have c4 : 4294967296 ^ k * 1 ≤ 4294967296 ^ k * x := Nat.mul_le_mul_left _ h0
     omega
   rw [hx0, Nat.mul_zero, Nat.add_zero] at hv
   rw [show val 4294967296 l - val 4294967296 l' = val 4294967296 out from by omega, ← trim_eq_dig (by omega) hsm]
   exact hwd.trim.v
end Go.Proofs.YtdjpeimecfhdjaaGreat
namespace Go.Proofs.YtdjpeimecfhdjaaGreat
open Go.RowKit
theorem ret_int {k : IntKind} {a b : Int} (h : a = b) : Ending.returned (.int k a) = .returned (.int k b) := by rw [h]
theorem of_any (x : Nat) (w : World) (hx : x < 18446744073709551616) :
  Calls Tryz.prog 147 #[.int .u64 x] w (Gives w fun w' v => WdV w' (w.heap.size ≤ ·) v (dig 4294967296 x)) := by
 have h2 : x / 4294967296 < 4294967296 := by omega
 have HX := Lib.hid hx
 clear hx
 have hs : ∀ y ∈ [x % 4294967296, x / 4294967296], y < 4294967296 := by
  intro y hy
  rcases List.mem_cons.1 hy with rfl | hy
  ·omega
  ·rcases List.mem_cons.1 hy with rfl | hy
   ·exact h2
   ·cases hy
 have HS := Lib.hid hs
 clear hs
 have ha : WArr (w.alloc (.cells #[.int .u32 ((x : Int) % 4294967296), .int .u32 ((x : Int) / 4294967296)] 190)) w.heap.size [x % 4294967296, x / 4294967296] := by
  have := Arr.new w 190 [.int .u32 ((x : Int) % 4294967296), .int .u32 ((x : Int) / 4294967296)]
  unfold WArr
  simpa using this
 have hwd : Wd _ (w.heap.size ≤ ·) _ 2 2 _ := WArr.wd ha HS.out (by simp [maxLen]) (D := (w.heap.size ≤ ·)) (Nat.le_refl _)
 go_enter Tryz.func147, Tryz.ntmps147
 go_wp2_with (go_at_call 207; go_must ((with_reducible refine (trimmed_any hwd).mono ?_); rintro e w' ⟨rfl, rfl⟩))
 go_ret
 refine ⟨_, rfl, ?_, (Below.refl _ _).alloc (Nat.le_refl _) _⟩
 have e : dig 4294967296 x = trim [x % 4294967296, x / 4294967296] := by
  rw [trim_eq_dig (by omega) HS.out]
  congr 1
  simp only [val]
  omega
 rw [e]
 exact hwd.trim.v
def cmpN (a b : Nat) : Int := if a < b then -1 else if a = b then 0 else 1
theorem cmpN_lt {a b : Nat} (h : a < b) : cmpN a b = -1 := by simp [cmpN, h]
theorem cmpN_eq (a : Nat) : cmpN a a = 0 := by simp [cmpN]
theorem cmpN_gt {a b : Nat} (h : b < a) : cmpN a b = 1 := by unfold cmpN; rw [if_neg (by omega), if_neg (by omega)]
theorem trim_last {l : List Nat} (ht : trim l = l) {k : Nat} (hk : l.length = k + 1) : gw l k ≠ 0 := by
 intro h0
 have h1 := trim_take_zero (l := l) (k := k) (by omega) h0
 rw [List.take_of_length_le (by omega), ht] at h1
 have h2 := trim_length_le (l.take k)
 rw [← h1, List.length_take] at h2
 omega
theorem val_ge_of_trim {b : Nat} {l : List Nat} (ht : trim l = l) {k : Nat} (hk : l.length = k + 1) : b ^ k ≤ val b l := by
 have e := val_take_succ b l k
 rw [List.take_of_length_le (by omega)] at e
 have h0 := trim_last ht hk
 have : b ^ k * 1 ≤ b ^ k * gw l k := Nat.mul_le_mul_left _ (by omega)
 omega
theorem val_lt_of_length {b : Nat} (hb : 0 < b) {l l' : List Nat} (hs : ∀ x ∈ l, x < b) (ht' : trim l' = l') (h : l.length < l'.length) : val b l < val b l' := by
 have h1 := val_lt hs
 obtain ⟨k, hk⟩ : ∃ k, l'.length = k + 1 := ⟨l'.length - 1, by omega⟩
 have h2 := val_ge_of_trim (b := b) ht' hk
 have h3 : b ^ l.length ≤ b ^ k := Nat.pow_le_pow_right hb (by omega)
 omega
theorem drop_gw {l : List Nat} {k : Nat} (h : k < l.length) : l.drop k = gw l k :: l.drop (k + 1) := by
 rw [List.drop_eq_getElem_cons h]
 simp [gw, List.getD, h]
theorem val_lt_of_drop {b : Nat} {l l' : List Nat} {k : Nat} (hs : ∀ x ∈ l, x < b) (hl : k < l.length) (hl' : k < l'.length) (hd : l.drop (k + 1) = l'.drop (k + 1)) (hlt : gw l k < gw l' k) : val b l < val b l' := by
 have e := val_split b l k
 have e' := val_split b l' k
 rw [drop_gw hl] at e
 rw [drop_gw hl'] at e'
 simp only [val] at e e'
 rw [hd] at e
 have h1 : val b (l.take k) < b ^ k := by
  have := val_lt (b := b) (l := l.take k) (fun x hx => hs x (List.mem_of_mem_take hx))
  rwa [List.length_take, Nat.min_eq_left (by omega)] at this
 rw [Nat.mul_add] at e e'
 have h2 : b ^ k * (gw l k + 1) ≤ b ^ k * gw l' k := Nat.mul_le_mul_left _ hlt
 rw [Nat.mul_add] at h2
 omega
set_option maxHeartbeats 400000 in
theorem compare_any {D : Nat → Prop} {A A' : Option Addr} {n c n' c' : Nat} {l l' : List Nat} {w : World} (h : Wd w D A n c l) (h' : Wd w D A' n' c' l') (ht : trim l = l) (ht' : trim l' = l') :
  Calls Tryz.prog 217 #[.slice A n c, .slice A' n' c'] w fun e w' => e = .returned (.int .i64 (cmpN (val 4294967296 l) (val 4294967296 l'))) ∧ ∃ m, w' = w.drewN m := by
 have HT := Lib.hid ht
 have HT' := Lib.hid ht'
 clear ht ht'
 have hr := h.room
 have hc := h.cap
 unfold maxLen at hr
 rcases Nat.lt_trichotomy n n' with hlt | heq | hgt
 ·have hne : ((n : Int) != n') = true := by rw [bne_iff_ne]; omega
  go_enter Tryz.func217, Tryz.ntmps217
  go_wp2_with fail
  go_ret
  exact ⟨ret_int (cmpN_lt (val_lt_of_length (by omega) h.small HT'.out (by rw [h.len, h'.len]; exact hlt))).symm, 0, rfl⟩
 ·subst heq
  have hne : ((n : Int) != n) = false := by simp
  go_enter Tryz.func217, Tryz.ntmps217
  go_wp2_with fail
  go_loopw [5] (fun i wr => ∃ (k : Nat), k ≤ n ∧ i = .int .i64 (k - 1) ∧ Hid (l.drop k = l'.drop k) ∧ ∃ m, wr = w.drewN m) (fun i _ => (intOf i + 1).toNat)
  case atStart => exact ⟨n, Nat.le_refl _, rfl, by rw [List.drop_of_length_le (by rw [h.len]; omega), List.drop_of_length_le (by rw [h'.len]; omega)]; rfl, 0, rfl⟩
  case round =>
   obtain ⟨k, hk, rfl, hd, m, rfl⟩ := hrel
   rcases Nat.eq_zero_or_pos k with h0 | h0
   ·subst h0
    go_wp2_with fail
    go_ret
    have e := hd.out
    simp only [List.drop_zero] at e
    exact ⟨ret_int (by rw [e, cmpN_eq]), m, rfl⟩
   ·obtain ⟨j, rfl⟩ : ∃ j, k = j + 1 := ⟨k - 1, by omega⟩
    obtain ⟨b, off, rfl, hb, hcell⟩ := h.cells (by omega)
    obtain ⟨b', off', rfl, hb', hcell'⟩ := h'.cells (by omega)
    have hc1 := hcell j (by omega)
    have hc2 := hcell' j (by omega)
    clear hcell hcell'
    have hi : (((j + 1 : Nat) : Int) - 1) = (j : Int) := by omega
    rw [hi]
    clear hi
    have hj0 : (0 : Int) ≤ (j : Int) := by omega
    have hjn : (j : Int) < (n : Int) := by omega
    have hl1 := h.len
    have hl2 := h'.len
    have HL1 := Lib.hid hl1
    have HL2 := Lib.hid hl2
    clear hl1 hl2
    rcases Nat.lt_trichotomy (gw l j) (gw l' j) with hlt | heq | hgt
    ·have e1 : ((gw l j : Int) != gw l' j) = true := by rw [bne_iff_ne]; omega
     go_wp2_with fail
     go_quiet (fail)
     go_wp2_with fail
     go_quiet (fail)
     go_wp2_with fail
     go_ret
     exact ⟨ret_int (cmpN_lt (val_lt_of_drop (k := j) h.small (by rw [HL1.out]; omega) (by rw [HL2.out]; omega) hd.out hlt)).symm, _, by rw [World.drewN_drewN, World.drewN_drewN]⟩
    ·have e1 : ((gw l j : Int) != gw l' j) = false := by simp [heq]
     have HE := Lib.hid heq
     clear heq
     go_wp2_with fail
     go_quiet (fail)
     go_wp2_with fail
     go_roundw
     case rel => 
      refine ⟨j, by omega, rfl, ?_, _, rfl⟩
      show _ = _
      rw [drop_gw (l := l) (k := j) (by rw [HL1.out]; omega), drop_gw (l := l') (k := j) (by rw [HL2.out]; omega), hd.out, HE.out]
     case measure => simp [intOf]
    ·have e1 : ((gw l j : Int) != gw l' j) = true := by rw [bne_iff_ne]; omega
     go_wp2_with fail
     go_quiet (fail)
     go_wp2_with fail
     go_quiet (fail)
     go_wp2_with fail
     go_ret
     exact ⟨ret_int (cmpN_gt (val_lt_of_drop (k := j) h'.small (by rw [HL2.out]; omega) (by rw [HL1.out]; omega) hd.out.symm hgt)).symm, _, by rw [World.drewN_drewN, World.drewN_drewN]⟩
 ·have hne : ((n : Int) != n') = true := by rw [bne_iff_ne]; omega
  go_enter Tryz.func217, Tryz.ntmps217
  go_wp2_with fail
  go_ret
  exact ⟨ret_int (cmpN_gt (val_lt_of_length (by omega) h'.small HT.out (by rw [h.len, h'.len]; exact hgt))).symm, 0, rfl⟩
end Go.Proofs.YtdjpeimecfhdjaaGreat
namespace Go.Proofs.YtdjpeimecfhdjaaGreat
open Go.RowKit
theorem val_set (b : Nat) (l : List Nat) (p y : Nat) (hp : p < l.length) : val b (l.set p y) + b ^ p * gw l p = val b l + b ^ p * y := by
 induction l generalizing p with
 | nil => simp at hp
 | cons x r ih =>
  cases p with
  | zero => simp [val, gw]; omega
  | succ p =>
   have h := ih p (by simpa using hp)
   simp only [List.set_cons_succ, val, gw_cons_succ]
   have e : ∀ z, b ^ (p + 1) * z = b * (b ^ p * z) := fun z => by rw [Nat.pow_succ, Nat.mul_comm (b ^ p) b, Nat.mul_assoc]
   rw [e, e]
   have h2 : b * (val b (r.set p y) + b ^ p * gw r p) = b * (val b r + b ^ p * y) := by rw [h]
   rw [Nat.mul_add, Nat.mul_add] at h2
   omega
theorem gw_set_ne {l : List Nat} {k j x : Nat} (h : k ≠ j) : gw (l.set k x) j = gw l j := by
 simp [gw, List.getD, List.getElem?_set_ne h]
theorem val_zeros (b N : Nat) : val b (List.replicate N 0) = 0 := by
 induction N with
 | zero => rfl
 | succ N ih => simp [List.replicate_succ, val, ih]
theorem mul_bound {a b : Nat} (ha : a < 4294967296) (hb : b < 4294967296) : a * b ≤ 18446744065119617025 := by
 have h1 : a * b ≤ 4294967295 * b := Nat.mul_le_mul_right _ (by omega)
 have h2 : 4294967295 * b ≤ 4294967295 * 4294967295 := Nat.mul_le_mul_left _ (by omega)
 omega
theorem times_step {B V V' o y c q x b j k T T' S R : Nat} (hv : V' + B ^ (k + j) * o = V + B ^ (k + j) * y) (hs : y + B * q = x * b + o + c) (hi : V + B ^ (k + j) * c = R + B ^ k * (x * T)) (hT : T' = T + B ^ j * b) (hS : S = B ^ (k + j + 1) * q) :
  V' + S = R + B ^ k * (x * T') := by
 have e1 : B ^ (k + j + 1) * q = B ^ (k + j) * (B * q) := by rw [Nat.pow_succ, Nat.mul_assoc]
 have e2 : B ^ (k + j) * (y + B * q) = B ^ (k + j) * (x * b + o + c) := by rw [hs]
 rw [Nat.mul_add, Nat.mul_add, Nat.mul_add] at e2
 have e3 : B ^ k * (x * (T + B ^ j * b)) = B ^ k * (x * T) + B ^ (k + j) * (x * b) := by
  rw [Nat.mul_add, Nat.mul_add, Nat.pow_add, Nat.mul_left_comm x, Nat.mul_assoc]
 rw [hT, e3, hS, e1]
 omega
set_option maxHeartbeats 800000 in
theorem times_any {D : Nat → Prop} {A A' : Option Addr} {n c n' c' : Nat} {l l' : List Nat} {w : World} (h : Wd w D A n c l) (h' : Wd w D A' n' c' l') (hn : n ≤ 1000000000000) (hn' : n' ≤ 1000000000000) :
  Calls Tryz.prog 164 #[.slice A n c, .slice A' n' c'] w (Gives w fun w' v => WdV w' (w.heap.size ≤ ·) v (dig 4294967296 (val 4294967296 l * val 4294967296 l'))) := by
 obtain ⟨N, hN⟩ : ∃ N, N = n + n' := ⟨_, rfl⟩
 have hN1 : n + n' ≤ N := by omega
 have hN3 : N ≤ 2000000000000 := by omega
 have HN := Lib.hid hN
 clear hN
 go_enter Tryz.func164, Tryz.ntmps164
 go_wp2_with (at_make; go_must (refine wpList_make_arr _ rfl _ _ _ rfl 190 (.int .u32 0) 1 4 Tryz.underlying182 info_u32 _ _ _ _ N rfl rfl (by have := HN.out; omega) (by have := HN.out; omega) (by omega) (by omega) ?_); intro w1 ha hb hz)
 have HZ := Lib.hid hz
 clear hz
 go_loopw [19] (fun i wr => ∃ (k : Nat) (out : List Nat), k ≤ n ∧ i = .int .i64 k ∧ WArr wr w.heap.size out ∧ Hid (out.length = N) ∧ (∀ y ∈ out, y < 4294967296) ∧ Below w.heap.size w wr ∧ (∀ j, k + n' ≤ j → gw out j = 0) ∧
      Hid (val 4294967296 out = val 4294967296 (l.take k) * val 4294967296 l')) (fun i _ => n - (intOf i).toNat)
 case atStart =>
  exact ⟨0, List.replicate N 0, by omega, rfl, WArr.made ha, List.length_replicate, fun y hy => by rw [List.eq_of_mem_replicate hy]; omega, hb, fun j _ => by simp only [gw, List.getD, List.getElem?_replicate]; split <;> rfl, by
   show _ = _
   rw [val_zeros]; simp [val]⟩
 case round =>
  obtain ⟨k, out, hk, rfl, harr, hlen, hsm, hbl, hzero, hinv⟩ := hrel
  have HZR := Lib.hid hzero
  clear hzero
  have hw1 := h.below hbl
  rcases Nat.lt_or_ge k n with hkN | hkN
  ·obtain ⟨b, off, rfl, hbD, hcl⟩ := hw1.cells (by omega)
   have hc1 := hcl k hkN
   have g1 := gw_bound h.small (by omega) k
   clear hcl
   go_wp2_with fail
   obtain ⟨wo, rfl⟩ : ∃ wo : World, wo = wr := ⟨_, rfl⟩
   go_loopw [8, 26] (fun cr i wr => ∃ (j x : Nat) (o2 : List Nat), j ≤ n' ∧ i = .int .i64 j ∧ cr = .int .u64 x ∧ x < 4294967296 ∧ WArr wr w.heap.size o2 ∧ Hid (o2.length = N) ∧ (∀ y ∈ o2, y < 4294967296) ∧ Below w.heap.size w wr ∧ Hid (∀ j, k + n' ≤ j → gw o2 j = 0) ∧
     Hid (val 4294967296 o2 + 4294967296 ^ (k + j) * x = val 4294967296 (l.take k) * val 4294967296 l' + 4294967296 ^ k * (gw l k * val 4294967296 (l'.take j)))) (fun _ i _ => n' - (intOf i).toNat)
   case atStart => exact ⟨0, 0, out, by omega, rfl, rfl, by omega, harr, hlen, hsm, hbl, HZR, by show _ = _; rw [hinv.out]; simp [val]⟩
   case round =>
    clear hc1 hw1
    obtain ⟨j, x, o2, hj, rfl, rfl, hx, harr2, hlen2, hsm2, hbl2, hz2, hinv2⟩ := hrel
    have hw2 := h'.below hbl2
    rcases Nat.lt_or_ge j n' with hjN | hjN
    ·obtain ⟨b', off', rfl, hbD', hcl'⟩ := hw2.cells (by omega)
     have hc2 := hcl' j hjN
     clear hcl'
     have g2 := gw_bound h'.small (by omega) j
     have g3 := gw_bound hsm2 (by omega) (k + j)
     have hcell := harr2.cell (i := k + j) (by rw [hlen2.out]; omega)
     have hfz := harr2.frozen (k + j)
     have hp := mul_bound g1 g2
     have hkj0 : (0 : Int) ≤ (k : Int) + j := by omega
     have hkj1 : (k : Int) + j < (N : Int) := by omega
     have hj0 : (0 : Int) ≤ (j : Int) := by omega
     have hj1 : (j : Int) < (n' : Int) := by omega
     have hpi : (gw l k : Int) * (gw l' j : Int) ≤ 18446744065119617025 := by rw [← Int.natCast_mul]; omega
     have hpi0 : (0 : Int) ≤ (gw l k : Int) * (gw l' j : Int) := Int.mul_nonneg (by omega) (by omega)
     have a1 : IntKind.u64.wrap (gw l k : Int) = gw l k := IntWalk.u64_in _ (by omega)
     have a2 : IntKind.u64.wrap (gw l' j : Int) = gw l' j := IntWalk.u64_in _ (by omega)
     have a3 : IntKind.u64.wrap (gw o2 (k + j) : Int) = gw o2 (k + j) := IntWalk.u64_in _ (by omega)
     have a4 : IntKind.u64.wrap ((gw l k : Int) * (gw l' j : Int)) = (gw l k : Int) * (gw l' j : Int) := IntWalk.u64_in _ (by omega)
     have a5 : IntKind.u64.wrap ((gw l k : Int) * (gw l' j : Int) + gw o2 (k + j)) = (gw l k : Int) * (gw l' j : Int) + gw o2 (k + j) := IntWalk.u64_in _ (by omega)
     have a6 : IntKind.u64.wrap ((gw l k : Int) * (gw l' j : Int) + gw o2 (k + j) + x) = (gw l k : Int) * (gw l' j : Int) + gw o2 (k + j) + x := IntWalk.u64_in _ (by omega)
     have a7 : IntKind.i64.wrap ((k : Int) + j) = (k : Int) + j := IntWalk.i64_in _ (by omega)
     have a8 : ((k : Int) + j).toNat = k + j := by omega
     go_wp2_with fail
     go_quiet (fail)
     clear a1 a2 a3 a4 a5 a6
     go_wp2_with fail
     clear a7 a8
     go_roundw
     case rel =>
      have e : ((gw l k : Int) * (gw l' j : Int) + (gw o2 (k + j) : Int) + x) = ((gw l k * gw l' j + gw o2 (k + j) + x : Nat) : Int) := by rw [Int.natCast_add, Int.natCast_add, Int.natCast_mul]
      rw [e]
      clear hpi hpi0 e
      generalize hs : gw l k * gw l' j + gw o2 (k + j) + x = s
      have hlt : k + j < o2.length := by rw [hlen2.out]; omega
      refine ⟨j + 1, s / 4294967296, o2.set (k + j) (s % 4294967296), by omega, by go_num, by go_num, by omega, by simpa using (show WArr (wr.drewN nq) _ _ from harr2).set_ (k + j) (s % 4294967296), by simpa [Hid] using hlen2, fun z hz => ?_, (below_drewN' hbl2 nq).setCell (Nat.le_refl _) _, ?_, ?_⟩
      ·rcases List.mem_or_eq_of_mem_set hz with hz | rfl
       ·exact hsm2 z hz
       ·omega
      ·intro p hp2
       rw [gw_set_ne (by omega)]
       exact hz2.out p hp2
      ·show _ = _
       refine times_step (q := s / 4294967296) (val_set _ _ (k + j) _ hlt) ?_ hinv2.out (val_take_succ _ _ _) ?_
       ·rw [hs]; exact Nat.mod_add_div s 4294967296
       ·rw [Nat.add_assoc]
     case measure => simp [intOf]; omega
    ·obtain rfl : j = n' := by omega
     have hcell := harr2.cell (i := k + j) (by rw [hlen2.out]; omega)
     have hfz := harr2.frozen (k + j)
     go_wp2_with fail
     go_roundw
     case rel =>
      have hlt : k + j < o2.length := by rw [hlen2.out]; omega
      refine ⟨k + 1, o2.set (k + j) x, by omega, by go_num, harr2.set_ (k + j) x, by simpa [Hid] using hlen2, fun z hz => ?_, hbl2.setCell (Nat.le_refl _) _, ?_, ?_⟩
      ·rcases List.mem_or_eq_of_mem_set hz with hz | rfl
       ·exact hsm2 z hz
       ·exact hx
      ·intro p hp2
       rw [gw_set_ne (by omega)]
       exact hz2.out p (by omega)
      ·show _ = _
       have e1 := val_set 4294967296 o2 (k + j) x hlt
       rw [hz2.out (k + j) (Nat.le_refl _), Nat.mul_zero, Nat.add_zero] at e1
       rw [e1, hinv2.out, val_take_succ, Nat.add_mul, List.take_of_length_le (l := l') (by rw [h'.len]; exact Nat.le_refl _), Nat.mul_assoc]
     case measure => simp [intOf]; omega
  ·obtain rfl : k = n := by omega
   have hlen' := hlen.out
   have hwd := harr.wd hsm (by rw [hlen']; unfold maxLen; omega) (D := (w.heap.size ≤ ·)) (Nat.le_refl _)
   rw [hlen'] at hwd
   clear hlen'
   go_wp2_with (go_at_call 207; ((with_reducible refine (trimmed_any hwd).mono ?_); rintro e w' ⟨rfl, rfl⟩))
   go_ret
   refine ⟨_, rfl, ?_, hbl⟩
   have hv := hinv.out
   rw [List.take_of_length_le (by rw [h.len]; omega)] at hv
   rw [← hv, ← trim_eq_dig (by omega) hsm]
   exact hwd.trim.v
end Go.Proofs.YtdjpeimecfhdjaaGreat

namespace Go.Proofs.YtdjpeimecfhdjaaGreat
open Go.RowKit
def sg (neg : Bool) (m : Nat) : Int := if neg then -(m : Int) else m
def wl (m : Nat) : Nat := (dig 4294967296 m).length
def IntV (w : World) (D : Nat → Prop) (v : Value) (x : Int) : Prop :=
 ∃ neg A n c l, v = .agg #[.bool neg, .slice A n c] ∧ Wd w D A n c l ∧ x = sg neg (val 4294967296 l)
def NIntV (w : World) (D : Nat → Prop) (v : Value) (x : Int) : Prop :=
 ∃ A c, v = .agg #[.bool (decide (x < 0)), .slice A (wl x.natAbs) c] ∧ Wd w D A (wl x.natAbs) c (dig 4294967296 x.natAbs)
theorem sg_natAbs (neg : Bool) (m : Nat) : (sg neg m).natAbs = m := by unfold sg; split <;> omega
theorem sg_abs (x : Int) : sg (decide (x < 0)) x.natAbs = x := by
 unfold sg
 by_cases h : x < 0
 ·simp [h]; omega
 ·simp [h]; omega
section
variable {w w' : World} {D D' : Nat → Prop} {v : Value} {x : Int}
theorem NIntV.int (h : NIntV w D v x) : IntV w D v x := by
 obtain ⟨A, c, rfl, h⟩ := h
 exact ⟨_, A, _, c, _, rfl, h, by rw [val_dig (by omega), sg_abs]⟩
theorem IntV.mono (h : IntV w D v x) (hd : ∀ b, D b → b < w.heap.size → D' b) : IntV w D' v x := by
 obtain ⟨neg, A, n, c, l, rfl, h, rfl⟩ := h
 exact ⟨neg, A, n, c, l, rfl, h.mono hd, rfl⟩
theorem NIntV.mono (h : NIntV w D v x) (hd : ∀ b, D b → b < w.heap.size → D' b) : NIntV w D' v x := by
 obtain ⟨A, c, rfl, h⟩ := h
 exact ⟨A, c, rfl, h.mono hd⟩
theorem IntV.keep (h : IntV w D v x) (hk : ∀ b o, D b → b < w.heap.size → w'.cell? ⟨b, o, none⟩ = w.cell? ⟨b, o, none⟩) : IntV w' D v x := by
 obtain ⟨neg, A, n, c, l, rfl, h, rfl⟩ := h
 exact ⟨neg, A, n, c, l, rfl, h.keep hk, rfl⟩
theorem NIntV.keep (h : NIntV w D v x) (hk : ∀ b o, D b → b < w.heap.size → w'.cell? ⟨b, o, none⟩ = w.cell? ⟨b, o, none⟩) : NIntV w' D v x := by
 obtain ⟨A, c, rfl, h⟩ := h
 exact ⟨A, c, rfl, h.keep hk⟩
theorem IntV.below (h : IntV w D v x) (hb : Below w.heap.size w w') : IntV w' D v x := h.keep fun _ _ _ hl => (bcell hb).1 _ _ hl
theorem NIntV.below (h : NIntV w D v x) (hb : Below w.heap.size w w') : NIntV w' D v x := h.keep fun _ _ _ hl => (bcell hb).1 _ _ hl
theorem NIntV.setCell (h : NIntV w D v x) {p : Addr} (hp : ¬ D p.block) (u : Value) : NIntV (w.setCell p u) D v x :=
 h.keep fun b o hd _ => World.cell?_setCell_other w p ⟨b, o, none⟩ u (fun e => hp (by subst e; exact hd))
theorem NIntV.zero (w : World) (D : Nat → Prop) : NIntV w D (.agg #[.bool false, .slice none 0 0]) 0 :=
 ⟨none, 0, rfl, Wd.nil 0 (by unfold maxLen; omega)⟩
theorem Wd.src {A : Option Addr} {n c : Nat} {l : List Nat} (h : Wd w D A n c l) : Src w 1 A n (l.map fun x : Nat => Value.int .u32 (x : Int)) := by
 refine ⟨by rw [List.length_map, h.len, Nat.mul_one], fun hn => ?_⟩
 obtain ⟨b, off, rfl, _, hc⟩ := h.cells hn
 refine ⟨_, rfl, fun j u hu => ?_⟩
 rw [List.getElem?_map] at hu
 rcases Nat.lt_or_ge j l.length with hj | hj
 ·rw [gw_lt hj] at hu
  simp only [Option.map_some, Option.some.injEq] at hu
  subst hu
  have := hc j (by rw [← h.len]; exact hj)
  unfold Addr.add
  split
  ·rename_i h0; subst h0; exact this
  ·exact this
 ·rw [List.getElem?_eq_none hj] at hu
  cases hu
end
theorem words_oneCell (l : List Nat) : ∀ u ∈ l.map (fun x : Nat => Value.int .u32 (x : Int)), u.oneCell' = true := by
 intro u hu
 obtain ⟨x, _, rfl⟩ := List.mem_map.1 hu
 rfl
theorem wd_of_own {w : World} {base n : Nat} {v : Value} {l : List Nat} (h : w.ownsRow base 190 1 v n (l.map fun x : Nat => Value.int .u32 (x : Int))) (hs : ∀ x ∈ l, x < 4294967296) :
  ∃ A c, v = .slice A n c ∧ Wd w (base ≤ ·) A n c l := by
 have hl : l.length = n := by have := h.1; rw [List.length_map, Nat.mul_one] at this; exact this
 obtain ⟨A, c, rfl, hc, hm⟩ := own_slice h
 refine ⟨A, c, rfl, hl, hc, hm, hs, fun hn => ?_⟩
 obtain ⟨g, cap, hv, hb, _, _, _, hcell⟩ := own_cells h hn
 injection hv with hA
 subst hA
 exact ⟨g, 0, rfl, hb, fun j hj => by rw [Nat.zero_add]; exact hcell j _ (by rw [List.getElem?_map, gw_lt (by omega)]; rfl)⟩
theorem nint_of {w : World} {D : Nat → Prop} {neg : Bool} {A : Option Addr} {m c k : Nat} {T : List Nat} (h : Wd w D A m c T) (hT : T = dig 4294967296 k) (h0 : k ≠ 0) :
  NIntV w D (.agg #[.bool neg, .slice A m c]) (sg neg k) := by
 subst hT
 have hm := h.len
 subst hm
 refine ⟨A, c, ?_, by rw [sg_natAbs]; exact h⟩
 have : decide (sg neg k < 0) = neg := by
  unfold sg
  cases neg <;> simp <;> omega
 rw [this, sg_natAbs]
 rfl
theorem size_any {D : Nat → Prop} {neg : Bool} {A : Option Addr} {n c : Nat} {l : List Nat} {w : World} (h : Wd w D A n c l) :
  Calls Tryz.prog 165 #[.agg #[.bool neg, .slice A n c]] w fun e w' => e = .returned (.slice A (trim l).length (trim l).length) ∧ Below w.heap.size w w' := by
 go_enter Tryz.func165, Tryz.ntmps165
 go_wp2_with (go_at_call 207; ((with_reducible refine (trimmed_any (h.alloc _)).mono ?_); rintro e w' ⟨rfl, rfl⟩))
 go_ret
 exact ⟨rfl, (Below.refl _ _).alloc (Nat.le_refl _) _⟩
set_option maxHeartbeats 400000 in
theorem made_any {D : Nat → Prop} {neg : Bool} {A : Option Addr} {n c : Nat} {l : List Nat} {w : World} (h : Wd w D A n c l) (hl : (trim l).length ≤ 10000000000000) :
  Calls Tryz.prog 146 #[.bool neg, .slice A n c] w (Gives w fun w' v => NIntV w' (w.heap.size ≤ ·) v (sg neg (val 4294967296 l))) := by
 have ht := h.trim
 have e1 := trim_eq_dig (b := 4294967296) (by omega) h.small
 have E1 := Lib.hid e1
 clear e1
 generalize hT : trim l = T at *
 have HT := Lib.hid hT
 clear hT
 generalize hm : T.length = m at *
 have HM := Lib.hid hm
 clear hm
 by_cases h0 : m = 0
 ·have hz : ((m : Int) == 0) = true := by simp [h0]
  go_enter Tryz.func146, Tryz.ntmps146
  go_wp2_with (go_at_call 207; ((with_reducible refine (trimmed_any (h.alloc _)).mono ?_); rintro e w' ⟨rfl, rfl⟩; rw [HT.out, HM.out]))
  refine bodyPost_ret (v := .agg #[.bool false, .slice none 0 0]) (by simp [results, Tryz.results146, go_sem]) rfl ⟨_, rfl, ?_, (Below.refl _ _).alloc (Nat.le_refl _) _⟩
  have hv : val 4294967296 l = 0 := by
   have e := E1.out
   rw [List.eq_nil_of_length_eq_zero (HM.out.trans h0)] at e
   exact (dig_eq_nil (by omega)).1 e.symm
  rw [hv]
  have : sg neg 0 = 0 := by unfold sg; split <;> rfl
  rw [this]
  exact NIntV.zero _ _
 ·have hz : ((m : Int) == 0) = false := by simpa using h0
  go_enter Tryz.func146, Tryz.ntmps146
  go_wp2_with (first
   | (go_at_call 207; ((with_reducible refine (trimmed_any (h.alloc _)).mono ?_); rintro e w' ⟨rfl, rfl⟩; rw [HT.out, HM.out]))
   | (at_builtin; go_must (refine wpList_app_nil _ rfl _ _ _ _ rfl 190 190 (.int .u32 0) 1 4 Tryz.underlying38 Tryz.underlying182 info_u32 rfl (by omega) rfl A m m (T.map fun x : Nat => Value.int .u32 (x : Int)) rfl ((ht.alloc _).src) (words_oneCell T) (by unfold maxLen; omega) (by omega) ?_); intro A1 c1 w1 hown hb; obtain ⟨hc, hf⟩ := bcell hb))
  refine bodyPost_ret (v := .agg #[.bool neg, .slice A1 m c1]) (by simp [results, Tryz.results146, go_sem, hc]) rfl ⟨_, rfl, ?_, ?_⟩
  ·have hw := wd_of_own hown (fun x hx => ht.small x hx)
   obtain ⟨A2, c2, he, hw⟩ := hw
   injection he with e1 e2 e3
   subst e1 e3
   have hv : val 4294967296 l ≠ 0 := by
    intro hv
    have e := E1.out
    rw [hv, dig_zero] at e
    exact h0 (by rw [← HM.out, e]; rfl)
   have hn := nint_of (neg := neg) hw E1.out hv
   exact ((hn.setCell (p := ⟨w.heap.size, 0, none⟩) (by simp) _).setCell (p := ⟨w.heap.size, 1, none⟩) (by simp) _).mono (fun b hb _ => by simp at hb; omega)
  ·exact ((((Below.refl _ _).alloc (Nat.le_refl _) _).trans (hb.mono (by simp))).setCell (Nat.le_refl _) _).setCell (Nat.le_refl _) _
end Go.Proofs.YtdjpeimecfhdjaaGreat
namespace Go.Proofs.YtdjpeimecfhdjaaGreat
open Go.RowKit
def Held (R : Nat) (W w' : World) : Prop := Below R W w' ∧ ∃ u0 u1, w'.heap[R]? = some (.cells #[u0, u1] 40 (0, 0))
section
variable {R : Nat} {W w1 w2 : World}
theorem Held.lt (h : Held R W w1) : R < w1.heap.size := by
 obtain ⟨_, u0, u1, h⟩ := h
 rcases Nat.lt_or_ge R w1.heap.size with hlt | hge
 ·exact hlt
 ·rw [Array.getElem?_eq_none hge] at h; cases h
theorem Held.init (u0 u1 : Value) (h : W.heap[R]? = some (.cells #[u0, u1] 40 (0, 0))) : (∀ b o, b < R → W.drew.cell? ⟨b, o, none⟩ = W.cell? ⟨b, o, none⟩) ∧ Held R W W.drew :=
 ⟨fun _ _ _ => rfl, (Below.refl _ _).drew, u0, u1, h⟩
theorem Held.call (hb : Below w1.heap.size w1 w2) (h : Held R W w1) : (∀ b o, b < R → w2.cell? ⟨b, o, none⟩ = W.cell? ⟨b, o, none⟩) ∧ Held R W w2 := by
 have hlt := h.lt
 have hb2 := h.1.trans (hb.mono (Nat.le_of_lt hlt))
 obtain ⟨_, u0, u1, hr⟩ := h
 exact ⟨fun b o hbr => hb2.cell (p := ⟨b, o, none⟩) hbr, hb2, u0, u1, (hb.block R hlt).trans hr⟩
theorem Held.call_lt (_ : Below w1.heap.size w1 w2) (h : Held R W w1) : R < w1.heap.size := h.lt
theorem Held.store (h : Held R W w1) (a b : Value) : (∀ c o, c < R → ((w1.setCell ⟨R, 0, none⟩ a).setCell ⟨R, 1, none⟩ b).cell? ⟨c, o, none⟩ = W.cell? ⟨c, o, none⟩) ∧ Held R W ((w1.setCell ⟨R, 0, none⟩ a).setCell ⟨R, 1, none⟩ b) := by
 obtain ⟨hb, u0, u1, hr⟩ := h
 have hb2 := (hb.setCell (p := ⟨R, 0, none⟩) (Nat.le_refl _) a).setCell (p := ⟨R, 1, none⟩) (Nat.le_refl _) b
 refine ⟨fun c o hc => hb2.cell (p := ⟨c, o, none⟩) hc, hb2, a, b, ?_⟩
 simp [World.setCell, Array.getElem?_modify, hr]
theorem Held.again (h : Held R W w1) : (∀ b o, b < R → w1.drew.cell? ⟨b, o, none⟩ = W.cell? ⟨b, o, none⟩) ∧ Held R W w1.drew :=
 ⟨fun b o hbr => h.1.cell (p := ⟨b, o, none⟩) hbr, h.1.drew, h.2⟩
theorem Held.from (h : Held R W w1) {w : World} (hb : Below w.heap.size w W) (hlt : w.heap.size ≤ R) : Below w.heap.size w w1 := hb.trans (h.1.mono hlt)
theorem Held.put (h : Held R W w1) {w : World} (hb : Below w.heap.size w W) (hlt : w.heap.size ≤ R) (a b : Value) : Below w.heap.size w ((w1.setCell ⟨R, 0, none⟩ a).setCell ⟨R, 1, none⟩ b) :=
 (h.store a b).2.from hb hlt
theorem Held.cells (h : Held R W w1) : ∃ u0 u1, w1.cell? ⟨R, 0, none⟩ = some u0 ∧ w1.cell? ⟨R, 1, none⟩ = some u1 ∧ w1.frozen? ⟨R, 0, none⟩ = false ∧ w1.frozen? ⟨R, 1, none⟩ = false := by
 obtain ⟨_, u0, u1, hr⟩ := h
 exact ⟨u0, u1, by rw [cell_of_row w1 R 0 _ _ _ hr]; rfl, by rw [cell_of_row w1 R 1 _ _ _ hr]; rfl, by simp [World.frozen?, hr], by simp [World.frozen?, hr]⟩
end
theorem trim_trim {b : Nat} (hb : 2 ≤ b) {l : List Nat} (h : ∀ x ∈ l, x < b) : trim (trim l) = trim l := by
 rw [trim_eq_dig hb h, trim_dig hb]
theorem boxes1 (w : World) (a0 a1 : Value) : ∃ W R, W = (w.alloc (.cells #[a0, a1] 40)).alloc (.cells #[.bool false, .slice none 0 0] 40) ∧ R = w.heap.size + 1 ∧
  Below w.heap.size w W ∧ Hid (W.heap[R]? = some (.cells #[.bool false, .slice none 0 0] 40 (0, 0))) ∧ W.cell? ⟨w.heap.size, 0, none⟩ = some a0 ∧ W.cell? ⟨w.heap.size, 1, none⟩ = some a1 ∧ w.heap.size < R := by
 refine ⟨_, _, rfl, rfl, ((Below.refl _ _).alloc (Nat.le_refl _) _).alloc (by simp) _, ?_, by go_simp, by go_simp, by omega⟩
 show _ = _
 simpa using heap_alloc_new (w.alloc (.cells #[a0, a1] 40)) (.cells #[.bool false, .slice none 0 0] 40)
theorem boxes2 (w : World) (a0 a1 b0 b1 : Value) : ∃ W P R, W = ((w.alloc (.cells #[a0, a1] 40)).alloc (.cells #[b0, b1] 40)).alloc (.cells #[.bool false, .slice none 0 0] 40) ∧ P = w.heap.size + 1 ∧ R = w.heap.size + 1 + 1 ∧
  Below w.heap.size w W ∧ Hid (W.heap[R]? = some (.cells #[.bool false, .slice none 0 0] 40 (0, 0))) ∧ W.cell? ⟨w.heap.size, 0, none⟩ = some a0 ∧ W.cell? ⟨w.heap.size, 1, none⟩ = some a1 ∧
   W.cell? ⟨P, 0, none⟩ = some b0 ∧ W.cell? ⟨P, 1, none⟩ = some b1 ∧ w.heap.size < R ∧ P < R := by
 refine ⟨_, _, _, rfl, rfl, rfl, (((Below.refl _ _).alloc (Nat.le_refl _) _).alloc (by simp) _).alloc (by simp; omega) _, ?_, by go_simp, by go_simp, by go_simp, by go_simp, by omega, by omega⟩
 show _ = _
 simpa using heap_alloc_new ((w.alloc (.cells #[a0, a1] 40)).alloc (.cells #[b0, b1] 40)) (.cells #[.bool false, .slice none 0 0] 40)
theorem wl_trim {l : List Nat} (h : ∀ x ∈ l, x < 4294967296) : (trim l).length = wl (val 4294967296 l) := by
 rw [trim_eq_dig (by omega) h]; rfl
theorem wl_trim2 {l : List Nat} (h : ∀ x ∈ l, x < 4294967296) : (trim (trim l)).length = wl (val 4294967296 l) := by
 rw [trim_trim (by omega) h, wl_trim h]
theorem nint_put {R : Nat} {w w1 w2 : World} {A : Option Addr} {c : Nat} {x : Int} (hl : R < w1.heap.size) (hwd : Wd w2 (w1.heap.size ≤ ·) A (wl x.natAbs) c (dig 4294967296 x.natAbs)) (hle : w.heap.size ≤ R) (a b : Value) :
  NIntV ((w2.setCell ⟨R, 0, none⟩ a).setCell ⟨R, 1, none⟩ b) (w.heap.size ≤ ·) (.agg #[.bool (decide (x < 0)), .slice A (wl x.natAbs) c]) x := by
 have h : NIntV w2 (w1.heap.size ≤ ·) (.agg #[.bool (decide (x < 0)), .slice A (wl x.natAbs) c]) x := ⟨A, c, rfl, hwd⟩
 exact ((h.setCell (p := ⟨R, 0, none⟩) (by simp; omega) a).setCell (p := ⟨R, 1, none⟩) (by simp; omega) b).mono (fun k hk _ => by have : w1.heap.size ≤ k := hk; show w.heap.size ≤ k; omega)
set_option maxHeartbeats 400000 in
theorem Normal_any {D : Nat → Prop} {v : Value} {x : Int} {w : World} (h : IntV w D v x) (hl : wl x.natAbs ≤ 1000000000000) :
  Calls Tryz.prog 154 #[v] w (Gives w fun w' v => NIntV w' (w.heap.size ≤ ·) v x) := by
 obtain ⟨neg, A, n, c, l, rfl, h, rfl⟩ := h
 rw [sg_natAbs] at hl
 have HL := Lib.hid hl
 clear hl
 go_enter Tryz.func154, Tryz.ntmps154
 go_wp2_with fail
 obtain ⟨W, R, hW, hR, hbW, HR, c0, c1, hlt⟩ := boxes1 w (.bool neg) (.slice A n c)
 rw [← hW, ← hR]
 clear hW hR
 go_region_held3 (fun w' => (∀ b o, b < R → w'.cell? ⟨b, o, none⟩ = W.cell? ⟨b, o, none⟩) ∧ Held R W w')
  (first | exact Held.init _ _ HR.out | (go_split_ands; exact Held.call (by assumption) (by assumption)) | (go_split_ands; exact Held.again (by assumption)) | (go_split_ands; exact Held.store (by assumption) _ _))
  (first
   | (go_at_call 165; go_split_ands; ((with_reducible refine (size_any (h.below (Held.from (R := R) (W := W) (by assumption) hbW (by omega)))).mono ?_)); rintro e w' ⟨rfl, hb1⟩)
   | (go_at_call 146; go_split_ands; ((with_reducible refine (made_any (h.trim.below (Held.from (R := R) (W := W) (by assumption) hbW (by omega))) (by have := HL.out; rw [wl_trim2 h.small]; omega)).mono ?_)); rintro e w2 ⟨v2, rfl, ⟨A2, c2, rfl, hwd2⟩, hb2⟩; have hh := (Held.call hb2 (by assumption)).2; have hl2 := Held.call_lt (R := R) (W := W) hb2 (by assumption); obtain ⟨u0, u1, hr0, hr1, hf0, hf1⟩ := hh.cells))
 go_wp2_with fail
 refine bodyPost_ret (v := .agg #[.bool _, .slice A2 _ c2]) (by simp [results, Tryz.results154, go_sem, hr0, hr1]; exact ⟨rfl, rfl⟩) rfl ⟨_, rfl, ?_, hh.put hbW (by omega) _ _⟩
 have hx : val 4294967296 l = val 4294967296 (trim l) := (val_trim _ _).symm
 rw [hx]
 exact nint_put hl2 hwd2 (by omega) _ _
theorem wl_le {a b : Nat} (h : a ≤ b) : wl a ≤ wl b := by
 unfold wl
 have h1 := val_lt (dig_lt (b := 4294967296) (by omega) b)
 rw [val_dig (by omega)] at h1
 exact dig_length_le (by omega) (by omega)
theorem wl_add (a b : Nat) : wl (a + b) ≤ max (wl a) (wl b) + 1 := by
 have h1 := val_lt (dig_lt (b := 4294967296) (by omega) a)
 have h2 := val_lt (dig_lt (b := 4294967296) (by omega) b)
 rw [val_dig (by omega)] at h1 h2
 refine dig_length_le (by omega) ?_
 have e1 : 4294967296 ^ (dig 4294967296 a).length ≤ 4294967296 ^ max (wl a) (wl b) := Nat.pow_le_pow_right (by omega) (Nat.le_max_left _ _)
 have e2 : 4294967296 ^ (dig 4294967296 b).length ≤ 4294967296 ^ max (wl a) (wl b) := Nat.pow_le_pow_right (by omega) (Nat.le_max_right _ _)
 rw [Nat.pow_succ]
 omega
theorem wl_mul (a b : Nat) : wl (a * b) ≤ wl a + wl b := by
 have h1 := val_lt (dig_lt (b := 4294967296) (by omega) a)
 have h2 := val_lt (dig_lt (b := 4294967296) (by omega) b)
 rw [val_dig (by omega)] at h1 h2
 refine dig_length_le (by omega) ?_
 unfold wl
 rw [Nat.pow_add]
 exact Nat.mul_lt_mul'' h1 h2
theorem sg_same (neg : Bool) (a b : Nat) : sg neg (a + b) = sg neg a + sg neg b := by unfold sg; split <;> omega
theorem sg_diff1 {n1 n2 : Bool} (h : (n1 == n2) = false) {a b : Nat} (hle : b ≤ a) : sg n1 (a - b) = sg n1 a + sg n2 b := by
 unfold sg; cases n1 <;> cases n2 <;> simp at h ⊢ <;> omega
theorem sg_diff2 {n1 n2 : Bool} (h : (n1 == n2) = false) {a b : Nat} (hle : a ≤ b) : sg n2 (b - a) = sg n1 a + sg n2 b := by
 unfold sg; cases n1 <;> cases n2 <;> simp at h ⊢ <;> omega
theorem sg_mul (n1 n2 : Bool) (a b : Nat) : sg (n1 != n2) (a * b) = sg n1 a * sg n2 b := by
 unfold sg; cases n1 <;> cases n2 <;> simp [Int.neg_mul, Int.mul_neg]
set_option maxHeartbeats 1000000 in
theorem Mul_any {D D' : Nat → Prop} {v v' : Value} {x y : Int} {w : World} (h : IntV w D v x) (h' : IntV w D' v' y) (hl : wl x.natAbs ≤ 1000000000000) (hl' : wl y.natAbs ≤ 1000000000000) :
  Calls Tryz.prog 101 #[v, v'] w (Gives w fun w' v => NIntV w' (w.heap.size ≤ ·) v (x * y)) := by
 replace h := h.mono (D' := fun _ => True) (fun _ _ _ => trivial)
 replace h' := h'.mono (D' := fun _ => True) (fun _ _ _ => trivial)
 obtain ⟨neg, A, n, c, l, rfl, h, rfl⟩ := h
 obtain ⟨neg', A', n', c', l', rfl, h', rfl⟩ := h'
 rw [sg_natAbs] at hl hl'
 have HL := Lib.hid hl
 have HL' := Lib.hid hl'
 clear hl hl'
 go_enter Tryz.func101, Tryz.ntmps101
 go_wp2_with fail
 obtain ⟨W, P, R, hW, hP, hR, hbW, HR, c0, c1, d0, d1, hlt, hlt2⟩ := boxes2 w (.bool neg) (.slice A n c) (.bool neg') (.slice A' n' c')
 rw [← hW, ← hR, ← hP]
 clear hW hP hR
 go_region_held3 (fun w' => (∀ b o, b < R → w'.cell? ⟨b, o, none⟩ = W.cell? ⟨b, o, none⟩) ∧ Held R W w')
  (first | exact Held.init _ _ HR.out | (go_split_ands; exact Held.call (by assumption) (by assumption)) | (go_split_ands; exact Held.again (by assumption)) | (go_split_ands; exact Held.store (by assumption) _ _))
  (first
   | (go_at_call 165; go_split_ands; ((with_reducible refine (size_any (h.below (Held.from (R := R) (W := W) (by assumption) hbW (by omega)))).mono ?_)); rintro e w' ⟨rfl, hb1⟩)
   | (go_at_call 165; go_split_ands; ((with_reducible refine (size_any (h'.below (Held.from (R := R) (W := W) (by assumption) hbW (by omega)))).mono ?_)); rintro e w' ⟨rfl, hb1⟩)
   | (go_at_call 164; go_split_ands; ((with_reducible refine (times_any (h.trim.below (Held.from (R := R) (W := W) (by assumption) hbW (by omega))) (h'.trim.below (Held.from (R := R) (W := W) (by assumption) hbW (by omega))) (by have := HL.out; rw [wl_trim h.small]; omega) (by have := HL'.out; rw [wl_trim h'.small]; omega)).mono ?_)); rintro e w3 ⟨v3, rfl, ⟨A3, c3, rfl, hwd3⟩, hb3⟩)
   | (go_at_call 146; go_split_ands; ((with_reducible refine (made_any hwd3 (by rw [wl_trim hwd3.small, val_dig (by omega), val_trim, val_trim]; have := HL.out; have := HL'.out; have := wl_mul (val 4294967296 l) (val 4294967296 l'); omega)).mono ?_)); rintro e w2 ⟨v2, rfl, ⟨A2, c2, rfl, hwd2⟩, hb2⟩; have hh := (Held.call hb2 (by assumption)).2; have hl2 := Held.call_lt (R := R) (W := W) hb2 (by assumption); obtain ⟨u0, u1, hr0, hr1, hf0, hf1⟩ := hh.cells))
 go_wp2_with fail
 refine bodyPost_ret (v := .agg #[.bool _, .slice A2 _ c2]) (by simp [results, Tryz.results101, go_sem, hr0, hr1]; exact ⟨rfl, rfl⟩) rfl ⟨_, rfl, ?_, hh.put hbW (by omega) _ _⟩
 have e : sg neg (val 4294967296 l) * sg neg' (val 4294967296 l') = sg (neg != neg') (val 4294967296 (dig 4294967296 (val 4294967296 (trim l) * val 4294967296 (trim l')))) := by
  rw [val_dig (by omega), val_trim, val_trim, sg_mul]
 rw [e]
 exact nint_put hl2 hwd2 (by omega) _ _
theorem compare_b {D : Nat → Prop} {A A' : Option Addr} {n c n' c' : Nat} {l l' : List Nat} {w : World} (h : Wd w D A n c l) (h' : Wd w D A' n' c' l') (ht : trim l = l) (ht' : trim l' = l') :
  Calls Tryz.prog 217 #[.slice A n c, .slice A' n' c'] w fun e w' => e = .returned (.int .i64 (cmpN (val 4294967296 l) (val 4294967296 l'))) ∧ Below w.heap.size w w' :=
 (compare_any h h' ht ht').mono fun e w' ⟨he, m, hw⟩ => ⟨he, by rw [hw]; exact below_drewN' (Below.refl _ _) m⟩
theorem negative_any {neg : Bool} {A : Option Addr} {n c : Nat} {w : World} :
  Calls Tryz.prog 218 #[.agg #[.bool neg, .slice A n c]] w fun e w' => e = .returned (.agg #[.bool (!neg), .slice A n c]) ∧ Below w.heap.size w w' := by
 go_enter Tryz.func218, Tryz.ntmps218
 go_wp2_with fail
 refine bodyPost_ret (v := .agg #[.bool (!neg), .slice A n c]) (by simp [results, Tryz.results218, go_sem]) rfl ⟨rfl, ?_⟩
 exact ((Below.refl _ _).alloc (Nat.le_refl _) _).alloc (by simp) _
set_option maxHeartbeats 1000000 in
theorem Add_any {D D' : Nat → Prop} {v v' : Value} {x y : Int} {w : World} (h : IntV w D v x) (h' : IntV w D' v' y) (hl : wl x.natAbs ≤ 1000000000000) (hl' : wl y.natAbs ≤ 1000000000000) :
  Calls Tryz.prog 152 #[v, v'] w (Gives w fun w' v => NIntV w' (w.heap.size ≤ ·) v (x + y)) := by
 replace h := h.mono (D' := fun _ => True) (fun _ _ _ => trivial)
 replace h' := h'.mono (D' := fun _ => True) (fun _ _ _ => trivial)
 obtain ⟨neg, A, n, c, l, rfl, h, rfl⟩ := h
 obtain ⟨neg', A', n', c', l', rfl, h', rfl⟩ := h'
 rw [sg_natAbs] at hl hl'
 have HL := Lib.hid hl
 have HL' := Lib.hid hl'
 clear hl hl'
 have TL := Lib.hid (trim_trim (b := 4294967296) (by omega) h.small)
 have TL' := Lib.hid (trim_trim (b := 4294967296) (by omega) h'.small)
 by_cases hne : neg = neg'
 ·have ht : (neg == neg') = true := by simp [hne]
  have HN := Lib.hid hne
  clear hne
  go_enter Tryz.func152, Tryz.ntmps152
  go_wp2_with fail
  obtain ⟨W, P, R, hW, hP, hR, hbW, HR, c0, c1, d0, d1, hlt, hlt2⟩ := boxes2 w (.bool neg) (.slice A n c) (.bool neg') (.slice A' n' c')
  rw [← hW, ← hR, ← hP]
  clear hW hP hR
  go_region_held3 (fun w' => (∀ b o, b < R → w'.cell? ⟨b, o, none⟩ = W.cell? ⟨b, o, none⟩) ∧ Held R W w')
   (first | exact Held.init _ _ HR.out | (go_split_ands; exact Held.call (by assumption) (by assumption)) | (go_split_ands; exact Held.again (by assumption)) | (go_split_ands; exact Held.store (by assumption) _ _))
   (first
    | (go_at_call 165; go_split_ands; ((with_reducible refine (size_any (h.below (Held.from (R := R) (W := W) (by assumption) hbW (by omega)))).mono ?_)); rintro e w' ⟨rfl, hb1⟩)
    | (go_at_call 165; go_split_ands; ((with_reducible refine (size_any (h'.below (Held.from (R := R) (W := W) (by assumption) hbW (by omega)))).mono ?_)); rintro e w' ⟨rfl, hb1⟩))
  go_wp2_with fail
  go_region_held3 (fun w' => (∀ b o, b < R → w'.cell? ⟨b, o, none⟩ = W.cell? ⟨b, o, none⟩) ∧ Held R W w')
   (first | exact Held.init _ _ HR.out | (go_split_ands; exact Held.call (by assumption) (by assumption)) | (go_split_ands; exact Held.again (by assumption)) | (go_split_ands; exact Held.store (by assumption) _ _))
   (first
    | (go_at_call 211; go_split_ands; ((with_reducible refine (plus_any (h.trim.below (Held.from (R := R) (W := W) (by assumption) hbW (by omega))) (h'.trim.below (Held.from (R := R) (W := W) (by assumption) hbW (by omega))) (by have := HL.out; rw [wl_trim h.small]; omega) (by have := HL'.out; rw [wl_trim h'.small]; omega)).mono ?_)); rintro e w3 ⟨v3, rfl, ⟨A3, c3, rfl, hwd3⟩, hb3⟩)
    | (go_at_call 146; go_split_ands; ((with_reducible refine (made_any hwd3 (by rw [wl_trim hwd3.small, val_dig (by omega), val_trim, val_trim]; have := HL.out; have := HL'.out; have := wl_add (val 4294967296 l) (val 4294967296 l'); omega)).mono ?_)); rintro e w2 ⟨v2, rfl, ⟨A2, c2, rfl, hwd2⟩, hb2⟩; have hh := (Held.call hb2 (by assumption)).2; have hl2 := Held.call_lt (R := R) (W := W) hb2 (by assumption); obtain ⟨u0, u1, hr0, hr1, hf0, hf1⟩ := hh.cells))
  go_wp2_with fail
  refine bodyPost_ret (v := .agg #[.bool _, .slice A2 _ c2]) (by simp [results, Tryz.results152, go_sem, hr0, hr1]; exact ⟨rfl, rfl⟩) rfl ⟨_, rfl, ?_, hh.put hbW (by omega) _ _⟩
  have e : sg neg (val 4294967296 l) + sg neg' (val 4294967296 l') = sg neg (val 4294967296 (dig 4294967296 (val 4294967296 (trim l) + val 4294967296 (trim l')))) := by
   rw [val_dig (by omega), val_trim, val_trim, sg_same, HN.out]
  rw [e]
  exact nint_put hl2 hwd2 (by omega) _ _
 ·have ht : (neg == neg') = false := by simp [hne]
  have HN := Lib.hid ht
  by_cases hle : val 4294967296 l' ≤ val 4294967296 l
  ·have hcmp : (0 : Int) ≤ cmpN (val 4294967296 (trim l)) (val 4294967296 (trim l')) := by
    rw [val_trim, val_trim]; unfold cmpN; split <;> (try split) <;> omega
   have HLE := Lib.hid hle
   clear hle
   go_enter Tryz.func152, Tryz.ntmps152
   go_wp2_with fail
   obtain ⟨W, P, R, hW, hP, hR, hbW, HR, c0, c1, d0, d1, hlt, hlt2⟩ := boxes2 w (.bool neg) (.slice A n c) (.bool neg') (.slice A' n' c')
   rw [← hW, ← hR, ← hP]
   clear hW hP hR
   go_region_held3 (fun w' => (∀ b o, b < R → w'.cell? ⟨b, o, none⟩ = W.cell? ⟨b, o, none⟩) ∧ Held R W w')
    (first | exact Held.init _ _ HR.out | (go_split_ands; exact Held.call (by assumption) (by assumption)) | (go_split_ands; exact Held.again (by assumption)) | (go_split_ands; exact Held.store (by assumption) _ _))
    (first
     | (go_at_call 165; go_split_ands; ((with_reducible refine (size_any (h.below (Held.from (R := R) (W := W) (by assumption) hbW (by omega)))).mono ?_)); rintro e w' ⟨rfl, hb1⟩)
     | (go_at_call 165; go_split_ands; ((with_reducible refine (size_any (h'.below (Held.from (R := R) (W := W) (by assumption) hbW (by omega)))).mono ?_)); rintro e w' ⟨rfl, hb1⟩))
   go_split_ands
   go_wp2_with (go_at_call 217; ((with_reducible refine (compare_b (h.trim.below (Held.from (R := R) (W := W) (by assumption) hbW (by omega))) (h'.trim.below (Held.from (R := R) (W := W) (by assumption) hbW (by omega))) TL.out TL'.out).mono ?_)); rintro e w3 ⟨rfl, hb3⟩; obtain ⟨hd3a, hd3⟩ := Held.call (R := R) (W := W) hb3 (by assumption))
   go_region_held3 (fun w' => (∀ b o, b < R → w'.cell? ⟨b, o, none⟩ = W.cell? ⟨b, o, none⟩) ∧ Held R W w')
    (first | exact Held.init _ _ HR.out | (go_split_ands; exact Held.call (by assumption) (by assumption)) | (go_split_ands; exact Held.again (by assumption)) | (go_split_ands; exact Held.store (by assumption) _ _))
    (first
     | (go_at_call 212; go_split_ands; ((with_reducible refine (minus_any (h.trim.below (Held.from (R := R) (W := W) (by assumption) hbW (by omega))) (h'.trim.below (Held.from (R := R) (W := W) (by assumption) hbW (by omega))) (by have := HL.out; rw [wl_trim h.small]; omega) (by rw [val_trim, val_trim]; exact HLE.out)).mono ?_)); rintro e w3 ⟨v3, rfl, ⟨A3, c3, rfl, hwd3⟩, hb3⟩)
     | (go_at_call 146; go_split_ands; ((with_reducible refine (made_any hwd3 (by rw [wl_trim hwd3.small, val_dig (by omega), val_trim, val_trim]; have := HL.out; have := HL'.out; have := wl_le (Nat.sub_le (val 4294967296 l) (val 4294967296 l')); omega)).mono ?_)); rintro e w2 ⟨v2, rfl, ⟨A2, c2, rfl, hwd2⟩, hb2⟩; have hh := (Held.call hb2 (by assumption)).2; have hl2 := Held.call_lt (R := R) (W := W) hb2 (by assumption); obtain ⟨u0, u1, hr0, hr1, hf0, hf1⟩ := hh.cells))
   go_wp2_with fail
   refine bodyPost_ret (v := .agg #[.bool _, .slice A2 _ c2]) (by simp [results, Tryz.results152, go_sem, hr0, hr1]; exact ⟨rfl, rfl⟩) rfl ⟨_, rfl, ?_, hh.put hbW (by omega) _ _⟩
   have e : sg neg (val 4294967296 l) + sg neg' (val 4294967296 l') = sg neg (val 4294967296 (dig 4294967296 (val 4294967296 (trim l) - val 4294967296 (trim l')))) := by
    rw [val_dig (by omega), val_trim, val_trim, sg_diff1 HN.out HLE.out]
   rw [e]
   exact nint_put hl2 hwd2 (by omega) _ _
  ·have hcmp : cmpN (val 4294967296 (trim l)) (val 4294967296 (trim l')) < 0 := by
    rw [val_trim, val_trim, cmpN_lt (by omega)]; omega
   have HLE := Lib.hid (show val 4294967296 l ≤ val 4294967296 l' by omega)
   clear hle
   go_enter Tryz.func152, Tryz.ntmps152
   go_wp2_with fail
   obtain ⟨W, P, R, hW, hP, hR, hbW, HR, c0, c1, d0, d1, hlt, hlt2⟩ := boxes2 w (.bool neg) (.slice A n c) (.bool neg') (.slice A' n' c')
   rw [← hW, ← hR, ← hP]
   clear hW hP hR
   go_region_held3 (fun w' => (∀ b o, b < R → w'.cell? ⟨b, o, none⟩ = W.cell? ⟨b, o, none⟩) ∧ Held R W w')
    (first | exact Held.init _ _ HR.out | (go_split_ands; exact Held.call (by assumption) (by assumption)) | (go_split_ands; exact Held.again (by assumption)) | (go_split_ands; exact Held.store (by assumption) _ _))
    (first
     | (go_at_call 165; go_split_ands; ((with_reducible refine (size_any (h.below (Held.from (R := R) (W := W) (by assumption) hbW (by omega)))).mono ?_)); rintro e w' ⟨rfl, hb1⟩)
     | (go_at_call 165; go_split_ands; ((with_reducible refine (size_any (h'.below (Held.from (R := R) (W := W) (by assumption) hbW (by omega)))).mono ?_)); rintro e w' ⟨rfl, hb1⟩))
   go_split_ands
   go_wp2_with (go_at_call 217; ((with_reducible refine (compare_b (h.trim.below (Held.from (R := R) (W := W) (by assumption) hbW (by omega))) (h'.trim.below (Held.from (R := R) (W := W) (by assumption) hbW (by omega))) TL.out TL'.out).mono ?_)); rintro e w3 ⟨rfl, hb3⟩; obtain ⟨hd3a, hd3⟩ := Held.call (R := R) (W := W) hb3 (by assumption))
   go_region_held3 (fun w' => (∀ b o, b < R → w'.cell? ⟨b, o, none⟩ = W.cell? ⟨b, o, none⟩) ∧ Held R W w')
    (first | exact Held.init _ _ HR.out | (go_split_ands; exact Held.call (by assumption) (by assumption)) | (go_split_ands; exact Held.again (by assumption)) | (go_split_ands; exact Held.store (by assumption) _ _))
    (first
     | (go_at_call 212; go_split_ands; ((with_reducible refine (minus_any (h'.trim.below (Held.from (R := R) (W := W) (by assumption) hbW (by omega))) (h.trim.below (Held.from (R := R) (W := W) (by assumption) hbW (by omega))) (by have := HL'.out; rw [wl_trim h'.small]; omega) (by rw [val_trim, val_trim]; exact HLE.out)).mono ?_)); rintro e w3 ⟨v3, rfl, ⟨A3, c3, rfl, hwd3⟩, hb3⟩)
     | (go_at_call 146; go_split_ands; ((with_reducible refine (made_any hwd3 (by rw [wl_trim hwd3.small, val_dig (by omega), val_trim, val_trim]; have := HL.out; have := HL'.out; have := wl_le (Nat.sub_le (val 4294967296 l') (val 4294967296 l)); omega)).mono ?_)); rintro e w2 ⟨v2, rfl, ⟨A2, c2, rfl, hwd2⟩, hb2⟩; have hh := (Held.call hb2 (by assumption)).2; have hl2 := Held.call_lt (R := R) (W := W) hb2 (by assumption); obtain ⟨u0, u1, hr0, hr1, hf0, hf1⟩ := hh.cells))
   go_wp2_with fail
   refine bodyPost_ret (v := .agg #[.bool _, .slice A2 _ c2]) (by simp [results, Tryz.results152, go_sem, hr0, hr1]; exact ⟨rfl, rfl⟩) rfl ⟨_, rfl, ?_, hh.put hbW (by omega) _ _⟩
   have e : sg neg (val 4294967296 l) + sg neg' (val 4294967296 l') = sg neg' (val 4294967296 (dig 4294967296 (val 4294967296 (trim l') - val 4294967296 (trim l)))) := by
    rw [val_dig (by omega), val_trim, val_trim, sg_diff2 HN.out HLE.out]
   rw [e]
   exact nint_put hl2 hwd2 (by omega) _ _
end Go.Proofs.YtdjpeimecfhdjaaGreat
namespace Go.Proofs.YtdjpeimecfhdjaaGreat
open Go.RowKit
theorem sg_not (neg : Bool) (m : Nat) : sg (!neg) m = - sg neg m := by unfold sg; cases neg <;> simp
theorem Held.self {R : Nat} {W : World} {u0 u1 : Value} (h : W.heap[R]? = some (.cells #[u0, u1] 40 (0, 0))) : Held R W W := ⟨Below.refl _ _, u0, u1, h⟩
theorem Wd.int {w : World} {D : Nat → Prop} {A : Option Addr} {n c : Nat} {l : List Nat} (h : Wd w D A n c l) (neg : Bool) : IntV w D (.agg #[.bool neg, .slice A n c]) (sg neg (val 4294967296 l)) := ⟨neg, A, n, c, l, rfl, h, rfl⟩
theorem IntV.t {w : World} {D : Nat → Prop} {v : Value} {x : Int} (h : IntV w D v x) : IntV w (fun _ => True) v x := h.mono fun _ _ _ => trivial
set_option maxHeartbeats 1000000 in
theorem Sub_any {D D' : Nat → Prop} {v v' : Value} {x y : Int} {w : World} (h : IntV w D v x) (h' : IntV w D' v' y) (hl : wl x.natAbs ≤ 1000000000000) (hl' : wl y.natAbs ≤ 1000000000000) :
  Calls Tryz.prog 153 #[v, v'] w (Gives w fun w' v => NIntV w' (w.heap.size ≤ ·) v (x - y)) := by
 replace h := h.t
 replace h' := h'.t
 obtain ⟨neg, A, n, c, l, rfl, h, rfl⟩ := h
 obtain ⟨neg', A', n', c', l', rfl, h', rfl⟩ := h'
 have HL := Lib.hid hl
 have HL' := Lib.hid hl'
 clear hl hl'
 go_enter Tryz.func153, Tryz.ntmps153
 go_wp2_with fail
 obtain ⟨W, P, R, hW, hP, hR, hbW, HR, c0, c1, d0, d1, hlt, hlt2⟩ := boxes2 w (.bool neg) (.slice A n c) (.bool neg') (.slice A' n' c')
 rw [← hW, ← hR, ← hP]
 clear hW hP hR
 go_region_held3 (fun w' => (∀ b o, b < R → w'.cell? ⟨b, o, none⟩ = W.cell? ⟨b, o, none⟩) ∧ Held R W w')
  (first | exact Held.init _ _ HR.out | (go_split_ands; exact Held.call (by assumption) (by assumption)) | (go_split_ands; exact Held.again (by assumption)) | (go_split_ands; exact Held.store (by assumption) _ _))
  (first
   | (go_at_call 218; go_split_ands; ((with_reducible refine (negative_any).mono ?_)); rintro e w3 ⟨rfl, hb3⟩)
   | (go_at_call 152; go_split_ands; ((with_reducible refine (Add_any (D := fun _ => True) (D' := fun _ => True) (x := sg neg (val 4294967296 l)) (y := sg (!neg') (val 4294967296 l')) ((h.below (Held.from (R := R) (W := W) (by assumption) hbW (by omega))).int neg) ((h'.below (Held.from (R := R) (W := W) (by assumption) hbW (by omega))).int (!neg')) HL.out (by rw [sg_natAbs]; have := HL'.out; rw [sg_natAbs] at this; exact this)).mono ?_)); rintro e w2 ⟨v2, rfl, ⟨A2, c2, rfl, hwd2⟩, hb2⟩; have hh := (Held.call hb2 (by assumption)).2; have hl2 := Held.call_lt (R := R) (W := W) hb2 (by assumption); obtain ⟨u0, u1, hr0, hr1, hf0, hf1⟩ := hh.cells))
 go_wp2_with fail
 refine bodyPost_ret (v := .agg #[.bool _, .slice A2 _ c2]) (by simp [results, Tryz.results153, go_sem, hr0, hr1]; exact ⟨rfl, rfl⟩) rfl ⟨_, rfl, ?_, hh.put hbW (by omega) _ _⟩
 rw [Int.sub_eq_add_neg, ← sg_not]
 exact nint_put hl2 hwd2 (by omega) _ _
def cmpI (x y : Int) : Int := if x < y then -1 else if x = y then 0 else 1
theorem wl_pos {m : Nat} (h : m ≠ 0) : wl m ≠ 0 := by
 unfold wl
 intro h0
 exact h ((dig_eq_nil (by omega)).1 (List.eq_nil_of_length_eq_zero h0))
set_option maxHeartbeats 1000000 in
theorem Cmp_any {D D' : Nat → Prop} {v v' : Value} {x y : Int} {w : World} (h : IntV w D v x) (h' : IntV w D' v' y) (hl : wl x.natAbs ≤ 1000000000000) (hl' : wl y.natAbs ≤ 1000000000000) :
  Calls Tryz.prog 102 #[v, v'] w fun e w' => e = .returned (.int .i64 (cmpI x y)) ∧ Below w.heap.size w w' := by
 obtain ⟨d, hd⟩ : ∃ d, d = x - y := ⟨_, rfl⟩
 have HD := Lib.hid hd
 have HX := Lib.hid (show cmpI x y = (if d = 0 then 0 else if d < 0 then -1 else 1) by unfold cmpI; split <;> (try split) <;> (try split) <;> (try split) <;> omega)
 clear hd
 have hsub := fun w' (hb : Below w.heap.size w w') => Sub_any (h.below hb) (h'.below hb) hl hl'
 rw [← HD.out] at hsub
 have HS := Lib.hid hsub
 clear hsub
 obtain ⟨neg, A, n, c, l, rfl, h, hx⟩ := h
 obtain ⟨neg', A', n', c', l', rfl, h', hy⟩ := h'
 clear hx hy hl hl'
 rcases Int.lt_trichotomy d 0 with h0 | h0 | h0
 ·have t1 : ((wl d.natAbs : Int) == 0) = false := by
   have := wl_pos (m := d.natAbs) (by omega)
   simpa using this
  have t2 : decide (d < 0) = true := by simpa using h0
  have HE := Lib.hid (show cmpI x y = -1 by rw [HX.out, if_neg (by omega), if_pos h0])
  have H0 := Lib.hid h0
  clear h0
  go_enter Tryz.func102, Tryz.ntmps102
  go_wp2_with (go_at_call 153; go_must (refine (HS.out _ (((Below.refl _ _).alloc (Nat.le_refl _) _).alloc (by simp) _)).mono ?_); rintro e w1 ⟨v1, rfl, ⟨A1, c1, rfl, hwd⟩, hb1⟩)
  go_ret
  refine ⟨ret_int HE.out.symm, ?_⟩
  exact ((((Below.refl _ _).alloc (Nat.le_refl _) _).alloc (by simp) _).trans (hb1.mono (by simp; omega))).alloc (by have := hb1.size; simp at this; omega) _
 ·have t1 : ((wl d.natAbs : Int) == 0) = true := by rw [h0]; rfl
  have HE := Lib.hid (show cmpI x y = 0 by rw [HX.out, if_pos h0])
  have H0 := Lib.hid h0
  clear h0
  go_enter Tryz.func102, Tryz.ntmps102
  go_wp2_with (go_at_call 153; go_must (refine (HS.out _ (((Below.refl _ _).alloc (Nat.le_refl _) _).alloc (by simp) _)).mono ?_); rintro e w1 ⟨v1, rfl, ⟨A1, c1, rfl, hwd⟩, hb1⟩)
  go_ret
  refine ⟨ret_int HE.out.symm, ?_⟩
  exact ((((Below.refl _ _).alloc (Nat.le_refl _) _).alloc (by simp) _).trans (hb1.mono (by simp; omega))).alloc (by have := hb1.size; simp at this; omega) _
 ·have t1 : ((wl d.natAbs : Int) == 0) = false := by
   have := wl_pos (m := d.natAbs) (by omega)
   simpa using this
  have t2 : decide (d < 0) = false := by simp; omega
  have HE := Lib.hid (show cmpI x y = 1 by rw [HX.out, if_neg (by omega), if_neg (by omega)])
  have H0 := Lib.hid h0
  clear h0
  go_enter Tryz.func102, Tryz.ntmps102
  go_wp2_with (go_at_call 153; go_must (refine (HS.out _ (((Below.refl _ _).alloc (Nat.le_refl _) _).alloc (by simp) _)).mono ?_); rintro e w1 ⟨v1, rfl, ⟨A1, c1, rfl, hwd⟩, hb1⟩)
  go_ret
  refine ⟨ret_int HE.out.symm, ?_⟩
  exact ((((Below.refl _ _).alloc (Nat.le_refl _) _).alloc (by simp) _).trans (hb1.mono (by simp; omega))).alloc (by have := hb1.size; simp at this; omega) _
end Go.Proofs.YtdjpeimecfhdjaaGreat
namespace Go.Proofs.YtdjpeimecfhdjaaGreat
open Go.RowKit
theorem neg_wrap {n : Int} (h : -9223372036854775808 ≤ n) (h0 : n < 0) : IntKind.u64.wrap (-(IntKind.u64.wrap n)) = (n.natAbs : Int) := by
 simp [IntKind.wrap, IntKind.bits, IntKind.signed]
 omega
theorem pos_wrap {n : Int} (h : n ≤ 9223372036854775807) (h0 : 0 ≤ n) : IntKind.u64.wrap n = (n.natAbs : Int) := by
 simp [IntKind.wrap, IntKind.bits, IntKind.signed]
 omega
theorem NIntV.cast {w : World} {D : Nat → Prop} {v : Value} {x y : Int} (h : NIntV w D v x) (e : x = y) : NIntV w D v y := e ▸ h
theorem wl_word {m : Nat} (h : m < 18446744073709551616) : wl m ≤ 2 := dig_length_le (by omega) (by omega)
set_option maxHeartbeats 1000000 in
theorem Of_any (n : Int) (w : World) (h : -9223372036854775808 ≤ n) (h' : n ≤ 9223372036854775807) :
  Calls Tryz.prog 88 #[.int .i64 n] w (Gives w fun w' v => NIntV w' (w.heap.size ≤ ·) v n) := by
 have HLT := Lib.hid (show n.natAbs < 18446744073709551616 by omega)
 obtain ⟨W, hW⟩ : ∃ W, W = w.alloc (.cells #[.bool false, .slice none 0 0] 40) := ⟨_, rfl⟩
 have hbW : Below w.heap.size w W := by rw [hW]; exact (Below.refl _ _).alloc (Nat.le_refl _) _
 have HR : Hid (W.heap[w.heap.size]? = some (.cells #[.bool false, .slice none 0 0] 40 (0, 0))) := by rw [hW]; exact heap_alloc_new _ _
 have HWW := Lib.hid hW
 clear hW
 by_cases h0 : n < 0
 ·have HW := Lib.hid (neg_wrap h h0)
  clear h h'
  go_enter Tryz.func88, Tryz.ntmps88
  go_wp2_with (first
   | (go_at_call 147; rw [← HWW.out, HW.out]; go_must (refine (of_any _ _ HLT.out).mono ?_); rintro e w1 ⟨v1, rfl, ⟨A1, c1, rfl, hwd1⟩, hb1⟩; have hh1 := (Held.call hb1 (Held.self HR.out)).2)
   | (go_at_call 146; go_must (refine (made_any hwd1 ?_).mono ?_); (rw [wl_trim hwd1.small, val_dig (by omega)]; have := wl_word HLT.out; omega); rintro e w2 ⟨v2, rfl, ⟨A2, c2, rfl, hwd2⟩, hb2⟩; have hh := (Held.call hb2 hh1).2; have hl2 := hh1.lt; obtain ⟨u0, u1, hr0, hr1, hf0, hf1⟩ := hh.cells))
  refine bodyPost_ret (v := .agg #[.bool _, .slice A2 _ c2]) (by simp [results, Tryz.results88, go_sem, hr0, hr1]; exact ⟨rfl, rfl⟩) rfl ⟨_, rfl, ?_, hh.put hbW (by omega) _ _⟩
  exact (nint_put (w := w) hl2 hwd2 (Nat.le_refl _) _ _).cast (by rw [val_dig (by omega)]; simp [sg]; omega)
 ·have HW := Lib.hid (pos_wrap h' (by omega))
  clear h h'
  go_enter Tryz.func88, Tryz.ntmps88
  go_wp2_with (first
   | (go_at_call 147; rw [← HWW.out, HW.out]; go_must (refine (of_any _ _ HLT.out).mono ?_); rintro e w1 ⟨v1, rfl, ⟨A1, c1, rfl, hwd1⟩, hb1⟩; have hh1 := (Held.call hb1 (Held.self HR.out)).2)
   | (go_at_call 146; go_must (refine (made_any hwd1 ?_).mono ?_); (rw [wl_trim hwd1.small, val_dig (by omega)]; have := wl_word HLT.out; omega); rintro e w2 ⟨v2, rfl, ⟨A2, c2, rfl, hwd2⟩, hb2⟩; have hh := (Held.call hb2 hh1).2; have hl2 := hh1.lt; obtain ⟨u0, u1, hr0, hr1, hf0, hf1⟩ := hh.cells))
  refine bodyPost_ret (v := .agg #[.bool _, .slice A2 _ c2]) (by simp [results, Tryz.results88, go_sem, hr0, hr1]; exact ⟨rfl, rfl⟩) rfl ⟨_, rfl, ?_, hh.put hbW (by omega) _ _⟩
  exact (nint_put (w := w) hl2 hwd2 (Nat.le_refl _) _ _).cast (by rw [val_dig (by omega)]; simp [sg]; omega)
theorem Zero_any {D : Nat → Prop} {v : Value} {x : Int} {w : World} (h : NIntV w D v x) :
  Calls Tryz.prog 166 #[v] w fun e w' => e = .returned (.bool (decide (x = 0))) ∧ Below w.heap.size w w' := by
 obtain ⟨A, c, rfl, h⟩ := h
 have HX := Lib.hid (show ((wl x.natAbs : Int) == 0) = decide (x = 0) by
  by_cases h0 : x = 0
  ·rw [h0]; rfl
  ·have := wl_pos (m := x.natAbs) (by omega)
   simp [h0, this])
 go_enter Tryz.func166, Tryz.ntmps166
 go_wp2_with fail
 go_ret
 rw [← HX.out]
 exact ⟨rfl, (Below.refl _ _).alloc (Nat.le_refl _) _⟩
theorem Sign_any {D : Nat → Prop} {v : Value} {x : Int} {w : World} (h : IntV w D v x) (hl : wl x.natAbs ≤ 1000000000000) :
  Calls Tryz.prog 242 #[v] w fun e w' => e = .returned (.int .i64 (cmpI x 0)) ∧ Below w.heap.size w w' := by
 have HC := Lib.hid (fun w' (hb : Below w.heap.size w w') => Cmp_any (h.below hb) (NIntV.zero w' (fun _ => True)).int hl (by decide))
 obtain ⟨neg, A, n, c, l, rfl, h, hx⟩ := h
 clear hx hl
 go_enter Tryz.func242, Tryz.ntmps242
 go_wp2_with (go_at_call 102; go_must (refine (HC.out _ ((Below.refl _ _).alloc (Nat.le_refl _) _)).mono ?_); rintro e w1 ⟨rfl, hb1⟩)
 go_ret
 exact ⟨rfl, ((Below.refl _ _).alloc (Nat.le_refl _) _).trans (hb1.mono (by simp))⟩
set_option maxHeartbeats 1000000 in
theorem wNeg_any {D : Nat → Prop} {v : Value} {x : Int} {w : World} (h : IntV w D v x) (hl : wl x.natAbs ≤ 1000000000000) :
  Calls Tryz.prog 193 #[v] w (Gives w fun w' v => NIntV w' (w.heap.size ≤ ·) v (-x)) := by
 obtain ⟨y, hy⟩ : ∃ y, y = 0 - x := ⟨_, rfl⟩
 have hc := (fun w' (hb : Below w.heap.size w w') => Sub_any (NIntV.zero w' (fun _ => True)).int (h.below hb) (by decide) hl)
 rw [← hy] at hc
 have HC := Lib.hid hc
 have HY := Lib.hid hy
 clear hc hy
 obtain ⟨neg, A, n, c, l, rfl, h, hx⟩ := h
 clear hx hl
 go_enter Tryz.func193, Tryz.ntmps193
 obtain ⟨W, R, hW, hR, hbW, HR, c0, c1, hlt⟩ := boxes1 w (.bool neg) (.slice A n c)
 have HWW := Lib.hid hW
 have HRR := Lib.hid hR
 clear hW hR
 go_wp2_with (go_at_call 153; rw [← HWW.out, ← HRR.out]; go_must (refine (HC.out _ hbW).mono ?_); rintro e w2 ⟨v2, rfl, ⟨A2, c2, rfl, hwd2⟩, hb2⟩; have hh1 := Held.self HR.out; have hl2 := hh1.lt; have hh := (Held.call hb2 hh1).2; obtain ⟨u0, u1, hr0, hr1, hf0, hf1⟩ := hh.cells)
 refine bodyPost_ret (v := .agg #[.bool _, .slice A2 _ c2]) (by simp [results, Tryz.results193, go_sem, hr0, hr1]; exact ⟨rfl, rfl⟩) rfl ⟨_, rfl, ?_, hh.put hbW (by omega) _ _⟩
 exact (nint_put (w := w) hl2 hwd2 (by omega) _ _).cast (by have := HY.out; omega)
set_option maxHeartbeats 1000000 in
theorem Size_any {D : Nat → Prop} {v : Value} {x : Int} {w : World} (h : IntV w D v x) (hl : wl x.natAbs ≤ 1000000000000) :
  Calls Tryz.prog 241 #[v] w (Gives w fun w' v => NIntV w' (w.heap.size ≤ ·) v (x.natAbs : Int)) := by
 have HS := Lib.hid (fun w' (hb : Below w.heap.size w w') => Sign_any (h.below hb) hl)
 obtain ⟨y, hy⟩ : ∃ y, y = -x := ⟨_, rfl⟩
 have hc := (fun w' (hb : Below w.heap.size w w') => wNeg_any (h.below hb) hl)
 rw [← hy] at hc
 have HN := Lib.hid hc
 have HY := Lib.hid hy
 clear hc hy
 have HM := Lib.hid (fun w' (hb : Below w.heap.size w w') => Normal_any (h.below hb) hl)
 obtain ⟨neg, A, n, c, l, rfl, h, hx⟩ := h
 have HX := Lib.hid hx
 clear hx hl
 obtain ⟨W, R, hW, hR, hbW, HR, c0, c1, hlt⟩ := boxes1 w (.bool neg) (.slice A n c)
 have HWW := Lib.hid hW
 have HRR := Lib.hid hR
 clear hW hR
 by_cases h0 : x < 0
 ·have hc : cmpI x 0 < 0 := by unfold cmpI; rw [if_pos h0]; omega
  have H0 := Lib.hid h0
  clear h0
  go_enter Tryz.func241, Tryz.ntmps241
  go_wp2_with (first
   | (go_at_call 242; rw [← HWW.out, ← HRR.out]; go_must (refine (HS.out _ hbW).mono ?_); rintro e w1 ⟨rfl, hb1⟩; obtain ⟨hr1, hh1⟩ := Held.call hb1 (Held.self HR.out))
   | (go_at_call 193; go_must (refine (HN.out _ (hh1.from hbW (by omega))).mono ?_); rintro e w2 ⟨v2, rfl, ⟨A2, c2, rfl, hwd2⟩, hb2⟩; have hl2 := hh1.lt; have hh := (Held.call hb2 hh1).2; obtain ⟨u0, u1, hr0, hr1, hf0, hf1⟩ := hh.cells))
  refine bodyPost_ret (v := .agg #[.bool _, .slice A2 _ c2]) (by simp [results, Tryz.results241, go_sem, hr0, hr1]; exact ⟨rfl, rfl⟩) rfl ⟨_, rfl, ?_, hh.put hbW (by omega) _ _⟩
  exact (nint_put (w := w) hl2 hwd2 (by omega) _ _).cast (by have := H0.out; have := HY.out; omega)
 ·have hc : 0 ≤ cmpI x 0 := by unfold cmpI; rw [if_neg h0]; split <;> omega
  have H0 := Lib.hid h0
  clear h0
  go_enter Tryz.func241, Tryz.ntmps241
  go_wp2_with (first
   | (go_at_call 242; rw [← HWW.out, ← HRR.out]; go_must (refine (HS.out _ hbW).mono ?_); rintro e w1 ⟨rfl, hb1⟩; obtain ⟨hr1, hh1⟩ := Held.call hb1 (Held.self HR.out))
   | (go_at_call 154; go_must (refine (HM.out _ (hh1.from hbW (by omega))).mono ?_); rintro e w2 ⟨v2, rfl, ⟨A2, c2, rfl, hwd2⟩, hb2⟩; have hl2 := hh1.lt; have hh := (Held.call hb2 hh1).2; obtain ⟨u0, u1, hr0, hr1, hf0, hf1⟩ := hh.cells))
  refine bodyPost_ret (v := .agg #[.bool _, .slice A2 _ c2]) (by simp [results, Tryz.results241, go_sem, hr0, hr1]; exact ⟨rfl, rfl⟩) rfl ⟨_, rfl, ?_, hh.put hbW (by omega) _ _⟩
  exact (nint_put (w := w) hl2 hwd2 (by omega) _ _).cast (by have := H0.out; omega)
end Go.Proofs.YtdjpeimecfhdjaaGreat

namespace Go.Proofs.YtdjpeimecfhdjaaGreat
open Go.RowKit
structure Hd (w : World) (D : Nat → Prop) (A : Option Addr) (n c : Nat) (l : List Nat) : Prop where
 len : l.length = n
 cap : n ≤ c
 room : c ≤ maxLen
 small : ∀ x ∈ l, x < 65536
 cells : 0 < n → ∃ b off, A = some ⟨b, off, none⟩ ∧ D b ∧ ∀ j, j < n → w.cell? ⟨b, off + j, none⟩ = some (.int .i64 (gw l j))
section
variable {w w' : World} {D D' : Nat → Prop} {A : Option Addr} {n c : Nat} {l : List Nat}
end
section
variable {w w' : World} {g : Nat} {l : List Nat}
end
end Go.Proofs.YtdjpeimecfhdjaaGreat
namespace Go.Proofs.YtdjpeimecfhdjaaGreat
open Go.RowKit
def IntB (w : World) (v : Value) (x : Int) : Prop :=
 ∃ neg A n c l, v = .agg #[.bool neg, .slice A n c] ∧ Wd w (fun _ => True) A n c l ∧ x = sg neg (val 4294967296 l) ∧ n ≤ 1000000000000
theorem IntB.below {w w' : World} {v : Value} {x : Int} (h : IntB w v x) (hb : Below w.heap.size w w') : IntB w' v x := by
 obtain ⟨neg, A, n, c, l, e, h, hx, hn⟩ := h
 exact ⟨neg, A, n, c, l, e, h.below hb, hx, hn⟩
end Go.Proofs.YtdjpeimecfhdjaaGreat
namespace Go.Proofs.YtdjpeimecfhdjaaGreat
open Go.RowKit
theorem Arr.grown {w w' : World} {g : Nat} {t : TypeId} {xs : List Value} {row : Option Nat} (h : Arr w g t xs) (hb : w.grownBy w' row) (hg : some g ≠ row) : Arr w' g t xs := (hb.block g h.lt hg).trans h
end Go.Proofs.YtdjpeimecfhdjaaGreat
namespace Go.Proofs.YtdjpeimecfhdjaaGreat
open Go.RowKit
end Go.Proofs.YtdjpeimecfhdjaaGreat
namespace Go.Proofs.YtdjpeimecfhdjaaGreat
open Go.RowKit
end Go.Proofs.YtdjpeimecfhdjaaGreat
namespace Go.Proofs.YtdjpeimecfhdjaaGreat
open Go.RowKit
end Go.Proofs.YtdjpeimecfhdjaaGreat
namespace Go.Proofs.YtdjpeimecfhdjaaGreat
open Go.RowKit
end Go.Proofs.YtdjpeimecfhdjaaGreat
namespace Go.Proofs.YtdjpeimecfhdjaaGreat
open Go.RowKit
end Go.Proofs.YtdjpeimecfhdjaaGreat
namespace Go.Proofs.YtdjpeimecfhdjaaGreat
open Go.RowKit
end Go.Proofs.YtdjpeimecfhdjaaGreat
