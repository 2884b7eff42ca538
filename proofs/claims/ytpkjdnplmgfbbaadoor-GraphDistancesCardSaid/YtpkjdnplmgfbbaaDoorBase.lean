/- Words for memory: a slice that reads as a list of cells, contracts that only make new memory. -/
import Derived.Test.YtpkjdnplmgfbbaaDoorProg
import Derived.WalkKit
import Derived.WalkSpells
import Derived.WalkLawsBesides
import Derived.Lib.Hide
import Derived.Deep.QuietTactic
import Derived.BigQuiet
import Derived.Deep.RegionHeld3
import Derived.Deep.AppendLies
import Derived.Deep.DeepCutAuto
import Derived.Maps.AppendAt
import Derived.KernelRfl
namespace Go.Proofs.YtpkjdnplmgfbbaaDoor
open Go.RowKit

theorem block_of_add (a : Addr) (n : Nat) : (a.add n).block = a.block := by unfold Addr.add; split <;> rfl
theorem add_of_add (a : Addr) (i j : Nat) : (a.add i).add j = a.add (i + j) := by
  unfold Addr.add
  by_cases hi : i = 0 <;> by_cases hj : j = 0 <;> simp [hi, hj, Nat.add_assoc]

/-- What a contract of a function that only makes new memory says. -/
def Gives (w : World) (R : World → Value → Prop) (e : Ending) (w' : World) : Prop := ∃ v, e = .returned v ∧ R w' v ∧ Below w.heap.size w w'

theorem bcell {W w1 : World} (hb : Below W.heap.size W w1) : (∀ b o, b < W.heap.size → w1.cell? ⟨b, o, none⟩ = W.cell? ⟨b, o, none⟩) ∧ (∀ b o, b < W.heap.size → w1.frozen? ⟨b, o, none⟩ = W.frozen? ⟨b, o, none⟩) :=
  ⟨fun b o h => hb.cell (p := ⟨b, o, none⟩) h, fun b o h => hb.frozen (p := ⟨b, o, none⟩) h⟩

/-- Block g is an array of the call's own: its cells are xs, none frozen. -/
def Arr (w : World) (g : Nat) (t : TypeId) (xs : List Value) : Prop := w.heap[g]? = some (.cells xs.toArray t (0, 0))

section
variable {w w' : World} {g : Nat} {t : TypeId} {xs : List Value}
theorem Arr.lt (h : Arr w g t xs) : g < w.heap.size := by
  rcases Nat.lt_or_ge g w.heap.size with hlt | hge
  · exact hlt
  · unfold Arr at h; rw [Array.getElem?_eq_none hge] at h; cases h
theorem Arr.cell (h : Arr w g t xs) (i : Nat) : w.cell? ⟨g, i, none⟩ = xs[i]? := by
  rw [cell_of_row w g i _ t (0, 0) h]; simp
theorem Arr.frozen (h : Arr w g t xs) (i : Nat) : w.frozen? ⟨g, i, none⟩ = false := by
  unfold Arr at h
  simp [World.frozen?, h]
theorem Arr.drew (h : Arr w g t xs) : Arr w.drew g t xs := h
theorem Arr.drewN (h : Arr w g t xs) (n : Nat) : Arr (w.drewN n) g t xs := h
theorem Arr.alloc (h : Arr w g t xs) (o : Obj) : Arr (w.alloc o) g t xs := (Below.heap_alloc w o g h.lt).trans h
theorem Arr.new (w : World) (t : TypeId) (xs : List Value) : Arr (w.alloc (.cells xs.toArray t)) w.heap.size t xs := heap_alloc_new w _
theorem Arr.set_ (h : Arr w g t xs) (i : Nat) (u : Value) : Arr (w.setCell ⟨g, i, none⟩ u) g t (xs.set i u) := by
  unfold Arr at h ⊢
  simp [World.setCell, Array.getElem?_modify, h]
theorem Arr.far (h : Arr w g t xs) {p : Addr} (hp : g ≠ p.block) (u : Value) : Arr (w.setCell p u) g t xs := (Below.heap_setCell w p u g hp).trans h
theorem Arr.below {B : Nat} (h : Arr w g t xs) (hb : Below B w w') (hg : g < B) : Arr w' g t xs := (hb.block g hg).trans h
theorem Arr.below' (h : Arr w g t xs) (hb : Below w.heap.size w w') : Arr w' g t xs := (hb.block g h.lt).trans h
end

theorem below_drewN' {B : Nat} {a w : World} (h : Below B a w) (n : Nat) : Below B a (w.drewN n) := ⟨h.os, h.tape, h.output, h.size, h.block⟩

theorem quiet_left {P : Program} {f : FuncId} {args : Array Value} {w : World} {n : Nat} {v : Value}
    (h : Calls P f args (w.drewN n) fun e w' => e = .returned v ∧ w.drewN n = w') : Calls P f args (w.drewN n) fun e w'' => e = .returned v ∧ ∃ m, w'' = w.drewN m :=
  h.mono fun _ _ ⟨he, hm⟩ => ⟨he, n, hm.symm⟩
theorem quiet_add_left {P : Program} {f : FuncId} {args : Array Value} {w : World} {a n : Nat} {v : Value}
    (h : Calls P f args (w.drewN (a + n)) fun e w' => e = .returned v ∧ w.drewN (a + n) = w') :
    Calls P f args (w.drewN (a + n)) fun e w'' => e = .returned v ∧ ∃ m, w'' = w.drewN (a + m) :=
  h.mono fun _ _ ⟨he, hm⟩ => ⟨he, n, hm.symm⟩

/-- make([]T, n): a new array of n elements that are the zero value. -/
theorem wpList_make_arr {P : Program} (w : World) {ops : Array Oper} {rest : List Oper} {o : Oper} {a : Act} {Q : Exit → Act → World → Prop}
    (hg : o.guard = none) (l c : Operand) (t : TypeId) (hop : o.op = Op.makeSlice t l c)
    (e : TypeId) (z : Value) (size bytes : Nat) (h1 : P.underlying t = some (.slice e)) (h2 : (P.info? e).map (fun i => (i.zero, i.size, i.bytes)) = some (some z, size, bytes))
    (kl kc : IntKind) (L C : Int) (n : Nat) (hl : a.eval l = .int kl L) (hc : a.eval c = .int kc C) (hL : L = (n : Int)) (hC : C = (n : Int)) (b2 : bytes * n ≤ 281474976710656) (b3 : n ≤ 9223372036854775807)
    (hK : ∀ w', Arr w' w.heap.size e (madeCells z.cells (n * size)).toList → Below w.heap.size w w' → w'.heap.size = w.heap.size + 1 → wpList P ops Q rest (a.put o.dst (.slice (some ⟨w.heap.size, 0, none⟩) n n)) w') :
    wpList P ops Q (o :: rest) a w := by
  refine wpList_plain hg fun K hK' => ?_
  obtain ⟨i, hi, hz, hs, hby⟩ := info_parts h2
  subst hs hby hL hC
  have hb : (i.bytes : Int) * (n : Int) ≤ 281474976710656 := by
    have h : ((i.bytes * n : Nat) : Int) ≤ 281474976710656 := by omega
    rwa [Int.natCast_mul] at h
  have hrun := run_make (P := P) w t e i z h1 hi hz kl kc n n (by omega) (by omega) hb (by omega)
  simp only [Int.toNat_natCast] at hrun
  unfold Oper.wp
  simp [execOp, hop, hl, hc, hrun, Result.andThen]
  refine hK' _ _ (hK _ ?_ ((Below.refl _ _).alloc (Nat.le_refl _) _) (by simp))
  have := Arr.new w e (madeCells z.cells (n * i.size)).toList
  simpa using this

theorem cell_lt {w : World} {b o : Nat} {v : Value} (h : w.cell? ⟨b, o, none⟩ = some v) : b < w.heap.size := World.block_lt_of_cell? w _ h

end Go.Proofs.YtpkjdnplmgfbbaaDoor
