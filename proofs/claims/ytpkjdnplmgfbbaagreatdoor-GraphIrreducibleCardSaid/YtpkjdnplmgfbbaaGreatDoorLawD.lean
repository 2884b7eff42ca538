/- The law GraphDistances: its walk. -/
import Derived.Test.YtpkjdnplmgfbbaaGreatDoorG10
namespace Go.Proofs.YtpkjdnplmgfbbaaGreatDoor
open Go.RowKit

def TrueR (w : World) (e : Ending) (w' : World) : Prop := e = .returned (.bool true) ∧ Below w.heap.size w w'

theorem rHas_is {w : World} {v : Value} {names : List ByteArray} {E : List (List Int)} (h : GrV w v names E) (x : Int) {b : Bool} (hb : hasB names.length x = b) :
    Calls Tryz.prog 33 #[v, .int .i64 x] w fun e w' => e = .returned (.bool b) ∧ Below w.heap.size w w' := by rw [← hb]; exact rHas_any h x

theorem DistsAt.il {w w' : World} {E : List (List Nat)} {a : Nat} {v : Value} (h : DistsAt w E a w' v) (hE : Valid E) (ha : a < E.length) (hn : E.length ≤ 2500) : ∃ A, v = .slice A E.length E.length ∧ Il w' A E.length E.length (dd E a) := by
  obtain ⟨G, _, rfl, h3⟩ := h
  have hl := (dd_is hE ha).1
  have := h3.il (fun x hx => by have := dd_small hE ha hx; omega) (by rw [hl]; unfold maxLen; omega)
  rw [hl] at this
  exact ⟨_, rfl, this⟩
theorem Ints_same {w : World} {A B : Option Addr} {n c n' c' : Nat} {l : List Int} (h : Il w A n c l) (h' : Il w B n' c' l) : Calls Tryz.prog 26 #[.slice A n c, .slice B n' c'] w (TrueR w) := by
  refine (Ints_any h h').mono ?_
  rintro e w' ⟨rfl, hb⟩
  exact ⟨by simp, hb⟩

theorem dia_small {E : List (List Nat)} (hE : Valid E) (hn : E.length ≤ 2500) : 0 ≤ (dia E).1 ∧ (dia E).1 ≤ 2500 ∧ 0 ≤ (dia E).2 ∧ (dia E).2 ≤ 12 := by
  unfold dia
  split
  · simp
  · split
    · have := dm_small hE E.length (Nat.le_refl _); simp; omega
    · simp

/-- The boxed graph, through a call that only makes new memory. -/
theorem keep2 {w w' : World} {G : Nat} {a b : Value} (hb : Below w.heap.size w w') (h0 : w.cell? ⟨G, 0, none⟩ = some a) (h1 : w.cell? ⟨G, 1, none⟩ = some b) : w'.cell? ⟨G, 0, none⟩ = some a ∧ w'.cell? ⟨G, 1, none⟩ = some b :=
  ⟨(hb.cell (p := ⟨G, 0, none⟩) (cell_some_lt h0)).trans h0, (hb.cell (p := ⟨G, 1, none⟩) (cell_some_lt h1)).trans h1⟩

end Go.Proofs.YtpkjdnplmgfbbaaGreatDoor
