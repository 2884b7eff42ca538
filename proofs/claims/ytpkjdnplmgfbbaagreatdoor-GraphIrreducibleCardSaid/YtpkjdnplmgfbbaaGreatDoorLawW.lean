/- graph.Walks. The law GraphWalks: its walk. -/
import Derived.Test.YtpkjdnplmgfbbaaGreatDoorWku
import Derived.Test.YtpkjdnplmgfbbaaGreatDoorLawD
namespace Go.Proofs.YtpkjdnplmgfbbaaGreatDoor
open Go.RowKit

theorem has_is {w : World} {v : Value} {names : List ByteArray} {E : List (List Int)} (h : GrV w v names E) (x : Int) {b : Bool} (hb : hasB names.length x = b) :
    Calls Tryz.prog 62 #[v, .int .i64 x] w fun e w' => e = .returned (.bool b) ∧ Below w.heap.size w w' := by rw [← hb]; exact has_any h x

def WlkE (w : World) (q : Int) (e : Ending) (w' : World) : Prop := e = .returned (.tuple #[.slice none 0 0, .int .i64 q]) ∧ Below w.heap.size w w'
/-- The error of Walks on a graph without one. -/
def wlkC (n : Nat) (u m : Int) : Nat := if hasB n u = false then 6 else if m < 0 ∨ 100 < m then 2 else 0

def WlkR (w : World) (E : List (List Nat)) (u n : Nat) (e : Ending) (w' : World) : Prop := ∃ A, e = .returned (.tuple #[.slice A E.length E.length, .int .i64 0]) ∧ Pl NI w' (fun _ => True) A E.length E.length (lf (wn E u n) E.length) ∧ Below w.heap.size w w'

theorem sml_eq {names : List ByteArray} {E : List (List Int)} (h : chk names E ≠ 0) : sml names E = chk names E := by unfold sml; rw [if_pos h]
theorem sml_light {names : List ByteArray} {E : List (List Int)} (h : chk names E = 0) (hl : LightP names E) : sml names E = 0 := by
  unfold sml
  rw [if_neg (by simp [h]), if_neg]
  unfold chk at h
  split at h
  · cases h
  · split at h
    · cases h
    · have := hl.1; omega

/-- The integer 0 as it is built in place. -/
theorem zero_ni (w : World) : NIntV w (fun _ => True) (.agg #[.bool false, .slice none 0 0]) 0 := NIntV.zero _ _
theorem same_zero {w : World} : Calls Tryz.prog 16 #[.agg #[.bool false, .slice none 0 0], .agg #[.bool false, .slice none 0 0]] w (TrueR w) := by
  refine (SameInt_any (zero_ni w) (zero_ni w)).mono ?_
  rintro e w' ⟨rfl, hb⟩
  exact ⟨rfl, hb⟩
theorem same_int {w : World} {D D' : Nat → Prop} {v v' : Value} {x : Int} (h : NIntV w D v x) (h' : NIntV w D' v' x) : Calls Tryz.prog 16 #[v, v'] w (TrueR w) := by
  refine (SameInt_any h h').mono ?_
  rintro e w' ⟨rfl, hb⟩
  exact ⟨by simp, hb⟩

/-- A new block of two cells. -/
theorem ibox (w : World) (a b : Value) : ∃ W P, W = w.alloc (.cells #[a, b] 39) ∧ P = w.heap.size ∧ Below w.heap.size w W ∧ W.cell? ⟨P, 0, none⟩ = some a ∧ W.cell? ⟨P, 1, none⟩ = some b :=
  ⟨_, _, rfl, rfl, (Below.refl _ _).alloc (Nat.le_refl _) _, by go_simp, by go_simp⟩

theorem SameInts_same {w : World} {D D' : Nat → Prop} {A B : Option Addr} {n c n' c' : Nat} {l : List Int} (h : Pl NI w D A n c l) (h' : Pl NI w D' B n' c' l) : Calls Tryz.prog 15 #[.slice A n c, .slice B n' c'] w (TrueR w) := by
  refine (SameInts_any h h').mono ?_
  rintro e w' ⟨rfl, hb⟩
  exact ⟨by simp, hb⟩
theorem NIntV.shape {w : World} {D : Nat → Prop} {v : Value} {x : Int} (h : NIntV w D v x) : ∃ neg A m c, v = .agg #[.bool neg, .slice A m c] ∧ NIntV w (fun _ => True) (.agg #[.bool neg, .slice A m c]) x := by
  obtain ⟨A, c, rfl, h1⟩ := h
  exact ⟨_, A, _, c, rfl, A, c, rfl, h1.mono fun _ _ _ => trivial⟩

end Go.Proofs.YtpkjdnplmgfbbaaGreatDoor
