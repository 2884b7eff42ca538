/- slices.IndexFunc of a list of ints, with whatever function that only makes new memory. -/
import Derived.Test.YtpkjdnplmgfbbaaDoorRdm2
namespace Go.Proofs.YtpkjdnplmgfbbaaDoor
open Go.RowKit

/-- Whatever lies in w: the function answers p at each of l. -/
def Asks (w : World) (f : FuncId) (lb : Array Value) (l : List Int) (p : Int → Bool) : Prop :=
  ∀ x, x ∈ l → ∀ W, Below w.heap.size w W → Calls Tryd.prog f (#[.int .i64 x] ++ lb) W fun e W' => e = .returned (.bool (p x)) ∧ Below W.heap.size W W'
def IdxR (w : World) (l : List Int) (p : Int → Bool) (e : Ending) (w' : World) : Prop :=
  ((∃ (i : Nat) (y : Int), l[i]? = some y ∧ l.find? p = some y ∧ e = .returned (.int .i64 (i : Nat))) ∨ (l.find? p = none ∧ e = .returned (.int .i64 (-1)))) ∧ Below w.heap.size w w'

theorem find_at {l : List Int} {p : Int → Bool} {k : Nat} {x : Int} (hn : ∀ y ∈ l.take k, p y = false) (hx : l[k]? = some x) (hp : p x = true) : l.find? p = some x := by
  have e : l = l.take k ++ x :: l.drop (k + 1) := by
    have hk := lt_of_some hx
    rw [List.getElem?_eq_getElem hk] at hx
    injection hx with hx
    rw [← hx, ← List.drop_eq_getElem_cons hk, List.take_append_drop]
  rw [e, List.find?_append, List.find?_eq_none.2 (fun y hy => by rw [hn y hy]; simp)]
  simp [hp]
theorem none_take {l : List Int} {p : Int → Bool} {k : Nat} {x : Int} (hn : ∀ y ∈ l.take k, p y = false) (hx : l[k]? = some x) (hp : p x = false) : ∀ y ∈ l.take (k + 1), p y = false := by
  rw [List.take_add_one, hx]
  intro y hy
  rcases List.mem_append.1 hy with h | h
  · exact hn y h
  · have : y = x := by simpa using h
    subst this; exact hp

set_option maxHeartbeats 1000000 in
theorem IndexFunc_any {w : World} {A : Option Addr} {n c : Nat} {l : List Int} (h : Il w A n c l) {f : FuncId} {lb : Array Value} {p : Int → Bool} (hf : Asks w f lb l p)
    (eg : ∀ args w, (callFunc f args).run Tryd.prog w = .ok (.enter f args) w) :
    Calls Tryd.prog 67 #[.slice A n c, .func (.func f) #[] lb] w (IdxR w l p) := by
  have hl := h.len
  have hr := h.room
  unfold maxLen at hr
  have HL := Lib.hid hl
  have HF := Lib.hid hf
  have EG := Lib.hid eg
  clear hl hf eg
  go_enter Tryd.func67, Tryd.ntmps67
  go_wp2_with fail
  go_loopw [8] (fun i wr => ∃ (k : Nat), k ≤ n ∧ i = .int .i64 (k : Nat) ∧ (∀ y ∈ l.take k, p y = false) ∧ Below w.heap.size w wr) (fun i _ => n - (intOf i).toNat)
  case atStart => exact ⟨0, Nat.zero_le _, rfl, fun y hy => by simp at hy, Below.refl _ _⟩
  case round =>
    obtain ⟨k, hk, rfl, hn, hbr⟩ := hrel
    have HN := Lib.hid hn
    clear hn
    by_cases hlt : k < n
    · obtain ⟨b, off, rfl, hc⟩ := (h.below hbr).cell (by omega)
      obtain ⟨x, hx⟩ : ∃ x, l[k]? = some x := ⟨_, List.getElem?_eq_getElem (by rw [HL.out]; exact hlt)⟩
      have cx := hc k x hx
      have HX := Lib.hid hx
      clear hc hx
      have eg := EG.out
      go_wp2_with fail
      refine (HF.out x (List.mem_of_getElem? HX.out) _ hbr).mono ?_
      rintro e w1 ⟨rfl, hb1⟩
      clear eg
      have hb2 := hbr.trans (hb1.mono hbr.size)
      cases hp : p x
      · have HP := Lib.hid hp
        clear hp
        go_wp2_with fail
        go_roundw
        case rel => exact ⟨k + 1, by omega, by go_num, none_take HN.out HX.out HP.out, hb2⟩
        case measure => simp [intOf]; omega
      · have HP := Lib.hid hp
        clear hp
        go_wp2_with fail
        go_ret
        exact ⟨.inl ⟨k, x, HX.out, find_at HN.out HX.out HP.out, rfl⟩, hb2⟩
    · go_wp2_with fail
      go_ret
      refine ⟨.inr ⟨List.find?_eq_none.2 fun y hy => ?_, rfl⟩, hbr⟩
      have := HN.out y (by rw [List.take_of_length_le (by rw [HL.out]; omega)]; exact hy)
      rw [this]; simp
end Go.Proofs.YtpkjdnplmgfbbaaDoor
