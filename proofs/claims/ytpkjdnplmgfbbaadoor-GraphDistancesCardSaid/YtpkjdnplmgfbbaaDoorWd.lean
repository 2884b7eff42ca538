/- Slices of machine words that read as lists of numbers; package integer's functions on words. -/
import Derived.Test.YtpkjdnplmgfbbaaDoorNum
namespace Go.Proofs.YtpkjdnplmgfbbaaDoor
open Go.RowKit

/-- The slice value with address A, length n and capacity c holds the 32-bit words l, in a block of D. -/
structure Wd (w : World) (D : Nat → Prop) (A : Option Addr) (n c : Nat) (l : List Nat) : Prop where
  len : l.length = n
  cap : n ≤ c
  room : c ≤ maxLen
  small : ∀ x ∈ l, x < 4294967296
  cells : 0 < n → ∃ b off, A = some ⟨b, off, none⟩ ∧ D b ∧ ∀ j, j < n → w.cell? ⟨b, off + j, none⟩ = some (.int .u32 (gw l j))

section
variable {w w' : World} {D D' : Nat → Prop} {A : Option Addr} {n c : Nat} {l : List Nat}
theorem Wd.mono (h : Wd w D A n c l) (hd : ∀ b, D b → b < w.heap.size → D' b) : Wd w D' A n c l :=
  ⟨h.len, h.cap, h.room, h.small, fun hn => by
    obtain ⟨b, off, e, hb, hc⟩ := h.cells hn
    exact ⟨b, off, e, hd b hb (cell_lt (hc 0 hn)), hc⟩⟩
/-- What keeps the blocks of D keeps the words. -/
theorem Wd.keep (h : Wd w D A n c l) (hk : ∀ b o, D b → b < w.heap.size → w'.cell? ⟨b, o, none⟩ = w.cell? ⟨b, o, none⟩) : Wd w' D A n c l :=
  ⟨h.len, h.cap, h.room, h.small, fun hn => by
    obtain ⟨b, off, e, hb, hc⟩ := h.cells hn
    have hlt := cell_lt (hc 0 hn)
    exact ⟨b, off, e, hb, fun j hj => (hk b _ hb hlt).trans (hc j hj)⟩⟩
theorem Wd.below (h : Wd w D A n c l) (hb : Below w.heap.size w w') : Wd w' D A n c l := h.keep fun _ _ _ hl => (bcell hb).1 _ _ hl
theorem Wd.alloc (h : Wd w D A n c l) (o : Obj) : Wd (w.alloc o) D A n c l := h.below ((Below.refl _ _).alloc (Nat.le_refl _) o)
theorem Wd.drewN (h : Wd w D A n c l) (m : Nat) : Wd (w.drewN m) D A n c l := h.keep fun _ _ _ _ => rfl
theorem Wd.drew (h : Wd w D A n c l) : Wd w.drew D A n c l := h.keep fun _ _ _ _ => rfl
theorem Wd.setCell (h : Wd w D A n c l) {p : Addr} (hp : ¬ D p.block) (u : Value) : Wd (w.setCell p u) D A n c l :=
  h.keep fun b o hd _ => World.cell?_setCell_other w p ⟨b, o, none⟩ u (fun e => hp (by subst e; exact hd))
theorem Wd.nil (c : Nat) (hc : c ≤ maxLen) : Wd w D A 0 c [] := ⟨rfl, Nat.zero_le _, hc, fun _ h => (by cases h), fun h => absurd h (by omega)⟩
theorem Wd.take (h : Wd w D A n c l) {k : Nat} (hk : k ≤ n) : Wd w D A k k (l.take k) :=
  ⟨by rw [List.length_take, h.len]; omega, Nat.le_refl _, by have := h.room; have := h.cap; omega, fun x hx => h.small x (List.mem_of_mem_take hx), fun hn => by
    obtain ⟨b, off, e, hb, hc⟩ := h.cells (by omega)
    exact ⟨b, off, e, hb, fun j hj => by rw [hc j (by omega), gw_take hj]⟩⟩
theorem Wd.trim (h : Wd w D A n c l) : Wd w D A (trim l).length (trim l).length (trim l) := by
  have h1 := h.take (k := (Go.Proofs.YtpkjdnplmgfbbaaDoor.trim l).length) (by rw [← h.len]; exact trim_length_le l)
  rwa [← trim_eq_take] at h1
end

/-- trimmed: words without zeros at the end, in the same memory. -/
theorem trimmed_any {D : Nat → Prop} {A : Option Addr} {n c : Nat} {l : List Nat} {w : World} (h : Wd w D A n c l) :
    Calls Tryd.prog 120 #[.slice A n c] w fun e w' => e = .returned (.slice A (trim l).length (trim l).length) ∧ w = w' := by
  have hm := h.room
  have hc := h.cap
  unfold maxLen at hm
  go_enter Tryd.func120, Tryd.ntmps120
  go_wp2
  go_loop [3] (fun i => ∃ k : Nat, k ≤ n ∧ i = .int .i64 k ∧ trim l = trim (l.take k)) (fun i => (intOf i).toNat)
  case atStart => exact ⟨n, Nat.le_refl _, rfl, by rw [List.take_of_length_le (by rw [h.len]; exact Nat.le_refl _)]⟩
  case round =>
    obtain ⟨k, hk, rfl, ht⟩ := hrel
    have HT := Lib.hid ht; clear ht
    rcases Nat.eq_zero_or_pos k with h0 | h0
    · subst h0
      go_wp2
      go_ret
      have e := HT.out
      simp only [List.take_zero] at e
      simp [e, trim]
    · obtain ⟨j, rfl⟩ : ∃ j, k = j + 1 := ⟨k - 1, by omega⟩
      obtain ⟨b, off, rfl, hb, hcell⟩ := h.cells (by omega)
      have h1 := hcell j (by omega)
      clear hcell
      have hl : j < l.length := by rw [h.len]; omega
      by_cases hz : gw l j = 0
      · have hz' : ((gw l j : Int) == 0) = true := by simp [hz]
        have HZ := Lib.hid hz; clear hz
        go_wp2
        go_round
        case rel => exact ⟨j, by omega, rfl, by rw [HT.out, trim_take_zero hl HZ.out]⟩
        case measure => simp [intOf]
      · have hz' : ((gw l j : Int) == 0) = false := by simpa using hz
        have HZ := Lib.hid hz; clear hz
        go_wp2
        go_ret
        have e := HT.out
        rw [trim_take_ne hl HZ.out] at e
        have e2 : (trim l).length = j + 1 := by rw [e, List.length_take]; omega
        simp [e2]

/-- A slice value that holds words. -/
def WdV (w : World) (D : Nat → Prop) (v : Value) (l : List Nat) : Prop := ∃ A c, v = .slice A l.length c ∧ Wd w D A l.length c l

theorem Wd.v {w : World} {D : Nat → Prop} {A : Option Addr} {n c : Nat} {l : List Nat} (h : Wd w D A n c l) : WdV w D (.slice A n c) l := by
  have := h.len
  subst this
  exact ⟨A, c, rfl, h⟩

/-- An array of words. -/
def WArr (w : World) (g : Nat) (l : List Nat) : Prop := Arr w g 93 (l.map fun x : Nat => Value.int .u32 (x : Int))
section
variable {w w' : World} {g : Nat} {l : List Nat}
theorem WArr.cell (h : WArr w g l) {i : Nat} (hi : i < l.length) : w.cell? ⟨g, i, none⟩ = some (.int .u32 (gw l i)) := by
  rw [Arr.cell h, List.getElem?_map, gw_lt hi]; rfl
theorem WArr.frozen (h : WArr w g l) (i : Nat) : w.frozen? ⟨g, i, none⟩ = false := Arr.frozen h i
theorem WArr.set_ (h : WArr w g l) (i x : Nat) : WArr (w.setCell ⟨g, i, none⟩ (.int .u32 (x : Int))) g (l.set i x) := by
  have := Arr.set_ h i (.int .u32 (x : Int))
  unfold WArr
  rwa [List.map_set]
theorem WArr.wd (h : WArr w g l) (hs : ∀ x ∈ l, x < 4294967296) (hm : l.length ≤ maxLen) {D : Nat → Prop} (hd : D g) : Wd w D (some ⟨g, 0, none⟩) l.length l.length l :=
  ⟨rfl, Nat.le_refl _, hm, hs, fun _ => ⟨g, 0, rfl, hd, fun j hj => by rw [Nat.zero_add]; exact h.cell hj⟩⟩
theorem WArr.made {n : Nat} (h : Arr w g 93 (madeCells (Value.int .u32 0).cells (n * 1)).toList) : WArr w g (List.replicate n 0) := by
  unfold WArr
  rw [List.map_replicate]
  have e := toList_madeCells_one (.int .u32 0) n
  rw [Nat.mul_one] at h
  rw [show (Value.int .u32 0).cells = #[Value.int .u32 0] from rfl, e] at h
  exact h
end

theorem info_u32 : (Tryd.prog.info? 93).map (fun i => (i.zero, i.size, i.bytes)) = some (some (.int .u32 0), 1, 4) := by kernel_rfl

/-- words.at: a word, 0 behind the end. -/
theorem at_any {D : Nat → Prop} {A : Option Addr} {n c : Nat} {l : List Nat} {w : World} (h : Wd w D A n c l) (i : Int) (h0 : 0 ≤ i) :
    Calls Tryd.prog 131 #[.slice A n c, .int .i64 i] w fun e w' => e = .returned (.int .u64 (gw l i.toNat)) ∧ w = w' := by
  obtain ⟨j, rfl⟩ := Int.eq_ofNat_of_zero_le h0
  rw [Int.toNat_natCast]
  have hl := h.len
  rcases Nat.lt_or_ge j n with hj | hj
  · obtain ⟨b, off, rfl, hb, hcell⟩ := h.cells (by omega)
    have h1 := hcell j hj
    have h2 := gw_bound h.small (by omega) j
    clear hcell
    go_enter Tryd.func131, Tryd.ntmps131
    go_wp2
    go_ret
    simp
  · have hz := gw_ge (l := l) (j := j) (by omega)
    rw [hz]
    clear hz hl
    go_enter Tryd.func131, Tryd.ntmps131
    go_wp2
    go_ret
    simp

end Go.Proofs.YtpkjdnplmgfbbaaDoor
