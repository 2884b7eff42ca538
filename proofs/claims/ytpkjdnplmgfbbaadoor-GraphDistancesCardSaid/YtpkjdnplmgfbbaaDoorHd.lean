/- Slices of ints that hold half words (the references' digits). -/
import Derived.Test.YtpkjdnplmgfbbaaDoorInt4
namespace Go.Proofs.YtpkjdnplmgfbbaaDoor
open Go.RowKit

/-- The slice value with address A, length n and capacity c holds the half words l, in a block of D. -/
structure Hd (w : World) (D : Nat → Prop) (A : Option Addr) (n c : Nat) (l : List Nat) : Prop where
  len : l.length = n
  cap : n ≤ c
  room : c ≤ maxLen
  small : ∀ x ∈ l, x < 65536
  cells : 0 < n → ∃ b off, A = some ⟨b, off, none⟩ ∧ D b ∧ ∀ j, j < n → w.cell? ⟨b, off + j, none⟩ = some (.int .i64 (gw l j))

section
variable {w w' : World} {D D' : Nat → Prop} {A : Option Addr} {n c : Nat} {l : List Nat}
theorem Hd.mono (h : Hd w D A n c l) (hd : ∀ b, D b → b < w.heap.size → D' b) : Hd w D' A n c l :=
  ⟨h.len, h.cap, h.room, h.small, fun hn => by
    obtain ⟨b, off, e, hb, hc⟩ := h.cells hn
    exact ⟨b, off, e, hd b hb (cell_lt (hc 0 hn)), hc⟩⟩
/-- What keeps the blocks of D keeps the words. -/
theorem Hd.keep (h : Hd w D A n c l) (hk : ∀ b o, D b → b < w.heap.size → w'.cell? ⟨b, o, none⟩ = w.cell? ⟨b, o, none⟩) : Hd w' D A n c l :=
  ⟨h.len, h.cap, h.room, h.small, fun hn => by
    obtain ⟨b, off, e, hb, hc⟩ := h.cells hn
    have hlt := cell_lt (hc 0 hn)
    exact ⟨b, off, e, hb, fun j hj => (hk b _ hb hlt).trans (hc j hj)⟩⟩
theorem Hd.below (h : Hd w D A n c l) (hb : Below w.heap.size w w') : Hd w' D A n c l := h.keep fun _ _ _ hl => (bcell hb).1 _ _ hl
theorem Hd.alloc (h : Hd w D A n c l) (o : Obj) : Hd (w.alloc o) D A n c l := h.below ((Below.refl _ _).alloc (Nat.le_refl _) o)
theorem Hd.drewN (h : Hd w D A n c l) (m : Nat) : Hd (w.drewN m) D A n c l := h.keep fun _ _ _ _ => rfl
theorem Hd.drew (h : Hd w D A n c l) : Hd w.drew D A n c l := h.keep fun _ _ _ _ => rfl
theorem Hd.setCell (h : Hd w D A n c l) {p : Addr} (hp : ¬ D p.block) (u : Value) : Hd (w.setCell p u) D A n c l :=
  h.keep fun b o hd _ => World.cell?_setCell_other w p ⟨b, o, none⟩ u (fun e => hp (by subst e; exact hd))
theorem Hd.nil (c : Nat) (hc : c ≤ maxLen) : Hd w D A 0 c [] := ⟨rfl, Nat.zero_le _, hc, fun _ h => (by cases h), fun h => absurd h (by omega)⟩
theorem Hd.take (h : Hd w D A n c l) {k : Nat} (hk : k ≤ n) : Hd w D A k k (l.take k) :=
  ⟨by rw [List.length_take, h.len]; omega, Nat.le_refl _, by have := h.room; have := h.cap; omega, fun x hx => h.small x (List.mem_of_mem_take hx), fun hn => by
    obtain ⟨b, off, e, hb, hc⟩ := h.cells (by omega)
    exact ⟨b, off, e, hb, fun j hj => by rw [hc j (by omega), gw_take hj]⟩⟩
theorem Hd.trim (h : Hd w D A n c l) : Hd w D A (trim l).length (trim l).length (trim l) := by
  have h1 := h.take (k := (Go.Proofs.YtpkjdnplmgfbbaaDoor.trim l).length) (by rw [← h.len]; exact trim_length_le l)
  rwa [← trim_eq_take] at h1
end

/-- A slice value that holds words. -/
def HdV (w : World) (D : Nat → Prop) (v : Value) (l : List Nat) : Prop := ∃ A c, v = .slice A l.length c ∧ Hd w D A l.length c l

theorem Hd.v {w : World} {D : Nat → Prop} {A : Option Addr} {n c : Nat} {l : List Nat} (h : Hd w D A n c l) : HdV w D (.slice A n c) l := by
  have := h.len
  subst this
  exact ⟨A, c, rfl, h⟩

/-- An array of words. -/
def HArr (w : World) (g : Nat) (l : List Nat) : Prop := Arr w g 3 (l.map fun x : Nat => Value.int .i64 (x : Int))
section
variable {w w' : World} {g : Nat} {l : List Nat}
theorem HArr.cell (h : HArr w g l) {i : Nat} (hi : i < l.length) : w.cell? ⟨g, i, none⟩ = some (.int .i64 (gw l i)) := by
  rw [Arr.cell h, List.getElem?_map, gw_lt hi]; rfl
theorem HArr.frozen (h : HArr w g l) (i : Nat) : w.frozen? ⟨g, i, none⟩ = false := Arr.frozen h i
theorem HArr.set_ (h : HArr w g l) (i x : Nat) : HArr (w.setCell ⟨g, i, none⟩ (.int .i64 (x : Int))) g (l.set i x) := by
  have := Arr.set_ h i (.int .i64 (x : Int))
  unfold HArr
  rwa [List.map_set]
theorem HArr.wd (h : HArr w g l) (hs : ∀ x ∈ l, x < 65536) (hm : l.length ≤ maxLen) {D : Nat → Prop} (hd : D g) : Hd w D (some ⟨g, 0, none⟩) l.length l.length l :=
  ⟨rfl, Nat.le_refl _, hm, hs, fun _ => ⟨g, 0, rfl, hd, fun j hj => by rw [Nat.zero_add]; exact h.cell hj⟩⟩
theorem HArr.made {n : Nat} (h : Arr w g 3 (madeCells (Value.int .i64 0).cells (n * 1)).toList) : HArr w g (List.replicate n 0) := by
  unfold HArr
  rw [List.map_replicate]
  have e := toList_madeCells_one (.int .i64 0) n
  rw [Nat.mul_one] at h
  rw [show (Value.int .i64 0).cells = #[Value.int .i64 0] from rfl, e] at h
  exact h
end

theorem info_int : (Tryd.prog.info? 3).map (fun i => (i.zero, i.size, i.bytes)) = some (some (.int .i64 0), 1, 8) := by kernel_rfl

theorem Hd.src {w : World} {D : Nat → Prop} {A : Option Addr} {n c : Nat} {l : List Nat} (h : Hd w D A n c l) : Src w 1 A n (l.map fun x : Nat => Value.int .i64 (x : Int)) := by
  refine ⟨by rw [List.length_map, h.len, Nat.mul_one], fun hn => ?_⟩
  obtain ⟨b, off, rfl, _, hc⟩ := h.cells hn
  refine ⟨_, rfl, fun j u hu => ?_⟩
  rw [List.getElem?_map] at hu
  rcases Nat.lt_or_ge j l.length with hj | hj
  · rw [gw_lt hj] at hu
    simp only [Option.map_some, Option.some.injEq] at hu
    subst hu
    have := hc j (by rw [← h.len]; exact hj)
    unfold Addr.add
    split
    · rename_i h0; subst h0; exact this
    · exact this
  · rw [List.getElem?_eq_none hj] at hu
    cases hu
theorem halves_oneCell (l : List Nat) : ∀ u ∈ l.map (fun x : Nat => Value.int .i64 (x : Int)), u.oneCell' = true := by
  intro u hu
  obtain ⟨x, _, rfl⟩ := List.mem_map.1 hu
  rfl
theorem hd_of_own {w : World} {base n : Nat} {v : Value} {l : List Nat} (h : w.ownsRow base 3 1 v n (l.map fun x : Nat => Value.int .i64 (x : Int))) (hs : ∀ x ∈ l, x < 65536) :
    ∃ A c, v = .slice A n c ∧ Hd w (base ≤ ·) A n c l := by
  have hl : l.length = n := by have := h.1; rw [List.length_map, Nat.mul_one] at this; exact this
  obtain ⟨A, c, rfl, hc, hm⟩ := own_slice h
  refine ⟨A, c, rfl, hl, hc, hm, hs, fun hn => ?_⟩
  obtain ⟨g, cap, hv, hb, _, _, _, hcell⟩ := own_cells h hn
  injection hv with hA
  subst hA
  exact ⟨g, 0, rfl, hb, fun j hj => by rw [Nat.zero_add]; exact hcell j _ (by rw [List.getElem?_map, gw_lt (by omega)]; rfl)⟩
/-- A slice that is cut keeps its capacity. -/
theorem Hd.cut {w : World} {D : Nat → Prop} {A : Option Addr} {n c : Nat} {l : List Nat} (h : Hd w D A n c l) {k : Nat} (hk : k ≤ n) : Hd w D A k c (l.take k) :=
  ⟨by rw [List.length_take, h.len]; omega, by have := h.cap; omega, h.room, fun x hx => h.small x (List.mem_of_mem_take hx), fun hn => by
    obtain ⟨b, off, e, hb, hc⟩ := h.cells (by omega)
    exact ⟨b, off, e, hb, fun j hj => by rw [hc j (by omega), gw_take hj]⟩⟩

set_option maxHeartbeats 400000 in
/-- trim: digits without zeros at the end, in new memory. -/
theorem rtrim_any {D : Nat → Prop} {A : Option Addr} {n c : Nat} {l : List Nat} {w : World} (h : Hd w D A n c l) (hn : n ≤ 10000000000000) :
    Calls Tryd.prog 122 #[.slice A n c] w (Gives w fun w' v => HdV w' (w.heap.size ≤ ·) v (trim l)) := by
  have hc := h.cap
  have hroom := h.room
  unfold maxLen at hroom
  go_enter Tryd.func122, Tryd.ntmps122
  go_wp2
  go_loop [3] (fun i => ∃ k : Nat, k ≤ n ∧ i = .int .i64 k ∧ trim l = trim (l.take k)) (fun i => (intOf i).toNat)
  case atStart => exact ⟨n, Nat.le_refl _, rfl, by rw [List.take_of_length_le (by rw [h.len]; exact Nat.le_refl _)]⟩
  case round =>
    obtain ⟨k, hk, rfl, ht⟩ := hrel
    have HT := Lib.hid ht; clear ht
    have hfin : ∀ (w1 : World) (k : Nat) (v' : Value), k ≤ n → trim l = l.take k → w1.ownsRow w.heap.size 3 1 v' (0 + k) ([] ++ (l.take k).map fun x : Nat => Value.int .i64 (x : Int)) → HdV w1 (w.heap.size ≤ ·) v' (trim l) := by
      intro w1 k v' hk ht hown
      rw [Nat.zero_add, List.nil_append] at hown
      obtain ⟨A', c', rfl, hd⟩ := hd_of_own hown (fun x hx => h.small x (List.mem_of_mem_take hx))
      rw [ht]
      exact hd.v
    have HF := Lib.hid hfin
    clear hfin
    rcases Nat.eq_zero_or_pos k with h0 | h0
    · subst h0
      have e : trim l = l.take 0 := HT.out
      have HE := Lib.hid e
      clear e
      have hcut := h.cut (k := 0) (by omega)
      go_wp2_with (at_builtin; go_must (refine wpList_app _ rfl _ _ _ _ rfl w.heap.size 3 3 (.int .i64 0) 1 8 Tryd.underlying28 Tryd.underlying28 info_int rfl (by omega) (.slice (some ⟨w.heap.size, 0, none⟩) 0 0) 0 [] rfl (World.ownsRow_lit w #[] 0 (Nat.le_refl _) (by unfold maxLen; omega) rfl) A 0 c _ rfl ((hcut.alloc _).src) (halves_oneCell _) (by unfold maxLen; omega) (by omega) (by simp) ?_); intro v1 w1 hown hgr hat)
      go_ret
      exact ⟨_, rfl, HF.out _ 0 _ (by omega) HE.out hown, ((Below.refl _ _).alloc (Nat.le_refl _) _).grown hgr (by simp) (by simp [Value.ownBlock])⟩
    · obtain ⟨j, rfl⟩ : ∃ j, k = j + 1 := ⟨k - 1, by omega⟩
      obtain ⟨b, off, rfl, hb, hcell⟩ := h.cells (by omega)
      have h1 := hcell j (by omega)
      clear hcell
      have hl : j < l.length := by rw [h.len]; omega
      by_cases hz : gw l j = 0
      · have hz' : ((gw l j : Int) == 0) = true := by simp [hz]
        have HZ := Lib.hid hz; clear hz
        go_wp2
        go_round
        case rel => exact ⟨j, by omega, rfl, by rw [HT.out, trim_take_zero hl HZ.out]⟩
        case measure => simp [intOf]
      · have hz' : ((gw l j : Int) == 0) = false := by simpa using hz
        have e : trim l = l.take (j + 1) := by rw [HT.out, trim_take_ne hl hz]
        have HE := Lib.hid e
        clear e hz
        have hcut := h.cut (k := j + 1) (by omega)
        go_wp2_with (at_builtin; go_must (refine wpList_app _ rfl _ _ _ _ rfl w.heap.size 3 3 (.int .i64 0) 1 8 Tryd.underlying28 Tryd.underlying28 info_int rfl (by omega) (.slice (some ⟨w.heap.size, 0, none⟩) 0 0) 0 [] rfl (World.ownsRow_lit w #[] 0 (Nat.le_refl _) (by unfold maxLen; omega) rfl) (some ⟨b, off, none⟩) (j + 1) c _ rfl ((hcut.alloc _).src) (halves_oneCell _) (by unfold maxLen; omega) (by omega) (by simp) ?_); intro v1 w1 hown hgr hat)
        go_ret
        exact ⟨_, rfl, HF.out _ (j + 1) _ (by omega) HE.out hown, ((Below.refl _ _).alloc (Nat.le_refl _) _).grown hgr (by simp) (by simp [Value.ownBlock])⟩

end Go.Proofs.YtpkjdnplmgfbbaaDoor
