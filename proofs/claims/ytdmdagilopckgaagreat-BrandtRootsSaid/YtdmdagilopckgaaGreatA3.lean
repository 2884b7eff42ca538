/- Slices of ints that hold half words (the references' digits). The references' digits of an integer. The references' integers, made of digits. The references' sums of digits. The references' differences of digits. The references' comparison of digits. The references' products of digits. The references' integers: normal forms, sums, differences, products, signs. The references' integers of machine integers. -/
import Derived.Test.YtdmdagilopckgaaGreatA2
namespace Go.Proofs.YtdmdagilopckgaaGreat
open Go.RowKit

/-- The slice value with address A, length n and capacity c holds the half words l, in a block of D. -/
structure Hd (w : World) (D : Nat → Prop) (A : Option Addr) (n c : Nat) (l : List Nat) : Prop where
  len : l.length = n
  cap : n ≤ c
  room : c ≤ maxLen
  small : ∀ x ∈ l, x < 65536
  cells : 0 < n → ∃ b off, A = some ⟨b, off, none⟩ ∧ D b ∧ ∀ j, j < n → w.cell? ⟨b, off + j, none⟩ = some (.int .i64 (gw l j))

section
variable {w w' : World} {D D' : Nat → Prop} {A : Option Addr} {n c : Nat} {l : List Nat}
theorem Hd.mono (h : Hd w D A n c l) (hd : ∀ b, D b → b < w.heap.size → D' b) : Hd w D' A n c l :=
  ⟨h.len, h.cap, h.room, h.small, fun hn => by
    obtain ⟨b, off, e, hb, hc⟩ := h.cells hn
    exact ⟨b, off, e, hd b hb (cell_lt (hc 0 hn)), hc⟩⟩
/-- What keeps the blocks of D keeps the words. -/
theorem Hd.keep (h : Hd w D A n c l) (hk : ∀ b o, D b → b < w.heap.size → w'.cell? ⟨b, o, none⟩ = w.cell? ⟨b, o, none⟩) : Hd w' D A n c l :=
  ⟨h.len, h.cap, h.room, h.small, fun hn => by
    obtain ⟨b, off, e, hb, hc⟩ := h.cells hn
    have hlt := cell_lt (hc 0 hn)
    exact ⟨b, off, e, hb, fun j hj => (hk b _ hb hlt).trans (hc j hj)⟩⟩
theorem Hd.below (h : Hd w D A n c l) (hb : Below w.heap.size w w') : Hd w' D A n c l := h.keep fun _ _ _ hl => (bcell hb).1 _ _ hl
theorem Hd.alloc (h : Hd w D A n c l) (o : Obj) : Hd (w.alloc o) D A n c l := h.below ((Below.refl _ _).alloc (Nat.le_refl _) o)
theorem Hd.drewN (h : Hd w D A n c l) (m : Nat) : Hd (w.drewN m) D A n c l := h.keep fun _ _ _ _ => rfl
theorem Hd.drew (h : Hd w D A n c l) : Hd w.drew D A n c l := h.keep fun _ _ _ _ => rfl
theorem Hd.setCell (h : Hd w D A n c l) {p : Addr} (hp : ¬ D p.block) (u : Value) : Hd (w.setCell p u) D A n c l :=
  h.keep fun b o hd _ => World.cell?_setCell_other w p ⟨b, o, none⟩ u (fun e => hp (by subst e; exact hd))
theorem Hd.nil (c : Nat) (hc : c ≤ maxLen) : Hd w D A 0 c [] := ⟨rfl, Nat.zero_le _, hc, fun _ h => (by cases h), fun h => absurd h (by omega)⟩
theorem Hd.take (h : Hd w D A n c l) {k : Nat} (hk : k ≤ n) : Hd w D A k k (l.take k) :=
  ⟨by rw [List.length_take, h.len]; omega, Nat.le_refl _, by have := h.room; have := h.cap; omega, fun x hx => h.small x (List.mem_of_mem_take hx), fun hn => by
    obtain ⟨b, off, e, hb, hc⟩ := h.cells (by omega)
    exact ⟨b, off, e, hb, fun j hj => by rw [hc j (by omega), gw_take hj]⟩⟩
theorem Hd.trim (h : Hd w D A n c l) : Hd w D A (trim l).length (trim l).length (trim l) := by
  have h1 := h.take (k := (Go.Proofs.YtdmdagilopckgaaGreat.trim l).length) (by rw [← h.len]; exact trim_length_le l)
  rwa [← trim_eq_take] at h1
end

/-- A slice value that holds words. -/
def HdV (w : World) (D : Nat → Prop) (v : Value) (l : List Nat) : Prop := ∃ A c, v = .slice A l.length c ∧ Hd w D A l.length c l

theorem Hd.v {w : World} {D : Nat → Prop} {A : Option Addr} {n c : Nat} {l : List Nat} (h : Hd w D A n c l) : HdV w D (.slice A n c) l := by
  have := h.len
  subst this
  exact ⟨A, c, rfl, h⟩

/-- An array of words. -/
def HArr (w : World) (g : Nat) (l : List Nat) : Prop := Arr w g 3 (l.map fun x : Nat => Value.int .i64 (x : Int))
section
variable {w w' : World} {g : Nat} {l : List Nat}
theorem HArr.cell (h : HArr w g l) {i : Nat} (hi : i < l.length) : w.cell? ⟨g, i, none⟩ = some (.int .i64 (gw l i)) := by
  rw [Arr.cell h, List.getElem?_map, gw_lt hi]; rfl
theorem HArr.frozen (h : HArr w g l) (i : Nat) : w.frozen? ⟨g, i, none⟩ = false := Arr.frozen h i
theorem HArr.set_ (h : HArr w g l) (i x : Nat) : HArr (w.setCell ⟨g, i, none⟩ (.int .i64 (x : Int))) g (l.set i x) := by
  have := Arr.set_ h i (.int .i64 (x : Int))
  unfold HArr
  rwa [List.map_set]
theorem HArr.wd (h : HArr w g l) (hs : ∀ x ∈ l, x < 65536) (hm : l.length ≤ maxLen) {D : Nat → Prop} (hd : D g) : Hd w D (some ⟨g, 0, none⟩) l.length l.length l :=
  ⟨rfl, Nat.le_refl _, hm, hs, fun _ => ⟨g, 0, rfl, hd, fun j hj => by rw [Nat.zero_add]; exact h.cell hj⟩⟩
theorem HArr.made {n : Nat} (h : Arr w g 3 (madeCells (Value.int .i64 0).cells (n * 1)).toList) : HArr w g (List.replicate n 0) := by
  unfold HArr
  rw [List.map_replicate]
  have e := toList_madeCells_one (.int .i64 0) n
  rw [Nat.mul_one] at h
  rw [show (Value.int .i64 0).cells = #[Value.int .i64 0] from rfl, e] at h
  exact h
end

theorem info_intA : (Tryz.prog.info? 3).map (fun i => (i.zero, i.size, i.bytes)) = some (some (.int .i64 0), 1, 8) := by kernel_rfl

theorem Hd.src {w : World} {D : Nat → Prop} {A : Option Addr} {n c : Nat} {l : List Nat} (h : Hd w D A n c l) : Src w 1 A n (l.map fun x : Nat => Value.int .i64 (x : Int)) := by
  refine ⟨by rw [List.length_map, h.len, Nat.mul_one], fun hn => ?_⟩
  obtain ⟨b, off, rfl, _, hc⟩ := h.cells hn
  refine ⟨_, rfl, fun j u hu => ?_⟩
  rw [List.getElem?_map] at hu
  rcases Nat.lt_or_ge j l.length with hj | hj
  · rw [gw_lt hj] at hu
    simp only [Option.map_some, Option.some.injEq] at hu
    subst hu
    have := hc j (by rw [← h.len]; exact hj)
    unfold Addr.add
    split
    · rename_i h0; subst h0; exact this
    · exact this
  · rw [List.getElem?_eq_none hj] at hu
    cases hu
theorem halves_oneCell (l : List Nat) : ∀ u ∈ l.map (fun x : Nat => Value.int .i64 (x : Int)), u.oneCell' = true := by
  intro u hu
  obtain ⟨x, _, rfl⟩ := List.mem_map.1 hu
  rfl
theorem hd_of_own {w : World} {base n : Nat} {v : Value} {l : List Nat} (h : w.ownsRow base 3 1 v n (l.map fun x : Nat => Value.int .i64 (x : Int))) (hs : ∀ x ∈ l, x < 65536) :
    ∃ A c, v = .slice A n c ∧ Hd w (base ≤ ·) A n c l := by
  have hl : l.length = n := by have := h.1; rw [List.length_map, Nat.mul_one] at this; exact this
  obtain ⟨A, c, rfl, hc, hm⟩ := own_slice h
  refine ⟨A, c, rfl, hl, hc, hm, hs, fun hn => ?_⟩
  obtain ⟨g, cap, hv, hb, _, _, _, hcell⟩ := own_cells h hn
  injection hv with hA
  subst hA
  exact ⟨g, 0, rfl, hb, fun j hj => by rw [Nat.zero_add]; exact hcell j _ (by rw [List.getElem?_map, gw_lt (by omega)]; rfl)⟩
/-- A slice that is cut keeps its capacity. -/
theorem Hd.cut {w : World} {D : Nat → Prop} {A : Option Addr} {n c : Nat} {l : List Nat} (h : Hd w D A n c l) {k : Nat} (hk : k ≤ n) : Hd w D A k c (l.take k) :=
  ⟨by rw [List.length_take, h.len]; omega, by have := h.cap; omega, h.room, fun x hx => h.small x (List.mem_of_mem_take hx), fun hn => by
    obtain ⟨b, off, e, hb, hc⟩ := h.cells (by omega)
    exact ⟨b, off, e, hb, fun j hj => by rw [hc j (by omega), gw_take hj]⟩⟩

set_option maxHeartbeats 400000 in
/-- trim: digits without zeros at the end, in new memory. -/
theorem rtrim_any {D : Nat → Prop} {A : Option Addr} {n c : Nat} {l : List Nat} {w : World} (h : Hd w D A n c l) (hn : n ≤ 10000000000000) :
    Calls Tryz.prog 99 #[.slice A n c] w (Gives w fun w' v => HdV w' (w.heap.size ≤ ·) v (trim l)) := by
  have hc := h.cap
  have hroom := h.room
  unfold maxLen at hroom
  go_enter Tryz.func99, Tryz.ntmps99
  go_wp2
  go_loop [3] (fun i => ∃ k : Nat, k ≤ n ∧ i = .int .i64 k ∧ trim l = trim (l.take k)) (fun i => (intOf i).toNat)
  case atStart => exact ⟨n, Nat.le_refl _, rfl, by rw [List.take_of_length_le (by rw [h.len]; exact Nat.le_refl _)]⟩
  case round =>
    obtain ⟨k, hk, rfl, ht⟩ := hrel
    have HT := Lib.hid ht; clear ht
    have hfin : ∀ (w1 : World) (k : Nat) (v' : Value), k ≤ n → trim l = l.take k → w1.ownsRow w.heap.size 3 1 v' (0 + k) ([] ++ (l.take k).map fun x : Nat => Value.int .i64 (x : Int)) → HdV w1 (w.heap.size ≤ ·) v' (trim l) := by
      intro w1 k v' hk ht hown
      rw [Nat.zero_add, List.nil_append] at hown
      obtain ⟨A', c', rfl, hd⟩ := hd_of_own hown (fun x hx => h.small x (List.mem_of_mem_take hx))
      rw [ht]
      exact hd.v
    have HF := Lib.hid hfin
    clear hfin
    rcases Nat.eq_zero_or_pos k with h0 | h0
    · subst h0
      have e : trim l = l.take 0 := HT.out
      have HE := Lib.hid e
      clear e
      have hcut := h.cut (k := 0) (by omega)
      go_wp2_with (at_builtin; go_must (refine wpList_app _ rfl _ _ _ _ rfl w.heap.size 3 3 (.int .i64 0) 1 8 Tryz.underlying84 Tryz.underlying84 info_intA rfl (by omega) (.slice (some ⟨w.heap.size, 0, none⟩) 0 0) 0 [] rfl (World.ownsRow_lit w #[] 0 (Nat.le_refl _) (by unfold maxLen; omega) rfl) A 0 c _ rfl ((hcut.alloc _).src) (halves_oneCell _) (by unfold maxLen; omega) (by omega) (by simp) ?_); intro v1 w1 hown hgr hat)
      go_ret
      exact ⟨_, rfl, HF.out _ 0 _ (by omega) HE.out hown, ((Below.refl _ _).alloc (Nat.le_refl _) _).grown hgr (by simp) (by simp [Value.ownBlock])⟩
    · obtain ⟨j, rfl⟩ : ∃ j, k = j + 1 := ⟨k - 1, by omega⟩
      obtain ⟨b, off, rfl, hb, hcell⟩ := h.cells (by omega)
      have h1 := hcell j (by omega)
      clear hcell
      have hl : j < l.length := by rw [h.len]; omega
      by_cases hz : gw l j = 0
      · have hz' : ((gw l j : Int) == 0) = true := by simp [hz]
        have HZ := Lib.hid hz; clear hz
        go_wp2
        go_round
        case rel => exact ⟨j, by omega, rfl, by rw [HT.out, trim_take_zero hl HZ.out]⟩
        case measure => simp [intOf]
      · have hz' : ((gw l j : Int) == 0) = false := by simpa using hz
        have e : trim l = l.take (j + 1) := by rw [HT.out, trim_take_ne hl hz]
        have HE := Lib.hid e
        clear e hz
        have hcut := h.cut (k := j + 1) (by omega)
        go_wp2_with (at_builtin; go_must (refine wpList_app _ rfl _ _ _ _ rfl w.heap.size 3 3 (.int .i64 0) 1 8 Tryz.underlying84 Tryz.underlying84 info_intA rfl (by omega) (.slice (some ⟨w.heap.size, 0, none⟩) 0 0) 0 [] rfl (World.ownsRow_lit w #[] 0 (Nat.le_refl _) (by unfold maxLen; omega) rfl) (some ⟨b, off, none⟩) (j + 1) c _ rfl ((hcut.alloc _).src) (halves_oneCell _) (by unfold maxLen; omega) (by omega) (by simp) ?_); intro v1 w1 hown hgr hat)
        go_ret
        exact ⟨_, rfl, HF.out _ (j + 1) _ (by omega) HE.out hown, ((Below.refl _ _).alloc (Nat.le_refl _) _).grown hgr (by simp) (by simp [Value.ownBlock])⟩

end Go.Proofs.YtdmdagilopckgaaGreat

namespace Go.Proofs.YtdmdagilopckgaaGreat
open Go.RowKit

/-- The half words of words. -/
def halves : List Nat → List Nat
  | [] => []
  | x :: r => x % 65536 :: x / 65536 :: halves r
theorem halves_length (l : List Nat) : (halves l).length = 2 * l.length := by
  induction l with
  | nil => rfl
  | cons x r ih => simp [halves, ih]; omega
theorem halves_append (l m : List Nat) : halves (l ++ m) = halves l ++ halves m := by
  induction l with
  | nil => rfl
  | cons x r ih => simp [halves, ih]
theorem halves_val (l : List Nat) : val 65536 (halves l) = val 4294967296 l := by
  induction l with
  | nil => rfl
  | cons x r ih => simp only [halves, val, ih]; omega
theorem halves_small {l : List Nat} (h : ∀ x ∈ l, x < 4294967296) : ∀ x ∈ halves l, x < 65536 := by
  induction l with
  | nil => intro x hx; cases hx
  | cons y r ih =>
    intro x hx
    have hy := h y (List.mem_cons_self ..)
    simp only [halves, List.mem_cons] at hx
    rcases hx with rfl | rfl | hx
    · omega
    · omega
    · exact ih (fun z hz => h z (List.mem_cons_of_mem _ hz)) x hx
theorem halves_trim {l : List Nat} (h : ∀ x ∈ l, x < 4294967296) : trim (halves l) = dig 65536 (val 4294967296 l) := by
  rw [trim_eq_dig (by omega) (halves_small h), halves_val]

/-- An api.Int that reads as x, whose list of words is not too long. -/
def IntB (w : World) (v : Value) (x : Int) : Prop :=
  ∃ neg A n c l, v = .agg #[.bool neg, .slice A n c] ∧ Wd w (fun _ => True) A n c l ∧ x = sg neg (val 4294967296 l) ∧ n ≤ 1000000000000
theorem IntB.int {w : World} {v : Value} {x : Int} (h : IntB w v x) : IntV w (fun _ => True) v x := by
  obtain ⟨neg, A, n, c, l, e, h, hx, _⟩ := h
  exact ⟨neg, A, n, c, l, e, h, hx⟩
theorem IntB.wl {w : World} {v : Value} {x : Int} (h : IntB w v x) : wl x.natAbs ≤ 1000000000000 := by
  obtain ⟨neg, A, n, c, l, e, h, rfl, hn⟩ := h
  rw [sg_natAbs]
  have := val_lt h.small
  have := dig_length_le (b := 4294967296) (by omega) this
  unfold Go.Proofs.YtdmdagilopckgaaGreat.wl
  rw [h.len] at this
  omega
theorem NIntV.b {w : World} {D : Nat → Prop} {v : Value} {x : Int} (h : NIntV w D v x) (hl : Go.Proofs.YtdmdagilopckgaaGreat.wl x.natAbs ≤ 1000000000000) : IntB w v x := by
  replace h := h.mono (D' := fun _ => True) (fun _ _ _ => trivial)
  obtain ⟨A, c, rfl, h⟩ := h
  exact ⟨_, A, _, c, _, rfl, h, by rw [val_dig (by omega), sg_abs], hl⟩
theorem IntB.below {w w' : World} {v : Value} {x : Int} (h : IntB w v x) (hb : Below w.heap.size w w') : IntB w' v x := by
  obtain ⟨neg, A, n, c, l, e, h, hx, hn⟩ := h
  exact ⟨neg, A, n, c, l, e, h.below hb, hx, hn⟩

set_option maxRecDepth 100000 in
set_option maxHeartbeats 1000000 in
theorem digits_any {v : Value} {x : Int} {w : World} (h : IntB w v x) :
    Calls Tryz.prog 61 #[v] w (Gives w fun w' v => HdV w' (w.heap.size ≤ ·) v (dig 65536 x.natAbs)) := by
  obtain ⟨neg, A, n, c, l, rfl, h, rfl, hn⟩ := h
  rw [sg_natAbs]
  go_enter Tryz.func61, Tryz.ntmps61
  go_wp2_with fail
  obtain ⟨W, hW⟩ : ∃ W, W = w.alloc (.cells #[.bool neg, .slice A n c] 63) := ⟨_, rfl⟩
  rw [← hW]
  have hbW : Below w.heap.size w W := by rw [hW]; exact (Below.refl _ _).alloc (Nat.le_refl _) _
  have hcW : W.cell? ⟨w.heap.size, 1, none⟩ = some (.slice A n c) := by rw [hW]; go_simp
  have hsW : W.heap.size = w.heap.size + 1 := by rw [hW]; simp
  have HSW := Lib.hid hsW
  clear hW hsW
  go_loopw [3, 4] (fun o i wr => ∃ k : Nat, k ≤ n ∧ i = .int .i64 k ∧ wr.ownsRow W.heap.size 3 1 o (2 * k) ((halves (l.take k)).map fun x : Nat => Value.int .i64 (x : Int)) ∧ Below W.heap.size W wr) (fun _ i _ => n - (intOf i).toNat)
  case atStart => exact ⟨0, by omega, rfl, World.ownsRow_nil _ _ _ _, Below.refl _ _⟩
  case round =>
    obtain ⟨k, hk, rfl, hown, hbr⟩ := hrel
    have hlt : w.heap.size < W.heap.size := by have := HSW.out; omega
    have hbox : wr.cell? ⟨w.heap.size, 1, none⟩ = some (.slice A n c) := by rw [hbr.cell (p := ⟨w.heap.size, 1, none⟩) hlt]; exact hcW
    rcases Nat.lt_or_ge k n with hkn | hkn
    · obtain ⟨b, off, rfl, hbD, hcl⟩ := h.cells (by omega)
      have hbl := cell_lt (hcl 0 (by omega))
      have hc1 : wr.cell? ⟨b, off + k, none⟩ = some (.int .u32 (gw l k)) := by
        rw [hbr.cell (p := ⟨b, off + k, none⟩) (by show b < _; omega), hbW.cell (p := ⟨b, off + k, none⟩) hbl]
        exact hcl k hkn
      clear hcl
      have g1 := gw_bound h.small (by omega) k
      have hk0 : (0 : Int) ≤ (k : Int) := by omega
      have hk1 : (k : Int) < (n : Int) := by omega
      have hsz := hbr.size
      have hob : ∀ g, u3.ownBlock = some g → W.heap.size ≤ g := fun g hg => (hown.lt g hg).1
      have HOB := Lib.hid hob
      clear hob
      have a1 : IntKind.i64.wrap ((gw l k : Int).tmod 65536) = ((gw l k : Int) % 65536) := by
        rw [Int.tmod_eq_emod_of_nonneg (by omega), IntWalk.i64_in _ (by omega)]
      have a2 : IntKind.u32.wrap ((gw l k : Int) / 65536) = ((gw l k : Int) / 65536) := by
        rw [IntWalk.u32_in _ (by omega)]
      have a4 : IntKind.i64.wrap ((gw l k : Int) / 65536) = ((gw l k : Int) / 65536) := IntWalk.i64_in _ (by omega)
      go_wp2_with fail
      go_region_held3 (fun w' => w'.cell? ⟨w.heap.size, 1, none⟩ = some (.slice (some ⟨b, off, none⟩) n c) ∧ w'.cell? ⟨b, off + k, none⟩ = some (.int .u32 (gw l k)))
        (first
          | go_keep
          | (go_split_ands
             refine ⟨?_, ?_⟩
             · (rw [hgrow.cell_far _ (by simp; omega) (fun e => by have := HOB.out _ e.symm; simp at this; omega)]; assumption)
             · (rw [hgrow.cell_far _ (by simp; omega) (fun e => by have := HOB.out _ e.symm; simp at this; omega)]; assumption)))
        ((go_must (refine step_app _ (by rfl) _ _ _ _ (by rfl) W.heap.size 3 3 (.int .i64 0) 1 8 Tryz.underlying84 Tryz.underlying84 info_intA rfl (by omega) u3 (2 * k) _ (by rfl) ((hown.alloc _).drew) (some ⟨wr.heap.size, 0, none⟩) 2 2 [.int .i64 ((gw l k : Int) % 65536), .int .i64 ((gw l k : Int) / 65536)] (by rfl) (by exact src_block (cs := [.int .i64 ((gw l k : Int) % 65536), .int .i64 ((gw l k : Int) / 65536)]) (t := 3) (heap_alloc_new wr _) 2 1 rfl) (by simp [Value.oneCell']) (by unfold maxLen; omega) (by omega) (by simp; omega) ?_); intro v1 w1 hown1 hgrow hat))
      clear a1 a2 a4
      go_split_ands
      go_wp2_with fail
      go_roundw
      case rel =>
        refine ⟨k + 1, by omega, by go_num, ?_, (hbr.alloc hsz _).drew.grown hgrow (by simp; omega) HOB.out⟩
        have e : (halves (l.take (k + 1))).map (fun x : Nat => Value.int .i64 (x : Int)) = (halves (l.take k)).map (fun x : Nat => Value.int .i64 (x : Int)) ++ [.int .i64 ((gw l k : Int) % 65536), .int .i64 ((gw l k : Int) / 65536)] := by
          rw [take_succ_gw (by rw [h.len]; exact hkn), halves_append, List.map_append]; simp [halves]
        rw [e]
        exact hown1
      case measure => simp [intOf]; omega
    · obtain rfl : k = n := by omega
      rw [List.take_of_length_le (by rw [h.len]; exact Nat.le_refl _)] at hown
      obtain ⟨A1, c1, rfl, hd⟩ := hd_of_own hown (halves_small h.small)
      go_wp2_with (go_at_call 99; ((with_reducible refine (rtrim_any hd (by omega)).mono ?_)); rintro e w1 ⟨v1, rfl, hv1, hb1⟩)
      go_ret
      rw [halves_trim h.small] at hv1
      refine ⟨_, rfl, ?_, (hbW.trans (hbr.mono (by omega))).trans (hb1.mono (by have := hbr.size; omega))⟩
      obtain ⟨A2, c2, rfl, hd2⟩ := hv1
      exact ⟨A2, c2, rfl, hd2.mono (fun b hb _ => by have : wr.heap.size ≤ b := hb; have := hbr.size; show w.heap.size ≤ b; omega)⟩

end Go.Proofs.YtdmdagilopckgaaGreat

namespace Go.Proofs.YtdmdagilopckgaaGreat
open Go.RowKit

/-- Half words in pairs. -/
def pk : List Nat → List Nat
  | [] => []
  | [x] => [x]
  | x :: y :: r => (x + y * 65536) :: pk r
theorem pk_val : ∀ l : List Nat, val 4294967296 (pk l) = val 65536 l
  | [] => rfl
  | [x] => by simp [pk, val]
  | x :: y :: r => by simp only [pk, val, pk_val r]; omega
theorem pk_small : ∀ {l : List Nat}, (∀ x ∈ l, x < 65536) → ∀ x ∈ pk l, x < 4294967296
  | [], _, x, hx => by cases hx
  | [y], h, x, hx => by
    simp only [pk, List.mem_singleton] at hx
    subst hx
    have := h x (List.mem_singleton.2 rfl)
    omega
  | y :: z :: r, h, x, hx => by
    simp only [pk, List.mem_cons] at hx
    rcases hx with rfl | hx
    · have := h y (by simp)
      have := h z (by simp)
      omega
    · exact pk_small (fun u hu => h u (by simp [hu])) x hx
theorem pk_gw : ∀ (l : List Nat) (k : Nat), gw (pk l) k = gw l (2 * k) + gw l (2 * k + 1) * 65536
  | [], k => by simp [pk, gw_nil]
  | [x], 0 => by simp [pk, gw]
  | [x], k + 1 => by
    rw [show 2 * (k + 1) = 2 * k + 1 + 1 from by omega]
    simp [pk, gw]
  | x :: y :: r, 0 => by simp [pk, gw]
  | x :: y :: r, k + 1 => by
    rw [show 2 * (k + 1) = 2 * k + 1 + 1 from by omega]
    simp only [pk, gw_cons_succ]
    exact pk_gw r k
theorem pk_length : ∀ l : List Nat, (pk l).length = (l.length + 1) / 2
  | [] => rfl
  | [x] => by simp [pk]
  | x :: y :: r => by simp only [pk, List.length_cons, pk_length r]; omega
theorem pk_trim {l : List Nat} (h : ∀ x ∈ l, x < 65536) (ht : trim l = l) : pk l = dig 4294967296 (val 65536 l) := by
  rw [← pk_val, ← trim_eq_dig (by omega) (pk_small h)]
  rcases Nat.eq_zero_or_pos l.length with h0 | h0
  · rw [List.eq_nil_of_length_eq_zero h0]; rfl
  · have hl := pk_length l
    obtain ⟨k, hk⟩ : ∃ k, (pk l).length = k + 1 := ⟨(pk l).length - 1, by omega⟩
    have hne : gw (pk l) k ≠ 0 := by
      rw [pk_gw]
      obtain ⟨j, hj⟩ : ∃ j, l.length = j + 1 := ⟨l.length - 1, by omega⟩
      have hz := trim_last ht hj
      rcases Nat.lt_or_ge (2 * k + 1) l.length with h1 | h1
      · have : 2 * k + 1 = j := by omega
        rw [this]; omega
      · have : 2 * k = j := by omega
        rw [this]; omega
    have := trim_take_ne (l := pk l) (k := k) (by omega) hne
    rw [List.take_of_length_le (by omega)] at this
    exact this.symm

theorem nint_of_digits {w : World} {D : Nat → Prop} {neg s : Bool} {A : Option Addr} {k c V m : Nat} {T U : List Nat} (h : Wd w D A k c U) (hU : U = dig 4294967296 V) (hs : s = (neg && decide (0 < m))) (hm : m = T.length) (hT : T = dig 65536 V) :
    NIntV w D (.agg #[.bool s, .slice A k c]) (sg neg V) := by
  by_cases h0 : V = 0
  · subst h0
    rw [dig_zero] at hU hT
    subst hU hT
    have hk := h.len
    simp only [List.length_nil] at hk hm
    subst hk hm
    have e1 : sg neg 0 = 0 := by unfold sg; split <;> rfl
    have e2 : s = false := by rw [hs]; simp
    rw [e1, e2]
    exact ⟨A, c, rfl, h⟩
  · have hpos : 0 < m := by
      rw [hm]
      rcases Nat.eq_zero_or_pos T.length with h1 | h1
      · rw [List.eq_nil_of_length_eq_zero h1] at hT
        exact absurd ((dig_eq_nil (by omega)).1 hT.symm) h0
      · exact h1
    have e2 : s = neg := by rw [hs]; simp [hpos]
    rw [e2]
    exact nint_of h hU h0

theorem Arr.grown {w w' : World} {g : Nat} {t : TypeId} {xs : List Value} {row : Option Nat} (h : Arr w g t xs) (hb : w.grownBy w' row) (hg : some g ≠ row) : Arr w' g t xs := (hb.block g h.lt hg).trans h

set_option maxRecDepth 100000 in
set_option maxHeartbeats 2000000 in
theorem rmade_any {D : Nat → Prop} {neg : Bool} {A : Option Addr} {n c : Nat} {l : List Nat} {w : World} (h : Hd w D A n c l) (hn : n ≤ 10000000000000) :
    Calls Tryz.prog 60 #[.bool neg, .slice A n c] w (Gives w fun w' v => NIntV w' (w.heap.size ≤ ·) v (sg neg (val 65536 l))) := by
  have hts : ∀ x ∈ trim l, x < 65536 := fun x hx => h.small x (trim_mem hx)
  have htt := trim_trim (by omega) h.small
  have hpk := pk_trim hts htt
  rw [val_trim] at hpk
  have hdg := trim_eq_dig (b := 65536) (by omega) h.small
  have htn : (trim l).length ≤ n := by rw [← h.len]; exact trim_length_le l
  generalize hT : trim l = T at *
  have HPK := Lib.hid hpk
  have HDG := Lib.hid hdg
  clear hdg
  have HTT := Lib.hid htt
  have HT := Lib.hid hT
  clear hpk htt hT
  generalize hm : T.length = m at *
  have HM := Lib.hid hm
  clear hm
  have hcases : (neg = false) ∨ (neg = true ∧ m ≤ 0) ∨ (neg = true ∧ 0 < m) := by cases neg <;> simp <;> omega
  obtain ⟨W, hW⟩ : ∃ W, W = w.alloc (.cells #[.bool false, .slice none 0 0] 63) := ⟨_, rfl⟩
  have hbW : Below w.heap.size w W := by rw [hW]; exact (Below.refl _ _).alloc (Nat.le_refl _) _
  have HR : Hid (W.heap[w.heap.size]? = some (.cells #[.bool false, .slice none 0 0] 63 (0, 0))) := by rw [hW]; exact heap_alloc_new _ _
  have HWW := Lib.hid hW
  clear hW
  obtain ⟨neg0, hn0⟩ : ∃ b, b = neg := ⟨_, rfl⟩
  have HN0 := Lib.hid hn0
  clear hn0
  rcases hcases with rfl | ⟨rfl, hpos⟩ | ⟨rfl, hpos⟩
  all_goals
    go_enter Tryz.func60, Tryz.ntmps60
    go_wp2_with (go_at_call 99; rw [← HWW.out]; ((with_reducible refine (rtrim_any (h.below hbW) hn).mono ?_)); rintro e w1 ⟨v1, rfl, ⟨A1, c1, rfl, hd1⟩, hb1⟩; rw [HT.out] at hd1 ⊢; rw [HM.out] at hd1 ⊢; have hh1 := (Held.call hb1 (Held.self HR.out)).2)
  all_goals
    go_loopw [6] (fun i wr => ∃ (p k : Nat) (s : Bool) (A2 : Option Addr) (c2 : Nat), i = .int .i64 p ∧ p ≤ 10000000000001 ∧ Hid (p = 2 * k) ∧ k ≤ (pk T).length ∧ Arr wr w1.heap.size 63 [.bool s, .slice A2 k c2] ∧ wr.ownsRow (w1.heap.size + 1) 110 1 (.slice A2 k c2) k (((pk T).take k).map fun x : Nat => Value.int .u32 (x : Int)) ∧
        Hid (s = (neg0 && decide (0 < m))) ∧ Below w1.heap.size w1 wr) (fun i _ => m - (intOf i).toNat)
    case atStart =>
      refine ⟨0, 0, _, none, 0, rfl, by omega, rfl, by omega, Arr.new _ _ [_, _], World.ownsRow_nil _ _ _ _, ?_, (Below.refl _ _).alloc (Nat.le_refl _) _⟩
      show _ = _
      rw [HN0.out]
      first | rfl | (simp; omega)
    case round =>
      obtain ⟨p, k, s, A2, c2, rfl, hp, hpk, hkl, harr, hown, hs, hbr⟩ := hrel
      have hO := harr.lt
      have f0 := harr.cell 0
      have f1 := harr.cell 1
      have z0 := harr.frozen 0
      have z1 := harr.frozen 1
      simp only [List.getElem?_cons_zero, List.getElem?_cons_succ] at f0 f1
      have hTl : T.length = m := HM.out
      have HTl := Lib.hid hTl
      clear hTl
      rcases Nat.lt_or_ge p m with hpm | hpm
      · try (exfalso; omega)
        all_goals
          obtain ⟨b1, off1, rfl, hbD, hcl⟩ := hd1.cells (by omega)
          have hb1l := cell_lt (hcl 0 (by omega))
          have e1 : wr.cell? ⟨b1, off1 + p, none⟩ = some (.int .i64 (gw T p)) := by
            rw [hbr.cell (p := ⟨b1, off1 + p, none⟩) hb1l]; exact hcl p hpm
          have g1 := gw_bound hts (by omega) p
          have g2 := gw_bound hts (by omega) (p + 1)
          have hpl := pk_length T
          have hkT : k < (pk T).length := by have := hpk.out; have := HTl.out; omega
          clear hpl
          have hk2 : k ≤ 10000000000000 := by have := hpk.out; omega
          have HOB := Lib.hid (fun g (hg : (Value.slice A2 k c2).ownBlock = some g) => (hown.lt g hg).1)
          by_cases hp1 : p + 1 < m
          · have e2 : wr.cell? ⟨b1, off1 + (p + 1), none⟩ = some (.int .i64 (gw T (p + 1))) := by
              rw [hbr.cell (p := ⟨b1, off1 + (p + 1), none⟩) hb1l]; exact hcl (p + 1) hp1
            clear hcl
            go_wp2_with (at_builtin; go_must (refine wpList_app _ rfl _ _ _ _ rfl (w1.heap.size + 1) 110 110 (.int .u32 0) 1 4 Tryz.underlying61 Tryz.underlying61 info_u32 rfl (by omega) (.slice A2 k c2) k _ rfl (hown.alloc _) (some ⟨wr.heap.size, 0, none⟩) 1 1 [.int .u32 ((gw T p : Int) + (gw T (p + 1) : Int) * 65536)] rfl (src_block (t := 110) (cs := [.int .u32 ((gw T p : Int) + (gw T (p + 1) : Int) * 65536)]) (heap_alloc_new wr _) 1 1 rfl) (by simp [Value.oneCell']) (by unfold maxLen; omega) (by omega) (by simp; omega) ?_); intro v3 w3 hown3 hgr3 hat3; obtain ⟨A3, c3, rfl, _, _⟩ := own_slice hown3; have q0 := hgr3.cell_far ⟨w1.heap.size, 0, none⟩ (by simp; omega) (fun e => by have := HOB.out _ e.symm; simp at this; omega); have q1 := hgr3.cell_far ⟨w1.heap.size, 1, none⟩ (by simp; omega) (fun e => by have := HOB.out _ e.symm; simp at this; omega); have q2 := hgr3.frozen_far ⟨w1.heap.size, 1, none⟩ (by simp; omega) (fun e => by have := HOB.out _ e.symm; simp at this; omega))
            go_roundw
            case rel =>
              refine ⟨p + 2, k + 1, s, A3, c3, by go_num, by omega, by show _ = _; have := hpk.out; omega, by omega, ?_, ?_, hs, ?_⟩
              · have ha := (((harr.alloc (.cells #[.int .u32 ((gw T p : Int) + (gw T (p + 1) : Int) * 65536)] 110)).grown hgr3 (fun e => by have := HOB.out _ e.symm; omega))).set_ 1 (.slice A3 (k + 1) c3)
                exact ha
              · rw [show (pk T).take (k + 1) = (pk T).take k ++ [gw (pk T) k] from take_succ_gw hkT, List.map_append]
                have e3 : (gw (pk T) k : Int) = ((gw T p : Int) + (gw T (p + 1) : Int) * 65536) := by
                  rw [pk_gw, ← hpk.out]; omega
                simp only [List.map_cons, List.map_nil, e3]
                exact ownsRow_setCell_below hown3 (Nat.lt_succ_self _) _
              · exact ((hbr.alloc (by omega) _).grown hgr3 (by simp; omega) (fun g hg => by have := HOB.out g hg; omega)).setCell (Nat.le_refl _) _
            case measure => simp [intOf]; omega
          · clear hcl
            go_wp2_with (at_builtin; go_must (refine wpList_app _ rfl _ _ _ _ rfl (w1.heap.size + 1) 110 110 (.int .u32 0) 1 4 Tryz.underlying61 Tryz.underlying61 info_u32 rfl (by omega) (.slice A2 k c2) k _ rfl (hown.alloc _) (some ⟨wr.heap.size, 0, none⟩) 1 1 [.int .u32 (gw T p : Int)] rfl (src_block (t := 110) (cs := [.int .u32 (gw T p : Int)]) (heap_alloc_new wr _) 1 1 rfl) (by simp [Value.oneCell']) (by unfold maxLen; omega) (by omega) (by simp; omega) ?_); intro v3 w3 hown3 hgr3 hat3; obtain ⟨A3, c3, rfl, _, _⟩ := own_slice hown3; have q0 := hgr3.cell_far ⟨w1.heap.size, 0, none⟩ (by simp; omega) (fun e => by have := HOB.out _ e.symm; simp at this; omega); have q1 := hgr3.cell_far ⟨w1.heap.size, 1, none⟩ (by simp; omega) (fun e => by have := HOB.out _ e.symm; simp at this; omega); have q2 := hgr3.frozen_far ⟨w1.heap.size, 1, none⟩ (by simp; omega) (fun e => by have := HOB.out _ e.symm; simp at this; omega))
            go_roundw
            case rel =>
              refine ⟨p + 2, k + 1, s, A3, c3, by go_num, by omega, by show _ = _; have := hpk.out; omega, by omega, ?_, ?_, hs, ?_⟩
              · have ha := (((harr.alloc (.cells #[.int .u32 (gw T p : Int)] 110)).grown hgr3 (fun e => by have := HOB.out _ e.symm; omega))).set_ 1 (.slice A3 (k + 1) c3)
                exact ha
              · rw [show (pk T).take (k + 1) = (pk T).take k ++ [gw (pk T) k] from take_succ_gw hkT, List.map_append]
                have e3 : (gw (pk T) k : Int) = (gw T p : Int) := by
                  rw [pk_gw, ← hpk.out]; rw [gw_ge (l := T) (j := p + 1) (by have := HTl.out; omega)]; omega
                simp only [List.map_cons, List.map_nil, e3]
                exact ownsRow_setCell_below hown3 (Nat.lt_succ_self _) _
              · exact ((hbr.alloc (by omega) _).grown hgr3 (by simp; omega) (fun g hg => by have := HOB.out g hg; omega)).setCell (Nat.le_refl _) _
            case measure => simp [intOf]; omega
      · have hkf : k = (pk T).length := by
          have h1 := pk_length T
          have h2 := hpk.out
          have h3 := HTl.out
          omega
        have hr := Held.call hbr hh1
        obtain ⟨u0, u1, r0, r1, y0, y1⟩ := hr.2.cells
        have HKF := Lib.hid hkf
        clear hkf
        have hne : w.heap.size < w1.heap.size := hh1.lt
        go_wp2_with fail
        refine bodyPost_ret (v := .agg #[.bool s, .slice A2 k c2]) (by simp [results, Tryz.results60, go_sem, r0, r1]) rfl ⟨_, rfl, ?_, hr.2.put hbW (Nat.le_refl _) _ _⟩
        have hk2 := HKF.out
        rw [List.take_of_length_le (by omega)] at hown
        obtain ⟨A4, c4, he, hwd⟩ := wd_of_own hown (pk_small hts)
        injection he with e1 e2 e3
        subst e1 e3
        have hni := nint_of_digits (m := m) hwd HPK.out hs.out HM.out.symm HDG.out
        rw [HN0.out] at hni
        exact ((hni.setCell (p := ⟨w.heap.size, 0, none⟩) (by simp; omega) _).setCell (p := ⟨w.heap.size, 1, none⟩) (by simp; omega) _).mono (fun b hb _ => by have : w1.heap.size + 1 ≤ b := hb; show w.heap.size ≤ b; omega)

end Go.Proofs.YtdmdagilopckgaaGreat

namespace Go.Proofs.YtdmdagilopckgaaGreat
open Go.RowKit

set_option maxRecDepth 100000 in
set_option maxHeartbeats 2000000 in
theorem rplus_any {D D' : Nat → Prop} {A A' : Option Addr} {n c n' c' : Nat} {l l' : List Nat} {w : World} (h : Hd w D A n c l) (h' : Hd w D' A' n' c' l') (hn : n ≤ 4000000000000) (hn' : n' ≤ 4000000000000) :
    Calls Tryz.prog 94 #[.slice A n c, .slice A' n' c'] w (Gives w fun w' v => HdV w' (w.heap.size ≤ ·) v (dig 65536 (val 65536 l + val 65536 l'))) := by
  go_enter Tryz.func94, Tryz.ntmps94
  go_wp2_with fail
  go_loopw [5, 6, 7] (fun ov cr i wr => ∃ (k x : Nat) (o : List Nat), k ≤ max n n' + 1 ∧ i = .int .i64 k ∧ cr = .int .i64 x ∧ x ≤ 1 ∧ wr.ownsRow w.heap.size 3 1 ov k (o.map fun x : Nat => Value.int .i64 (x : Int)) ∧ (∀ y ∈ o, y < 65536) ∧ Below w.heap.size w wr ∧
       Hid (val 65536 o + 65536 ^ k * x = val 65536 (l.take k) + val 65536 (l'.take k))) (fun _ _ i _ => max n n' + 1 - (intOf i).toNat)
  case atStart => exact ⟨0, 0, [], by omega, rfl, rfl, by omega, World.ownsRow_nil _ _ _ _, fun y hy => (by cases hy), Below.refl _ _, by simp [Hid, val]⟩
  case round =>
    obtain ⟨k, x, o, hk, rfl, rfl, hx, hown, hsm, hbr, hinv⟩ := hrel
    have hw1 := h.below hbr
    have hw2 := h'.below hbr
    have g1 := gw_bound h.small (by omega) k
    have g2 := gw_bound h'.small (by omega) k
    have hx0 : max n n' < k → x = 0 := by
      intro hgt
      rcases Nat.eq_zero_or_pos x with h0 | h0
      · exact h0
      · exfalso
        have hv := hinv.out
        rw [List.take_of_length_le (by rw [h.len]; omega), List.take_of_length_le (l := l') (by rw [h'.len]; omega)] at hv
        have b1 := val_lt h.small
        have b2 := val_lt h'.small
        rw [h.len] at b1
        rw [h'.len] at b2
        have c1 : 65536 ^ n ≤ 65536 ^ (k - 1) := Nat.pow_le_pow_right (by omega) (by omega)
        have c2 : 65536 ^ n' ≤ 65536 ^ (k - 1) := Nat.pow_le_pow_right (by omega) (by omega)
        have c3 : 65536 ^ k = 65536 ^ (k - 1) * 65536 := by rw [← Nat.pow_succ]; congr 1; omega
        have c4 : 65536 ^ k * 1 ≤ 65536 ^ k * x := Nat.mul_le_mul_left _ h0
        omega
    have hx1 : 0 < x → k ≤ max n n' := by
      intro hp
      rcases Nat.lt_or_ge (max n n') k with hh | hh
      · have := hx0 hh; omega
      · exact hh
    clear hx0
    have HX1 := Lib.hid hx1
    clear hx1
    have HLN := Lib.hid h.len
    have HLN' := Lib.hid h'.len
    rcases Nat.lt_or_ge k n with hkn | hkn
    · obtain ⟨b, off, rfl, hbD, hcl⟩ := hw1.cells (by omega)
      have hc1 := hcl k hkn
      clear hcl
      rcases Nat.lt_or_ge k n' with hkn' | hkn'
      · obtain ⟨b', off', rfl, hbD', hcl'⟩ := hw2.cells (by omega)
        have hc2 := hcl' k hkn'
        clear hcl'
        go_wp2_with (at_builtin; go_must (refine wpList_push _ rfl _ _ _ _ rfl w.heap.size 3 3 (.int .i64 0) 1 8 Tryz.underlying84 Tryz.underlying84 info_intA rfl (by omega) u5 k _ rfl hown [_] rfl rfl (by simp [Value.oneCell']) (by unfold maxLen; omega) (by omega) hbr.size ?_); intro A2 c2 w2 hown2 hgr2 hb2)
        go_roundw
        case rel =>
          have e : (x : Int) + (gw l k : Int) + (gw l' k : Int) = ((gw l k + gw l' k + x : Nat) : Int) := by omega
          rw [e] at hown2 ⊢
          clear e
          generalize hs : gw l k + gw l' k + x = s at *
          refine ⟨k + 1, s / 65536, o ++ [s % 65536], by omega, by go_num, by go_num, by omega, ?_, fun y hy => ?_, hbr.trans (hb2.mono (Nat.le_refl _)), ?_⟩
          · rw [List.map_append]
            simpa using hown2
          · rcases List.mem_append.1 hy with hy | hy
            · exact hsm y hy
            · rw [List.mem_singleton.1 hy]; omega
          · show _ = _
            have hl : o.length = k := by have := hown.1; rw [List.length_map] at this; omega
            rw [val_snoc, hl, val_take_succ, val_take_succ]
            exact plus_step k hs.symm rfl rfl _ _ _ hinv.out
        case measure => simp [intOf]; omega
      · have z2 := gw_ge (l := l') (j := k) (by rw [h'.len]; exact hkn')
        have Z2 := Lib.hid z2
        clear z2
        go_wp2_with (at_builtin; go_must (refine wpList_push _ rfl _ _ _ _ rfl w.heap.size 3 3 (.int .i64 0) 1 8 Tryz.underlying84 Tryz.underlying84 info_intA rfl (by omega) u5 k _ rfl hown [_] rfl rfl (by simp [Value.oneCell']) (by unfold maxLen; omega) (by omega) hbr.size ?_); intro A2 c2 w2 hown2 hgr2 hb2)
        go_roundw
        case rel =>
          have e : (x : Int) + (gw l k : Int) = ((gw l k + gw l' k + x : Nat) : Int) := by have := Z2.out; omega
          rw [e] at hown2 ⊢
          clear e
          generalize hs : gw l k + gw l' k + x = s at *
          refine ⟨k + 1, s / 65536, o ++ [s % 65536], by omega, by go_num, by go_num, by omega, ?_, fun y hy => ?_, hbr.trans (hb2.mono (Nat.le_refl _)), ?_⟩
          · rw [List.map_append]
            simpa using hown2
          · rcases List.mem_append.1 hy with hy | hy
            · exact hsm y hy
            · rw [List.mem_singleton.1 hy]; omega
          · show _ = _
            have hl : o.length = k := by have := hown.1; rw [List.length_map] at this; omega
            rw [val_snoc, hl, val_take_succ, val_take_succ]
            exact plus_step k hs.symm rfl rfl _ _ _ hinv.out
        case measure => simp [intOf]; omega
    · have z1 := gw_ge (l := l) (j := k) (by rw [h.len]; exact hkn)
      have Z1 := Lib.hid z1
      clear z1
      rcases Nat.lt_or_ge k n' with hkn' | hkn'
      · obtain ⟨b', off', rfl, hbD', hcl'⟩ := hw2.cells (by omega)
        have hc2 := hcl' k hkn'
        clear hcl'
        go_wp2_with (at_builtin; go_must (refine wpList_push _ rfl _ _ _ _ rfl w.heap.size 3 3 (.int .i64 0) 1 8 Tryz.underlying84 Tryz.underlying84 info_intA rfl (by omega) u5 k _ rfl hown [_] rfl rfl (by simp [Value.oneCell']) (by unfold maxLen; omega) (by omega) hbr.size ?_); intro A2 c2 w2 hown2 hgr2 hb2)
        go_roundw
        case rel =>
          have e : (x : Int) + (gw l' k : Int) = ((gw l k + gw l' k + x : Nat) : Int) := by have := Z1.out; omega
          rw [e] at hown2 ⊢
          clear e
          generalize hs : gw l k + gw l' k + x = s at *
          refine ⟨k + 1, s / 65536, o ++ [s % 65536], by omega, by go_num, by go_num, by omega, ?_, fun y hy => ?_, hbr.trans (hb2.mono (Nat.le_refl _)), ?_⟩
          · rw [List.map_append]
            simpa using hown2
          · rcases List.mem_append.1 hy with hy | hy
            · exact hsm y hy
            · rw [List.mem_singleton.1 hy]; omega
          · show _ = _
            have hl : o.length = k := by have := hown.1; rw [List.length_map] at this; omega
            rw [val_snoc, hl, val_take_succ, val_take_succ]
            exact plus_step k hs.symm rfl rfl _ _ _ hinv.out
        case measure => simp [intOf]; omega
      · have z2 := gw_ge (l := l') (j := k) (by rw [h'.len]; exact hkn')
        have Z2 := Lib.hid z2
        clear z2
        rcases Nat.eq_zero_or_pos x with hxz | hxz
        · subst hxz
          obtain ⟨A1, c1, rfl, hd⟩ := hd_of_own hown hsm
          go_wp2_with (go_at_call 99; ((with_reducible refine (rtrim_any hd (by omega)).mono ?_)); rintro e w1 ⟨v1, rfl, hv1, hb1⟩)
          go_ret
          have hv := hinv.out
          rw [List.take_of_length_le (by rw [HLN.out]; omega), List.take_of_length_le (l := l') (by rw [HLN'.out]; omega), Nat.mul_zero, Nat.add_zero] at hv
          rw [trim_eq_dig (by omega) hsm, hv] at hv1
          refine ⟨_, rfl, ?_, hbr.trans (hb1.mono hbr.size)⟩
          obtain ⟨A2, c2, rfl, hd2⟩ := hv1
          exact ⟨A2, c2, rfl, hd2.mono (fun b hb _ => by have : wr.heap.size ≤ b := hb; have := hbr.size; show w.heap.size ≤ b; omega)⟩
        · have hkm := HX1.out hxz
          go_wp2_with (at_builtin; go_must (refine wpList_push _ rfl _ _ _ _ rfl w.heap.size 3 3 (.int .i64 0) 1 8 Tryz.underlying84 Tryz.underlying84 info_intA rfl (by omega) u5 k _ rfl hown [_] rfl rfl (by simp [Value.oneCell']) (by unfold maxLen; omega) (by omega) hbr.size ?_); intro A2 c2 w2 hown2 hgr2 hb2)
          go_roundw
          case rel =>
            have e : (x : Int) = ((gw l k + gw l' k + x : Nat) : Int) := by have := Z1.out; have := Z2.out; omega
            rw [e] at hown2 ⊢
            clear e
            generalize hs : gw l k + gw l' k + x = s at *
            refine ⟨k + 1, s / 65536, o ++ [s % 65536], by omega, by go_num, by go_num, by omega, ?_, fun y hy => ?_, hbr.trans (hb2.mono (Nat.le_refl _)), ?_⟩
            · rw [List.map_append]
              simpa using hown2
            · rcases List.mem_append.1 hy with hy | hy
              · exact hsm y hy
              · rw [List.mem_singleton.1 hy]; omega
            · show _ = _
              have hl : o.length = k := by have := hown.1; rw [List.length_map] at this; omega
              rw [val_snoc, hl, val_take_succ, val_take_succ]
              exact plus_step k hs.symm rfl rfl _ _ _ hinv.out
          case measure => simp [intOf]; omega

end Go.Proofs.YtdmdagilopckgaaGreat

namespace Go.Proofs.YtdmdagilopckgaaGreat
open Go.RowKit

set_option maxRecDepth 100000 in
set_option maxHeartbeats 2000000 in
theorem rminus_any {D D' : Nat → Prop} {A A' : Option Addr} {n c n' c' : Nat} {l l' : List Nat} {w : World} (h : Hd w D A n c l) (h' : Hd w D' A' n' c' l') (hn : n ≤ 4000000000000) (hle : val 65536 l' ≤ val 65536 l) :
    Calls Tryz.prog 96 #[.slice A n c, .slice A' n' c'] w (Gives w fun w' v => HdV w' (w.heap.size ≤ ·) v (dig 65536 (val 65536 l - val 65536 l'))) := by
  have HLE := Lib.hid hle
  clear hle
  go_enter Tryz.func96, Tryz.ntmps96
  go_wp2_with fail
  go_loopw [5, 6, 7] (fun ov cr i wr => ∃ (k x : Nat) (o : List Nat), k ≤ n ∧ i = .int .i64 k ∧ cr = .int .i64 x ∧ x ≤ 1 ∧ wr.ownsRow w.heap.size 3 1 ov k (o.map fun x : Nat => Value.int .i64 (x : Int)) ∧ (∀ y ∈ o, y < 65536) ∧ Below w.heap.size w wr ∧
       Hid (val 65536 o + val 65536 (l'.take k) = val 65536 (l.take k) + 65536 ^ k * x)) (fun _ _ i _ => n - (intOf i).toNat)
  case atStart => exact ⟨0, 0, [], by omega, rfl, rfl, by omega, World.ownsRow_nil _ _ _ _, fun y hy => (by cases hy), Below.refl _ _, by simp [Hid, val]⟩
  case round =>
    obtain ⟨k, x, o, hk, rfl, rfl, hx, hown, hsm, hbr, hinv⟩ := hrel
    have hw1 := h.below hbr
    have hw2 := h'.below hbr
    have g1 := gw_bound h.small (by omega) k
    have g2 := gw_bound h'.small (by omega) k
    have HLN := Lib.hid h.len
    have HLN' := Lib.hid h'.len
    rcases Nat.lt_or_ge k n with hkn | hkn
    · obtain ⟨b, off, rfl, hbD, hcl⟩ := hw1.cells (by omega)
      have hc1 := hcl k hkn
      clear hcl
      rcases Nat.lt_or_ge k n' with hkn' | hkn'
      · obtain ⟨b', off', rfl, hbD', hcl'⟩ := hw2.cells (by omega)
        have hc2 := hcl' k hkn'
        clear hcl'
        rcases Int.lt_or_le ((gw l k : Int) - x - gw l' k) 0 with hneg | hneg
        · clear HLN'
          go_wp2_with (at_builtin; go_must (refine wpList_push _ rfl _ _ _ _ rfl w.heap.size 3 3 (.int .i64 0) 1 8 Tryz.underlying84 Tryz.underlying84 info_intA rfl (by omega) u5 k _ rfl hown [_] rfl rfl (by simp [Value.oneCell']) (by unfold maxLen; omega) (by omega) hbr.size ?_); intro A2 c2 w2 hown2 hgr2 hb2)
          go_roundw
          case rel =>
            obtain ⟨y, hy⟩ : ∃ y : Nat, (y : Int) = (gw l k : Int) - x - gw l' k + 65536 := ⟨((gw l k : Int) - x - gw l' k + 65536).toNat, by omega⟩
            rw [← hy] at hown2
            refine ⟨k + 1, 1, o ++ [y], by omega, by go_num, rfl, by omega, ?_, fun z hz => ?_, hbr.trans (hb2.mono (Nat.le_refl _)), ?_⟩
            · rw [List.map_append]
              simpa using hown2
            · rcases List.mem_append.1 hz with hz | hz
              · exact hsm z hz
              · rw [List.mem_singleton.1 hz]; omega
            · show _ = _
              have hl : o.length = k := by have := hown.1; rw [List.length_map] at this; omega
              rw [val_snoc, hl, val_take_succ, val_take_succ]
              exact minus_step k _ _ _ hinv.out (by omega)
          case measure => simp [intOf]; omega
        · clear HLN'
          go_wp2_with (at_builtin; go_must (refine wpList_push _ rfl _ _ _ _ rfl w.heap.size 3 3 (.int .i64 0) 1 8 Tryz.underlying84 Tryz.underlying84 info_intA rfl (by omega) u5 k _ rfl hown [_] rfl rfl (by simp [Value.oneCell']) (by unfold maxLen; omega) (by omega) hbr.size ?_); intro A2 c2 w2 hown2 hgr2 hb2)
          go_roundw
          case rel =>
            obtain ⟨y, hy⟩ : ∃ y : Nat, (y : Int) = (gw l k : Int) - x - gw l' k := ⟨((gw l k : Int) - x - gw l' k).toNat, by omega⟩
            rw [← hy] at hown2
            refine ⟨k + 1, 0, o ++ [y], by omega, by go_num, rfl, by omega, ?_, fun z hz => ?_, hbr.trans (hb2.mono (Nat.le_refl _)), ?_⟩
            · rw [List.map_append]
              simpa using hown2
            · rcases List.mem_append.1 hz with hz | hz
              · exact hsm z hz
              · rw [List.mem_singleton.1 hz]; omega
            · show _ = _
              have hl : o.length = k := by have := hown.1; rw [List.length_map] at this; omega
              rw [val_snoc, hl, val_take_succ, val_take_succ]
              exact minus_step k _ _ _ hinv.out (by omega)
          case measure => simp [intOf]; omega
      · have z2 := gw_ge (l := l') (j := k) (by rw [h'.len]; exact hkn')
        have Z2 := Lib.hid z2
        clear z2
        rcases Int.lt_or_le ((gw l k : Int) - x) 0 with hneg | hneg
        · clear HLN'
          go_wp2_with (at_builtin; go_must (refine wpList_push _ rfl _ _ _ _ rfl w.heap.size 3 3 (.int .i64 0) 1 8 Tryz.underlying84 Tryz.underlying84 info_intA rfl (by omega) u5 k _ rfl hown [_] rfl rfl (by simp [Value.oneCell']) (by unfold maxLen; omega) (by omega) hbr.size ?_); intro A2 c2 w2 hown2 hgr2 hb2)
          go_roundw
          case rel =>
            obtain ⟨y, hy⟩ : ∃ y : Nat, (y : Int) = (gw l k : Int) - x + 65536 := ⟨((gw l k : Int) - x + 65536).toNat, by have := Z2.out; omega⟩
            rw [← hy] at hown2
            refine ⟨k + 1, 1, o ++ [y], by omega, by go_num, rfl, by omega, ?_, fun z hz => ?_, hbr.trans (hb2.mono (Nat.le_refl _)), ?_⟩
            · rw [List.map_append]
              simpa using hown2
            · rcases List.mem_append.1 hz with hz | hz
              · exact hsm z hz
              · rw [List.mem_singleton.1 hz]; have := Z2.out; omega
            · show _ = _
              have hl : o.length = k := by have := hown.1; rw [List.length_map] at this; omega
              rw [val_snoc, hl, val_take_succ, val_take_succ]
              exact minus_step k _ _ _ hinv.out (by have := Z2.out; omega)
          case measure => simp [intOf]; omega
        · clear HLN'
          go_wp2_with (at_builtin; go_must (refine wpList_push _ rfl _ _ _ _ rfl w.heap.size 3 3 (.int .i64 0) 1 8 Tryz.underlying84 Tryz.underlying84 info_intA rfl (by omega) u5 k _ rfl hown [_] rfl rfl (by simp [Value.oneCell']) (by unfold maxLen; omega) (by omega) hbr.size ?_); intro A2 c2 w2 hown2 hgr2 hb2)
          go_roundw
          case rel =>
            obtain ⟨y, hy⟩ : ∃ y : Nat, (y : Int) = (gw l k : Int) - x := ⟨((gw l k : Int) - x).toNat, by have := Z2.out; omega⟩
            rw [← hy] at hown2
            refine ⟨k + 1, 0, o ++ [y], by omega, by go_num, rfl, by omega, ?_, fun z hz => ?_, hbr.trans (hb2.mono (Nat.le_refl _)), ?_⟩
            · rw [List.map_append]
              simpa using hown2
            · rcases List.mem_append.1 hz with hz | hz
              · exact hsm z hz
              · rw [List.mem_singleton.1 hz]; have := Z2.out; omega
            · show _ = _
              have hl : o.length = k := by have := hown.1; rw [List.length_map] at this; omega
              rw [val_snoc, hl, val_take_succ, val_take_succ]
              exact minus_step k _ _ _ hinv.out (by have := Z2.out; omega)
          case measure => simp [intOf]; omega
    · obtain rfl : k = n := by omega
      obtain ⟨A1, c1, rfl, hd⟩ := hd_of_own hown hsm
      go_wp2_with (go_at_call 99; ((with_reducible refine (rtrim_any hd (by omega)).mono ?_)); rintro e w1 ⟨v1, rfl, hv1, hb1⟩)
      go_ret
      have hv := hinv.out
      have b1 := val_lt h.small
      rw [h.len] at b1
      have hl1 : o.length = k := by have := hown.1; rw [List.length_map] at this; omega
      have b2 := val_lt hsm
      rw [hl1] at b2
      have hle := HLE.out
      rw [List.take_of_length_le (l := l) (by rw [h.len]; omega), val_take_of_lt (l := l') (by omega)] at hv
      have hx0 : x = 0 := by
        rcases Nat.eq_zero_or_pos x with h0 | h0
        · exact h0
        · exfalso
          have c4 : 65536 ^ k * 1 ≤ 65536 ^ k * x := Nat.mul_le_mul_left _ h0
          omega
      rw [hx0, Nat.mul_zero, Nat.add_zero] at hv
      rw [trim_eq_dig (by omega) hsm, show val 65536 o = val 65536 l - val 65536 l' from by omega] at hv1
      refine ⟨_, rfl, ?_, hbr.trans (hb1.mono hbr.size)⟩
      obtain ⟨A2, c2, rfl, hd2⟩ := hv1
      exact ⟨A2, c2, rfl, hd2.mono (fun b hb _ => by have : wr.heap.size ≤ b := hb; have := hbr.size; show w.heap.size ≤ b; omega)⟩

end Go.Proofs.YtdmdagilopckgaaGreat

namespace Go.Proofs.YtdmdagilopckgaaGreat
open Go.RowKit

theorem ret_boolA {a b : Bool} (h : a = b) : Ending.returned (.bool a) = .returned (.bool b) := by rw [h]

set_option maxHeartbeats 400000 in
theorem rless_any {D D' : Nat → Prop} {A A' : Option Addr} {n c n' c' : Nat} {l l' : List Nat} {w : World} (h : Hd w D A n c l) (h' : Hd w D' A' n' c' l') (ht : trim l = l) (ht' : trim l' = l') :
    Calls Tryz.prog 95 #[.slice A n c, .slice A' n' c'] w fun e w' => e = .returned (.bool (decide (val 65536 l < val 65536 l'))) ∧ ∃ m, w' = w.drewN m := by
  have HT := Lib.hid ht
  have HT' := Lib.hid ht'
  clear ht ht'
  have hr := h.room
  have hc := h.cap
  unfold maxLen at hr
  rcases Nat.lt_trichotomy n n' with hlt | heq | hgt
  · have hne : ((n : Int) != n') = true := by rw [bne_iff_ne]; omega
    go_enter Tryz.func95, Tryz.ntmps95
    go_wp2_with fail
    go_ret
    exact ⟨ret_boolA (decide_eq_true (val_lt_of_length (by omega) h.small HT'.out (by rw [h.len, h'.len]; exact hlt))).symm, 0, rfl⟩
  · subst heq
    have hne : ((n : Int) != n) = false := by simp
    go_enter Tryz.func95, Tryz.ntmps95
    go_wp2_with fail
    go_loopw [5] (fun i wr => ∃ (k : Nat), k ≤ n ∧ i = .int .i64 (k - 1) ∧ Hid (l.drop k = l'.drop k) ∧ ∃ m, wr = w.drewN m) (fun i _ => (intOf i + 1).toNat)
    case atStart => exact ⟨n, Nat.le_refl _, rfl, by rw [List.drop_of_length_le (by rw [h.len]; omega), List.drop_of_length_le (by rw [h'.len]; omega)]; rfl, 0, rfl⟩
    case round =>
      obtain ⟨k, hk, rfl, hd, m, rfl⟩ := hrel
      rcases Nat.eq_zero_or_pos k with h0 | h0
      · subst h0
        go_wp2_with fail
        go_ret
        have e := hd.out
        simp only [List.drop_zero] at e
        exact ⟨ret_boolA (by rw [e]; simp), m, rfl⟩
      · obtain ⟨j, rfl⟩ : ∃ j, k = j + 1 := ⟨k - 1, by omega⟩
        obtain ⟨b, off, rfl, hb, hcell⟩ := h.cells (by omega)
        obtain ⟨b', off', rfl, hb', hcell'⟩ := h'.cells (by omega)
        have hc1 := hcell j (by omega)
        have hc2 := hcell' j (by omega)
        clear hcell hcell'
        have hi : (((j + 1 : Nat) : Int) - 1) = (j : Int) := by omega
        rw [hi]
        clear hi
        have hj0 : (0 : Int) ≤ (j : Int) := by omega
        have hjn : (j : Int) < (n : Int) := by omega
        have hl1 := h.len
        have hl2 := h'.len
        have HL1 := Lib.hid hl1
        have HL2 := Lib.hid hl2
        clear hl1 hl2
        rcases Nat.lt_trichotomy (gw l j) (gw l' j) with hlt | heq | hgt
        · have e1 : ((gw l j : Int) != gw l' j) = true := by rw [bne_iff_ne]; omega
          go_wp2_with fail
          go_quiet (fail)
          go_wp2_with fail
          go_quiet (fail)
          go_wp2_with fail
          go_ret
          exact ⟨ret_boolA (decide_eq_true (val_lt_of_drop (k := j) h.small (by rw [HL1.out]; omega) (by rw [HL2.out]; omega) hd.out hlt)).symm, _, by rw [World.drewN_drewN, World.drewN_drewN]⟩
        · have e1 : ((gw l j : Int) != gw l' j) = false := by simp [heq]
          have HE := Lib.hid heq
          clear heq
          go_wp2_with fail
          go_quiet (fail)
          go_wp2_with fail
          go_roundw
          case rel => 
            refine ⟨j, by omega, rfl, ?_, _, rfl⟩
            show _ = _
            rw [drop_gw (l := l) (k := j) (by rw [HL1.out]; omega), drop_gw (l := l') (k := j) (by rw [HL2.out]; omega), hd.out, HE.out]
          case measure => simp [intOf]
        · have e1 : ((gw l j : Int) != gw l' j) = true := by rw [bne_iff_ne]; omega
          go_wp2_with fail
          go_quiet (fail)
          go_wp2_with fail
          go_quiet (fail)
          go_wp2_with fail
          go_ret
          exact ⟨ret_boolA ((decide_eq_false (by omega)).trans (decide_eq_false (Nat.lt_asymm (val_lt_of_drop (k := j) h'.small (by rw [HL2.out]; omega) (by rw [HL1.out]; omega) hd.out.symm hgt))).symm), _, by rw [World.drewN_drewN, World.drewN_drewN]⟩
  · have hne : ((n : Int) != n') = true := by rw [bne_iff_ne]; omega
    go_enter Tryz.func95, Tryz.ntmps95
    go_wp2_with fail
    go_ret
    exact ⟨ret_boolA ((decide_eq_false (by omega)).trans (decide_eq_false (Nat.lt_asymm (val_lt_of_length (by omega) h'.small HT.out (by rw [h.len, h'.len]; exact hgt)))).symm), 0, rfl⟩

theorem rless_b {D D' : Nat → Prop} {A A' : Option Addr} {n c n' c' : Nat} {l l' : List Nat} {w : World} (h : Hd w D A n c l) (h' : Hd w D' A' n' c' l') (ht : trim l = l) (ht' : trim l' = l') :
    Calls Tryz.prog 95 #[.slice A n c, .slice A' n' c'] w fun e w' => e = .returned (.bool (decide (val 65536 l < val 65536 l'))) ∧ Below w.heap.size w w' :=
  (rless_any h h' ht ht').mono fun e w' ⟨he, m, hw⟩ => ⟨he, by rw [hw]; exact below_drewN' (Below.refl _ _) m⟩

end Go.Proofs.YtdmdagilopckgaaGreat

namespace Go.Proofs.YtdmdagilopckgaaGreat
open Go.RowKit

theorem mul_bound16 {a b : Nat} (ha : a < 65536) (hb : b < 65536) : a * b ≤ 4294836225 := by
  have h1 : a * b ≤ 65535 * b := Nat.mul_le_mul_right _ (by omega)
  have h2 : 65535 * b ≤ 65535 * 65535 := Nat.mul_le_mul_left _ (by omega)
  omega

/-- While there is a carry the place is within the product. -/
theorem carry_in {B n' p j x g V : Nat} {l l' : List Nat} (hB : 0 < B) (hs : ∀ y ∈ l, y < B) (hs' : ∀ y ∈ l', y < B) (hl' : l'.length = n') (hp : p < l.length) (hj : n' ≤ j) (hg : g = gw l p)
    (hv : V + B ^ (p + j) * x = val B (l.take p) * val B l' + B ^ p * (g * val B (l'.take j))) (hx : 0 < x) : j = n' := by
  rw [List.take_of_length_le (l := l') (by omega), hg, ← Nat.mul_assoc, ← Nat.add_mul, ← val_take_succ] at hv
  have b1 : val B (l.take (p + 1)) < B ^ (p + 1) := by
    have := val_lt (b := B) (l := l.take (p + 1)) (fun y hy => hs y (List.mem_of_mem_take hy))
    rwa [List.length_take, Nat.min_eq_left (by omega)] at this
  have b2 := val_lt hs'
  rw [hl'] at b2
  have b3 : val B (l.take (p + 1)) * val B l' < B ^ (p + 1) * B ^ n' := Nat.mul_lt_mul'' b1 b2
  rw [← Nat.pow_add] at b3
  rcases Nat.lt_or_ge n' j with h1 | h1
  · exfalso
    have c1 : B ^ (p + 1 + n') ≤ B ^ (p + j) := Nat.pow_le_pow_right hB (by omega)
    have c2 : B ^ (p + j) * 1 ≤ B ^ (p + j) * x := Nat.mul_le_mul_left _ hx
    omega
  · omega

set_option maxRecDepth 100000 in
set_option maxHeartbeats 2000000 in
theorem rtimes_any {D D' : Nat → Prop} {A A' : Option Addr} {n c n' c' : Nat} {l l' : List Nat} {w : World} (h : Hd w D A n c l) (h' : Hd w D' A' n' c' l') (hn : n ≤ 4000000000000) (hn' : n' ≤ 4000000000000) :
    Calls Tryz.prog 97 #[.slice A n c, .slice A' n' c'] w (Gives w fun w' v => HdV w' (w.heap.size ≤ ·) v (dig 65536 (val 65536 l * val 65536 l'))) := by
  obtain ⟨N, hN⟩ : ∃ N, N = n + n' + 1 := ⟨_, rfl⟩
  have hN1 : n + n' < N := by omega
  have hN3 : N ≤ 8000000000001 := by omega
  have HN := Lib.hid hN
  clear hN
  go_enter Tryz.func97, Tryz.ntmps97
  go_wp2_with (at_make; go_must (refine wpList_make_arr _ rfl _ _ _ rfl 3 (.int .i64 0) 1 8 Tryz.underlying84 info_intA _ _ _ _ N rfl rfl (by have := HN.out; omega) (by have := HN.out; omega) (by omega) (by omega) ?_); intro w1 ha hb hz)
  have HZ := Lib.hid hz
  clear hz
  go_loopw [6] (fun i wr => ∃ (k : Nat) (out : List Nat), k ≤ n ∧ i = .int .i64 k ∧ HArr wr w.heap.size out ∧ Hid (out.length = N) ∧ (∀ y ∈ out, y < 65536) ∧ Below w.heap.size w wr ∧
       Hid (val 65536 out = val 65536 (l.take k) * val 65536 l')) (fun i _ => n - (intOf i).toNat)
  case atStart =>
    exact ⟨0, List.replicate N 0, by omega, rfl, HArr.made ha, List.length_replicate, fun y hy => by rw [List.eq_of_mem_replicate hy]; omega, hb, by
      show _ = _
      rw [val_zeros]; simp [val]⟩
  case round =>
    obtain ⟨k, out, hk, rfl, harr, hlen, hsm, hbl, hinv⟩ := hrel
    have HLN := Lib.hid h.len
    have HLN' := Lib.hid h'.len
    rcases Nat.lt_or_ge k n with hkN | hkN
    · have g1 := gw_bound h.small (by omega) k
      go_wp2_with fail
      obtain ⟨wo, rfl⟩ : ∃ wo : World, wo = wr := ⟨_, rfl⟩
      go_loopw [7, 8] (fun cr i wr => ∃ (j x : Nat) (o2 : List Nat), j ≤ n' + 1 ∧ i = .int .i64 j ∧ cr = .int .i64 x ∧ x < 65536 ∧ HArr wr w.heap.size o2 ∧ Hid (o2.length = N) ∧ (∀ y ∈ o2, y < 65536) ∧ Below w.heap.size w wr ∧
          Hid (val 65536 o2 + 65536 ^ (k + j) * x = val 65536 (l.take k) * val 65536 l' + 65536 ^ k * (gw l k * val 65536 (l'.take j)))) (fun _ i _ => n' + 1 - (intOf i).toNat)
      case atStart => exact ⟨0, 0, out, by omega, rfl, rfl, by omega, harr, hlen, hsm, hbl, by show _ = _; rw [hinv.out]; simp [val]⟩
      case round =>
        obtain ⟨j, x, o2, hj, rfl, rfl, hx, harr2, hlen2, hsm2, hbl2, hinv2⟩ := hrel
        have hw1 := h.below hbl2
        have hw2 := h'.below hbl2
        have hci := fun hx h1 => carry_in (by omega) h.small h'.small HLN'.out (by rw [HLN.out]; exact hkN) h1 rfl hinv2.out hx
        have HCI := Lib.hid hci
        clear hci
        rcases Nat.lt_or_ge j n' with hjN | hjN
        · obtain ⟨b, off, rfl, hbD, hcl⟩ := hw1.cells (by omega)
          have hc1 := hcl k hkN
          clear hcl
          obtain ⟨b', off', rfl, hbD', hcl'⟩ := hw2.cells (by omega)
          have hc2 := hcl' j hjN
          clear hcl'
          have g2 := gw_bound h'.small (by omega) j
          have g3 := gw_bound hsm2 (by omega) (k + j)
          have hcell := harr2.cell (i := k + j) (by rw [hlen2.out]; omega)
          have hfz := harr2.frozen (k + j)
          have hp := mul_bound16 g1 g2
          have hk0 : (0 : Int) ≤ (k : Int) := by omega
          have hk1 : (k : Int) < (n : Int) := by omega
          have hj0 : (0 : Int) ≤ (j : Int) := by omega
          have hj1 : (j : Int) < (n' : Int) := by omega
          have hpi : (gw l k : Int) * (gw l' j : Int) ≤ 4294836225 := by rw [← Int.natCast_mul]; omega
          have hpi0 : (0 : Int) ≤ (gw l k : Int) * (gw l' j : Int) := Int.mul_nonneg (by omega) (by omega)
          have a4 : IntKind.i64.wrap ((gw l k : Int) * (gw l' j : Int)) = (gw l k : Int) * (gw l' j : Int) := IntWalk.i64_in _ (by omega)
          have a5 : IntKind.i64.wrap ((x : Int) + gw o2 (k + j) + (gw l k : Int) * (gw l' j : Int)) = (x : Int) + gw o2 (k + j) + (gw l k : Int) * (gw l' j : Int) := IntWalk.i64_in _ (by omega)
          go_wp2_with fail
          go_quiet (fail)
          clear a4 a5
          go_wp2_with fail
          go_roundw
          case rel =>
            have e : ((x : Int) + (gw o2 (k + j) : Int) + (gw l k : Int) * (gw l' j : Int)) = ((gw l k * gw l' j + gw o2 (k + j) + x : Nat) : Int) := by rw [Int.natCast_add, Int.natCast_add, Int.natCast_mul]; omega
            rw [e]
            clear hpi hpi0 e
            generalize hs : gw l k * gw l' j + gw o2 (k + j) + x = s
            have hlt : k + j < o2.length := by rw [hlen2.out]; omega
            refine ⟨j + 1, s / 65536, o2.set (k + j) (s % 65536), by omega, by go_num, by go_num, by omega, by simpa using (show HArr (wr.drewN nq) _ _ from harr2).set_ (k + j) (s % 65536), by simpa [Hid] using hlen2, fun z hz => ?_, (below_drewN' hbl2 nq).setCell (Nat.le_refl _) _, ?_⟩
            · rcases List.mem_or_eq_of_mem_set hz with hz | rfl
              · exact hsm2 z hz
              · omega
            · show _ = _
              refine times_step (q := s / 65536) (val_set _ _ (k + j) _ hlt) ?_ hinv2.out (val_take_succ _ _ _) ?_
              · rw [hs]; exact Nat.mod_add_div s 65536
              · rw [Nat.add_assoc]
          case measure => simp [intOf]; omega
        · rcases Nat.eq_zero_or_pos x with hx0 | hx0
          · subst hx0
            go_wp2_with fail
            go_roundw
            case rel =>
              refine ⟨k + 1, o2, by omega, by go_num, harr2, hlen2, hsm2, hbl2, ?_⟩
              show _ = _
              have hv := hinv2.out
              rw [Nat.mul_zero, Nat.add_zero, List.take_of_length_le (l := l') (by rw [HLN'.out]; exact hjN)] at hv
              rw [hv, val_take_succ, Nat.add_mul, Nat.mul_assoc]
            case measure => simp [intOf]; omega
          · have hjn := HCI.out hx0 hjN
            have hjn' : j ≤ n' := by omega
            have HJ := Lib.hid hjn
            clear hjn
            have g3 := gw_bound hsm2 (by omega) (k + j)
            have hcell := harr2.cell (i := k + j) (by rw [hlen2.out]; omega)
            have hfz := harr2.frozen (k + j)
            go_wp2_with fail
            go_roundw
            case rel =>
              have e : ((x : Int) + (gw o2 (k + j) : Int)) = ((gw l k * gw l' j + gw o2 (k + j) + x : Nat) : Int) := by
                rw [gw_ge (l := l') (j := j) (by rw [HLN'.out]; exact hjN)]; omega
              rw [e]
              generalize hs : gw l k * gw l' j + gw o2 (k + j) + x = s
              have hslt : s < 131072 := by omega
              have hlt : k + j < o2.length := by rw [hlen2.out]; omega
              refine ⟨j + 1, s / 65536, o2.set (k + j) (s % 65536), by omega, by go_num, by go_num, by omega, by simpa using harr2.set_ (k + j) (s % 65536), by simpa [Hid] using hlen2, fun z hz => ?_, hbl2.setCell (Nat.le_refl _) _, ?_⟩
              · rcases List.mem_or_eq_of_mem_set hz with hz | rfl
                · exact hsm2 z hz
                · omega
              · show _ = _
                refine times_step (q := s / 65536) (val_set _ _ (k + j) _ hlt) ?_ hinv2.out (val_take_succ _ _ _) ?_
                · rw [hs]; exact Nat.mod_add_div s 65536
                · rw [Nat.add_assoc]
            case measure => simp [intOf]; omega
    · obtain rfl : k = n := by omega
      have hlen' := hlen.out
      have hwd := harr.wd hsm (by rw [hlen']; unfold maxLen; omega) (D := (w.heap.size ≤ ·)) (Nat.le_refl _)
      rw [hlen'] at hwd
      clear hlen'
      go_wp2_with (go_at_call 99; ((with_reducible refine (rtrim_any hwd (by omega)).mono ?_)); rintro e w1 ⟨v1, rfl, hv1, hb1⟩)
      go_ret
      have hv := hinv.out
      rw [List.take_of_length_le (by rw [h.len]; omega)] at hv
      rw [trim_eq_dig (by omega) hsm, hv] at hv1
      refine ⟨_, rfl, ?_, hbl.trans (hb1.mono hbl.size)⟩
      obtain ⟨A2, c2, rfl, hd2⟩ := hv1
      exact ⟨A2, c2, rfl, hd2.mono (fun b hb _ => by have : wr.heap.size ≤ b := hb; have := hbl.size; show w.heap.size ≤ b; omega)⟩

end Go.Proofs.YtdmdagilopckgaaGreat

namespace Go.Proofs.YtdmdagilopckgaaGreat
open Go.RowKit

theorem Wd.b {w : World} {A : Option Addr} {n c : Nat} {l : List Nat} (h : Wd w (fun _ => True) A n c l) (neg : Bool) (hn : n ≤ 1000000000000) : IntB w (.agg #[.bool neg, .slice A n c]) (sg neg (val 4294967296 l)) := ⟨neg, A, n, c, l, rfl, h, rfl, hn⟩
/-- Twice as many half words as words. -/
theorem hl_le (m : Nat) : (dig 65536 m).length ≤ 2 * wl m := by
  have h1 := val_lt (dig_lt (b := 4294967296) (by omega) m)
  rw [val_dig (by omega)] at h1
  refine dig_length_le (by omega) ?_
  rw [Nat.pow_mul]
  exact h1
theorem hl_val {w : World} {D : Nat → Prop} {A : Option Addr} {n c : Nat} {l : List Nat} (h : Wd w D A n c l) : (dig 65536 (val 4294967296 l)).length ≤ 2 * n := by
  have h1 := val_lt h.small
  rw [h.len] at h1
  refine dig_length_le (by omega) ?_
  rw [Nat.pow_mul]
  exact h1

set_option maxHeartbeats 1000000 in
theorem rNormal_any {v : Value} {x : Int} {w : World} (h : IntB w v x) :
    Calls Tryz.prog 29 #[v] w (Gives w fun w' v => NIntV w' (w.heap.size ≤ ·) v x) := by
  obtain ⟨neg, A, n, c, l, rfl, h, rfl, hn⟩ := h
  have hl := hl_val h
  go_enter Tryz.func29, Tryz.ntmps29
  go_wp2_with fail
  obtain ⟨W, R, hW, hR, hbW, HR, c0, c1, hlt⟩ := boxes1 w (.bool neg) (.slice A n c)
  rw [← hW, ← hR]
  clear hW hR
  go_region_held3 (fun w' => (∀ b o, b < R → w'.cell? ⟨b, o, none⟩ = W.cell? ⟨b, o, none⟩) ∧ Held R W w')
    (first | exact Held.init _ _ HR.out | (go_split_ands; exact Held.call (by assumption) (by assumption)) | (go_split_ands; exact Held.again (by assumption)) | (go_split_ands; exact Held.store (by assumption) _ _))
    (first
      | (go_at_call 61; go_split_ands; ((with_reducible refine (digits_any ((h.below (Held.from (R := R) (W := W) (by assumption) hbW (by omega))).b neg hn)).mono ?_)); rintro e w1 ⟨v1, rfl, ⟨A1, c1, rfl, hd1⟩, hb1⟩; rw [sg_natAbs] at hd1 ⊢)
      | (go_at_call 60; go_split_ands; ((with_reducible refine (rmade_any hd1 (by omega)).mono ?_)); rintro e w2 ⟨v2, rfl, ⟨A2, c2, rfl, hwd2⟩, hb2⟩; have hh := (Held.call hb2 (by assumption)).2; have hl2 := Held.call_lt (R := R) (W := W) hb2 (by assumption); obtain ⟨u0, u1, hr0, hr1, hf0, hf1⟩ := hh.cells))
  go_wp2_with fail
  refine bodyPost_ret (v := .agg #[.bool _, .slice A2 _ c2]) (by simp [results, Tryz.results29, go_sem, hr0, hr1]; exact ⟨rfl, rfl⟩) rfl ⟨_, rfl, ?_, hh.put hbW (by omega) _ _⟩
  exact (nint_put (w := w) hl2 hwd2 (by omega) _ _).cast (by rw [val_dig (by omega)])

set_option maxHeartbeats 1000000 in
theorem rNeg_any {v : Value} {x : Int} {w : World} (h : IntB w v x) :
    Calls Tryz.prog 92 #[v] w (Gives w fun w' v => NIntV w' (w.heap.size ≤ ·) v (-x)) := by
  obtain ⟨neg, A, n, c, l, rfl, h, rfl, hn⟩ := h
  have hl := hl_val h
  go_enter Tryz.func92, Tryz.ntmps92
  go_wp2_with fail
  obtain ⟨W, R, hW, hR, hbW, HR, c0, c1, hlt⟩ := boxes1 w (.bool neg) (.slice A n c)
  rw [← hW, ← hR]
  clear hW hR
  go_region_held3 (fun w' => (∀ b o, b < R → w'.cell? ⟨b, o, none⟩ = W.cell? ⟨b, o, none⟩) ∧ Held R W w')
    (first | exact Held.init _ _ HR.out | (go_split_ands; exact Held.call (by assumption) (by assumption)) | (go_split_ands; exact Held.again (by assumption)) | (go_split_ands; exact Held.store (by assumption) _ _))
    (first
      | (go_at_call 61; go_split_ands; ((with_reducible refine (digits_any ((h.below (Held.from (R := R) (W := W) (by assumption) hbW (by omega))).b neg hn)).mono ?_)); rintro e w1 ⟨v1, rfl, ⟨A1, c1, rfl, hd1⟩, hb1⟩; rw [sg_natAbs] at hd1 ⊢)
      | (go_at_call 60; go_split_ands; ((with_reducible refine (rmade_any hd1 (by omega)).mono ?_)); rintro e w2 ⟨v2, rfl, ⟨A2, c2, rfl, hwd2⟩, hb2⟩; have hh := (Held.call hb2 (by assumption)).2; have hl2 := Held.call_lt (R := R) (W := W) hb2 (by assumption); obtain ⟨u0, u1, hr0, hr1, hf0, hf1⟩ := hh.cells))
  go_wp2_with fail
  refine bodyPost_ret (v := .agg #[.bool _, .slice A2 _ c2]) (by simp [results, Tryz.results92, go_sem, hr0, hr1]; exact ⟨rfl, rfl⟩) rfl ⟨_, rfl, ?_, hh.put hbW (by omega) _ _⟩
  exact (nint_put (w := w) hl2 hwd2 (by omega) _ _).cast (by rw [val_dig (by omega), sg_not])

theorem rSign_any {v : Value} {x : Int} {w : World} (h : IntB w v x) :
    Calls Tryz.prog 93 #[v] w fun e w' => e = .returned (.int .i64 (cmpI x 0)) ∧ Below w.heap.size w w' := by
  obtain ⟨neg, A, n, c, l, rfl, h, hx, hn⟩ := h
  have HX := Lib.hid hx
  clear hx
  have key : ∀ e, cmpI x 0 = e → Hid (cmpI x 0 = e) := fun _ h => h
  by_cases h0 : val 4294967296 l = 0
  · have HE := Lib.hid (show cmpI x 0 = 0 by rw [HX.out, h0]; unfold sg cmpI; cases neg <;> rfl)
    have t1 : (((dig 65536 (val 4294967296 l)).length : Int) == 0) = true := by rw [h0]; rfl
    have H0 := Lib.hid h0
    clear h0 key
    go_enter Tryz.func93, Tryz.ntmps93
    go_wp2_with (go_at_call 61; go_must (refine (digits_any ((h.alloc _).b neg hn)).mono ?_); rintro e w1 ⟨v1, rfl, ⟨A1, c1, rfl, hd1⟩, hb1⟩; rw [sg_natAbs] at hd1 ⊢)
    go_ret
    exact ⟨ret_int HE.out.symm, ((Below.refl _ _).alloc (Nat.le_refl _) _).trans (hb1.mono (by simp))⟩
  · have t1 : (((dig 65536 (val 4294967296 l)).length : Int) == 0) = false := by
      have : (dig 65536 (val 4294967296 l)).length ≠ 0 := fun e => h0 ((dig_eq_nil (by omega)).1 (List.eq_nil_of_length_eq_zero e))
      simpa using this
    have H0 := Lib.hid h0
    clear h0 key
    cases neg
    · have HE := Lib.hid (show cmpI x 0 = 1 by rw [HX.out]; have := H0.out; unfold sg cmpI; simp; omega)
      go_enter Tryz.func93, Tryz.ntmps93
      go_wp2_with (go_at_call 61; go_must (refine (digits_any ((h.alloc _).b false hn)).mono ?_); rintro e w1 ⟨v1, rfl, ⟨A1, c1, rfl, hd1⟩, hb1⟩; rw [sg_natAbs] at hd1 ⊢; obtain ⟨hc1, hf1⟩ := bcell hb1)
      go_ret
      exact ⟨ret_int HE.out.symm, ((Below.refl _ _).alloc (Nat.le_refl _) _).trans (hb1.mono (by simp))⟩
    · have HE := Lib.hid (show cmpI x 0 = -1 by rw [HX.out]; have := H0.out; unfold sg cmpI; simp; omega)
      go_enter Tryz.func93, Tryz.ntmps93
      go_wp2_with (go_at_call 61; go_must (refine (digits_any ((h.alloc _).b true hn)).mono ?_); rintro e w1 ⟨v1, rfl, ⟨A1, c1, rfl, hd1⟩, hb1⟩; rw [sg_natAbs] at hd1 ⊢; obtain ⟨hc1, hf1⟩ := bcell hb1)
      go_ret
      exact ⟨ret_int HE.out.symm, ((Below.refl _ _).alloc (Nat.le_refl _) _).trans (hb1.mono (by simp))⟩

theorem dl_mul (a b : Nat) : (dig 65536 (a * b)).length ≤ (dig 65536 a).length + (dig 65536 b).length := by
  have h1 := val_lt (dig_lt (b := 65536) (by omega) a)
  have h2 := val_lt (dig_lt (b := 65536) (by omega) b)
  rw [val_dig (by omega)] at h1 h2
  refine dig_length_le (by omega) ?_
  rw [Nat.pow_add]
  exact Nat.mul_lt_mul'' h1 h2
theorem dl_add (a b : Nat) : (dig 65536 (a + b)).length ≤ max (dig 65536 a).length (dig 65536 b).length + 1 := by
  have h1 := val_lt (dig_lt (b := 65536) (by omega) a)
  have h2 := val_lt (dig_lt (b := 65536) (by omega) b)
  rw [val_dig (by omega)] at h1 h2
  refine dig_length_le (by omega) ?_
  have e1 : 65536 ^ (dig 65536 a).length ≤ 65536 ^ max (dig 65536 a).length (dig 65536 b).length := Nat.pow_le_pow_right (by omega) (Nat.le_max_left _ _)
  have e2 : 65536 ^ (dig 65536 b).length ≤ 65536 ^ max (dig 65536 a).length (dig 65536 b).length := Nat.pow_le_pow_right (by omega) (Nat.le_max_right _ _)
  rw [Nat.pow_succ]
  omega
theorem dl_le {a b : Nat} (h : a ≤ b) : (dig 65536 a).length ≤ (dig 65536 b).length := by
  have h1 := val_lt (dig_lt (b := 65536) (by omega) b)
  rw [val_dig (by omega)] at h1
  exact dig_length_le (by omega) (by omega)

set_option maxHeartbeats 1000000 in
theorem rMul_any {v v' : Value} {x y : Int} {w : World} (h : IntB w v x) (h' : IntB w v' y) :
    Calls Tryz.prog 57 #[v, v'] w (Gives w fun w' v => NIntV w' (w.heap.size ≤ ·) v (x * y)) := by
  obtain ⟨neg, A, n, c, l, rfl, h, rfl, hn⟩ := h
  obtain ⟨neg', A', n', c', l', rfl, h', rfl, hn'⟩ := h'
  have hl := hl_val h
  have hl' := hl_val h'
  have hdl := dl_mul (val 4294967296 l) (val 4294967296 l')
  go_enter Tryz.func57, Tryz.ntmps57
  go_wp2_with fail
  obtain ⟨W, P, R, hW, hP, hR, hbW, HR, c0, c1, d0, d1, hlt, hlt2⟩ := boxes2 w (.bool neg) (.slice A n c) (.bool neg') (.slice A' n' c')
  rw [← hW, ← hR, ← hP]
  clear hW hP hR
  go_region_held3 (fun w' => (∀ b o, b < R → w'.cell? ⟨b, o, none⟩ = W.cell? ⟨b, o, none⟩) ∧ Held R W w')
    (first | exact Held.init _ _ HR.out | (go_split_ands; exact Held.call (by assumption) (by assumption)) | (go_split_ands; exact Held.again (by assumption)) | (go_split_ands; exact Held.store (by assumption) _ _))
    (first
      | (go_at_call 61; go_split_ands; ((with_reducible refine (digits_any ((h.below (Held.from (R := R) (W := W) (by assumption) hbW (by omega))).b neg hn)).mono ?_)); rintro e w1 ⟨v1, rfl, ⟨A1, c1, rfl, hd1⟩, hb1⟩; rw [sg_natAbs] at hd1 ⊢)
      | (go_at_call 61; go_split_ands; ((with_reducible refine (digits_any ((h'.below (Held.from (R := R) (W := W) (by assumption) hbW (by omega))).b neg' hn')).mono ?_)); rintro e w2 ⟨v2, rfl, ⟨A2', c2', rfl, hd2⟩, hb2'⟩; rw [sg_natAbs] at hd2 ⊢)
      | (go_at_call 97; go_split_ands; ((with_reducible refine (rtimes_any (hd1.below hb2') hd2 (by omega) (by omega)).mono ?_)); rintro e w3 ⟨v3, rfl, ⟨A3, c3, rfl, hd3⟩, hb3⟩; rw [val_dig (by omega), val_dig (by omega)] at hd3 ⊢)
      | (go_at_call 60; go_split_ands; ((with_reducible refine (rmade_any hd3 (by omega)).mono ?_)); rintro e w2 ⟨v2, rfl, ⟨A2, c2, rfl, hwd2⟩, hb2⟩; have hh := (Held.call hb2 (by assumption)).2; have hl2 := Held.call_lt (R := R) (W := W) hb2 (by assumption); obtain ⟨u0, u1, hr0, hr1, hf0, hf1⟩ := hh.cells))
  go_wp2_with fail
  refine bodyPost_ret (v := .agg #[.bool _, .slice A2 _ c2]) (by simp [results, Tryz.results57, go_sem, hr0, hr1]; exact ⟨rfl, rfl⟩) rfl ⟨_, rfl, ?_, hh.put hbW (by omega) _ _⟩
  exact (nint_put (w := w) hl2 hwd2 (by omega) _ _).cast (by rw [val_dig (by omega)]; exact sg_mul _ _ _ _)

set_option maxHeartbeats 2000000 in
theorem rAdd_any {v v' : Value} {x y : Int} {w : World} (h : IntB w v x) (h' : IntB w v' y) :
    Calls Tryz.prog 56 #[v, v'] w (Gives w fun w' v => NIntV w' (w.heap.size ≤ ·) v (x + y)) := by
  obtain ⟨neg, A, n, c, l, rfl, h, rfl, hn⟩ := h
  obtain ⟨neg', A', n', c', l', rfl, h', rfl, hn'⟩ := h'
  have hl := hl_val h
  have hl' := hl_val h'
  have hdl := dl_add (val 4294967296 l) (val 4294967296 l')
  have T1 := Lib.hid (trim_dig (b := 65536) (by omega) (val 4294967296 l))
  have T2 := Lib.hid (trim_dig (b := 65536) (by omega) (val 4294967296 l'))
  by_cases hne : neg = neg'
  · have ht : (neg == neg') = true := by simp [hne]
    have HN := Lib.hid hne
    clear hne
    go_enter Tryz.func56, Tryz.ntmps56
    go_wp2_with fail
    obtain ⟨W, P, R, hW, hP, hR, hbW, HR, c0, c1, d0, d1, hlt, hlt2⟩ := boxes2 w (.bool neg) (.slice A n c) (.bool neg') (.slice A' n' c')
    rw [← hW, ← hR, ← hP]
    clear hW hP hR
    go_region_held3 (fun w' => (∀ b o, b < R → w'.cell? ⟨b, o, none⟩ = W.cell? ⟨b, o, none⟩) ∧ Held R W w')
      (first | exact Held.init _ _ HR.out | (go_split_ands; exact Held.call (by assumption) (by assumption)) | (go_split_ands; exact Held.again (by assumption)) | (go_split_ands; exact Held.store (by assumption) _ _))
      (first
        | (go_at_call 61; go_split_ands; ((with_reducible refine (digits_any ((h.below (Held.from (R := R) (W := W) (by assumption) hbW (by omega))).b neg hn)).mono ?_)); rintro e w1 ⟨v1, rfl, ⟨A1, c1, rfl, hd1⟩, hb1⟩; rw [sg_natAbs] at hd1 ⊢)
        | (go_at_call 61; go_split_ands; ((with_reducible refine (digits_any ((h'.below (Held.from (R := R) (W := W) (by assumption) hbW (by omega))).b neg' hn')).mono ?_)); rintro e w2 ⟨v2, rfl, ⟨A2', c2', rfl, hd2⟩, hb2'⟩; rw [sg_natAbs] at hd2 ⊢))
    go_split_ands
    have hdA := hd1.below hb2'
    go_wp2_with fail
    go_region_held3 (fun w' => (∀ b o, b < R → w'.cell? ⟨b, o, none⟩ = W.cell? ⟨b, o, none⟩) ∧ Held R W w')
      (first | exact Held.init _ _ HR.out | (go_split_ands; exact Held.call (by assumption) (by assumption)) | (go_split_ands; exact Held.again (by assumption)) | (go_split_ands; exact Held.store (by assumption) _ _))
      (first
        | (go_at_call 94; go_split_ands; ((with_reducible refine (rplus_any hdA.drew hd2.drew (by omega) (by omega)).mono ?_)); rintro e w3 ⟨v3, rfl, ⟨A3, c3, rfl, hd3⟩, hb3⟩; rw [val_dig (by omega), val_dig (by omega)] at hd3 ⊢)
        | (go_at_call 60; go_split_ands; ((with_reducible refine (rmade_any hd3 (by omega)).mono ?_)); rintro e w2 ⟨v2, rfl, ⟨A2, c2, rfl, hwd2⟩, hb2⟩; have hh := (Held.call hb2 (by assumption)).2; have hl2 := Held.call_lt (R := R) (W := W) hb2 (by assumption); obtain ⟨u0, u1, hr0, hr1, hf0, hf1⟩ := hh.cells))
    go_wp2_with fail
    refine bodyPost_ret (v := .agg #[.bool _, .slice A2 _ c2]) (by simp [results, Tryz.results56, go_sem, hr0, hr1]; exact ⟨rfl, rfl⟩) rfl ⟨_, rfl, ?_, hh.put hbW (by omega) _ _⟩
    exact (nint_put (w := w) hl2 hwd2 (by omega) _ _).cast (by rw [val_dig (by omega), sg_same, HN.out])
  · have ht : (neg == neg') = false := by simp [hne]
    have HN := Lib.hid ht
    by_cases hle : val 4294967296 l < val 4294967296 l'
    · have hcmp : decide (val 4294967296 l < val 4294967296 l') = true := by simpa using hle
      have HLE := Lib.hid (Nat.le_of_lt hle)
      have hdl2 := dl_le (Nat.sub_le (val 4294967296 l') (val 4294967296 l))
      clear hle
      go_enter Tryz.func56, Tryz.ntmps56
      go_wp2_with fail
      obtain ⟨W, P, R, hW, hP, hR, hbW, HR, c0, c1, d0, d1, hlt, hlt2⟩ := boxes2 w (.bool neg) (.slice A n c) (.bool neg') (.slice A' n' c')
      rw [← hW, ← hR, ← hP]
      clear hW hP hR
      go_region_held3 (fun w' => (∀ b o, b < R → w'.cell? ⟨b, o, none⟩ = W.cell? ⟨b, o, none⟩) ∧ Held R W w')
        (first | exact Held.init _ _ HR.out | (go_split_ands; exact Held.call (by assumption) (by assumption)) | (go_split_ands; exact Held.again (by assumption)) | (go_split_ands; exact Held.store (by assumption) _ _))
        (first
          | (go_at_call 61; go_split_ands; ((with_reducible refine (digits_any ((h.below (Held.from (R := R) (W := W) (by assumption) hbW (by omega))).b neg hn)).mono ?_)); rintro e w1 ⟨v1, rfl, ⟨A1, c1, rfl, hd1⟩, hb1⟩; rw [sg_natAbs] at hd1 ⊢)
          | (go_at_call 61; go_split_ands; ((with_reducible refine (digits_any ((h'.below (Held.from (R := R) (W := W) (by assumption) hbW (by omega))).b neg' hn')).mono ?_)); rintro e w2 ⟨v2, rfl, ⟨A2', c2', rfl, hd2⟩, hb2'⟩; rw [sg_natAbs] at hd2 ⊢))
      go_split_ands
      have hdA := hd1.below hb2'
      go_wp2_with (go_at_call 95; ((with_reducible refine (rless_b hdA hd2 T1.out T2.out).mono ?_)); rintro e w3 ⟨rfl, hb3⟩; rw [val_dig (by omega), val_dig (by omega)]; obtain ⟨hd3a, hd3⟩ := Held.call (R := R) (W := W) hb3 (by assumption))
      go_region_held3 (fun w' => (∀ b o, b < R → w'.cell? ⟨b, o, none⟩ = W.cell? ⟨b, o, none⟩) ∧ Held R W w')
        (first | exact Held.init _ _ HR.out | (go_split_ands; exact Held.call (by assumption) (by assumption)) | (go_split_ands; exact Held.again (by assumption)) | (go_split_ands; exact Held.store (by assumption) _ _))
        (first
          | (go_at_call 96; go_split_ands; ((with_reducible refine (rminus_any (hd2.below hb3).drew (hdA.below hb3).drew (by omega) (by rw [val_dig (by omega), val_dig (by omega)]; exact HLE.out)).mono ?_)); rintro e w4 ⟨v3, rfl, ⟨A3, c3, rfl, hd4⟩, hb4⟩; rw [val_dig (by omega), val_dig (by omega)] at hd4 ⊢)
          | (go_at_call 60; go_split_ands; ((with_reducible refine (rmade_any hd4 (by omega)).mono ?_)); rintro e w2 ⟨v2, rfl, ⟨A2, c2, rfl, hwd2⟩, hb2⟩; have hh := (Held.call hb2 (by assumption)).2; have hl2 := Held.call_lt (R := R) (W := W) hb2 (by assumption); obtain ⟨u0, u1, hr0, hr1, hf0, hf1⟩ := hh.cells))
      go_wp2_with fail
      refine bodyPost_ret (v := .agg #[.bool _, .slice A2 _ c2]) (by simp [results, Tryz.results56, go_sem, hr0, hr1]; exact ⟨rfl, rfl⟩) rfl ⟨_, rfl, ?_, hh.put hbW (by omega) _ _⟩
      exact (nint_put (w := w) hl2 hwd2 (by omega) _ _).cast (by rw [val_dig (by omega), sg_diff2 HN.out HLE.out])
    · have hcmp : decide (val 4294967296 l < val 4294967296 l') = false := by simpa using hle
      have HLE := Lib.hid (show val 4294967296 l' ≤ val 4294967296 l by omega)
      have hdl2 := dl_le (Nat.sub_le (val 4294967296 l) (val 4294967296 l'))
      clear hle
      go_enter Tryz.func56, Tryz.ntmps56
      go_wp2_with fail
      obtain ⟨W, P, R, hW, hP, hR, hbW, HR, c0, c1, d0, d1, hlt, hlt2⟩ := boxes2 w (.bool neg) (.slice A n c) (.bool neg') (.slice A' n' c')
      rw [← hW, ← hR, ← hP]
      clear hW hP hR
      go_region_held3 (fun w' => (∀ b o, b < R → w'.cell? ⟨b, o, none⟩ = W.cell? ⟨b, o, none⟩) ∧ Held R W w')
        (first | exact Held.init _ _ HR.out | (go_split_ands; exact Held.call (by assumption) (by assumption)) | (go_split_ands; exact Held.again (by assumption)) | (go_split_ands; exact Held.store (by assumption) _ _))
        (first
          | (go_at_call 61; go_split_ands; ((with_reducible refine (digits_any ((h.below (Held.from (R := R) (W := W) (by assumption) hbW (by omega))).b neg hn)).mono ?_)); rintro e w1 ⟨v1, rfl, ⟨A1, c1, rfl, hd1⟩, hb1⟩; rw [sg_natAbs] at hd1 ⊢)
          | (go_at_call 61; go_split_ands; ((with_reducible refine (digits_any ((h'.below (Held.from (R := R) (W := W) (by assumption) hbW (by omega))).b neg' hn')).mono ?_)); rintro e w2 ⟨v2, rfl, ⟨A2', c2', rfl, hd2⟩, hb2'⟩; rw [sg_natAbs] at hd2 ⊢))
      go_split_ands
      have hdA := hd1.below hb2'
      go_wp2_with (go_at_call 95; ((with_reducible refine (rless_b hdA hd2 T1.out T2.out).mono ?_)); rintro e w3 ⟨rfl, hb3⟩; rw [val_dig (by omega), val_dig (by omega)]; obtain ⟨hd3a, hd3⟩ := Held.call (R := R) (W := W) hb3 (by assumption))
      go_region_held3 (fun w' => (∀ b o, b < R → w'.cell? ⟨b, o, none⟩ = W.cell? ⟨b, o, none⟩) ∧ Held R W w')
        (first | exact Held.init _ _ HR.out | (go_split_ands; exact Held.call (by assumption) (by assumption)) | (go_split_ands; exact Held.again (by assumption)) | (go_split_ands; exact Held.store (by assumption) _ _))
        (first
          | (go_at_call 96; go_split_ands; ((with_reducible refine (rminus_any (hdA.below hb3).drew (hd2.below hb3).drew (by omega) (by rw [val_dig (by omega), val_dig (by omega)]; exact HLE.out)).mono ?_)); rintro e w4 ⟨v3, rfl, ⟨A3, c3, rfl, hd4⟩, hb4⟩; rw [val_dig (by omega), val_dig (by omega)] at hd4 ⊢)
          | (go_at_call 60; go_split_ands; ((with_reducible refine (rmade_any hd4 (by omega)).mono ?_)); rintro e w2 ⟨v2, rfl, ⟨A2, c2, rfl, hwd2⟩, hb2⟩; have hh := (Held.call hb2 (by assumption)).2; have hl2 := Held.call_lt (R := R) (W := W) hb2 (by assumption); obtain ⟨u0, u1, hr0, hr1, hf0, hf1⟩ := hh.cells))
      go_wp2_with fail
      refine bodyPost_ret (v := .agg #[.bool _, .slice A2 _ c2]) (by simp [results, Tryz.results56, go_sem, hr0, hr1]; exact ⟨rfl, rfl⟩) rfl ⟨_, rfl, ?_, hh.put hbW (by omega) _ _⟩
      exact (nint_put (w := w) hl2 hwd2 (by omega) _ _).cast (by rw [val_dig (by omega), sg_diff1 HN.out HLE.out])

set_option maxHeartbeats 1000000 in
theorem rSub_any {v v' : Value} {x y : Int} {w : World} (h : IntB w v x) (h' : IntB w v' y) :
    Calls Tryz.prog 59 #[v, v'] w (Gives w fun w' v => NIntV w' (w.heap.size ≤ ·) v (x - y)) := by
  have hwl := h'.wl
  obtain ⟨z, hz⟩ : ∃ z, z = -y := ⟨_, rfl⟩
  have hneg := fun w' (hb : Below w.heap.size w w') => rNeg_any (h'.below hb)
  rw [← hz] at hneg
  have HNEG := Lib.hid hneg
  have HZ := Lib.hid hz
  clear hneg hz
  obtain ⟨neg, A, n, c, l, rfl, h, hx, hn⟩ := h
  obtain ⟨neg', A', n', c', l', rfl, h', hy, hn'⟩ := h'
  have HX := Lib.hid hx
  have HY := Lib.hid hy
  clear hx hy
  go_enter Tryz.func59, Tryz.ntmps59
  go_wp2_with fail
  obtain ⟨W, P, R, hW, hP, hR, hbW, HR, c0, c1, d0, d1, hlt, hlt2⟩ := boxes2 w (.bool neg) (.slice A n c) (.bool neg') (.slice A' n' c')
  rw [← hW, ← hR, ← hP]
  clear hW hP hR
  go_region_held3 (fun w' => (∀ b o, b < R → w'.cell? ⟨b, o, none⟩ = W.cell? ⟨b, o, none⟩) ∧ Held R W w')
    (first | exact Held.init _ _ HR.out | (go_split_ands; exact Held.call (by assumption) (by assumption)) | (go_split_ands; exact Held.again (by assumption)) | (go_split_ands; exact Held.store (by assumption) _ _))
    (first
      | (go_at_call 92; go_split_ands; ((with_reducible refine (HNEG.out _ (Held.from (R := R) (W := W) (by assumption) hbW (by omega))).mono ?_)); rintro e w3 ⟨v3, rfl, hv3, hb3⟩)
      | (go_at_call 56; go_split_ands; ((with_reducible refine (rAdd_any ((h.below (Held.from (R := R) (W := W) (by assumption) hbW (by omega))).b neg hn) (hv3.b (by have := HZ.out; rw [this, Int.natAbs_neg]; exact hwl))).mono ?_)); rintro e w2 ⟨v2, rfl, ⟨A2, c2, rfl, hwd2⟩, hb2⟩; have hh := (Held.call hb2 (by assumption)).2; have hl2 := Held.call_lt (R := R) (W := W) hb2 (by assumption); obtain ⟨u0, u1, hr0, hr1, hf0, hf1⟩ := hh.cells))
  go_wp2_with fail
  refine bodyPost_ret (v := .agg #[.bool _, .slice A2 _ c2]) (by simp [results, Tryz.results59, go_sem, hr0, hr1]; exact ⟨rfl, rfl⟩) rfl ⟨_, rfl, ?_, hh.put hbW (by omega) _ _⟩
  exact (nint_put (w := w) hl2 hwd2 (by omega) _ _).cast (by rw [HX.out, HZ.out]; omega)

end Go.Proofs.YtdmdagilopckgaaGreat

namespace Go.Proofs.YtdmdagilopckgaaGreat
open Go.RowKit

theorem few_digits {V k a N : Nat} (h : V + 65536 ^ k * a = N) (ha : 0 < a) (hN : N < 18446744073709551616) : k < 4 := by
  rcases Nat.lt_or_ge k 4 with h4 | h4
  · exact h4
  · exfalso
    have h1 : 65536 ^ 4 ≤ 65536 ^ k := Nat.pow_le_pow_right (by omega) h4
    have h2 : 65536 ^ k * 1 ≤ 65536 ^ k * a := Nat.mul_le_mul_left _ ha
    omega
theorem of_step {V k a N : Nat} (h : V + 65536 ^ k * a = N) : V + 65536 ^ k * (a % 65536) + 65536 ^ (k + 1) * (a / 65536) = N := by
  have e : 65536 ^ (k + 1) * (a / 65536) = 65536 ^ k * (65536 * (a / 65536)) := by rw [Nat.pow_succ, Nat.mul_assoc]
  rw [e, Nat.add_assoc, ← Nat.mul_add, Nat.mod_add_div, h]

set_option maxHeartbeats 1000000 in
theorem rOf_any (n : Int) (w : World) (h : -9223372036854775808 ≤ n) (h' : n ≤ 9223372036854775807) :
    Calls Tryz.prog 28 #[.int .i64 n] w (Gives w fun w' v => NIntV w' (w.heap.size ≤ ·) v n) := by
  have HLT := Lib.hid (show n.natAbs < 18446744073709551616 by omega)
  obtain ⟨W, hW⟩ : ∃ W, W = w.alloc (.cells #[.bool false, .slice none 0 0] 63) := ⟨_, rfl⟩
  have hbW : Below w.heap.size w W := by rw [hW]; exact (Below.refl _ _).alloc (Nat.le_refl _) _
  have HR : Hid (W.heap[w.heap.size]? = some (.cells #[.bool false, .slice none 0 0] 63 (0, 0))) := by rw [hW]; exact heap_alloc_new _ _
  have HWW := Lib.hid hW
  clear hW
  have HRW : Held w.heap.size W W := Held.self HR.out
  obtain ⟨N, hN⟩ : ∃ N, N = n.natAbs := ⟨_, rfl⟩
  have HN := Lib.hid hN
  by_cases h0 : n < 0
  · obtain rfl : n = -(N : Int) := by omega
    have hb63 : N ≤ 9223372036854775808 := by omega
    have hNpos : 0 < N := by omega
    clear h h' hN
    go_enter Tryz.func28, Tryz.ntmps28
    go_wp2_with fail
    rw [← HWW.out]
    go_loopg [0, 3] N (fun a nv ov wr => ∃ (k : Nat) (o : List Nat), nv = .int .i64 (-(a : Int)) ∧ a ≤ N ∧ wr.ownsRow W.heap.size 3 1 ov k (o.map fun x : Nat => Value.int .i64 (x : Int)) ∧ (∀ y ∈ o, y < 65536) ∧ Hid (val 65536 o + 65536 ^ k * a = N) ∧ Below W.heap.size W wr ∧ k ≤ 4)
    case atStart => exact ⟨0, [], rfl, Nat.le_refl _, World.ownsRow_nil _ _ _ _, fun y hy => (by cases hy), by simp [Hid, val], Below.refl _ _, by omega⟩
    case round =>
      obtain ⟨k, o, rfl, ha, hown, hsm, hinv, hbr, hk⟩ := hrel
      rcases Nat.eq_zero_or_pos gk with h1 | h1
      · subst h1
        rw [show (-((0 : Nat) : Int)) = 0 from rfl]
        obtain ⟨A1, c1, rfl, hd⟩ := hd_of_own hown hsm
        go_wp2_with (go_at_call 60; go_must (refine (rmade_any hd (by omega)).mono ?_); rintro e w2 ⟨v2, rfl, ⟨A2, c2, rfl, hwd2⟩, hb2⟩; have hh1 := (Held.call hbr HRW).2; have hl2 := hh1.lt; have hh := (Held.call hb2 hh1).2; obtain ⟨u0, u1, hr0, hr1, hf0, hf1⟩ := hh.cells)
        refine bodyPost_ret (v := .agg #[.bool _, .slice A2 _ c2]) (by simp [results, Tryz.results28, go_sem, hr0, hr1]; exact ⟨rfl, rfl⟩) rfl ⟨_, rfl, ?_, hh.put hbW (Nat.le_refl _) _ _⟩
        exact (nint_put (w := w) hl2 hwd2 (Nat.le_refl _) _ _).cast (by have := hinv.out; rw [Nat.mul_zero, Nat.add_zero] at this; rw [this]; rfl)
      · have t1 : ((-(gk : Int)) != 0) = true := by rw [bne_iff_ne]; omega
        have hk5 : k ≤ 4 := hk
        rcases Nat.eq_zero_or_pos (gk % 65536) with h2 | h2
        · have h3 : (gk : Int) % 65536 ≤ 0 := by omega
          have H2 := Lib.hid h2
          clear h2
          go_wp2_with (at_builtin; go_must (refine wpList_push _ rfl _ _ _ _ rfl W.heap.size 3 3 (.int .i64 0) 1 8 Tryz.underlying84 Tryz.underlying84 info_intA rfl (by omega) u3 k _ rfl hown [_] rfl rfl (by simp [Value.oneCell']) (by unfold maxLen; omega) (by omega) hbr.size ?_); intro A2 c2 w2 hown2 hgr2 hb2)
          go_roundg (gk / 65536)
          case measure => exact Nat.div_lt_self h1 (by omega)
          case rel =>
            have hk4 := few_digits hinv.out h1 (by have := HLT.out; omega)
            refine ⟨k + 1, o ++ [gk % 65536], by go_num, by have := Nat.div_le_self gk 65536; omega, ?_, fun y hy => ?_, ?_, hbr.trans (hb2.mono (Nat.le_refl _)), by omega⟩
            · rw [List.map_append]
              simp only [List.map_cons, List.map_nil]
              have e : (((gk % 65536 : Nat) : Int)) = -((gk : Int) % 65536) := by have := H2.out; omega
              rw [e]
              exact hown2
            · rcases List.mem_append.1 hy with hy | hy
              · exact hsm y hy
              · rw [List.mem_singleton.1 hy]; omega
            · show _ = _
              have hl : o.length = k := by have := hown.1; rw [List.length_map] at this; omega
              rw [val_snoc, hl]
              exact of_step hinv.out
        · have h3 : 0 < (gk : Int) % 65536 := by omega
          go_wp2_with (at_builtin; go_must (refine wpList_push _ rfl _ _ _ _ rfl W.heap.size 3 3 (.int .i64 0) 1 8 Tryz.underlying84 Tryz.underlying84 info_intA rfl (by omega) u3 k _ rfl hown [_] rfl rfl (by simp [Value.oneCell']) (by unfold maxLen; omega) (by omega) hbr.size ?_); intro A2 c2 w2 hown2 hgr2 hb2)
          go_roundg (gk / 65536)
          case measure => exact Nat.div_lt_self h1 (by omega)
          case rel =>
            have hk4 := few_digits hinv.out h1 (by have := HLT.out; omega)
            refine ⟨k + 1, o ++ [gk % 65536], by go_num, by have := Nat.div_le_self gk 65536; omega, ?_, fun y hy => ?_, ?_, hbr.trans (hb2.mono (Nat.le_refl _)), by omega⟩
            · rw [List.map_append]
              simp only [List.map_cons, List.map_nil]
              have e : (((gk % 65536 : Nat) : Int)) = ((gk : Int) % 65536) := by omega
              rw [e]
              exact hown2
            · rcases List.mem_append.1 hy with hy | hy
              · exact hsm y hy
              · rw [List.mem_singleton.1 hy]; omega
            · show _ = _
              have hl : o.length = k := by have := hown.1; rw [List.length_map] at this; omega
              rw [val_snoc, hl]
              exact of_step hinv.out
  · obtain rfl : n = (N : Int) := by omega
    have hb63 : N ≤ 9223372036854775807 := by omega
    clear h h' hN
    go_enter Tryz.func28, Tryz.ntmps28
    go_wp2_with fail
    rw [← HWW.out]
    go_loopg [0, 3] N (fun a nv ov wr => ∃ (k : Nat) (o : List Nat), nv = .int .i64 (a : Int) ∧ a ≤ N ∧ wr.ownsRow W.heap.size 3 1 ov k (o.map fun x : Nat => Value.int .i64 (x : Int)) ∧ (∀ y ∈ o, y < 65536) ∧ Hid (val 65536 o + 65536 ^ k * a = N) ∧ Below W.heap.size W wr ∧ k ≤ 4)
    case atStart => exact ⟨0, [], rfl, Nat.le_refl _, World.ownsRow_nil _ _ _ _, fun y hy => (by cases hy), by simp [Hid, val], Below.refl _ _, by omega⟩
    case round =>
      obtain ⟨k, o, rfl, ha, hown, hsm, hinv, hbr, hk⟩ := hrel
      rcases Nat.eq_zero_or_pos gk with h1 | h1
      · subst h1
        rw [show (((0 : Nat) : Int)) = 0 from rfl]
        obtain ⟨A1, c1, rfl, hd⟩ := hd_of_own hown hsm
        go_wp2_with (go_at_call 60; go_must (refine (rmade_any hd (by omega)).mono ?_); rintro e w2 ⟨v2, rfl, ⟨A2, c2, rfl, hwd2⟩, hb2⟩; have hh1 := (Held.call hbr HRW).2; have hl2 := hh1.lt; have hh := (Held.call hb2 hh1).2; obtain ⟨u0, u1, hr0, hr1, hf0, hf1⟩ := hh.cells)
        refine bodyPost_ret (v := .agg #[.bool _, .slice A2 _ c2]) (by simp [results, Tryz.results28, go_sem, hr0, hr1]; exact ⟨rfl, rfl⟩) rfl ⟨_, rfl, ?_, hh.put hbW (Nat.le_refl _) _ _⟩
        exact (nint_put (w := w) hl2 hwd2 (Nat.le_refl _) _ _).cast (by have := hinv.out; rw [Nat.mul_zero, Nat.add_zero] at this; rw [this]; rfl)
      · have t1 : (((gk : Int)) != 0) = true := by rw [bne_iff_ne]; omega
        · go_wp2_with (at_builtin; go_must (refine wpList_push _ rfl _ _ _ _ rfl W.heap.size 3 3 (.int .i64 0) 1 8 Tryz.underlying84 Tryz.underlying84 info_intA rfl (by omega) u3 k _ rfl hown [_] rfl rfl (by simp [Value.oneCell']) (by unfold maxLen; omega) (by omega) hbr.size ?_); intro A2 c2 w2 hown2 hgr2 hb2)
          go_roundg (gk / 65536)
          case measure => exact Nat.div_lt_self h1 (by omega)
          case rel =>
            have hk4 := few_digits hinv.out h1 (by have := HLT.out; omega)
            refine ⟨k + 1, o ++ [gk % 65536], by go_num, by have := Nat.div_le_self gk 65536; omega, ?_, fun y hy => ?_, ?_, hbr.trans (hb2.mono (Nat.le_refl _)), by omega⟩
            · rw [List.map_append]
              simp only [List.map_cons, List.map_nil]
              have e : (((gk % 65536 : Nat) : Int)) = ((gk : Int) % 65536) := by omega
              rw [e]
              exact hown2
            · rcases List.mem_append.1 hy with hy | hy
              · exact hsm y hy
              · rw [List.mem_singleton.1 hy]; omega
            · show _ = _
              have hl : o.length = k := by have := hown.1; rw [List.length_map] at this; omega
              rw [val_snoc, hl]
              exact of_step hinv.out

end Go.Proofs.YtdmdagilopckgaaGreat
