/- Small laws on words and on lists of integers in memory: bounds, the cells of a list of integers. Matrices of integers in memory that are written in place: rows of the call's own (with spare room, or none at all), the outer array, frames with written blocks. Plain: what package wide does with matrices of integers, step by step (Hermite forms by row operations, products, contents), with fuel and a limit on the size of numbers. -/
import Derived.Test.YtdjpeimecfhdjaaGreatXd
namespace Go.Proofs.YtdjpeimecfhdjaaGreat
open Go.RowKit
theorem wl_gcd (a b : Int) {B : Nat} (ha : wl a.natAbs ≤ B) (hb : wl b.natAbs ≤ B) : wl (Int.gcd a b) ≤ B := by
 unfold Int.gcd
 rcases Nat.eq_zero_or_pos a.natAbs with h | h
 ·rw [h, Nat.gcd_zero_left]; exact hb
 ·exact Nat.le_trans (wl_le (Nat.le_of_dvd h (Nat.gcd_dvd_left _ _))) ha
theorem wl_div (a b : Int) : wl (a / b).natAbs ≤ wl a.natAbs := wl_le (Int.natAbs_ediv_le_natAbs a b)
theorem keepB {W w1 : World} {P o : Nat} {u : Value} (hb : Below W.heap.size W w1) (h : W.cell? ⟨P, o, none⟩ = some u) : w1.cell? ⟨P, o, none⟩ = some u := ((bcell hb).1 _ _ (cell_lt h)).trans h
theorem wl_sub (a b : Int) : wl (a - b).natAbs ≤ max (wl a.natAbs) (wl b.natAbs) + 1 := by
 have h1 : (a - b).natAbs ≤ a.natAbs + b.natAbs := by omega
 exact Nat.le_trans (wl_le h1) (wl_add _ _)
theorem Src.below {w w' : World} {size : Nat} {A : Option Addr} {m : Nat} {xs : List Value} (h : Src w size A m xs) (hb : Below w.heap.size w w') : Src w' size A m xs :=
 ⟨h.1, fun hm => by
  obtain ⟨ad, e, hc⟩ := h.2 hm
  exact ⟨ad, e, fun j u hu => by
   have h1 := hc j u hu
   rw [hb.cell (World.block_lt_of_cell? w _ h1)]
   exact h1⟩⟩
end Go.Proofs.YtdjpeimecfhdjaaGreat

namespace Go.Proofs.YtdjpeimecfhdjaaGreat
open Go.RowKit
structure Frm (O : Nat → Prop) (w w' : World) : Prop where
 os : w'.os = w.os
 tape : w'.tape = w.tape
 output : w'.output = w.output
 size : w.heap.size ≤ w'.heap.size
 block : ∀ b, b < w.heap.size → ¬ O b → w'.heap[b]? = w.heap[b]?
section
variable {O O' : Nat → Prop} {w w' w'' : World}
theorem Frm.refl (O : Nat → Prop) (w : World) : Frm O w w := ⟨rfl, rfl, rfl, Nat.le_refl _, fun _ _ _ => rfl⟩
theorem Frm.trans (h : Frm O w w') (k : Frm O w' w'') : Frm O w w'' :=
 ⟨k.os.trans h.os, k.tape.trans h.tape, k.output.trans h.output, Nat.le_trans h.size k.size, fun b hb ho => (k.block b (Nat.lt_of_lt_of_le hb h.size) ho).trans (h.block b hb ho)⟩
theorem Frm.mono (h : Frm O w w') (hO : ∀ b, b < w.heap.size → O b → O' b) : Frm O' w w' := ⟨h.os, h.tape, h.output, h.size, fun b hb ho => h.block b hb fun h2 => ho (hO b hb h2)⟩
theorem Frm.of_below (h : Below w.heap.size w w') : Frm O w w' := ⟨h.os, h.tape, h.output, h.size, fun b hb _ => h.block b hb⟩
theorem Frm.below {B : Nat} (h : Frm O w w') (hB : B ≤ w.heap.size) (hO : ∀ b, O b → B ≤ b) : Below B w w' := ⟨h.os, h.tape, h.output, h.size, fun b hb => h.block b (by omega) fun ho => by have := hO b ho; omega⟩
theorem Frm.cell (h : Frm O w w') {b o : Nat} (hb : b < w.heap.size) (ho : ¬ O b) : w'.cell? ⟨b, o, none⟩ = w.cell? ⟨b, o, none⟩ := World.cell?_of_block (w := w) (h.block b hb ho)
theorem Frm.arr {g : Nat} {t : TypeId} {xs : List Value} (h : Frm O w w') (ha : Arr w g t xs) (ho : ¬ O g) : Arr w' g t xs := (h.block g ha.lt ho).trans ha
theorem Frm.over (h : Frm O w w') (k : Below w'.heap.size w' w'') : Frm O w w'' := h.trans (Frm.of_below k)
theorem Frm.setCell {p : Addr} (hp : p.block < w.heap.size → O p.block) (u : Value) : Frm O w (w.setCell p u) :=
 ⟨rfl, rfl, rfl, by simp, fun b hb ho => Below.heap_setCell _ _ _ _ (fun e => ho (by rw [e]; exact hp (by rw [← e]; exact hb)))⟩
theorem Frm.nint {D : Nat → Prop} {v : Value} {x : Int} (h : Frm O w w') (hv : NIntV w D v x) (hd : ∀ b, D b → ¬ O b) : NIntV w' D v x := hv.keep fun b _ hb hl => h.cell hl (hd b hb)
theorem Frm.foot {α : Type} {R : World → (Nat → Prop) → Value → α → Prop} [Foot R] {D : Nat → Prop} {v : Value} {x : α} (h : Frm O w w') (hv : R w D v x) (hd : ∀ b, D b → ¬ O b) : R w' D v x := Foot.keep hv fun b hb hl => h.block b hl (hd b hb)
end
def OwnR (w : World) (base : Nat) (D : Nat → Prop) (v : Value) (l : List Int) : Prop := ∃ xs, w.ownsRow base 40 2 v l.length xs ∧ Cs w D xs l
section
variable {w w' : World} {base : Nat} {D D' : Nat → Prop} {v : Value} {l : List Int}
theorem OwnR.nil (w : World) (base : Nat) (D : Nat → Prop) : OwnR w base D (.slice none 0 0) [] := ⟨[], World.ownsRow_nil _ _ _ _, Cs.nil⟩
theorem OwnR.slice (h : OwnR w base D v l) : ∃ A c, v = .slice A l.length c ∧ l.length ≤ c ∧ c ≤ maxLen := by
 obtain ⟨xs, h1, _⟩ := h
 exact own_slice h1
theorem OwnR.lt (h : OwnR w base D v l) {g : Nat} (hg : v.ownBlock = some g) : base ≤ g ∧ g < w.heap.size := by
 obtain ⟨xs, h1, _⟩ := h
 exact h1.lt g hg
theorem OwnR.mono (h : OwnR w base D v l) (hd : ∀ b, D b → b < w.heap.size → D' b) : OwnR w base D' v l := by
 obtain ⟨xs, h1, h2⟩ := h
 exact ⟨xs, h1, h2.mono hd⟩
theorem OwnR.keep (h : OwnR w base D v l) (hk : ∀ b, (D b ∨ v.ownBlock = some b) → b < w.heap.size → w'.heap[b]? = w.heap[b]?) : OwnR w' base D v l := by
 obtain ⟨xs, h1, h2⟩ := h
 refine ⟨xs, ⟨h1.1, ?_⟩, h2.keep fun b o hd hl => World.cell?_of_block (w := w) (hk b (.inl hd) hl)⟩
 rcases h1.2 with h3 | ⟨g, cap, cur, e, h4, h5, h6⟩
 ·exact .inl h3
 ·exact .inr ⟨g, cap, cur, e, h4, (hk g (.inr (by rw [e]; rfl)) (h1.lt g (by rw [e]; rfl)).2).trans h5, h6⟩
theorem OwnR.below (h : OwnR w base D v l) (hb : Below w.heap.size w w') : OwnR w' base D v l := h.keep fun b _ hl => hb.block b hl
theorem OwnR.frm {O : Nat → Prop} (h : OwnR w base D v l) (hf : Frm O w w') (hd : ∀ b, D b → ¬ O b) (hv : ∀ b, v.ownBlock = some b → ¬ O b) : OwnR w' base D v l :=
 h.keep fun b hb hl => hf.block b hl (hb.elim (hd b) (hv b))
theorem OwnR.lower {b2 : Nat} (h : OwnR w base D v l) (hb : b2 ≤ base) : OwnR w b2 D v l := by
 obtain ⟨xs, h1, h2⟩ := h
 refine ⟨xs, ⟨h1.1, ?_⟩, h2⟩
 rcases h1.2 with h3 | ⟨g, cap, cur, e, h4, h5, h6⟩
 ·exact .inl h3
 ·exact .inr ⟨g, cap, cur, e, by omega, h5, h6⟩
theorem OwnR.at (h : OwnR w base D v l) (hl : 0 < l.length) : ∃ g cap, v = .slice (some ⟨g, 0, none⟩) l.length cap ∧ base ≤ g ∧ g < w.heap.size ∧ l.length ≤ cap ∧ cap ≤ maxLen ∧ (∀ i, w.frozen? ⟨g, i, none⟩ = false) ∧
  ∀ j, j < l.length → ∃ neg B m k, w.cell? ⟨g, j * 2, none⟩ = some (.bool neg) ∧ w.cell? ⟨g, j * 2 + 1, none⟩ = some (.slice B m k) ∧ NIntV w D (.agg #[.bool neg, .slice B m k]) (gz l j) := by
 obtain ⟨xs, h1, h2⟩ := h
 obtain ⟨g, cap, e, h3, h4, h5, h6, h7⟩ := own_cells h1 hl
 refine ⟨g, cap, e, h3, (h1.lt g (by rw [e]; rfl)).2, h4, h5, h6, fun j hj => ?_⟩
 obtain ⟨neg, B, m, k, e0, e1, e2⟩ := h2.2 j hj
 exact ⟨neg, B, m, k, h7 _ _ e0, h7 _ _ e1, e2⟩
theorem OwnR.pvd (h : OwnR w base D v l) (hd : ∀ b, (D b ∨ v.ownBlock = some b) → D' b) : PvD w D' v l := by
 obtain ⟨A, c, e, hc, hm⟩ := h.slice
 refine ⟨A, c, e, rfl, hc, hm, fun hn => ?_⟩
 obtain ⟨g, cap, e2, _, _, _, _, _, hcl⟩ := h.at hn
 rw [e] at e2
 injection e2 with e2 e3 e4
 subst e2
 refine ⟨g, 0, rfl, hd g (.inr (by rw [e]; rfl)), fun j hj => ?_⟩
 obtain ⟨neg, B, m, k, k0, k1, k2⟩ := hcl j hj
 exact ⟨neg, B, m, k, by rw [Nat.zero_add]; exact k0, by rw [Nat.zero_add]; exact k1, k2.mono fun b hb _ => hd b (.inl hb)⟩
theorem OwnR.set {g n cap : Nat} (h : OwnR w base D (.slice (some ⟨g, 0, none⟩) n cap) l) (hg : ¬ D g) {i : Nat} (hi : i < l.length) {neg : Bool} {B : Option Addr} {m k : Nat} {x : Int} (hx : NIntV w D (.agg #[.bool neg, .slice B m k]) x) :
  OwnR ((w.setCell ⟨g, i * 2, none⟩ (.bool neg)).setCell ⟨g, i * 2 + 1, none⟩ (.slice B m k)) base D (.slice (some ⟨g, 0, none⟩) n cap) (l.set i x) := by
 obtain ⟨xs, h1, h2⟩ := h
 have hc := h2.set hi hx
 refine ⟨_, ?_, (hc.setCell hg _).setCell hg _⟩
 rcases h1.2 with ⟨e, _⟩ | ⟨g', cap', cur, e, h4, h5, h6, h7, h8, h9⟩
 ·cases e
 ·injection e with e e2 e3
  injection e with e
  injection e with e
  subst e e2 e3
  refine ⟨by rw [List.length_set, List.length_set, List.length_set]; exact h1.1, .inr ⟨g, cap, (cur.setIfInBounds (i * 2) (.bool neg)).setIfInBounds (i * 2 + 1) (.slice B m k), by rw [List.length_set], h4, ?_, by rw [List.length_set]; exact h6, h7, by simp [h8], ?_⟩⟩
  ·have a1 : Arr w g 40 cur.toList := by unfold Arr; rw [h5]
   have a2 := (a1.set_ (i * 2) (.bool neg)).set_ (i * 2 + 1) (.slice B m k)
   unfold Arr at a2
   rw [a2]
   exact congrArg (fun z => some (Obj.cells z 40)) (Array.toList_inj.mp (by simp))
  ·rw [← h9]
   simp only [Array.toList_setIfInBounds, List.length_set]
   rw [List.take_set, List.take_set]
theorem OwnR.made {n g : Nat} (hb : base ≤ g) (hn : n ≤ maxLen) (h : Arr w g 40 (madeCells (Value.agg #[.bool false, .slice none 0 0]).cells (n * 2)).toList) : OwnR w base D (.slice (some ⟨g, 0, none⟩) n n) (List.replicate n 0) := by
 rw [show (Value.agg #[.bool false, .slice none 0 0]).cells = #[.bool false, .slice none 0 0] from rfl, toList_madeCells_two] at h
 exact ⟨_, ⟨by simp, .inr ⟨g, n, _, by simp, hb, h, by simp, hn, by simp, List.take_of_length_le (by have := (Cs.zeros (w := w) (D := D) n).1; simp only [List.length_replicate] at this ⊢; omega)⟩⟩, Cs.zeros n⟩
end
structure MatX (w : World) (base B : Nat) (us : List Value) (D : Nat → Prop) (L : List (List Int)) : Prop where
 arr : Arr w B 175 us
 len : us.length = L.length
 lo : base ≤ B
 out : ¬ D B
 rows : ∀ (i : Nat) u l, us[i]? = some u → L[i]? = some l → OwnR w base D u l
 apart : ∀ u ∈ us, ∀ g, u.ownBlock = some g → g ≠ B ∧ ¬ D g
 one : ∀ (i j : Nat) u u' g, us[i]? = some u → us[j]? = some u' → u.ownBlock = some g → u'.ownBlock = some g → i = j
section
variable {w w' : World} {base B : Nat} {us : List Value} {D D' : Nat → Prop} {L : List (List Int)}
theorem lt_of_get {α : Type} {l : List α} {i : Nat} {x : α} (h : l[i]? = some x) : i < l.length := by
 rcases Nat.lt_or_ge i l.length with h1 | h1
 ·exact h1
 ·rw [List.getElem?_eq_none h1] at h; cases h
theorem MatX.lt (h : MatX w base B us D L) : B < w.heap.size := h.arr.lt
def MatX.Own (B : Nat) (us : List Value) (b : Nat) : Prop := b = B ∨ ∃ u ∈ us, u.ownBlock = some b
theorem MatX.keep (h : MatX w base B us D L) (hk : ∀ b, (D b ∨ MatX.Own B us b) → b < w.heap.size → w'.heap[b]? = w.heap[b]?) : MatX w' base B us D L :=
 ⟨(hk B (.inr (.inl rfl)) h.lt).trans h.arr, h.len, h.lo, h.out, fun i u l hu hl => (h.rows i u l hu hl).keep fun b hb hlt => hk b (hb.elim .inl fun e => .inr (.inr ⟨u, List.mem_of_getElem? hu, e⟩)) hlt, h.apart, h.one⟩
theorem MatX.below (h : MatX w base B us D L) (hb : Below w.heap.size w w') : MatX w' base B us D L := h.keep fun b _ hl => hb.block b hl
theorem MatX.mono (h : MatX w base B us D L) (hd : ∀ b, D b → b < w.heap.size → D' b) (h1 : ¬ D' B) (h2 : ∀ u ∈ us, ∀ g, u.ownBlock = some g → ¬ D' g) : MatX w base B us D' L :=
 ⟨h.arr, h.len, h.lo, h1, fun i u l hu hl => (h.rows i u l hu hl).mono hd, fun u hu g hg => ⟨(h.apart u hu g hg).1, h2 u hu g hg⟩, h.one⟩
theorem MatX.at (h : MatX w base B us D L) {i : Nat} {l : List Int} (hl : L[i]? = some l) : ∃ u, us[i]? = some u ∧ w.cell? ⟨B, i, none⟩ = some u ∧ OwnR w base D u l := by
 obtain ⟨u, hu⟩ : ∃ u, us[i]? = some u := ⟨_, List.getElem?_eq_getElem (by rw [h.len]; exact lt_of_get hl)⟩
 exact ⟨u, hu, (h.arr.cell i).trans hu, h.rows i u l hu hl⟩
theorem MatX.rd (h : MatX w base B us D L) {n c : Nat} (hn : L.length = n) (hc : n ≤ c) (hm : c ≤ maxLen) (hd : ∀ b, (D b ∨ MatX.Own B us b) → D' b) : RowsD PvD w D' (.slice (some ⟨B, 0, none⟩) n c) L := by
 subst hn
 refine ⟨_, c, us, rfl, hc, hm, h.len, fun _ => ⟨B, 0, rfl, hd B (.inr (.inl rfl)), fun j u hu => by rw [Nat.zero_add, h.arr.cell]; exact hu⟩, fun i u x hu hx => (h.rows i u x hu hx).pvd fun b hb => hd b (hb.elim .inl fun e => .inr (.inr ⟨u, List.mem_of_getElem? hu, e⟩))⟩
theorem MatX.row (h : MatX w base B us D L) {i : Nat} {u : Value} {l : List Int} (hu : us[i]? = some u) (hf : Frm (fun b => u.ownBlock = some b) w w') (hr : OwnR w' base D u l) (hi : i < L.length) : MatX w' base B us D (L.set i l) := by
 have hum := List.mem_of_getElem? hu
 refine ⟨hf.arr h.arr fun e => (h.apart u hum B e).1 rfl, by rw [List.length_set]; exact h.len, h.lo, h.out, fun j u' l' hu' hl' => ?_, h.apart, h.one⟩
 by_cases e : i = j
 ·subst e
  rw [hu] at hu'
  injection hu' with hu'
  subst hu'
  rw [List.getElem?_set_self hi] at hl'
  injection hl' with hl'
  subst hl'
  exact hr
 ·rw [List.getElem?_set_ne e] at hl'
  exact (h.rows j u' l' hu' hl').frm hf (fun b hd he => (h.apart u hum b he).2 hd) fun b hb he => e (h.one i j u u' b hu hu' he hb)
theorem MatX.swap (h : MatX w base B us D L) {i j : Nat} {u v : Value} {l m : List Int} (hu : us[i]? = some u) (hv : us[j]? = some v) (hl : L[i]? = some l) (hm : L[j]? = some m) :
  MatX ((w.setCell ⟨B, i, none⟩ v).setCell ⟨B, j, none⟩ u) base B ((us.set i v).set j u) D ((L.set i m).set j l) := by
 have hil := lt_of_get hu
 have hjl := lt_of_get hv
 have hil' := lt_of_get hl
 have hjl' := lt_of_get hm
 have hget : ∀ {α : Type} (xs : List α) (a b : α) (k : Nat), i < xs.length → j < xs.length → ((xs.set i b).set j a)[k]? = if k = j then some a else if k = i then some b else xs[k]? := by
  intro α xs a b k h1 h2
  simp only [List.getElem?_set, List.length_set]
  by_cases e1 : k = j
  ·subst e1; simp [h2]
  ·rw [if_neg (fun e => e1 e.symm), if_neg e1]
   by_cases e2 : k = i
   ·subst e2; simp [h1]
   ·rw [if_neg (fun e => e2 e.symm), if_neg e2]
 have hk : ∀ b, b ≠ B → b < w.heap.size → ((w.setCell ⟨B, i, none⟩ v).setCell ⟨B, j, none⟩ u).heap[b]? = w.heap[b]? := fun b hb _ =>
  (Below.heap_setCell _ _ _ _ (fun e => hb e)).trans (Below.heap_setCell _ _ _ _ (fun e => hb e))
 have hmem : ∀ x ∈ (us.set i v).set j u, x ∈ us := fun x hx => by
  obtain ⟨k, hk⟩ := List.getElem?_of_mem hx
  rw [hget us u v k hil hjl] at hk
  split at hk
  ·injection hk with hk; subst hk; exact List.mem_of_getElem? hu
  ·split at hk
   ·injection hk with hk; subst hk; exact List.mem_of_getElem? hv
   ·exact List.mem_of_getElem? hk
 refine ⟨(h.arr.set_ _ _).set_ _ _, by simp [h.len], h.lo, h.out, fun k x y hx hy => ?_, fun x hx => h.apart x (hmem x hx), fun a b x y g hx hy hgx hgy => ?_⟩
 ·rw [hget us u v k hil hjl] at hx
  rw [hget L l m k hil' hjl'] at hy
  have hr : OwnR w base D x y := by
   split at hx
   ·rename_i e
    rw [if_pos e] at hy
    injection hx with hx; injection hy with hy; subst hx hy
    exact h.rows i _ _ hu hl
   ·rename_i e
    rw [if_neg e] at hy
    split at hx
    ·rename_i e2
     rw [if_pos e2] at hy
     injection hx with hx; injection hy with hy; subst hx hy
     exact h.rows j _ _ hv hm
    ·rename_i e2
     rw [if_neg e2] at hy
     exact h.rows k _ _ hx hy
  have hxm : x ∈ us := by
   split at hx
   ·injection hx with hx; subst hx; exact List.mem_of_getElem? hu
   ·split at hx
    ·injection hx with hx; subst hx; exact List.mem_of_getElem? hv
    ·exact List.mem_of_getElem? hx
  refine hr.keep fun b hb hlt => hk b (fun e => ?_) hlt
  subst e
  rcases hb with hb | hb
  ·exact h.out hb
  ·exact (h.apart x hxm b hb).1 rfl
 ·rw [hget us u v a hil hjl] at hx
  rw [hget us u v b hil hjl] at hy
  have hone := h.one
  split at hx <;> split at hy
  ·omega
  ·injection hx with hx; subst hx
   split at hy
   ·injection hy with hy; subst hy
    have := hone i j _ _ g hu hv hgx hgy
    omega
   ·have := hone i b _ _ g hu hy hgx hgy
    omega
  ·injection hy with hy; subst hy
   split at hx
   ·injection hx with hx; subst hx
    have := hone j i _ _ g hv hu hgx hgy
    omega
   ·have := hone a i _ _ g hx hu hgx hgy
    omega
  ·split at hx <;> split at hy
   ·omega
   ·injection hx with hx; subst hx
    have := hone j b _ _ g hv hy hgx hgy
    omega
   ·injection hy with hy; subst hy
    have := hone a j _ _ g hx hv hgx hgy
    omega
   ·exact hone a b _ _ g hx hy hgx hgy
theorem MatX.put (h : MatX w base B us D L) {i : Nat} {u : Value} {l : List Int} (hi : i < L.length) (hr : OwnR w base D u l) (ha : ∀ g, u.ownBlock = some g → g ≠ B ∧ ¬ D g ∧ ∀ (j : Nat) x, j ≠ i → us[j]? = some x → x.ownBlock ≠ some g) :
  MatX (w.setCell ⟨B, i, none⟩ u) base B (us.set i u) D (L.set i l) := by
 have hiu : i < us.length := by rw [h.len]; exact hi
 have hk : ∀ b, b ≠ B → b < w.heap.size → (w.setCell ⟨B, i, none⟩ u).heap[b]? = w.heap[b]? := fun b hb _ => Below.heap_setCell _ _ _ _ (fun e => hb e)
 refine ⟨h.arr.set_ _ _, by simp [h.len], h.lo, h.out, fun k x y hx hy => ?_, fun x hx g hg => ?_, fun a b x y g hx hy hgx hgy => ?_⟩
 ·by_cases e : i = k
  ·subst e
   rw [List.getElem?_set_self hiu] at hx
   rw [List.getElem?_set_self hi] at hy
   injection hx with hx; injection hy with hy; subst hx hy
   refine hr.keep fun b hb hlt => hk b (fun e => ?_) hlt
   subst e
   rcases hb with hb | hb
   ·exact h.out hb
   ·exact (ha b hb).1 rfl
  ·rw [List.getElem?_set_ne e] at hx hy
   refine (h.rows k x y hx hy).keep fun b hb hlt => hk b (fun e => ?_) hlt
   subst e
   rcases hb with hb | hb
   ·exact h.out hb
   ·exact (h.apart x (List.mem_of_getElem? hx) b hb).1 rfl
 ·obtain ⟨k, hk⟩ := List.getElem?_of_mem hx
  by_cases e : i = k
  ·subst e
   rw [List.getElem?_set_self hiu] at hk
   injection hk with hk; subst hk
   exact ⟨(ha g hg).1, (ha g hg).2.1⟩
  ·rw [List.getElem?_set_ne e] at hk
   exact h.apart x (List.mem_of_getElem? hk) g hg
 ·by_cases e1 : i = a <;> by_cases e2 : i = b
  ·omega
  ·subst e1
   rw [List.getElem?_set_self hiu] at hx
   rw [List.getElem?_set_ne e2] at hy
   injection hx with hx; subst hx
   exact absurd hgy ((ha g hgx).2.2 b y (fun e => e2 e.symm) hy)
  ·subst e2
   rw [List.getElem?_set_self hiu] at hy
   rw [List.getElem?_set_ne e1] at hx
   injection hy with hy; subst hy
   exact absurd hgx ((ha g hgy).2.2 a x (fun e => e1 e.symm) hx)
  ·rw [List.getElem?_set_ne e1] at hx
   rw [List.getElem?_set_ne e2] at hy
   exact h.one a b x y g hx hy hgx hgy
end
end Go.Proofs.YtdjpeimecfhdjaaGreat

namespace Go.Proofs.YtdjpeimecfhdjaaGreat
open Go.RowKit
def limE : Nat := 62500
def limN : Nat := 2 ^ limE
theorem limE_le : limE ≤ 62500 := Nat.le_refl _
def fit (x : Int) : Bool := decide (x.natAbs < limN)
theorem fit_iff {x : Int} : fit x = true ↔ x.natAbs < limN := by unfold fit; exact decide_eq_true_iff
def fitR (l : List Int) : Bool := l.all fit
def fitM (L : List (List Int)) : Bool := L.all fitR
theorem lim_dig {m : Nat} (h : m < limN) : wl m ≤ 4000 := by
 obtain ⟨e, he⟩ : ∃ e : Nat, e = 4000 := ⟨_, rfl⟩
 rw [← he]
 refine dig_length_le (by omega) (Nat.lt_of_lt_of_le h ?_)
 have hp : ∀ a b : Nat, (2 ^ a) ^ b = 2 ^ (a * b) := fun a b => (Nat.pow_mul 2 a b).symm
 rw [show (4294967296 : Nat) = 2 ^ 32 from rfl, hp]
 have h2 := limE_le
 exact Nat.pow_le_pow_right (by omega) (by omega)
theorem fit_wl {x : Int} (h : fit x = true) : wl x.natAbs ≤ 4000 := lim_dig (fit_iff.mp h)
theorem lim_pos : 0 < limN := Nat.two_pow_pos _
theorem fit_zero : fit 0 = true := fit_iff.mpr lim_pos
theorem fitR_mem {l : List Int} (h : fitR l = true) {x : Int} (hx : x ∈ l) : fit x = true := List.all_eq_true.mp h x hx
theorem fitR_gz {l : List Int} (h : fitR l = true) (j : Nat) : fit (gz l j) = true := by
 rcases Nat.lt_or_ge j l.length with h1 | h1
 ·exact fitR_mem h (gz_mem h1)
 ·rw [gz_ge h1]; exact fit_zero
theorem fitM_mem {L : List (List Int)} (h : fitM L = true) {l : List Int} (hl : l ∈ L) : fitR l = true := List.all_eq_true.mp h l hl
def rw_ (L : List (List Int)) (i : Nat) : List Int := L.getD i []
theorem rw_some {L : List (List Int)} {i : Nat} (h : i < L.length) : L[i]? = some (rw_ L i) := by simp [rw_, List.getD, List.getElem?_eq_getElem h]
theorem rw_of {L : List (List Int)} {i : Nat} {l : List Int} (h : L[i]? = some l) : rw_ L i = l := by simp [rw_, List.getD, h]
theorem rw_mem {L : List (List Int)} {i : Nat} (h : i < L.length) : rw_ L i ∈ L := List.mem_of_getElem? (rw_some h)
theorem rw_set {L : List (List Int)} {i j : Nat} {l : List Int} (h : i < L.length) : rw_ (L.set i l) j = if i = j then l else rw_ L j := by
 simp only [rw_, List.getD, List.getElem?_set]
 by_cases e : i = j
 ·subst e; simp [h]
 ·simp [e]
theorem fitM_rw {L : List (List Int)} (h : fitM L = true) (i : Nat) : fitR (rw_ L i) = true := by
 rcases Nat.lt_or_ge i L.length with h1 | h1
 ·exact fitM_mem h (rw_mem h1)
 ·simp [rw_, List.getD, List.getElem?_eq_none h1, fitR]
def gm (L : List (List Int)) (i c : Nat) : Int := gz (rw_ L i) c
theorem fitM_gm {L : List (List Int)} (h : fitM L = true) (i c : Nat) : fit (gm L i c) = true := fitR_gz (fitM_rw h i) c
def Shp (q n : Nat) (L : List (List Int)) : Prop := L.length = q ∧ ∀ l ∈ L, l.length = n
theorem Shp.rw {q n : Nat} {L : List (List Int)} (h : Shp q n L) {i : Nat} (hi : i < q) : (rw_ L i).length = n := h.2 _ (rw_mem (by rw [h.1]; exact hi))
theorem Shp.set {q n : Nat} {L : List (List Int)} (h : Shp q n L) {i : Nat} {l : List Int} (hl : l.length = n) : Shp q n (L.set i l) :=
 ⟨by rw [List.length_set]; exact h.1, fun m hm => by
  rcases List.mem_or_eq_of_mem_set hm with h1 | h1
  ·exact h.2 m h1
  ·rw [h1]; exact hl⟩
def addF (k : Int) (l m : List Int) : List Int := (List.range l.length).map fun j => gz l j + k * gz m j
theorem addF_length (k : Int) (l m : List Int) : (addF k l m).length = l.length := by simp [addF]
theorem addF_gz (k : Int) (l m : List Int) {j : Nat} (h : j < l.length) : gz (addF k l m) j = gz l j + k * gz m j := by simp [addF, gz, List.getD, h]
theorem addF_zero (l m : List Int) : addF 0 l m = l := gz_ext (addF_length _ _ _) fun j hj => by
 rw [addF_length] at hj
 rw [addF_gz _ _ _ hj]; omega
theorem addF_nil (k : Int) (l : List Int) : addF k l [] = l := gz_ext (addF_length _ _ _) fun j hj => by
 rw [addF_length] at hj
 rw [addF_gz _ _ _ hj, gz_nil]; omega
theorem gz_take_ge {l : List Int} {j k : Nat} (h : k ≤ j) : gz (l.take k) j = 0 := gz_ge (by rw [List.length_take]; omega)
theorem addF_at (k : Int) (l m : List Int) {i : Nat} (hi : i < l.length) : gz (addF k l (m.take i)) i = gz l i := by rw [addF_gz _ _ _ hi, gz_take_ge (Nat.le_refl _)]; omega
theorem addF_step (k : Int) (l m : List Int) {i : Nat} (hi : i < l.length) : (addF k l (m.take i)).set i (gz l i + k * gz m i) = addF k l (m.take (i + 1)) := by
 refine gz_ext (by simp [addF_length]) fun j hj => ?_
 rw [List.length_set, addF_length] at hj
 rw [gz_set (by rw [addF_length]; exact hi), addF_gz _ _ _ hj]
 by_cases e : i = j
 ·subst e; rw [if_pos rfl, addF_gz _ _ _ hj, gz_take (Nat.lt_succ_self i)]
 ·rw [if_neg e, addF_gz _ _ _ hj]
  rcases Nat.lt_or_ge j i with h1 | h1
  ·rw [gz_take h1, gz_take (by omega)]
  ·rw [gz_take_ge h1, gz_take_ge (by omega)]
theorem addF_step0 (k : Int) (l m : List Int) {i : Nat} (h0 : gz m i = 0) : addF k l (m.take (i + 1)) = addF k l (m.take i) := by
 refine gz_ext (by simp [addF_length]) fun j hj => ?_
 rw [addF_length] at hj
 rw [addF_gz _ _ _ hj, addF_gz _ _ _ hj]
 rcases Nat.lt_trichotomy j i with h1 | h1 | h1
 ·rw [gz_take h1, gz_take (by omega)]
 ·subst h1; rw [gz_take (by omega), gz_take_ge (Nat.le_refl _), h0]
 ·rw [gz_take_ge (by omega), gz_take_ge (by omega)]
def ngR (l : List Int) : List Int := l.map (- ·)
theorem ngR_length (l : List Int) : (ngR l).length = l.length := by simp [ngR]
theorem ngR_gz (l : List Int) (j : Nat) : gz (ngR l) j = - gz l j := by
 rcases Nat.lt_or_ge j l.length with h | h
 ·simp [ngR, gz, List.getD, h]
 ·rw [gz_ge (by rw [ngR_length]; exact h), gz_ge h]; rfl
def scan (L : List (List Int)) (c r : Nat) : Nat → Option Nat × Nat
 | 0 => (none, 0)
 | j + 1 => if gm L (r + j) c = 0 then scan L c r j else
   (match (scan L c r j).1 with
    | none => some (r + j)
    | some a => if (gm L (r + j) c).natAbs < (gm L a c).natAbs then some (r + j) else some a, (scan L c r j).2 + 1)
def atI : Option Nat → Int
 | none => -1
 | some a => a
theorem scan_none {L : List (List Int)} {c r j : Nat} : ((scan L c r j).1 = none ↔ (scan L c r j).2 = 0) := by
 induction j with
 | zero => simp [scan]
 | succ j ih =>
  unfold scan
  split
  ·exact ih
  ·simp only [Nat.add_eq_zero_iff, Nat.succ_ne_self, and_false, iff_false]
   split
   ·simp
   ·split <;> simp
theorem scan_lt {L : List (List Int)} {c r j a : Nat} (h : (scan L c r j).1 = some a) : r ≤ a ∧ a < r + j ∧ gm L a c ≠ 0 := by
 induction j generalizing a with
 | zero => simp [scan] at h
 | succ j ih =>
  unfold scan at h
  split at h
  ·have := ih h; exact ⟨this.1, by omega, this.2.2⟩
  ·rename_i h0
   simp only at h
   split at h
   ·injection h with h; subst h; exact ⟨by omega, by omega, h0⟩
   ·rename_i a' ha
    split at h
    ·injection h with h; subst h; exact ⟨by omega, by omega, h0⟩
    ·injection h with h; subst h
     have := ih ha
     exact ⟨this.1, by omega, this.2.2⟩
theorem scan_le (L : List (List Int)) (c r j : Nat) : (scan L c r j).2 ≤ j := by
 induction j with
 | zero => simp [scan]
 | succ j ih =>
  unfold scan
  split
  ·omega
  ·simp only; omega
def swp (L : List (List Int)) (i j : Nat) : List (List Int) := (L.set i (rw_ L j)).set j (rw_ L i)
theorem Shp.swp {q n : Nat} {L : List (List Int)} (h : Shp q n L) {i j : Nat} (hi : i < q) (hj : j < q) : Shp q n (swp L i j) := (h.set (h.rw hj)).set (h.rw hi)
theorem rw_swp {L : List (List Int)} {i j : Nat} (hi : i < L.length) (hj : j < L.length) : rw_ (swp L i j) i = rw_ L j := by
 unfold swp
 rw [rw_set (by rw [List.length_set]; exact hj)]
 split
 ·rename_i e; rw [e]
 ·rw [rw_set hi, if_pos rfl]
theorem all_set {L : List (List Int)} {p : List Int → Bool} (h : L.all p = true) {i : Nat} {l : List Int} (hl : p l = true) : (L.set i l).all p = true := by
 rw [List.all_eq_true] at h ⊢
 intro m hm
 rcases List.mem_or_eq_of_mem_set hm with h1 | h1
 ·exact h m h1
 ·rw [h1]; exact hl
theorem fitM_swp {L : List (List Int)} (h : fitM L = true) (i j : Nat) : fitM (swp L i j) = true := all_set (all_set h (fitM_rw h j)) (fitM_rw h i)
def elim (L : List (List Int)) (c r : Nat) : Nat → List (List Int)
 | 0 => L
 | j + 1 => if gm L (r + 1 + j) c = 0 then elim L c r j else (elim L c r j).set (r + 1 + j) (addF (-(gm L (r + 1 + j) c / gm L r c)) (rw_ L (r + 1 + j)) (rw_ L r))
theorem elim_rw {L : List (List Int)} {c r j i : Nat} (h : i ≤ r ∨ r + j < i) : rw_ (elim L c r j) i = rw_ L i := by
 induction j with
 | zero => rfl
 | succ j ih =>
  unfold elim
  have := ih (by omega)
  split
  ·exact this
  ·simp only [rw_, List.getD, List.getElem?_set]
   rw [if_neg (by omega)]
   exact this
theorem Shp.elim {q n : Nat} {L : List (List Int)} (h : Shp q n L) {c r j : Nat} (hj : r + j < q) : Shp q n (elim L c r j) := by
 induction j with
 | zero => exact h
 | succ j ih =>
  unfold Go.Proofs.YtdjpeimecfhdjaaGreat.elim
  split
  ·exact ih (by omega)
  ·exact (ih (by omega)).set (by rw [addF_length]; exact h.rw (by omega))
def redC : Nat → List (List Int) → Nat → Nat → Option (List (List Int))
 | 0, _, _, _ => none
 | f + 1, L, c, r => match (scan L c r (L.length - r)).1 with
  | none => some L
  | some a => if (scan L c r (L.length - r)).2 = 1 then some (swp L r a) else
    if fitM (elim (swp L r a) c r (L.length - (r + 1))) then redC f (elim (swp L r a) c r (L.length - (r + 1))) c r else none
theorem redC_shp {f q n : Nat} {L M : List (List Int)} {c r : Nat} (h : redC f L c r = some M) (hs : Shp q n L) (hf : fitM L = true) (hr : r < q) : Shp q n M ∧ fitM M = true := by
 induction f generalizing L with
 | zero => simp [redC] at h
 | succ f ih =>
  unfold redC at h
  split at h
  ·injection h with h; subst h; exact ⟨hs, hf⟩
  ·rename_i a ha
   have hl := scan_lt ha
   rw [hs.1] at hl
   split at h
   ·injection h with h; subst h; exact ⟨hs.swp hr (by omega), fitM_swp hf _ _⟩
   ·split at h
    ·rename_i hfe
     rw [hs.1] at h hfe
     exact ih h ((hs.swp hr (by omega)).elim (by omega)) hfe
    ·cases h
def above (L : List (List Int)) (c r : Nat) : Nat → List (List Int)
 | 0 => L
 | j + 1 => (above L c r j).set j (addF (-(gm L j c / gm L r c)) (rw_ L j) (rw_ L r))
theorem above_rw {L : List (List Int)} {c r j i : Nat} (h : j ≤ i) : rw_ (above L c r j) i = rw_ L i := by
 induction j with
 | zero => rfl
 | succ j ih =>
  unfold above
  have := ih (by omega)
  simp only [rw_, List.getD, List.getElem?_set]
  rw [if_neg (by omega)]
  exact this
theorem Shp.above {q n : Nat} {L : List (List Int)} (h : Shp q n L) {c r j : Nat} (hj : j ≤ q) : Shp q n (above L c r j) := by
 induction j with
 | zero => exact h
 | succ j ih =>
  unfold Go.Proofs.YtdjpeimecfhdjaaGreat.above
  exact (ih (by omega)).set (by rw [addF_length]; exact h.rw (by omega))
def posR (L : List (List Int)) (c r : Nat) : List (List Int) := if gm L r c < 0 then L.set r (ngR (rw_ L r)) else L
theorem Shp.posR {q n : Nat} {L : List (List Int)} (h : Shp q n L) {c r : Nat} (hr : r < q) : Shp q n (posR L c r) := by
 unfold Go.Proofs.YtdjpeimecfhdjaaGreat.posR
 split
 ·exact h.set (by rw [ngR_length]; exact h.rw hr)
 ·exact h
theorem fit_neg {x : Int} (h : fit x = true) : fit (-x) = true := by
 unfold fit at h ⊢
 rw [Int.natAbs_neg]
 exact h
theorem fitR_ng {l : List Int} (h : fitR l = true) : fitR (ngR l) = true := List.all_eq_true.mpr fun y hy => by
 obtain ⟨x, hx, e⟩ := List.mem_map.mp hy
 rw [← e]
 exact fit_neg (fitR_mem h hx)
theorem fitM_posR {L : List (List Int)} (h : fitM L = true) (c r : Nat) : fitM (posR L c r) = true := by
 unfold posR
 split
 ·exact all_set h (fitR_ng (fitM_rw h r))
 ·exact h
def colF (f : Nat) (L : List (List Int)) (c r : Nat) : Option (List (List Int) × Nat) :=
 match redC f L c r with
 | none => none
 | some M => if gm M r c = 0 then some (M, r) else
   if fitM (above (posR M c r) c r r) then some (above (posR M c r) c r r, r + 1) else none
theorem colF_shp {f q n : Nat} {L M : List (List Int)} {c r s : Nat} (h : colF f L c r = some (M, s)) (hs : Shp q n L) (hf : fitM L = true) (hr : r < q) : Shp q n M ∧ fitM M = true ∧ s ≤ q := by
 unfold colF at h
 split at h
 ·cases h
 ·rename_i N hN
  have h1 := redC_shp hN hs hf hr
  split at h
  ·injection h with h; injection h with h2 h3; subst h2 h3; exact ⟨h1.1, h1.2, by omega⟩
  ·split at h
   ·rename_i hfe
    injection h with h; injection h with h2 h3; subst h2 h3
    exact ⟨(h1.1.posR hr).above (by omega), hfe, by omega⟩
   ·cases h
def redN (f : Nat) : Nat → Nat → List (List Int) → Nat → Option (List (List Int) × Nat)
 | 0, _, L, r => some (L, r)
 | k + 1, c, L, r => if r < L.length then
   match colF f L c r with
   | none => none
   | some (M, s) => redN f k (c + 1) M s
  else some (L, r)
def herm (f : Nat) (L : List (List Int)) : Option (List (List Int)) :=
 match L with
 | [] => some []
 | l :: _ => match redN f l.length 0 L 0 with
  | none => none
  | some (M, r) => some (M.take r)
def cntR (g : Int) (l : List Int) : Int := l.foldl (fun g x => (Int.gcd g x : Int)) g
def cntM (g : Int) (L : List (List Int)) : Int := L.foldl cntR g
def ovr (L : List (List Int)) (g : Int) : List (List Int) := L.map fun l => l.map (· / g)
def rowT (N : List (List Int)) (n : Nat) (r : List Int) : Nat → List Int
 | 0 => List.replicate n 0
 | j + 1 => addF (gz r j) (rowT N n r j) (rw_ N j)
theorem rowT_length (N : List (List Int)) (n : Nat) (r : List Int) (j : Nat) : (rowT N n r j).length = n := by
 induction j with
 | zero => simp [rowT]
 | succ j ih => unfold rowT; rw [addF_length, ih]
def tms (M N : List (List Int)) : List (List Int) := M.map fun r => rowT N (rw_ N 0).length r r.length
def trs (M : List (List Int)) : List (List Int) := (List.range (rw_ M 0).length).map fun i => M.map fun r => gz r i
end Go.Proofs.YtdjpeimecfhdjaaGreat
