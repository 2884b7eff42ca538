/- graph.Parse. -/
import Derived.Test.YtpkjdnplmgfbbaaGreatDoorTxd
import Derived.Test.YtpkjdnplmgfbbaaGreatDoorTy
import Derived.Test.YtpkjdnplmgfbbaaGreatDoorTxf
namespace Go.Proofs.YtpkjdnplmgfbbaaGreatDoor
open Go.RowKit Go.Shelf
attribute [local go_sem] Oper.semAt_some

/-- The text s is what is printed of this valid graph. -/
structure Good (s : ByteArray) (names : List ByteArray) (E : List (List Nat)) : Prop where
  chk0 : chk names (toI E) = 0
  ok : Ok names E
  txt : s.data.toList = prn names E E.length
def PrsR (s : ByteArray) (w : World) (e : Ending) (w' : World) : Prop :=
  (∃ v names E, e = .returned (.tuple #[v, .int .i64 0]) ∧ GrV w' v names (toI E) ∧ Good s names E ∧ Below w.heap.size w w') ∨
  (e = .returned (.tuple #[.agg #[.slice none 0 0, .slice none 0 0], .int .i64 7]) ∧ (∀ names E, ¬ Good s names E) ∧ Below w.heap.size w w')

/-- Between two lines; N: the heap's size when the call began. -/
def LnI (w : World) (N : Nat) (pre : List ByteArray) (W : World) : Prop :=
  ∃ (A A' : Option Addr) (c c' : Nat) (names : List ByteArray) (E : List (List Int)), Hid (lnps pre = some (names, E)) ∧ names.length = pre.length ∧ E.length = pre.length ∧ GB W (N + 6) (.slice A pre.length c) (.slice A' pre.length c') names E ∧
    W.heap[N]? = some (.cells #[.slice none 0 0, .slice none 0 0] 25 (0, 0)) ∧ W.heap[N + 1]? = some (.cells #[.int .i64 0] 30 (0, 0)) ∧ W.heap[N + 1 + 1]? = some (.cells #[.slice A pre.length c, .slice A' pre.length c'] 25 (0, 0)) ∧
    Below N w W
/-- Where a line is none of a graph's. -/
def LnX (s : ByteArray) (w : World) (N : Nat) (W : World) : Prop :=
  Hid (lnps (lnB s) = none) ∧ W.heap[N]? = some (.cells #[.slice none 0 0, .slice none 0 0] 25 (0, 0)) ∧ W.heap[N + 1]? = some (.cells #[.int .i64 7] 30 (0, 0)) ∧ Below N w W
theorem ln_small : ∀ (f : Nat) (s : ByteArray), s.size ≤ f → (∀ x ∈ lnB s, x.size ≤ s.size) ∧ (lnB s).length ≤ s.size
  | 0, s, h => by rw [lnB_nil (by omega)]; exact ⟨fun x hx => (by cases hx), by simp⟩
  | f + 1, s, h => by
    by_cases hz : s.size = 0
    · rw [lnB_nil hz]; exact ⟨fun x hx => (by cases hx), by simp⟩
    · by_cases hi : Lib.indexByte s.data.toList 10 < 0
      · rw [lnB_last hz hi]
        exact ⟨fun x hx => by rw [List.mem_singleton] at hx; rw [hx]; exact Nat.le_refl _, by simp; omega⟩
      · obtain ⟨q, hq⟩ : ∃ q : Nat, Lib.indexByte s.data.toList 10 = (q : Int) := ⟨(Lib.indexByte s.data.toList 10).toNat, by omega⟩
        have hql := ix_lt hq
        have hsz : (s.extract (q + 1) s.size).size = s.size - (q + 1) := by rw [ByteArray.size_extract]; omega
        obtain ⟨h1, h2⟩ := ln_small f (s.extract (q + 1) s.size) (by omega)
        rw [lnB_cons hq]
        refine ⟨fun x hx => ?_, by rw [List.length_cons]; omega⟩
        rcases List.mem_cons.1 hx with rfl | hx
        · rw [ByteArray.size_extract]; omega
        · have := h1 x hx; omega
theorem Upd.of_below {S : Nat → Prop} {A B : World} (h : Below A.heap.size A B) : Upd S A B := ⟨h.os, h.tape, h.output, h.size, fun k hk _ => h.block k hk⟩
theorem Upd.trans {S : Nat → Prop} {A B C : World} (h : Upd S A B) (k : Upd S B C) : Upd S A C :=
  ⟨k.os.trans h.os, k.tape.trans h.tape, k.output.trans h.output, Nat.le_trans h.size k.size, fun i hi hS => (k.block i (Nat.lt_of_lt_of_le hi h.size) hS).trans (h.block i hi hS)⟩
/-- What a body may change. -/
def May (N b : Nat) : Prop := b = N ∨ b = N + 1 ∨ b = N + 1 + 1 ∨ N + 6 ≤ b
theorem kp_of {N D : Nat} {W W' : World} (hD : D = N + 4) (hl : D + 1 < W.heap.size) (h : Upd (May N) W W') : Kp (N + 1 + 1 + 1) D W W' := by
  have hb : ∀ k, k < N + 6 → N + 1 + 1 < k → W'.heap[k]? = W.heap[k]? := fun k h1 h2 => h.block k (by omega) (by rintro (h | h | h | h) <;> omega)
  exact ⟨⟨World.cell?_of_block (hb (N + 1 + 1 + 1) (by omega) (by omega)), World.frozen?_of_block (hb (N + 1 + 1 + 1) (by omega) (by omega))⟩, hb D (by omega) (by omega), hb (D + 1) (by omega) (by omega), h.size⟩
theorem lnp_bad {x y : ByteArray} {words : List ByteArray} (hw : words = spl (trn x)) (hy : y ∈ words.drop 1) (h : ato y = none) : lnp x = none := by
  unfold lnp
  rw [← hw]
  cases words with
  | nil => rfl
  | cons a tl =>
    show (atos tl).map _ = none
    rw [atos_bad (by simpa using hy) h]
    rfl
theorem lnp_ok {x : ByteArray} {a : ByteArray} {words : List ByteArray} {l : List Int} (hw : words = spl (trn x)) (ha : words[0]? = some a) (h : atos (words.drop 1) = some l) : lnp x = some (a, l) := by
  unfold lnp
  rw [← hw]
  cases words with
  | nil => simp at ha
  | cons b tl =>
    simp at ha h
    subst ha
    show (atos tl).map _ = _
    rw [h]
    rfl
/-- While a line is added: V: the world; B: the block of the words; Z: the heap's size before. -/
structure St (w : World) (N B Z : Nat) (n0 n1 row : Value) (l : List Int) (w0 : ByteArray) (W : World) (vN vE : Value) (names : List ByteArray) (E : List (List Int)) (V : World) : Prop where
  gb : GB V (N + 6) vN vE names E
  il : IlD V (fun b => B + 1 ≤ b ∧ b < Z) row l
  blk : V.heap[N + 1 + 1]? = some (.cells #[n0, n1] 25 (0, 0))
  r0 : V.heap[N]? = some (.cells #[.slice none 0 0, .slice none 0 0] 25 (0, 0))
  r1 : V.heap[N + 1]? = some (.cells #[.int .i64 0] 30 (0, 0))
  s2 : V.cell? ⟨B, 0, none⟩ = some (.string w0)
  up : Upd (May N) W V
  sz : Z ≤ V.heap.size
  lt : N + 6 ≤ B
  hz : B < Z
  bl : Below N w V
section
variable {pre : List ByteArray} {x : ByteArray} {w : World} {N B Z : Nat} {n0 n1 row : Value} {l : List Int} {w0 : ByteArray} {W V V' : World} {vN vE vN' vE' : Value} {names names' : List ByteArray} {E E' : List (List Int)}
theorem St.s0 (h : St w N B Z n0 n1 row l w0 W vN vE names E V) : V.cell? ⟨N + 1 + 1, 0, none⟩ = some n0 := by rw [Lib.cell_of_heap h.blk]; rfl
theorem St.s1 (h : St w N B Z n0 n1 row l w0 W vN vE names E V) : V.cell? ⟨N + 1 + 1, 1, none⟩ = some n1 := by rw [Lib.cell_of_heap h.blk]; rfl
theorem St.below (h : St w N B Z n0 n1 row l w0 W vN vE names E V) (hb : Below V.heap.size V V') : St w N B Z n0 n1 row l w0 W vN vE names E V' := by
  have hlt := fun {b : Nat} {o : Obj} (h : V.heap[b]? = some o) => (Array.getElem?_eq_some_iff.1 h).1
  have := h.sz
  have := h.lt
  have := h.hz
  exact ⟨h.gb.below hb, Foot.below h.il hb, (hb.block _ (hlt h.blk)).trans h.blk, (hb.block _ (hlt h.r0)).trans h.r0, (hb.block _ (hlt h.r1)).trans h.r1, (hb.cell (p := ⟨B, 0, none⟩) (cell_some_lt h.s2)).trans h.s2, h.up.trans (Upd.of_below hb), Nat.le_trans h.sz hb.size, h.lt, h.hz, h.bl.trans (hb.mono (by omega))⟩
theorem St.grow (h : St w N B Z n0 n1 row l w0 W vN vE names E V) {ob : Option Nat} (hg : V.grownBy V' ob) (hob : ∀ g, ob = some g → N + 6 ≤ g ∧ g < B) (hbl : Below (N + 6) V V') (gb' : GB V' (N + 6) vN' vE' names' E') : St w N B Z n0 n1 row l w0 W vN' vE' names' E' V' := by
  have hlt := fun {b : Nat} {o : Obj} (h : V.heap[b]? = some o) => (Array.getElem?_eq_some_iff.1 h).1
  have hk : ∀ b, b < V.heap.size → (b < N + 6 ∨ B ≤ b) → V'.heap[b]? = V.heap[b]? := fun b hb hc => hg.block b hb (fun e => by have := hob b e.symm; omega)
  exact ⟨gb', Foot.keep h.il fun b hd hb => hk b hb (by omega), (hk _ (hlt h.blk) (by omega)).trans h.blk, (hk _ (hlt h.r0) (by omega)).trans h.r0, (hk _ (hlt h.r1) (by omega)).trans h.r1, (World.cell?_of_block (hk B (cell_some_lt h.s2) (by omega))).trans h.s2, h.up.trans ⟨hg.os, hg.tape, hg.output, hg.size, fun b hb hS => hg.block b hb (fun e => hS (.inr (.inr (.inr (hob b e.symm).1))))⟩, Nat.le_trans h.sz hg.size, h.lt, h.hz, h.bl.trans (hbl.mono (by omega))⟩
theorem elem_grow {b : Nat} {o : Obj} (hb : V.heap[b]? = some o) {ob : Option Nat} (hg : V.grownBy V' ob) (hob : ∀ g, ob = some g → N + 6 ≤ g ∧ g < B) (hB : B ≤ b) : V'.heap[b]? = some o :=
  (hg.block b (Array.getElem?_eq_some_iff.1 hb).1 (fun e => by have := hob b e.symm; omega)).trans hb
theorem St.rowIl (h : St w N B Z n0 n1 row l w0 W vN vE names E V) (h1 : ∀ g, vE.ownBlock = some g → g < B ∨ Z ≤ g) (h2 : ∀ g, vN.ownBlock = some g → g < B ∨ Z ≤ g) : IlD V (fun b => N + 6 ≤ b ∧ some b ≠ vE.ownBlock ∧ some b ≠ vN.ownBlock) row l := by
  have := h.lt
  exact Foot.mono h.il fun b hb _ => ⟨by omega, fun e => by have := h1 b e.symm; omega, fun e => by have := h2 b e.symm; omega⟩
theorem St.stored (h : St w N B Z n0 n1 row l w0 W vN vE names E V) (HL : Hid (lnps (pre ++ [x]) = some (names, E))) (h1 : names.length = (pre ++ [x]).length) (h2 : E.length = (pre ++ [x]).length) {A A' : Option Addr} {n n' c c' : Nat} (hn : n = (pre ++ [x]).length) (hn' : n' = (pre ++ [x]).length) (hN : vN = .slice A n c) (hE : vE = .slice A' n' c') :
    LnI w N (pre ++ [x]) ((V.setCell ⟨N + 1 + 1, 0, none⟩ vN).setCell ⟨N + 1 + 1, 1, none⟩ vE) ∧ Upd (May N) W ((V.setCell ⟨N + 1 + 1, 0, none⟩ vN).setCell ⟨N + 1 + 1, 1, none⟩ vE) := by
  subst hN hE hn hn'
  have hu : Upd (fun b => b = N + 1 + 1) V ((V.setCell ⟨N + 1 + 1, 0, none⟩ (.slice A (pre ++ [x]).length c)).setCell ⟨N + 1 + 1, 1, none⟩ (.slice A' (pre ++ [x]).length c')) := (Upd.setCell (S := fun b => b = N + 1 + 1) _ (p := ⟨N + 1 + 1, 0, none⟩) rfl _).trans (Upd.setCell (S := fun b => b = N + 1 + 1) _ (p := ⟨N + 1 + 1, 1, none⟩) rfl _)
  have hu2 : Upd (May N) V ((V.setCell ⟨N + 1 + 1, 0, none⟩ (.slice A (pre ++ [x]).length c)).setCell ⟨N + 1 + 1, 1, none⟩ (.slice A' (pre ++ [x]).length c')) := (Upd.setCell _ (p := ⟨N + 1 + 1, 0, none⟩) (.inr (.inr (.inl rfl))) _).trans (Upd.setCell _ (p := ⟨N + 1 + 1, 1, none⟩) (.inr (.inr (.inl rfl))) _)
  have hlt := fun {b : Nat} {o : Obj} (h : V.heap[b]? = some o) => (Array.getElem?_eq_some_iff.1 h).1
  have := hlt h.r0
  refine ⟨⟨A, A', c, c', names, E, HL, h1, h2, h.gb.upd hu (fun k hk => by omega), (hu.block _ (hlt h.r0) (by omega)).trans h.r0, (hu.block _ (hlt h.r1) (by omega)).trans h.r1, ?_, h.bl.trans (hu.below (by omega) (fun k hk => by omega))⟩, h.up.trans hu2⟩
  have e1 := Go.Joins.block_setCell (i := 0) h.blk (.slice A (pre ++ [x]).length c)
  exact Go.Joins.block_setCell (i := 1) e1 (.slice A' (pre ++ [x]).length c')
end
theorem splitB_small (sep : ByteArray) : ∀ (k : Nat) (s : ByteArray), ∀ y ∈ Lib.splitB sep 0 k s, y.size ≤ s.size
  | 0, s, y, hy => by
    rw [Lib.splitB_zero, List.mem_singleton] at hy
    rw [hy]; exact Nat.le_refl _
  | k + 1, s, y, hy => by
    unfold Lib.splitB at hy
    split at hy
    · rw [List.mem_singleton] at hy
      rw [hy]; exact Nat.le_refl _
    · rcases List.mem_cons.1 hy with rfl | hy
      · rw [ByteArray.size_extract]; omega
      · have := splitB_small sep k _ y hy
        rw [ByteArray.size_extract] at this
        omega
theorem slice_one (B m : Nat) (hm : m ≤ 100000) : ∃ q : Nat, (0 < m → q = 1) ∧ ∀ W : World, (Instr.slice 22 (.slice (some ⟨B, 0, none⟩) (m + 1) (m + 1)) (some (.int .i64 1)) none none).run Tryz.prog W = .ok (.slice (some ⟨B, q, none⟩) m m) W := by
  by_cases h : m = 0
  · subst h
    refine ⟨0, fun h => by omega, fun W => ?_⟩
    simp [go_sem]
  · refine ⟨1, fun _ => rfl, fun W => ?_⟩
    simp [go_sem, h]
    intro h2
    omega
theorem four_alloc (w : World) (o0 o1 o2 o3 : Obj) {W : World} (hW : W = (((w.alloc o0).alloc o1).alloc o2).alloc o3) :
    W.heap.size = w.heap.size + 4 ∧ Below w.heap.size w W ∧ W.heap[w.heap.size]? = some o0 ∧ W.heap[w.heap.size + 1]? = some o1 ∧ W.heap[w.heap.size + 1 + 1]? = some o2 ∧ W.heap[w.heap.size + 1 + 1 + 1]? = some o3 := by
  subst hW
  have e0 := World.alloc_heap_new w o0
  have e1 := World.alloc_heap_new (w.alloc o0) o1
  have e2 := World.alloc_heap_new ((w.alloc o0).alloc o1) o2
  have e3 := World.alloc_heap_new (((w.alloc o0).alloc o1).alloc o2) o3
  simp only [World.size_alloc] at e1 e2 e3
  refine ⟨by simp, (((Below.refl _ w).alloc (Nat.le_refl _) _).alloc (by simp) _).alloc (by simp only [World.size_alloc]; omega) _ |>.alloc (by simp only [World.size_alloc]; omega) _, ?_, ?_, ?_, e3⟩
  · rw [Below.heap_alloc _ _ _ (by simp only [World.size_alloc]; omega), Below.heap_alloc _ _ _ (by simp only [World.size_alloc]; omega), Below.heap_alloc _ _ _ (by simp only [World.size_alloc]; omega)]; exact e0
  · rw [Below.heap_alloc _ _ _ (by simp only [World.size_alloc]; omega), Below.heap_alloc _ _ _ (by simp only [World.size_alloc]; omega)]; exact e1
  · rw [Below.heap_alloc _ _ _ (by simp)]; exact e2

set_option maxHeartbeats 8000000 in
set_option maxRecDepth 100000 in
theorem Parse_in {w : World} (hv : Vrs w) (s : ByteArray) (hs : s.size ≤ 2000) (hgood : ∀ names E, Good s names E → lnps (lnB s) = some (names, toI E)) : Calls Tryz.prog 17 #[.string s] w (PrsR s w) := by
  obtain ⟨hsm1, hsm2⟩ := ln_small s.size s (Nat.le_refl _)
  have HSM := Lib.hid hsm1
  have HGD := Lib.hid hgood
  clear hgood
  have HLEN := Lib.hid hsm2
  clear hsm1 hsm2
  refine (callsIn_wide (n := 3)).1 (callsIn_of_wp_marks Tryz.func17 rfl trivial ?_ rfl)
  simp only [Tryz.ntmps17, List.size_toArray, List.length_cons, List.length_nil, Nat.reduceAdd, Nat.reduceSub, Array.replicate_succ, Array.replicate_zero, List.push_toArray, List.append_toArray, List.nil_append, List.cons_append]
  have z1 : decide ((20000 : Int) < (s.size : Int)) = false := decide_eq_false (by omega)
  gi_wp2
  refine ⟨trivial, (callsIn_wide.2 (Lines_any s)).mono ?_⟩
  rintro e W0 ⟨rfl, hW0⟩
  obtain ⟨hsz, hbW, h0, h1, h2, h3⟩ := four_alloc w _ _ _ _ hW0
  obtain ⟨N, hN⟩ : ∃ N, N = w.heap.size := ⟨_, rfl⟩
  rw [← hN] at hsz hbW h0 h1 h2 h3 ⊢
  have hc3 : W0.cell? ⟨N + 1 + 1 + 1, 0, none⟩ = some (.string s) := by rw [Lib.cell_of_heap h3]; rfl
  have hf3 : W0.frozen? ⟨N + 1 + 1 + 1, 0, none⟩ = false := Lib.frozen_of_heap h3 0
  have HSZ := Lib.hid hsz
  have HN := Lib.hid hN
  clear hW0 hN hsz
  gi_wp2
  rw [← HN.out]
  refine wp_rangeLines (N + 1 + 1 + 1) s rfl (by omega) hc3 hf3 (LnI w N) (LnX s w N) ?hI ?hIx ?h0 ?a1 ?hassign ?hbody ?hdone ?hstop
  case hassign =>
    intro x W K hK
    gi_wp2
    exact hK
  case hI =>
    rintro pre A B ⟨A1, A2, c1, c2, names, E, HL, hnl, hel, hgb, k0, k1, k2, hbl⟩ hu
    rw [HSZ.out] at hu
    have hlt := fun {b : Nat} {o : Obj} (h : A.heap[b]? = some o) => (Array.getElem?_eq_some_iff.1 h).1
    exact ⟨A1, A2, c1, c2, names, E, HL, hnl, hel, hgb.upd hu (fun k hk => by omega), (hu.block _ (hlt k0) (by omega)).trans k0, (hu.block _ (hlt k1) (by omega)).trans k1, (hu.block _ (hlt k2) (by omega)).trans k2, hbl.trans (hu.below (Nat.le_of_lt (hlt k0)) (fun k hk => by omega))⟩
  case hIx =>
    rintro A B ⟨HL, k0, k1, hbl⟩ hu
    rw [HSZ.out] at hu
    have hlt := fun {b : Nat} {o : Obj} (h : A.heap[b]? = some o) => (Array.getElem?_eq_some_iff.1 h).1
    exact ⟨HL, (hu.block _ (hlt k0) (by omega)).trans k0, (hu.block _ (hlt k1) (by omega)).trans k1, hbl.trans (hu.below (Nat.le_of_lt (hlt k0)) (fun k hk => by omega))⟩
  case h0 => exact ⟨none, none, 0, 0, [], [], Lib.hid rfl, rfl, rfl, GB.nil _ _, h0, h1, h2, hbW⟩
  case hdone =>
    rintro W ⟨A1, A2, c1, c2, names, E, HL, hnl, hel, hgb, k0, k1, k2, hbl⟩ hD
    rw [HSZ.out] at hD ⊢
    have hlt := fun {b : Nat} {o : Obj} (h : W.heap[b]? = some o) => (Array.getElem?_eq_some_iff.1 h).1
    have hgr := hgb.gr
    obtain ⟨L, hL⟩ : ∃ L, L = (lnB s).length := ⟨_, rfl⟩
    rw [← hL] at hgr k2 hnl hel
    have hNW : N ≤ W.heap.size := Nat.le_of_lt (hlt k0)
    have hvW : Vrs W := hv.below (by rw [← HN.out]; exact hbl)
    have g0 : W.cell? ⟨N + 1 + 1, 0, none⟩ = some (.slice A1 L c1) := by rw [Lib.cell_of_heap k2]; rfl
    have g1 : W.cell? ⟨N + 1 + 1, 1, none⟩ = some (.slice A2 L c2) := by rw [Lib.cell_of_heap k2]; rfl
    have HL2 := Lib.hid hL
    have HGB := Lib.hid hgb
    clear hgb hL hc3 hf3 h0 h1 h2 h3 hbW
    by_cases hc : chk names E = 0
    · obtain ⟨E', rfl, hk⟩ := ok_of_chk hc
      by_cases htx : s.data.toList = prn names E' E'.length
      · have HP := Lib.hid (callsIn_wide (n := 2).2 (Print_tab hvW hgr hc hk))
        have ht : (⟨(prn names E' E'.length).toArray⟩ : ByteArray) = s := by
          rw [← htx]
        rw [ht] at HP
        have HGG := Lib.hid (show Good s names E' from ⟨hc, hk, htx⟩)
        have hse : (s.toList != s.toList) = false := by simp
        have hse2 : (s.toList == s.toList) = true := by simp
        clear hc hgr hk htx ht hvW
        gi_wp2
        refine ⟨trivial, HP.out.mono ?_⟩
        rintro e W5 ⟨rfl, hb5⟩
        have x0 := (hb5.cell (p := ⟨N + 1 + 1, 0, none⟩) (cell_some_lt g0)).trans g0
        have x1 := (hb5.cell (p := ⟨N + 1 + 1, 1, none⟩) (cell_some_lt g1)).trans g1
        have hbl5 := hbl.trans (hb5.mono hNW)
        have j0 := (hb5.block N (hlt k0)).trans k0
        have j1 := (hb5.block (N + 1) (hlt k1)).trans k1
        have jD := (hb5.block (N + 4) (hlt hD)).trans hD
        have n0 : W5.cell? ⟨N, 0, none⟩ = some (.slice none 0 0) := by rw [Lib.cell_of_heap j0]; rfl
        have n1 : W5.cell? ⟨N, 1, none⟩ = some (.slice none 0 0) := by rw [Lib.cell_of_heap j0]; rfl
        have n2 : W5.cell? ⟨N + 1, 0, none⟩ = some (.int .i64 0) := by rw [Lib.cell_of_heap j1]; rfl
        have f0 := Lib.frozen_of_heap j0 0
        have f1 := Lib.frozen_of_heap j0 1
        have f2 := Lib.frozen_of_heap j1 0
        obtain ⟨W6, hW6⟩ : ∃ W6, W6 = ((W5.setCell ⟨N, 0, none⟩ (.slice A1 L c1)).setCell ⟨N, 1, none⟩ (.slice A2 L c2)).setCell ⟨N + 1, 0, none⟩ (.int .i64 0) := ⟨_, rfl⟩
        have hu6 : Upd (fun b => b = N ∨ b = N + 1) W5 W6 := by
          rw [hW6]
          exact ((Upd.setCell _ (p := ⟨N, 0, none⟩) (.inl rfl) _).trans (Upd.setCell _ (p := ⟨N, 1, none⟩) (.inl rfl) _)).trans (Upd.setCell _ (p := ⟨N + 1, 0, none⟩) (.inr rfl) _)
        have m0 : W6.heap[N]? = some (.cells #[.slice A1 L c1, .slice A2 L c2] 25 (0, 0)) := by
          rw [hW6, Below.heap_setCell _ _ _ _ (by show N ≠ N + 1; omega)]
          exact Go.Joins.block_setCell (i := 1) (Go.Joins.block_setCell (i := 0) j0 (.slice A1 L c1)) (.slice A2 L c2)
        have m1 : W6.heap[N + 1]? = some (.cells #[.int .i64 0] 30 (0, 0)) := by
          have e1 : ((W5.setCell ⟨N, 0, none⟩ (.slice A1 L c1)).setCell ⟨N, 1, none⟩ (.slice A2 L c2)).heap[N + 1]? = some (.cells #[.int .i64 0] 30 (0, 0)) := by
            rw [Below.heap_setCell _ _ _ _ (by show N + 1 ≠ N; omega), Below.heap_setCell _ _ _ _ (by show N + 1 ≠ N; omega)]
            exact j1
          rw [hW6]
          exact Go.Joins.block_setCell (i := 0) e1 (.int .i64 0)
        have mD : W6.heap[N + 4]? = some (.deferred (some [])) := (hu6.block _ (Array.getElem?_eq_some_iff.1 jD).1 (by omega)).trans jD
        have hHW := Lib.hid hW6
        clear hW6 j0 j1 jD
        gi_wp2
        rw [← hHW.out]
        have q0 : (W6.putObj (N + 4) (.deferred none)).heap[N]? = some (.cells #[.slice A1 L c1, .slice A2 L c2] 25 (0, 0)) := (World.putObj_heap_other (by omega)).trans m0
        have q1 : (W6.putObj (N + 4) (.deferred none)).heap[N + 1]? = some (.cells #[.int .i64 0] 30 (0, 0)) := (World.putObj_heap_other (by omega)).trans m1
        have a0 : (W6.putObj (N + 4) (.deferred none)).cell? ⟨N, 0, none⟩ = some (.slice A1 L c1) := by rw [Lib.cell_of_heap q0]; rfl
        have a1 : (W6.putObj (N + 4) (.deferred none)).cell? ⟨N, 1, none⟩ = some (.slice A2 L c2) := by rw [Lib.cell_of_heap q0]; rfl
        have a2 : (W6.putObj (N + 4) (.deferred none)).cell? ⟨N + 1, 0, none⟩ = some (.int .i64 0) := by rw [Lib.cell_of_heap q1]; rfl
        refine ⟨by simp, .inl ⟨_, _, rfl, run_takeDeferred mD, ?_⟩⟩
        have hbf : Below N W5 (W6.putObj (N + 4) (.deferred none)) := (hu6.below (Nat.le_trans hNW hb5.size) (fun k hk => by omega)).trans ((Upd.putObj (S := fun b => b = N + 4) W6 rfl _).below (Nat.le_trans (Nat.le_trans hNW hb5.size) hu6.size) (fun k hk => by omega))
        have huf : Upd (fun b => b < N + 6) W5 (W6.putObj (N + 4) (.deferred none)) := ⟨hbf.os, hbf.tape, hbf.output, hbf.size, fun k hk hS => (World.putObj_heap_other (by omega)).trans (hu6.block k hk (by omega))⟩
        refine ⟨.tuple #[.agg #[.slice A1 L c1, .slice A2 L c2], .int .i64 0], by simp [results, Tryz.results17, go_sem, a0, a1, a2], .inl ⟨_, names, E', rfl, ?_, HGG.out, ?_⟩⟩
        · have g5 := (HGB.out.below hb5).upd huf (fun k hk => hk)
          rw [← HL2.out] at g5
          exact g5.gr
        · rw [← HN.out]
          exact hbl5.trans hbf
      · have HP := Lib.hid (callsIn_wide (n := 2).2 (Print_tab hvW hgr hc hk))
        have hbt : ∀ n2 E2, Good s n2 E2 → False := fun n2 E2 hg2 => by
          have h1 := HL.out.symm.trans (HGD.out n2 E2 hg2)
          injection h1 with h1
          injection h1 with e1 e2
          have e3 := toI_inj e2
          subst e1 e3
          exact htx hg2.txt
        have HBT := Lib.hid hbt
        obtain ⟨t, ht⟩ : ∃ t : ByteArray, t = ⟨(prn names E' E'.length).toArray⟩ := ⟨_, rfl⟩
        rw [← ht] at HP
        have hne : t.toList ≠ s.toList := fun e => htx (by
          rw [Lib.toList_data, Lib.toList_data, ht] at e
          simpa using e.symm)
        have hse : (t.toList != s.toList) = true := by simp [hne]
        have hse2 : (t.toList == s.toList) = false := by simp [hne]
        clear hc hgr hk htx ht hvW hne hbt
        gi_wp2
        refine ⟨trivial, HP.out.mono ?_⟩
        rintro e W5 ⟨rfl, hb5⟩
        have hbl5 := hbl.trans (hb5.mono hNW)
        have j0 := (hb5.block N (hlt k0)).trans k0
        have j1 := (hb5.block (N + 1) (hlt k1)).trans k1
        have jD := (hb5.block (N + 4) (hlt hD)).trans hD
        have n0 : W5.cell? ⟨N, 0, none⟩ = some (.slice none 0 0) := by rw [Lib.cell_of_heap j0]; rfl
        have n1 : W5.cell? ⟨N, 1, none⟩ = some (.slice none 0 0) := by rw [Lib.cell_of_heap j0]; rfl
        have n2 : W5.cell? ⟨N + 1, 0, none⟩ = some (.int .i64 0) := by rw [Lib.cell_of_heap j1]; rfl
        have f0 := Lib.frozen_of_heap j0 0
        have f1 := Lib.frozen_of_heap j0 1
        have f2 := Lib.frozen_of_heap j1 0
        obtain ⟨W6, hW6⟩ : ∃ W6, W6 = ((W5.setCell ⟨N, 0, none⟩ (.slice none 0 0)).setCell ⟨N, 1, none⟩ (.slice none 0 0)).setCell ⟨N + 1, 0, none⟩ (.int .i64 7) := ⟨_, rfl⟩
        have hu6 : Upd (fun b => b = N ∨ b = N + 1) W5 W6 := by
          rw [hW6]
          exact ((Upd.setCell _ (p := ⟨N, 0, none⟩) (.inl rfl) _).trans (Upd.setCell _ (p := ⟨N, 1, none⟩) (.inl rfl) _)).trans (Upd.setCell _ (p := ⟨N + 1, 0, none⟩) (.inr rfl) _)
        have m0 : W6.heap[N]? = some (.cells #[.slice none 0 0, .slice none 0 0] 25 (0, 0)) := by
          rw [hW6, Below.heap_setCell _ _ _ _ (by show N ≠ N + 1; omega)]
          exact Go.Joins.block_setCell (i := 1) (Go.Joins.block_setCell (i := 0) j0 (.slice none 0 0)) (.slice none 0 0)
        have m1 : W6.heap[N + 1]? = some (.cells #[.int .i64 7] 30 (0, 0)) := by
          have e1 : ((W5.setCell ⟨N, 0, none⟩ (.slice none 0 0)).setCell ⟨N, 1, none⟩ (.slice none 0 0)).heap[N + 1]? = some (.cells #[.int .i64 0] 30 (0, 0)) := by
            rw [Below.heap_setCell _ _ _ _ (by show N + 1 ≠ N; omega), Below.heap_setCell _ _ _ _ (by show N + 1 ≠ N; omega)]
            exact j1
          rw [hW6]
          exact Go.Joins.block_setCell (i := 0) e1 (.int .i64 7)
        have mD : W6.heap[N + 4]? = some (.deferred (some [])) := (hu6.block _ (Array.getElem?_eq_some_iff.1 jD).1 (by omega)).trans jD
        have hHW := Lib.hid hW6
        clear hW6 j0 j1 jD
        gi_wp2
        rw [← hHW.out]
        have q0 : (W6.putObj (N + 4) (.deferred none)).heap[N]? = some (.cells #[.slice none 0 0, .slice none 0 0] 25 (0, 0)) := (World.putObj_heap_other (by omega)).trans m0
        have q1 : (W6.putObj (N + 4) (.deferred none)).heap[N + 1]? = some (.cells #[.int .i64 7] 30 (0, 0)) := (World.putObj_heap_other (by omega)).trans m1
        have a0 : (W6.putObj (N + 4) (.deferred none)).cell? ⟨N, 0, none⟩ = some (.slice none 0 0) := by rw [Lib.cell_of_heap q0]; rfl
        have a1 : (W6.putObj (N + 4) (.deferred none)).cell? ⟨N, 1, none⟩ = some (.slice none 0 0) := by rw [Lib.cell_of_heap q0]; rfl
        have a2 : (W6.putObj (N + 4) (.deferred none)).cell? ⟨N + 1, 0, none⟩ = some (.int .i64 7) := by rw [Lib.cell_of_heap q1]; rfl
        refine ⟨by simp, .inl ⟨_, _, rfl, run_takeDeferred mD, ?_⟩⟩
        refine ⟨.tuple #[.agg #[.slice none 0 0, .slice none 0 0], .int .i64 7], by simp [results, Tryz.results17, go_sem, a0, a1, a2], .inr ⟨rfl, fun n2 E2 hg2 => ?_, ?_⟩⟩
        rotate_left
        · rw [← HN.out]
          exact hbl5.trans ((hu6.below (Nat.le_trans hNW hb5.size) (fun k hk => by omega)).trans ((Upd.putObj (S := fun b => b = N + 4) W6 rfl _).below (Nat.le_trans (Nat.le_trans hNW hb5.size) hu6.size) (fun k hk => by omega)))
        · exact HBT.out n2 E2 hg2
    · have HP := Lib.hid (callsIn_wide (n := 2).2 (Print_bad hgr hc))
      have hz : (((chk names E : Nat) : Int) != 0) = true := by simp [hc]
      have HCK := Lib.hid hc
      clear hc hgr
      gi_wp2
      refine ⟨trivial, HP.out.mono ?_⟩
      rintro e W5 ⟨rfl, hb5⟩
      have hbl5 := hbl.trans (hb5.mono hNW)
      have j0 := (hb5.block N (hlt k0)).trans k0
      have j1 := (hb5.block (N + 1) (hlt k1)).trans k1
      have jD := (hb5.block (N + 4) (hlt hD)).trans hD
      have n0 : W5.cell? ⟨N, 0, none⟩ = some (.slice none 0 0) := by rw [Lib.cell_of_heap j0]; rfl
      have n1 : W5.cell? ⟨N, 1, none⟩ = some (.slice none 0 0) := by rw [Lib.cell_of_heap j0]; rfl
      have n2 : W5.cell? ⟨N + 1, 0, none⟩ = some (.int .i64 0) := by rw [Lib.cell_of_heap j1]; rfl
      have f0 := Lib.frozen_of_heap j0 0
      have f1 := Lib.frozen_of_heap j0 1
      have f2 := Lib.frozen_of_heap j1 0
      obtain ⟨W6, hW6⟩ : ∃ W6, W6 = ((W5.setCell ⟨N, 0, none⟩ (.slice none 0 0)).setCell ⟨N, 1, none⟩ (.slice none 0 0)).setCell ⟨N + 1, 0, none⟩ (.int .i64 7) := ⟨_, rfl⟩
      have hu6 : Upd (fun b => b = N ∨ b = N + 1) W5 W6 := by
        rw [hW6]
        exact ((Upd.setCell _ (p := ⟨N, 0, none⟩) (.inl rfl) _).trans (Upd.setCell _ (p := ⟨N, 1, none⟩) (.inl rfl) _)).trans (Upd.setCell _ (p := ⟨N + 1, 0, none⟩) (.inr rfl) _)
      have m0 : W6.heap[N]? = some (.cells #[.slice none 0 0, .slice none 0 0] 25 (0, 0)) := by
        rw [hW6, Below.heap_setCell _ _ _ _ (by show N ≠ N + 1; omega)]
        exact Go.Joins.block_setCell (i := 1) (Go.Joins.block_setCell (i := 0) j0 (.slice none 0 0)) (.slice none 0 0)
      have m1 : W6.heap[N + 1]? = some (.cells #[.int .i64 7] 30 (0, 0)) := by
        have e1 : ((W5.setCell ⟨N, 0, none⟩ (.slice none 0 0)).setCell ⟨N, 1, none⟩ (.slice none 0 0)).heap[N + 1]? = some (.cells #[.int .i64 0] 30 (0, 0)) := by
          rw [Below.heap_setCell _ _ _ _ (by show N + 1 ≠ N; omega), Below.heap_setCell _ _ _ _ (by show N + 1 ≠ N; omega)]
          exact j1
        rw [hW6]
        exact Go.Joins.block_setCell (i := 0) e1 (.int .i64 7)
      have mD : W6.heap[N + 4]? = some (.deferred (some [])) := (hu6.block _ (Array.getElem?_eq_some_iff.1 jD).1 (by omega)).trans jD
      have hHW := Lib.hid hW6
      clear hW6 j0 j1 jD
      gi_wp2
      rw [← hHW.out]
      have q0 : (W6.putObj (N + 4) (.deferred none)).heap[N]? = some (.cells #[.slice none 0 0, .slice none 0 0] 25 (0, 0)) := (World.putObj_heap_other (by omega)).trans m0
      have q1 : (W6.putObj (N + 4) (.deferred none)).heap[N + 1]? = some (.cells #[.int .i64 7] 30 (0, 0)) := (World.putObj_heap_other (by omega)).trans m1
      have a0 : (W6.putObj (N + 4) (.deferred none)).cell? ⟨N, 0, none⟩ = some (.slice none 0 0) := by rw [Lib.cell_of_heap q0]; rfl
      have a1 : (W6.putObj (N + 4) (.deferred none)).cell? ⟨N, 1, none⟩ = some (.slice none 0 0) := by rw [Lib.cell_of_heap q0]; rfl
      have a2 : (W6.putObj (N + 4) (.deferred none)).cell? ⟨N + 1, 0, none⟩ = some (.int .i64 7) := by rw [Lib.cell_of_heap q1]; rfl
      refine ⟨by simp, .inl ⟨_, _, rfl, run_takeDeferred mD, ?_⟩⟩
      refine ⟨.tuple #[.agg #[.slice none 0 0, .slice none 0 0], .int .i64 7], by simp [results, Tryz.results17, go_sem, a0, a1, a2], .inr ⟨rfl, fun n2 E2 hg2 => ?_, ?_⟩⟩
      rotate_left
      · rw [← HN.out]
        exact hbl5.trans ((hu6.below (Nat.le_trans hNW hb5.size) (fun k hk => by omega)).trans ((Upd.putObj (S := fun b => b = N + 4) W6 rfl _).below (Nat.le_trans (Nat.le_trans hNW hb5.size) hu6.size) (fun k hk => by omega)))
      · have h1 := HL.out.symm.trans (HGD.out n2 E2 hg2)
        injection h1 with h1
        injection h1 with e1 e2
        subst e1 e2
        exact HCK.out hg2.chk0
  case hstop =>
    rintro W ⟨HX, k0, k1, hbl⟩ hD
    rw [HSZ.out] at hD ⊢
    have hlt := fun {b : Nat} {o : Obj} (h : W.heap[b]? = some o) => (Array.getElem?_eq_some_iff.1 h).1
    have q0 : (W.putObj (N + 4) (.deferred none)).heap[N]? = some (.cells #[.slice none 0 0, .slice none 0 0] 25 (0, 0)) := (World.putObj_heap_other (by omega)).trans k0
    have q1 : (W.putObj (N + 4) (.deferred none)).heap[N + 1]? = some (.cells #[.int .i64 7] 30 (0, 0)) := (World.putObj_heap_other (by omega)).trans k1
    have a0 : (W.putObj (N + 4) (.deferred none)).cell? ⟨N, 0, none⟩ = some (.slice none 0 0) := by rw [Lib.cell_of_heap q0]; rfl
    have a1 : (W.putObj (N + 4) (.deferred none)).cell? ⟨N, 1, none⟩ = some (.slice none 0 0) := by rw [Lib.cell_of_heap q0]; rfl
    have a2 : (W.putObj (N + 4) (.deferred none)).cell? ⟨N + 1, 0, none⟩ = some (.int .i64 7) := by rw [Lib.cell_of_heap q1]; rfl
    gi_wp2
    refine ⟨by simp, .inl ⟨_, _, rfl, run_takeDeferred hD, ?_⟩⟩
    refine ⟨.tuple #[.agg #[.slice none 0 0, .slice none 0 0], .int .i64 7], by simp [results, Tryz.results17, go_sem, a0, a1, a2], .inr ⟨rfl, fun n2 E2 hg2 => ?_, ?_⟩⟩
    · have h1 := HGD.out n2 E2 hg2
      rw [HX.out] at h1
      cases h1
    · rw [← HN.out]
      exact hbl.trans ((Upd.putObj (S := fun b => b = N + 4) W rfl _).below (Nat.le_of_lt (hlt k0)) (fun k hk => by omega))
  case hbody =>
    rintro pre x W ⟨A1, A2, c1, c2, names, E, HL, hnl, hel, hgb, k0, k1, k2, hbl⟩ hpx hlt
    have hxs := HSM.out x (prefix_mem hpx)
    have htz : (trn x).size ≤ x.size := by
      unfold trn
      split
      · rw [ByteArray.size_extract]; omega
      · exact Nat.le_refl _
    obtain ⟨words, hwd⟩ : ∃ words, words = spl (trn x) := ⟨_, rfl⟩
    have HWD := Lib.hid hwd
    have hwl : words.length = Lib.countB (trn x) ⟨#[32]⟩ + 1 := by rw [hwd]; exact spl_length _
    have hwle := Lib.countB_le ⟨#[32]⟩ (by decide) (trn x).size (trn x) (Nat.le_refl _)
    obtain ⟨m, hm⟩ : ∃ m, words.length = m + 1 := ⟨_, hwl⟩
    have hm2 : m ≤ 2001 := by omega
    have HSP := Lib.hid (fun w => callsIn_wide (n := 0).2 (@Split_sp w (trn x) (by omega)))
    have HM := Lib.hid hm
    clear hwl hwle hwd
    rw [← HWD.out] at HSP
    rw [hm] at HSP
    clear hm
    gi_wp2
    refine ⟨trivial, (CallsIn.inRound _ (callsIn_wide.2 (TrimSuffix_nl x (by omega)))).mono ?_⟩
    rintro e W1 ⟨rfl, rfl⟩
    gi_wp2
    refine ⟨trivial, (CallsIn.inRound _ (HSP.out _)).mono ?_⟩
    rintro e W1 ⟨rfl, hW1⟩
    obtain ⟨B, hB⟩ : ∃ B, B = W.heap.size := ⟨_, rfl⟩
    rw [← hB]
    have hb1 : Below B W W1 := by rw [hW1, hB]; exact (Below.refl _ _).alloc (Nat.le_refl _) _
    have hsz1 : W1.heap.size = B + 1 := by rw [hW1, hB]; simp
    have hwb : W1.heap[B]? = some (.cells (words.map Value.string).toArray 9 (0, 0)) := by rw [hW1, hB]; exact World.alloc_heap_new _ _
    have HB := Lib.hid hB
    clear hB hW1
    obtain ⟨q, hq, hsl⟩ := slice_one B m (by omega)
    have HQ := Lib.hid hq
    clear hq
    gi_wp2
    clear hsl
    gi_loopw [7, 27] (fun sl iv wr => ∃ (k : Nat) (A3 : Option Addr) (c3 : Nat) (l : List Int), k ≤ m ∧ iv = .int .i64 (k : Nat) ∧ sl = .slice A3 k c3 ∧ OwnZ wr (B + 1) (.slice A3 k c3) l ∧ Hid (atos ((words.drop 1).take k) = some l) ∧ Below (B + 1) W1 wr) (fun _ iv _ => m - (intOf iv).toNat)
    case atStart => exact ⟨0, none, 0, [], by omega, rfl, rfl, OwnZ.nil _ _, Lib.hid rfl, Below.refl _ _⟩
    case round =>
      obtain ⟨k, A3, c3, l, hk, rfl, rfl, hoz, HAT, hbr⟩ := hrel
      have hBN : N ≤ B := by have := hbl.size; have := HN.out; have := HB.out; omega
      have hbwr : Below w.heap.size w wr := by
        have := HN.out
        have := HB.out
        exact (hbl.mono (by omega)).trans ((hb1.mono (by omega)).trans (hbr.mono (by omega)))
      have hvr := hv.below hbwr
      by_cases hkm : k < m
      · have hq1 := HQ.out (by omega)
        subst hq1
        obtain ⟨y, hy⟩ : ∃ y, words[k + 1]? = some y := ⟨_, List.getElem?_eq_getElem (by have := HM.out; omega)⟩
        have hcy1 : W1.cell? ⟨B, 1 + k, none⟩ = some (.string y) := by
          rw [Lib.cell_of_heap hwb]
          simp [Nat.add_comm 1 k, hy]
        have hcy : wr.cell? ⟨B, 1 + k, none⟩ = some (.string y) := (hbr.cell (p := ⟨B, 1 + k, none⟩) (by show B < B + 1; omega)).trans hcy1
        have HY := Lib.hid hy
        have hkI : (k : Int) < (m : Int) := by omega
        clear hy hcy1
        have hym : y ∈ words := List.mem_of_getElem? HY.out
        have hys : y.size ≤ 1000000 := by
          rw [HWD.out] at hym
          have := splitB_small _ _ _ y hym
          omega
        have hym1 : y ∈ words.drop 1 := List.mem_of_getElem? (i := k) (by rw [List.getElem?_drop, Nat.add_comm]; exact HY.out)
        have HYM := Lib.hid hym1
        clear hym hym1
        gi_wp2
        refine ⟨trivial, (CallsIn.inRound _ (callsIn_wide.2 (Atoi_any hvr y hys))).mono ?_⟩
        rintro e w2 (⟨v, hav, hvb, rfl, hb2⟩ | ⟨hav, ⟨v, T, q, rfl⟩, hb2⟩)
        · have hoz2 := hoz.below hb2
          have hb3 := hbr.trans (hb2.mono (by have := hbr.size; omega))
          have hB2 : B + 1 ≤ w2.heap.size := by have := hb3.size; omega
          obtain ⟨hv1, hv2⟩ := hvb
          have HAV := Lib.hid hav
          clear hav hb2 hoz hbwr hvr hcy
          have HAT' := Lib.hid (show atos ((words.drop 1).take (k + 1)) = some (l ++ [v]) by
            rw [List.take_add_one, List.getElem?_drop, Nat.add_comm 1 k, HY.out]
            exact atos_snoc HAT.out HAV.out)
          gi_wp2_with (gi_at_builtin; (refine listIn_op (by rfl) (fun c h => by cases h) (wp_pushZ w2 _ _ (by rfl) (B + 1) A3 k c3 l (by rfl) hoz2 v ⟨hv1, hv2⟩ (by rfl) (by omega) (by omega) ?_)); intro A4 c4 w3 hoz3 hb4)
          go_roundw
          case rel => exact ⟨k + 1, A4, c4, l ++ [v], by omega, by go_num, rfl, hoz3, HAT', hb3.trans hb4⟩
          case measure => simp [intOf]; omega
        · have hk2l : N + 1 + 1 < B := by have := (Array.getElem?_eq_some_iff.1 k2).1; have := HB.out; omega
          have hbB : Below B W w2 := hb1.trans ((hbr.mono (by omega)).trans (hb2.mono (by have := hbr.size; omega)))
          have j0 := (hbB.block N (by omega)).trans k0
          have j1 := (hbB.block (N + 1) (by omega)).trans k1
          have n0 : w2.cell? ⟨N, 0, none⟩ = some (.slice none 0 0) := by rw [Lib.cell_of_heap j0]; rfl
          have n1 : w2.cell? ⟨N, 1, none⟩ = some (.slice none 0 0) := by rw [Lib.cell_of_heap j0]; rfl
          have n2 : w2.cell? ⟨N + 1, 0, none⟩ = some (.int .i64 0) := by rw [Lib.cell_of_heap j1]; rfl
          have f0 := Lib.frozen_of_heap j0 0
          have f1 := Lib.frozen_of_heap j0 1
          have f2 := Lib.frozen_of_heap j1 0
          clear hbwr hvr hcy hoz
          have HAV := Lib.hid hav
          gi_wp2
          have hup : Upd (May N) W (((w2.setCell ⟨N, 0, none⟩ (.slice none 0 0)).setCell ⟨N, 1, none⟩ (.slice none 0 0)).setCell ⟨N + 1, 0, none⟩ (.int .i64 7)) :=
            (((Upd.of_below (by rw [← HB.out]; exact hbB)).trans (Upd.setCell _ (p := ⟨N, 0, none⟩) (.inl rfl) _)).trans (Upd.setCell _ (p := ⟨N, 1, none⟩) (.inl rfl) _)).trans (Upd.setCell _ (p := ⟨N + 1, 0, none⟩) (.inr (.inl rfl)) _)
          refine ⟨kp_of HSZ.out hlt hup, Lib.hid (lnps_bad (prefix_mem hpx) (lnp_bad HWD.out HYM.out HAV.out)), ?_, ?_, hbl.trans (hup.below (by have := HB.out; omega) (by rintro k (h | h | h | h) <;> omega))⟩
          · rw [Below.heap_setCell _ _ _ _ (by show N ≠ N + 1; omega)]
            have e1 := Go.Joins.block_setCell (i := 0) j0 (.slice none 0 0)
            have e2 := Go.Joins.block_setCell (i := 1) e1 (.slice none 0 0)
            exact e2
          · have e1 : ((w2.setCell ⟨N, 0, none⟩ (.slice none 0 0)).setCell ⟨N, 1, none⟩ (.slice none 0 0)).heap[N + 1]? = some (.cells #[.int .i64 0] 30 (0, 0)) := by
              rw [Below.heap_setCell _ _ _ _ (by show N + 1 ≠ N; omega), Below.heap_setCell _ _ _ _ (by show N + 1 ≠ N; omega)]
              exact j1
            exact Go.Joins.block_setCell (i := 0) e1 (.int .i64 7)
      · obtain rfl : k = m := by omega
        have hk2l : N + 1 + 1 < B := by have := (Array.getElem?_eq_some_iff.1 k2).1; have := HB.out; omega
        obtain ⟨w0, hw0⟩ : ∃ w0, words[0]? = some w0 := ⟨_, List.getElem?_eq_getElem (by have := HM.out; omega)⟩
        have hlen := HM.out
        have HLP := Lib.hid (lnps_snoc HL.out (lnp_ok HWD.out hw0 (by have h := HAT.out; rw [List.take_of_length_le (by simp; omega)] at h; exact h)))
        have hw0s : w0.size ≤ maxLen := by
          have h0m := List.mem_of_getElem? hw0
          rw [HWD.out] at h0m
          have h1 := splitB_small _ _ _ w0 h0m
          unfold maxLen; omega
        have hplen : pre.length + 1 ≤ 1000000 := by
          have h1 := HLEN.out
          have h2 := hpx.length_le
          simp at h2
          omega
        have hbB : Below B W wr := hb1.trans (hbr.mono (by omega))
        have hWB : Below W.heap.size W wr := by rw [← HB.out]; exact hbB
        have hcw : W1.cell? ⟨B, 0, none⟩ = some (.string w0) := by
          rw [Lib.cell_of_heap hwb]
          simp [hw0]
        have j2 := (hbB.block (N + 1 + 1) hk2l).trans k2
        obtain ⟨Z, hZ⟩ : ∃ Z, Z = wr.heap.size := ⟨_, rfl⟩
        have hZB : B + 1 ≤ Z := by have := hbr.size; omega
        have hobN : ∀ g, (Value.slice A1 pre.length c1).ownBlock = some g → N + 6 ≤ g ∧ g < B := fun g hg => by have := World.ownsRow.lt hgb.nm g hg; have := HB.out; omega
        have hobE : ∀ g, (Value.slice A2 pre.length c2).ownBlock = some g → N + 6 ≤ g ∧ g < B := fun g hg => by
          obtain ⟨vs, h2, _⟩ := hgb.ed
          have := World.ownsRow.lt h2 g hg
          have := HB.out
          omega
        have hN6 : N + 6 ≤ B := by have := HB.out; have := HSZ.out; omega
        have hst : St w N B Z (.slice A1 pre.length c1) (.slice A2 pre.length c2) (.slice A3 k c3) l w0 W (.slice A1 pre.length c1) (.slice A2 pre.length c2) names E wr :=
          ⟨hgb.below hWB, hoz.row (fun b h1 h2 => ⟨h1, by omega⟩), j2, (hbB.block N (by omega)).trans k0, (hbB.block (N + 1) (by omega)).trans k1, (hbr.cell (p := ⟨B, 0, none⟩) (by show B < B + 1; omega)).trans hcw, Upd.of_below hWB, by omega, hN6, by omega, hbl.trans (hbB.mono (by omega))⟩
        obtain ⟨V0, hV0⟩ : ∃ V0, V0 = wr.drew := ⟨_, rfl⟩
        have hst' : St w N B Z (.slice A1 pre.length c1) (.slice A2 pre.length c2) (.slice A3 k c3) l w0 W (.slice A1 pre.length c1) (.slice A2 pre.length c2) names E V0 := by rw [hV0]; exact hst.below (Below.refl _ _).drew
        have hz0 : Z ≤ V0.heap.size := hst'.sz
        have HV0 := Lib.hid hV0
        have HON := Lib.hid hobN
        have HOE := Lib.hid hobE
        have HHZ := Lib.hid hZ
        have HPL := Lib.hid (And.intro hnl hel)
        clear hst hobN hobE hZ hV0 hnl hel j2 hcw hWB hbB hlen hw0 hoz hvr hbwr k0 k1 k2 hwb hgb hbl hb1 hc3 hf3 h0 h1 h2 h3 hbW
        gi_wp2
        refine wpIn_region_trg (.pure 0 (.pure 2 (.pure 3 (.pure 7 (.pure 9 (.read 1 (.read 4 (.read 8 (.two 5 10 (.two 6 10 (.pure 12 (.step 10 (.step 11 (.step 13 (.pure 14 (.step 15 .nil)))))) (.step 6 (.pure 12 (.step 11 (.step 13 (.pure 14 (.step 15 .nil))))))) (.step 5 (.step 6 (.pure 12 (.step 11 (.step 13 (.pure 14 (.step 15 .nil))))))))))))))))
          [0, 2, 3, 7, 9, 12, 13, 14, 15] (by kernel_rfl) (by rfl) (by kernel_rfl) (by kernel_rfl) (by kernel_rfl) (fun _ _ _ _ _ h => h) (fun ⟨_, _, h⟩ => h)
          (fun V => V.cell? ⟨N + 1 + 1, 0, none⟩ = some (.slice A1 pre.length c1) ∧ V.cell? ⟨N + 1 + 1, 1, none⟩ = some (.slice A2 pre.length c2) ∧ V.cell? ⟨B, 0, none⟩ = some (.string w0)) ?_
        change goG _ _ _ _ _ _ _ wr.drew
        rw [← HV0.out]
        have hS0 : V0.cell? ⟨N + 1 + 1, 0, none⟩ = some (.slice A1 pre.length c1) ∧ V0.cell? ⟨N + 1 + 1, 1, none⟩ = some (.slice A2 pre.length c2) ∧ V0.cell? ⟨B, 0, none⟩ = some (.string w0) := ⟨hst'.s0, hst'.s1, hst'.s2⟩
        refine goG_pure 44 (by rfl) (by rfl) ?_ (by rfl) (fun wz => ?_) ?_
        rotate_left
        · go_simp
          try with_reducible rfl
        try simp only [List.setIfInBounds_toArray, List.set]
        refine goG_pure 46 (by rfl) (by rfl) ?_ (by rfl) (fun wz => ?_) ?_
        rotate_left
        · go_simp
          try with_reducible rfl
        try simp only [List.setIfInBounds_toArray, List.set]
        refine goG_pure 47 (by rfl) (by rfl) ?_ (by rfl) (fun wz => ?_) ?_
        rotate_left
        · go_simp
          try with_reducible rfl
        try simp only [List.setIfInBounds_toArray, List.set]
        refine goG_pure 51 (by rfl) (by rfl) ?_ (by rfl) (fun wz => ?_) ?_
        rotate_left
        · go_simp
          try with_reducible rfl
        try simp only [List.setIfInBounds_toArray, List.set]
        refine goG_pure 53 (by rfl) (by rfl) ?_ (by rfl) (fun wz => ?_) ?_
        rotate_left
        · go_simp
          try with_reducible rfl
        try simp only [List.setIfInBounds_toArray, List.set]
        refine goG_read 45 hS0 (by rfl) (by rfl) ?_ (by rfl) (fun wz hSw => ?_) ?_
        rotate_left
        · obtain ⟨hs1, hs2, hs3⟩ := hSw
          go_simp
          try with_reducible rfl
        try simp only [List.setIfInBounds_toArray, List.set]
        refine goG_read 48 hS0 (by rfl) (by rfl) ?_ (by rfl) (fun wz hSw => ?_) ?_
        rotate_left
        · obtain ⟨hs1, hs2, hs3⟩ := hSw
          go_simp
          try with_reducible rfl
        try simp only [List.setIfInBounds_toArray, List.set]
        refine goG_read 52 hS0 (by rfl) (by rfl) ?_ (by rfl) (fun wz hSw => ?_) ?_
        rotate_left
        · obtain ⟨hs1, hs2, hs3⟩ := hSw
          go_simp
          try with_reducible rfl
        try simp only [List.setIfInBounds_toArray, List.set]
        clear hS0
        refine goG_two (by rfl) (by rfl) ?_ ?_
        · go_wp2_with fail
          obtain ⟨V1, hV1⟩ : ∃ VV, VV = V0.alloc (.cells #[.string w0] 9) := ⟨_, rfl⟩
          rw [← hV1]
          have hb1 : Below V0.heap.size V0 V1 := by rw [hV1]; exact (Below.refl _ _).alloc (Nat.le_refl _) _
          have st1 := hst'.below hb1
          have eA1 : V1.heap[V0.heap.size]? = some (.cells #[.string w0] 9 (0, 0)) := by rw [hV1]; exact World.alloc_heap_new _ _
          have z1 : V0.heap.size + 1 ≤ V1.heap.size := by rw [hV1]; simp
          clear hV1
          refine ⟨fun _ => ⟨st1.s0, st1.s1, st1.s2⟩, ?_⟩
          refine goG_two (by rfl) (by rfl) ?_ ?_
          · refine wpList_pushNm V1 (by rfl) _ _ (by rfl) (N + 6) A1 pre.length c1 _ names E (by rfl) st1.gb w0 hw0s _ eA1 (by rfl) (by omega) (by have := st1.lt; have := st1.hz; have := st1.sz; omega) ?_
            intro A2' c2' V2 gb2 hg2 ho2 hb2
            have st2 := st1.grow hg2 HON.out hb2 gb2
            have hz2 := hb2.size
            have oN2 : ∀ g, (Value.slice A2' (pre.length + 1) c2').ownBlock = some g → g < B ∨ Z ≤ g := fun g hg => (by rcases ho2 with e | e; exact .inl (HON.out g (e.symm.trans hg)).2; exact .inr (by have h1 := e.symm.trans hg; injection h1 with h1; have := st1.sz; omega))
            go_wp2_with fail
            refine ⟨fun _ => ⟨st2.s0, st2.s1, st2.s2⟩, ?_⟩
            refine goG_pure 56 (by rfl) (by rfl) ?_ (by rfl) (fun wz => ?_) ?_
            rotate_left
            · go_simp
              try with_reducible rfl
            try simp only [List.setIfInBounds_toArray, List.set]
            refine goG_step (by rfl) ?_
            go_wp2_with fail
            obtain ⟨V3, hV3⟩ : ∃ VV, VV = V2.alloc (.cells #[.slice A3 k c3] 55) := ⟨_, rfl⟩
            rw [← hV3]
            have hb3 : Below V2.heap.size V2 V3 := by rw [hV3]; exact (Below.refl _ _).alloc (Nat.le_refl _) _
            have st3 := st2.below hb3
            have eB3 : V3.heap[V2.heap.size]? = some (.cells #[.slice A3 k c3] 55 (0, 0)) := by rw [hV3]; exact World.alloc_heap_new _ _
            have z3 : V2.heap.size + 1 ≤ V3.heap.size := by rw [hV3]; simp
            clear hV3
            refine ⟨fun _ => ⟨st3.s0, st3.s1, st3.s2⟩, ?_⟩
            refine goG_step (by rfl) ?_
            refine wpList_pushEd V3 (by rfl) _ _ (by rfl) (N + 6) (.slice A2' (pre.length + 1) c2') A2 pre.length c2 _ E (by rfl) st3.gb (.slice A3 k c3) l (st3.rowIl (fun g hg => .inl (HOE.out g hg).2) oN2) _ eB3 (by rfl) (by omega) (by have := st3.lt; have := st3.hz; have := st3.sz; omega) ?_
            intro A4' c4' V4 gb4 hg4 hb4
            have st4 := st3.grow hg4 HOE.out hb4 gb4
            go_wp2_with fail
            refine ⟨fun _ => ⟨st4.s0, st4.s1, st4.s2⟩, ?_⟩
            have c0 := st4.s0
            have f0 := Lib.frozen_of_heap st4.blk 0
            have bx := Go.Joins.block_setCell (i := 0) st4.blk (.slice A2' (pre.length + 1) c2')
            have c1x : (V4.setCell ⟨N + 1 + 1, 0, none⟩ (.slice A2' (pre.length + 1) c2')).cell? ⟨N + 1 + 1, 1, none⟩ = some (.slice A2 pre.length c2) := by rw [Lib.cell_of_heap bx]; rfl
            have f1x := Lib.frozen_of_heap bx 1
            refine goG_step (by rfl) ?_
            go_wp2_with fail
            refine ⟨fun h => absurd h (by decide), ?_⟩
            refine goG_pure 57 (by rfl) (by rfl) ?_ (by rfl) (fun wz => ?_) ?_
            rotate_left
            · go_simp
              try with_reducible rfl
            try simp only [List.setIfInBounds_toArray, List.set]
            refine goG_step (by rfl) ?_
            go_wp2_with fail
            refine ⟨fun h => absurd h (by decide), ?_⟩
            have hfin := st4.stored HLP (by simp [HPL.out.1]) (by simp [HPL.out.2]) (by simp) (by simp) rfl rfl
            exact ⟨kp_of HSZ.out hlt hfin.2, hfin.1⟩
          · go_wp2_with fail
            obtain ⟨V5, hV5⟩ : ∃ VV, VV = V1.alloc (.cells #[.slice A3 k c3] 55) := ⟨_, rfl⟩
            rw [← hV5]
            have hb5 : Below V1.heap.size V1 V5 := by rw [hV5]; exact (Below.refl _ _).alloc (Nat.le_refl _) _
            have st5 := st1.below hb5
            have eB5 : V5.heap[V1.heap.size]? = some (.cells #[.slice A3 k c3] 55 (0, 0)) := by rw [hV5]; exact World.alloc_heap_new _ _
            have z5 : V1.heap.size + 1 ≤ V5.heap.size := by rw [hV5]; simp
            have eA5 := (hb5.block _ (Array.getElem?_eq_some_iff.1 eA1).1).trans eA1
            clear hV5
            refine ⟨fun _ => ⟨st5.s0, st5.s1, st5.s2⟩, ?_⟩
            refine goG_step (by rfl) ?_
            refine wpList_pushNm V5 (by rfl) _ _ (by rfl) (N + 6) A1 pre.length c1 _ names E (by rfl) st5.gb w0 hw0s _ eA5 (by rfl) (by omega) (by have := st5.lt; have := st5.hz; have := st5.sz; omega) ?_
            intro A6' c6' V6 gb6 hg6 ho6 hb6
            have st6 := st5.grow hg6 HON.out hb6 gb6
            have hz6 := hb6.size
            have oN6 : ∀ g, (Value.slice A6' (pre.length + 1) c6').ownBlock = some g → g < B ∨ Z ≤ g := fun g hg => (by rcases ho6 with e | e; exact .inl (HON.out g (e.symm.trans hg)).2; exact .inr (by have h1 := e.symm.trans hg; injection h1 with h1; have := st5.sz; omega))
            have eB6 := elem_grow eB5 hg6 HON.out (by have := st5.lt; have := st5.hz; have := st5.sz; omega)
            go_wp2_with fail
            refine ⟨fun _ => ⟨st6.s0, st6.s1, st6.s2⟩, ?_⟩
            refine goG_pure 56 (by rfl) (by rfl) ?_ (by rfl) (fun wz => ?_) ?_
            rotate_left
            · go_simp
              try with_reducible rfl
            try simp only [List.setIfInBounds_toArray, List.set]
            refine goG_step (by rfl) ?_
            refine wpList_pushEd V6 (by rfl) _ _ (by rfl) (N + 6) (.slice A6' (pre.length + 1) c6') A2 pre.length c2 _ E (by rfl) st6.gb (.slice A3 k c3) l (st6.rowIl (fun g hg => .inl (HOE.out g hg).2) oN6) _ eB6 (by rfl) (by omega) (by have := st6.lt; have := st6.hz; have := st6.sz; omega) ?_
            intro A7' c7' V7 gb7 hg7 hb7
            have st7 := st6.grow hg7 HOE.out hb7 gb7
            go_wp2_with fail
            refine ⟨fun _ => ⟨st7.s0, st7.s1, st7.s2⟩, ?_⟩
            have c0 := st7.s0
            have f0 := Lib.frozen_of_heap st7.blk 0
            have bx := Go.Joins.block_setCell (i := 0) st7.blk (.slice A6' (pre.length + 1) c6')
            have c1x : (V7.setCell ⟨N + 1 + 1, 0, none⟩ (.slice A6' (pre.length + 1) c6')).cell? ⟨N + 1 + 1, 1, none⟩ = some (.slice A2 pre.length c2) := by rw [Lib.cell_of_heap bx]; rfl
            have f1x := Lib.frozen_of_heap bx 1
            refine goG_step (by rfl) ?_
            go_wp2_with fail
            refine ⟨fun h => absurd h (by decide), ?_⟩
            refine goG_pure 57 (by rfl) (by rfl) ?_ (by rfl) (fun wz => ?_) ?_
            rotate_left
            · go_simp
              try with_reducible rfl
            try simp only [List.setIfInBounds_toArray, List.set]
            refine goG_step (by rfl) ?_
            go_wp2_with fail
            refine ⟨fun h => absurd h (by decide), ?_⟩
            have hfin := st7.stored HLP (by simp [HPL.out.1]) (by simp [HPL.out.2]) (by simp) (by simp) rfl rfl
            exact ⟨kp_of HSZ.out hlt hfin.2, hfin.1⟩
        · go_wp2_with fail
          obtain ⟨V8, hV8⟩ : ∃ VV, VV = V0.alloc (.cells #[.slice A3 k c3] 55) := ⟨_, rfl⟩
          rw [← hV8]
          have hb8 : Below V0.heap.size V0 V8 := by rw [hV8]; exact (Below.refl _ _).alloc (Nat.le_refl _) _
          have st8 := hst'.below hb8
          have eB8 : V8.heap[V0.heap.size]? = some (.cells #[.slice A3 k c3] 55 (0, 0)) := by rw [hV8]; exact World.alloc_heap_new _ _
          have z8 : V0.heap.size + 1 ≤ V8.heap.size := by rw [hV8]; simp
          clear hV8
          refine ⟨fun _ => ⟨st8.s0, st8.s1, st8.s2⟩, ?_⟩
          refine goG_step (by rfl) ?_
          go_wp2_with fail
          obtain ⟨V9, hV9⟩ : ∃ VV, VV = V8.alloc (.cells #[.string w0] 9) := ⟨_, rfl⟩
          rw [← hV9]
          have hb9 : Below V8.heap.size V8 V9 := by rw [hV9]; exact (Below.refl _ _).alloc (Nat.le_refl _) _
          have st9 := st8.below hb9
          have eA9 : V9.heap[V8.heap.size]? = some (.cells #[.string w0] 9 (0, 0)) := by rw [hV9]; exact World.alloc_heap_new _ _
          have z9 : V8.heap.size + 1 ≤ V9.heap.size := by rw [hV9]; simp
          have eB9 := (hb9.block _ (Array.getElem?_eq_some_iff.1 eB8).1).trans eB8
          clear hV9
          refine ⟨fun _ => ⟨st9.s0, st9.s1, st9.s2⟩, ?_⟩
          refine goG_step (by rfl) ?_
          refine wpList_pushNm V9 (by rfl) _ _ (by rfl) (N + 6) A1 pre.length c1 _ names E (by rfl) st9.gb w0 hw0s _ eA9 (by rfl) (by omega) (by have := st9.lt; have := st9.hz; have := st9.sz; omega) ?_
          intro A10' c10' V10 gb10 hg10 ho10 hb10
          have st10 := st9.grow hg10 HON.out hb10 gb10
          have hz10 := hb10.size
          have oN10 : ∀ g, (Value.slice A10' (pre.length + 1) c10').ownBlock = some g → g < B ∨ Z ≤ g := fun g hg => (by rcases ho10 with e | e; exact .inl (HON.out g (e.symm.trans hg)).2; exact .inr (by have h1 := e.symm.trans hg; injection h1 with h1; have := st9.sz; omega))
          have eB10 := elem_grow eB9 hg10 HON.out (by have := st9.lt; have := st9.hz; have := st9.sz; omega)
          go_wp2_with fail
          refine ⟨fun _ => ⟨st10.s0, st10.s1, st10.s2⟩, ?_⟩
          refine goG_pure 56 (by rfl) (by rfl) ?_ (by rfl) (fun wz => ?_) ?_
          rotate_left
          · go_simp
            try with_reducible rfl
          try simp only [List.setIfInBounds_toArray, List.set]
          refine goG_step (by rfl) ?_
          refine wpList_pushEd V10 (by rfl) _ _ (by rfl) (N + 6) (.slice A10' (pre.length + 1) c10') A2 pre.length c2 _ E (by rfl) st10.gb (.slice A3 k c3) l (st10.rowIl (fun g hg => .inl (HOE.out g hg).2) oN10) _ eB10 (by rfl) (by omega) (by have := st10.lt; have := st10.hz; have := st10.sz; omega) ?_
          intro A11' c11' V11 gb11 hg11 hb11
          have st11 := st10.grow hg11 HOE.out hb11 gb11
          go_wp2_with fail
          refine ⟨fun _ => ⟨st11.s0, st11.s1, st11.s2⟩, ?_⟩
          have c0 := st11.s0
          have f0 := Lib.frozen_of_heap st11.blk 0
          have bx := Go.Joins.block_setCell (i := 0) st11.blk (.slice A10' (pre.length + 1) c10')
          have c1x : (V11.setCell ⟨N + 1 + 1, 0, none⟩ (.slice A10' (pre.length + 1) c10')).cell? ⟨N + 1 + 1, 1, none⟩ = some (.slice A2 pre.length c2) := by rw [Lib.cell_of_heap bx]; rfl
          have f1x := Lib.frozen_of_heap bx 1
          refine goG_step (by rfl) ?_
          go_wp2_with fail
          refine ⟨fun h => absurd h (by decide), ?_⟩
          refine goG_pure 57 (by rfl) (by rfl) ?_ (by rfl) (fun wz => ?_) ?_
          rotate_left
          · go_simp
            try with_reducible rfl
          try simp only [List.setIfInBounds_toArray, List.set]
          refine goG_step (by rfl) ?_
          go_wp2_with fail
          refine ⟨fun h => absurd h (by decide), ?_⟩
          have hfin := st11.stored HLP (by simp [HPL.out.1]) (by simp [HPL.out.2]) (by simp) (by simp) rfl rfl
          exact ⟨kp_of HSZ.out hlt hfin.2, hfin.1⟩
end Go.Proofs.YtpkjdnplmgfbbaaGreatDoor
