/- 'for line := range strings.Lines(s)': the law of the statement, for a body that goes on or returns. What holds for a plain operation holds in a round. -/
import Derived.Test.YtpkjdnplmgfbbaaGreatDoorTxa
namespace Go.Proofs.YtpkjdnplmgfbbaaGreatDoor
open Go.RowKit Go.Shelf

/-- All blocks but those of S are as they were. -/
structure Upd (S : Nat → Prop) (A B : World) : Prop where
  os : B.os = A.os
  tape : B.tape = A.tape
  output : B.output = A.output
  size : A.heap.size ≤ B.heap.size
  block : ∀ k, k < A.heap.size → ¬ S k → B.heap[k]? = A.heap[k]?
theorem Upd.below {S : Nat → Prop} {A B : World} (h : Upd S A B) {n : Nat} (hn : n ≤ A.heap.size) (hS : ∀ k, S k → n ≤ k) : Below n A B :=
  ⟨h.os, h.tape, h.output, h.size, fun k hk => h.block k (by omega) (fun hs => by have := hS k hs; omega)⟩
theorem Upd.drew (S : Nat → Prop) (A : World) : Upd S A A.drew := ⟨rfl, rfl, rfl, Nat.le_refl _, fun _ _ _ => rfl⟩
theorem Upd.setCell {S : Nat → Prop} (A : World) {p : Addr} (hp : S p.block) (u : Value) : Upd S A (A.setCell p u) :=
  ⟨rfl, rfl, rfl, by simp [World.setCell], fun k _ hk => Below.heap_setCell _ _ _ _ (fun e => hk (e ▸ hp))⟩
theorem Upd.putObj {S : Nat → Prop} (A : World) {l : Nat} (hl : S l) (o : Obj) : Upd S A (A.putObj l o) :=
  ⟨rfl, rfl, rfl, by simp [World.putObj], fun k _ hk => World.putObj_heap_other (fun e => hk (e ▸ hl))⟩
theorem Upd.alloc (S : Nat → Prop) (A : World) (o : Obj) : Upd S A (A.alloc o) :=
  ⟨rfl, rfl, rfl, by simp, fun k hk _ => Below.heap_alloc A o k hk⟩

/-- What a body keeps: the iterator's cell, the loop's two blocks. -/
structure Kp (Bn D : Nat) (W W' : World) : Prop where
  cells : Cells Bn W W'
  mark : W'.heap[D]? = W.heap[D]?
  loop : W'.heap[D + 1]? = W.heap[D + 1]?
  size : W.heap.size ≤ W'.heap.size
def linePost (Bn D : Nat) (I : World → Prop) (Ix : World → Prop) (W : World) : Exit → Act → World → Prop
  | .normal, _, W' => Kp Bn D W W' ∧ I W'
  | .ret, _, W' => Kp Bn D W W' ∧ Ix W'
  | _, _, _ => False

theorem wp_rangeLines {g : Operand} {p : Tmp} {assign body : Code} {Q : Exit → Act → World → Prop} {a : Act} {w : World} {n : Nat} (Bn : Nat) (s : ByteArray)
    (hg : a.eval g = .func (.func 76) #[] #[.pointer (some ⟨Bn, 0, none⟩)]) (hs : s.size ≤ 1000000) (hc : w.cell? ⟨Bn, 0, none⟩ = some (.string s)) (hf : w.frozen? ⟨Bn, 0, none⟩ = false)
    (I : List ByteArray → World → Prop) (Ix : World → Prop)
    (hI : ∀ pre A B, I pre A → Upd (fun b => b = Bn ∨ b = w.heap.size ∨ b = w.heap.size + 1) A B → I pre B)
    (hIx : ∀ A B, Ix A → Upd (fun b => b = Bn ∨ b = w.heap.size ∨ b = w.heap.size + 1) A B → Ix B)
    (h0 : I [] w) (a₁ : ByteArray → Act)
    (hassign : ∀ (x : ByteArray) (W : World) (K : Act → World → Prop), K (a₁ x) W →
      assign.wpIn (Fence.wide.inRound (w.heap.size + 1)) (n - 1 - 1) Tryz.prog (Exit.then K (fun _ _ _ => False)) { tmps := a.tmps.setIfInBounds p (.string x), defers := [] } W)
    (hbody : ∀ (pre : List ByteArray) (x : ByteArray) (W : World), I pre W → pre ++ [x] <+: lnB s → w.heap.size + 1 < W.heap.size →
      body.wpIn (Fence.wide.inRound (w.heap.size + 1)) (n - 1 - 1) Tryz.prog (linePost Bn w.heap.size (I (pre ++ [x])) Ix W) (a₁ x) W)
    (hdone : ∀ W : World, I (lnB s) W → W.heap[w.heap.size]? = some (.deferred (some [])) → Q .normal { a with defers := { target := .collected w.heap.size, args := #[] } :: a.defers } W)
    (hstop : ∀ W : World, Ix W → W.heap[w.heap.size]? = some (.deferred (some [])) → Code.ret.wpIn Fence.wide n Tryz.prog Q { a with defers := { target := .collected w.heap.size, args := #[] } :: a.defers } W) :
    (Code.rangeFunc g #[p] assign body).wpIn Fence.wide n Tryz.prog Q a w := by
  have hBl : Bn < w.heap.size := cell_lt hc
  obtain ⟨D, hD⟩ : ∃ D, D = w.heap.size := ⟨_, rfl⟩
  rw [← hD] at hI hIx hassign hbody hdone hstop
  refine wpIn_rangeFunc ?_
  intro fn hfn
  rw [Fence.wide_round]
  obtain ⟨rec, hrec⟩ : ∃ rec : LoopState → Option Code → Loop, rec = fun st pe => { state := st, pending := pe, fn, tmps := a.tmps, params := #[p], assign, body, defers := w.heap.size } := ⟨_, rfl⟩
  obtain ⟨W1, hW1⟩ : ∃ W1, (w.alloc (.deferred (some []))).alloc (.loop (rec .ready none)) = W1 := ⟨_, rfl⟩
  have hL1 : W1.heap[D + 1]? = some (.loop (rec .ready none)) := by
    rw [← hW1, hD]; have := World.alloc_heap_new (w.alloc (.deferred (some []))) (.loop (rec .ready none)); rwa [World.size_alloc] at this
  have hK1 : W1.heap[D]? = some (.deferred (some [])) := by
    rw [← hW1, hD]; exact (Below.heap_alloc _ _ _ (by simp)).trans (World.alloc_heap_new w _)
  have hI1 : I [] W1 := by rw [← hW1]; exact hI _ _ _ (hI _ _ _ h0 (Upd.alloc _ _ _)) (Upd.alloc _ _ _)
  have hb1 : Below w.heap.size w W1 := by
    rw [← hW1]; exact ((Below.refl _ w).alloc (Nat.le_refl _) _).alloc (by simp) _
  have hc1 : W1.cell? ⟨Bn, 0, none⟩ = some (.string s) := (hb1.cell (p := ⟨Bn, 0, none⟩) hBl).trans hc
  have hf1 : W1.frozen? ⟨Bn, 0, none⟩ = false := (hb1.frozen (p := ⟨Bn, 0, none⟩) hBl).trans hf
  refine ⟨D + 1, [{ target := .collected D, args := #[] }], W1, { target := .fn (.func 76) #[.pointer (some ⟨Bn, 0, none⟩)], args := #[.func (.yield (D + 1)) #[] #[]] }, W1, 76,
    #[.func (.yield (D + 1)) #[] #[], .pointer (some ⟨Bn, 0, none⟩)], W1, ?_, ?_, ?_, ?_, fun h => (by cases h), ?_⟩
  · rw [← hW1, hrec, hD]; exact run_enterLoop_outer _ _ _ _ _
  · simp only [resolve, hg]
    simp [go_sem]
  · intro f' _; trivial
  · simp [invoke, go_sem]
  · refine (lines1_in (n - 1) (D + 1) Bn s hs
      (fun pre W => I pre W ∧ W.heap[D + 1]? = some (.loop (rec .ready none)) ∧ W.heap[D]? = some (.deferred (some [])))
      (fun _ W => Ix W ∧ W.heap[D + 1]? = some (.loop (rec .done (some .ret))) ∧ W.heap[D]? = some (.deferred (some [])))
      ?_ ?_ ?_ W1 hc1 hf1 ⟨hI1, hL1, hK1⟩).mono ?_
    · rintro pre W v ⟨h1, h2, h3⟩
      exact ⟨hI _ _ _ h1 (Upd.setCell _ (p := ⟨Bn, 0, none⟩) (.inl rfl) _), (Below.heap_setCell _ _ _ _ (by show D + 1 ≠ Bn; omega)).trans h2, (Below.heap_setCell _ _ _ _ (by show D ≠ Bn; omega)).trans h3⟩
    · rintro pre W ⟨h1, h2, h3⟩
      exact ⟨hI _ _ _ h1 (Upd.drew _ _), h2, h3⟩
    · -- one round
      rintro pre x W ⟨hi, hl, hk⟩ hpx
      have hlt : D + 1 < W.heap.size := (Array.getElem?_eq_some_iff.1 hl).1
      have hy := run_yield (P := Tryz.prog) (args := #[.string x]) hl (by rw [hrec]; rfl)
      rw [hrec] at hy
      have hz : ((#[p] : Array Tmp).zip #[Value.string x]) = #[(p, Value.string x)] := by simp
      dsimp only at hy
      rw [hz, List.foldl_toArray, List.foldl_cons, List.foldl_nil] at hy
      refine ⟨fn, _, assign, body, hy, roundIn_of_wpIn hfn ?_⟩
      have hkey := hassign x W (fun a₁ w₁ => ∃ w₂, (Instr.beginRound (D + 1)).run Tryz.prog w₁ = .ok () w₂ ∧ body.wpIn (Fence.wide.inRound (D + 1)) (n - 1 - 1) Tryz.prog (roundPost Tryz.prog (D + 1) (fun e W' =>
      (e = .returned (.bool true) ∧ (I (pre ++ [x]) W' ∧ W'.heap[D + 1]? = some (.loop (rec .ready none)) ∧ W'.heap[D]? = some (.deferred (some []))) ∧ Cells Bn W W') ∨ (e = .returned (.bool false) ∧ (Ix W' ∧ W'.heap[D + 1]? = some (.loop (rec .done (some .ret))) ∧ W'.heap[D]? = some (.deferred (some [])))))) a₁ w₂)
      refine hkey ⟨_, run_beginRound hl (by rw [hrec]), ?_⟩
      obtain ⟨W2, hW2⟩ : ∃ W2, W2 = W.putObj (D + 1) (.loop { rec .ready none with state := .busy }) := ⟨_, rfl⟩
      rw [← hW2]
      have hl2 : W2.heap[D + 1]? = some (.loop { rec .ready none with state := .busy }) := by rw [hW2]; exact World.putObj_heap_same hlt
      have hk2 : W2.heap[D]? = some (.deferred (some [])) := by rw [hW2]; exact (World.putObj_heap_other (by omega)).trans hk
      have hi2 : I pre W2 := by rw [hW2]; exact hI _ _ _ hi (Upd.putObj _ (.inr (.inr rfl)) _)
      have hs2 : D + 1 < W2.heap.size := (Array.getElem?_eq_some_iff.1 hl2).1
      have hcB : Cells Bn W W2 := by rw [hW2]; exact ⟨World.cell?_of_block (World.putObj_heap_other (by show Bn ≠ D + 1; omega)), World.frozen?_of_block (World.putObj_heap_other (by show Bn ≠ D + 1; omega))⟩
      have hdone' : ∀ (st : LoopState) (pe : Option Code) (W3 : World), Kp Bn D W2 W3 → (W3.putObj (D + 1) (.loop (rec st pe))).heap[D + 1]? = some (.loop (rec st pe)) ∧ (W3.putObj (D + 1) (.loop (rec st pe))).heap[D]? = some (.deferred (some [])) ∧ Cells Bn W (W3.putObj (D + 1) (.loop (rec st pe))) := fun st pe W3 hkp => by
        have h3 := hkp.loop.trans hl2
        refine ⟨World.putObj_heap_same (Array.getElem?_eq_some_iff.1 h3).1, (World.putObj_heap_other (by omega)).trans (hkp.mark.trans hk2), ?_⟩
        have e1 : (W3.putObj (D + 1) (.loop (rec st pe))).heap[Bn]? = W3.heap[Bn]? := World.putObj_heap_other (by omega)
        exact ⟨(World.cell?_of_block e1).trans (hkp.cells.1.trans hcB.1), (World.frozen?_of_block e1).trans (hkp.cells.2.trans hcB.2)⟩
      refine wpIn_mono (hbody pre x W2 hi2 hpx hs2) ?_
      rintro e a3 W3 hp
      cases e with
      | normal =>
        obtain ⟨hkp, hi3⟩ := hp
        obtain ⟨h4, h5, h6⟩ := hdone' .ready none W3 hkp
        have hr := run_endRound (P := Tryz.prog) none (hkp.loop.trans hl2)
        rw [hrec] at hr h4 h5 h6
        refine ⟨_, _, hr, .inl ⟨rfl, ⟨hI _ _ _ hi3 (Upd.putObj _ (.inr (.inr rfl)) _), ?_, h5⟩, h6⟩⟩
        rw [hrec]
        exact h4
      | ret =>
        obtain ⟨hkp, hi3⟩ := hp
        obtain ⟨h4, h5, h6⟩ := hdone' .done (some .ret) W3 hkp
        have hr := run_endRound (P := Tryz.prog) (some .ret) (hkp.loop.trans hl2)
        rw [hrec] at hr h4 h5 h6
        refine ⟨_, _, hr, .inr ⟨rfl, hIx _ _ hi3 (Upd.putObj _ (.inr (.inr rfl)) _), ?_, h5⟩⟩
        rw [hrec]
        exact h4
      | exit id => exact hp.elim
      | goto t => exact hp.elim
      | panic ch => exact hp.elim
      | outgrown => exact hp.elim
    · -- behind the iterator
      rintro e W2 ⟨⟨v, rfl⟩, (⟨hi, hl, hk⟩ | ⟨pre, _, hi, hl, hk⟩)⟩
      · refine ⟨none, _, by have := run_endLoop (P := Tryz.prog) hl (by rw [hrec]; simp); rw [hrec] at this; exact this, ?_⟩
        exact hdone _ (hI _ _ _ hi (Upd.putObj _ (.inr (.inr rfl)) _)) ((World.putObj_heap_other (by omega)).trans hk)
      · refine ⟨some .ret, _, by have := run_endLoop (P := Tryz.prog) hl (by rw [hrec]; simp); rw [hrec] at this; exact this, ?_⟩
        exact hstop _ (hIx _ _ hi (Upd.putObj _ (.inr (.inr rfl)) _)) ((World.putObj_heap_other (by omega)).trans hk)

/-! What holds for a plain operation holds in a round. -/
theorem op_round {P : Program} {o : Oper} {a : Act} {w : World} {K : Act → World → Prop} {Q : Exit → Act → World → Prop} {l n : Nat} (hd : ∀ c, o.op ≠ .defer c) (h : o.wp P a w K Q) : o.wpIn (Fence.wide.inRound l) n P a w K Q := by
  refine ⟨fun _ _ => trivial, ?_⟩
  show o.uponIn (Fence.wide.inRound l) n P a K Q ((o.semAt (some l) a.eval).run P w)
  rw [Oper.semAt_some l _ o hd]
  have h2 : o.upon P a K Q ((execOp a.eval o).run P w) := h
  generalize (execOp a.eval o).run P w = r at h2
  cases r with
  | ok x w' =>
    cases x with
    | value v => exact h2
    | skip => exact h2
    | defer d => exact h2
    | enter f args =>
      refine ⟨fun h => (by cases h), CallsIn.inRound l (callsIn_wide.2 ?_)⟩
      exact Calls.mono h2 fun e w'' he => (by cases e <;> exact he)
    | row row args =>
      exact ⟨fun h => (by cases h), fun c cs _ => let ⟨v, w'', r, st⟩ := h2 c cs; ⟨v, w'', r, stepsIn_wide.2 st⟩⟩
    | _ => exact h2.elim
  | halt x w' => cases x <;> first | exact h2 | exact h2.elim
end Go.Proofs.YtpkjdnplmgfbbaaGreatDoor
