/- 'for _, c := range slices.Backward(p)': the law of the statement, for a body that goes on. What holds for a plain operation holds in a round. -/
import Derived.Test.YtdmdagilopckgaaGreatBkw
namespace Go.Proofs.YtdmdagilopckgaaGreat
open Go.RowKit Go.Shelf

/-- All blocks of cells are as they were, and all below n. -/
structure Kc (n : Nat) (A B : World) : Prop where
  os : B.os = A.os
  tape : B.tape = A.tape
  output : B.output = A.output
  size : A.heap.size ≤ B.heap.size
  cells : ∀ (k : Nat) (xs : Array Value) (t : TypeId) z, A.heap[k]? = some (.cells xs t z) → B.heap[k]? = A.heap[k]?
  block : ∀ k, k < n → B.heap[k]? = A.heap[k]?
theorem Kc.alloc {n : Nat} (A : World) (hn : n ≤ A.heap.size) (o : Obj) : Kc n A (A.alloc o) :=
  ⟨rfl, rfl, rfl, by simp, fun k xs t z h => Below.heap_alloc A o k (Array.getElem?_eq_some_iff.1 h).1, fun k hk => Below.heap_alloc A o k (by omega)⟩
theorem Kc.putObj {n : Nat} {A : World} {l : Nat} {r : Loop} (h : A.heap[l]? = some (.loop r)) (hl : n ≤ l) (o : Obj) : Kc n A (A.putObj l o) :=
  ⟨rfl, rfl, rfl, by simp [World.putObj], fun k xs t z hk => World.putObj_heap_other (fun e => by rw [e, h] at hk; cases hk), fun k hk => World.putObj_heap_other (by omega)⟩
theorem Kc.below {n : Nat} {A B : World} (h : Kc n A B) : Below n A B := ⟨h.os, h.tape, h.output, h.size, h.block⟩
theorem Kc.cell {n : Nat} {A B : World} (h : Kc n A B) {b o : Nat} {v : Value} (hv : A.cell? ⟨b, o, none⟩ = some v) : B.cell? ⟨b, o, none⟩ = some v := by
  have h1 : B.heap[b]? = A.heap[b]? := by
    have h2 := hv
    unfold World.cell? at h2
    cases hb : A.heap[b]? with
    | none => simp only [hb] at h2; cases h2
    | some ob =>
      cases ob with
      | cells xs t z => rw [h.cells b xs t z hb, hb]
      | _ => simp only [hb] at h2; cases h2
  rw [World.cell?_of_block h1]
  exact hv
theorem Kc.ni {n : Nat} {A B : World} (h : Kc n A B) {D : Nat → Prop} {v : Value} {x : Int} (hv : NIntV A D v x) : NIntV B D v x := by
  obtain ⟨A', c', e, hwd⟩ := hv
  refine ⟨A', c', e, hwd.len, hwd.cap, hwd.room, hwd.small, fun hn => ?_⟩
  obtain ⟨b, off, e2, hd, hc⟩ := hwd.cells hn
  exact ⟨b, off, e2, hd, fun i hi => h.cell (hc i hi)⟩
theorem Kc.iarr {n : Nat} {A B : World} (h : Kc n A B) {g : Nat} {l : List Int} (hv : IArr A g l) : IArr B g l := by
  obtain ⟨xs, h1, h2, h3⟩ := hv
  refine ⟨xs, (h.cells g _ _ _ h1).trans h1, h2, fun j hj => ?_⟩
  obtain ⟨neg, B', m, k, e0, e1, e2⟩ := h3 j hj
  exact ⟨neg, B', m, k, e0, e1, h.ni e2⟩
theorem Kc.pl {n : Nat} {A B : World} (h : Kc n A B) {D : Nat → Prop} {A' : Option Addr} {m c : Nat} {l : List Int} (hv : Pl NI A D A' m c l) : Pl NI B D A' m c l :=
  ⟨hv.len, hv.cap, hv.room, fun hn => by
    obtain ⟨b, off, e, hb, hc⟩ := hv.cells hn
    refine ⟨b, off, e, hb, fun j hj => ?_⟩
    obtain ⟨neg, B', m', k, h0, h1, h2⟩ := hc j hj
    exact ⟨neg, B', m', k, h.cell h0, h.cell h1, h.ni h2⟩⟩

/-- What a body keeps: the loop's two blocks. -/
structure Kq (D : Nat) (W W' : World) : Prop where
  mark : W'.heap[D]? = W.heap[D]?
  loop : W'.heap[D + 1]? = W.heap[D + 1]?
  size : W.heap.size ≤ W'.heap.size
def backPost (D : Nat) (I : World → Prop) (W : World) : Exit → Act → World → Prop
  | .normal, _, W' => Kq D W W' ∧ I W'
  | _, _, _ => False

theorem wp_rangeBack {g : Operand} {p1 p2 : Tmp} {assign body : Code} {Q : Exit → Act → World → Prop} {a : Act} {w : World} {n : Nat} (Bn : Nat) (A : Option Addr) (m c : Nat) (L : List Int)
    (hg : a.eval g = .func (.func 110) #[] #[.pointer (some ⟨Bn, 0, none⟩)])
    (I : Nat → World → Prop)
    (hIc : ∀ j W, I j W → W.cell? ⟨Bn, 0, none⟩ = some (.slice A m c) ∧ Pl NI W (fun _ => True) A m c L)
    (hI : ∀ j A B, I j A → Kc w.heap.size A B → I j B)
    (h0 : I m w) (a₁ : Nat → Value → Nat → Act)
    (hassign : ∀ j neg B k q (W : World) (K : Act → World → Prop), I (j + 1) W → K (a₁ j (.agg #[.bool neg, .slice B k q]) W.heap.size) (W.alloc (.cells #[.bool neg, .slice B k q] 63)) →
      assign.wpIn (Fence.wide.inRound (w.heap.size + 1)) (n - 1 - 1) Tryz.prog (Exit.then K (fun _ _ _ => False)) { tmps := (a.tmps.setIfInBounds p1 (.int .i64 (j : Nat))).setIfInBounds p2 (.agg #[.bool neg, .slice B k q]), defers := [] } W)
    (hbody : ∀ j neg B k q P (W : World), j < m → I (j + 1) W → NI W (.agg #[.bool neg, .slice B k q]) (gz L j) → Bx W P neg B k q → w.heap.size + 1 < P →
      body.wpIn (Fence.wide.inRound (w.heap.size + 1)) (n - 1 - 1) Tryz.prog (backPost w.heap.size (I j) W) (a₁ j (.agg #[.bool neg, .slice B k q]) P) W)
    (hdone : ∀ W : World, I 0 W → W.heap[w.heap.size]? = some (.deferred (some [])) → Q .normal { a with defers := { target := .collected w.heap.size, args := #[] } :: a.defers } W) :
    (Code.rangeFunc g #[p1, p2] assign body).wpIn Fence.wide n Tryz.prog Q a w := by
  obtain ⟨D, hD⟩ : ∃ D, D = w.heap.size := ⟨_, rfl⟩
  rw [← hD] at hI hassign hbody hdone
  refine wpIn_rangeFunc ?_
  intro fn hfn
  rw [Fence.wide_round]
  obtain ⟨rec, hrec⟩ : ∃ rec : LoopState → Option Code → Loop, rec = fun st pe => { state := st, pending := pe, fn, tmps := a.tmps, params := #[p1, p2], assign, body, defers := w.heap.size } := ⟨_, rfl⟩
  obtain ⟨W1, hW1⟩ : ∃ W1, (w.alloc (.deferred (some []))).alloc (.loop (rec .ready none)) = W1 := ⟨_, rfl⟩
  have hL1 : W1.heap[D + 1]? = some (.loop (rec .ready none)) := by
    rw [← hW1, hD]; have := World.alloc_heap_new (w.alloc (.deferred (some []))) (.loop (rec .ready none)); rwa [World.size_alloc] at this
  have hK1 : W1.heap[D]? = some (.deferred (some [])) := by
    rw [← hW1, hD]; exact (Below.heap_alloc _ _ _ (by simp)).trans (World.alloc_heap_new w _)
  have hI1 : I m W1 := by rw [← hW1]; exact hI _ _ _ (hI _ _ _ h0 (Kc.alloc _ (by omega) _)) (Kc.alloc _ (by simp; omega) _)
  refine ⟨D + 1, [{ target := .collected D, args := #[] }], W1, { target := .fn (.func 110) #[.pointer (some ⟨Bn, 0, none⟩)], args := #[.func (.yield (D + 1)) #[] #[]] }, W1, 110,
    #[.func (.yield (D + 1)) #[] #[], .pointer (some ⟨Bn, 0, none⟩)], W1, ?_, ?_, ?_, ?_, fun h => (by cases h), ?_⟩
  · rw [← hW1, hrec, hD]; exact run_enterLoop_outer _ _ _ _ _
  · simp only [resolve, hg]
    simp [go_sem]
  · intro f' _; trivial
  · simp [invoke, go_sem]
  · refine (bkw1_in (n - 1) (D + 1) Bn A m c L
      (fun j W => I j W ∧ W.heap[D + 1]? = some (.loop (rec .ready none)) ∧ W.heap[D]? = some (.deferred (some [])))
      (fun j W h => hIc j W h.1) ?_ W1 ⟨hI1, hL1, hK1⟩).mono ?_
    · -- one round
      rintro j neg B k q W hj ⟨hi, hl, hk⟩ hv
      have hlt : D + 1 < W.heap.size := (Array.getElem?_eq_some_iff.1 hl).1
      have hy := run_yield (P := Tryz.prog) (args := #[.int .i64 (j : Nat), .agg #[.bool neg, .slice B k q]]) hl (by rw [hrec]; rfl)
      rw [hrec] at hy
      have hz : ((#[p1, p2] : Array Tmp).zip #[Value.int .i64 (j : Nat), .agg #[.bool neg, .slice B k q]]) = #[(p1, Value.int .i64 (j : Nat)), (p2, .agg #[.bool neg, .slice B k q])] := by simp
      dsimp only at hy
      rw [hz, List.foldl_toArray, List.foldl_cons, List.foldl_cons, List.foldl_nil] at hy
      refine ⟨fn, _, assign, body, hy, roundIn_of_wpIn hfn ?_⟩
      have hkey := hassign j neg B k q W (fun a₁ w₁ => ∃ w₂, (Instr.beginRound (D + 1)).run Tryz.prog w₁ = .ok () w₂ ∧ body.wpIn (Fence.wide.inRound (D + 1)) (n - 1 - 1) Tryz.prog (roundPost Tryz.prog (D + 1) (fun e W' =>
      e = .returned (.bool true) ∧ I j W' ∧ W'.heap[D + 1]? = some (.loop (rec .ready none)) ∧ W'.heap[D]? = some (.deferred (some [])))) a₁ w₂) hi
      refine hkey ?_
      obtain ⟨Wa, hWa⟩ : ∃ Wa, Wa = W.alloc (.cells #[.bool neg, .slice B k q] 63) := ⟨_, rfl⟩
      have hbx : Bx Wa W.heap.size neg B k q := by rw [hWa]; exact Bx.new ..
      have hba : Below W.heap.size W Wa := by rw [hWa]; exact below_al (Below.refl _ _) _
      rw [← hWa]
      have hla := (hba.block (D + 1) hlt).trans hl
      have hka := (hba.block D (by omega)).trans hk
      have hia : I (j + 1) Wa := by rw [hWa]; exact hI _ _ _ hi (Kc.alloc _ (by omega) _)
      have hva := NI.below hv hba
      have hlta : D + 1 < Wa.heap.size := Nat.lt_of_lt_of_le hlt hba.size
      refine ⟨_, run_beginRound hla (by rw [hrec]), ?_⟩
      obtain ⟨W2, hW2⟩ : ∃ W2, W2 = Wa.putObj (D + 1) (.loop { rec .ready none with state := .busy }) := ⟨_, rfl⟩
      rw [← hW2]
      have hl2 : W2.heap[D + 1]? = some (.loop { rec .ready none with state := .busy }) := by rw [hW2]; exact World.putObj_heap_same hlta
      have hk2 : W2.heap[D]? = some (.deferred (some [])) := by rw [hW2]; exact (World.putObj_heap_other (by omega)).trans hka
      have hi2 : I (j + 1) W2 := by rw [hW2]; exact hI _ _ _ hia (Kc.putObj hla (by omega) _)
      have hoff : ∀ b o, b ≠ D + 1 → W2.cell? ⟨b, o, none⟩ = Wa.cell? ⟨b, o, none⟩ := fun b o hb => by rw [hW2]; exact World.cell?_of_block (World.putObj_heap_other (by exact hb))
      have hofz : ∀ b o, b ≠ D + 1 → W2.frozen? ⟨b, o, none⟩ = Wa.frozen? ⟨b, o, none⟩ := fun b o hb => by rw [hW2]; exact World.frozen?_of_block (World.putObj_heap_other (by exact hb))
      have hbx2 : Bx W2 W.heap.size neg B k q := ⟨(hoff _ _ (by omega)).trans hbx.1, (hoff _ _ (by omega)).trans hbx.2.1, (hofz _ _ (by omega)).trans hbx.2.2.1, (hofz _ _ (by omega)).trans hbx.2.2.2⟩
      have hv2 : NI W2 (.agg #[.bool neg, .slice B k q]) (gz L j) := by
        obtain ⟨A', c', e, hwd⟩ := hva
        refine ⟨A', c', e, hwd.len, hwd.cap, hwd.room, hwd.small, fun hn => ?_⟩
        obtain ⟨b, off, e2, _, hc⟩ := hwd.cells hn
        refine ⟨b, off, e2, trivial, fun i hi => ?_⟩
        have h9 := hc i hi
        rw [hoff _ _ (fun e3 => ?_)]
        · exact h9
        · rw [e3] at h9
          unfold World.cell? at h9
          rw [hla] at h9
          simp at h9
      have hdone' : ∀ (st : LoopState) (pe : Option Code) (W3 : World), Kq D W2 W3 → (W3.putObj (D + 1) (.loop (rec st pe))).heap[D + 1]? = some (.loop (rec st pe)) ∧ (W3.putObj (D + 1) (.loop (rec st pe))).heap[D]? = some (.deferred (some [])) := fun st pe W3 hkp => by
        have h3 := hkp.loop.trans hl2
        exact ⟨World.putObj_heap_same (Array.getElem?_eq_some_iff.1 h3).1, (World.putObj_heap_other (by omega)).trans (hkp.mark.trans hk2)⟩
      refine wpIn_mono (hbody j neg B k q W.heap.size W2 hj hi2 hv2 hbx2 hlt) ?_
      rintro e a3 W3 hp
      cases e with
      | normal =>
        obtain ⟨hkp, hi3⟩ := hp
        obtain ⟨h4, h5⟩ := hdone' .ready none W3 hkp
        have hr := run_endRound (P := Tryz.prog) none (hkp.loop.trans hl2)
        rw [hrec] at hr h4 h5
        refine ⟨_, _, hr, rfl, hI _ _ _ hi3 (Kc.putObj (hkp.loop.trans hl2) (by omega) _), ?_, h5⟩
        rw [hrec]
        exact h4
      | ret => exact hp.elim
      | exit id => exact hp.elim
      | goto t => exact hp.elim
      | panic ch => exact hp.elim
      | outgrown => exact hp.elim
    · -- behind the iterator
      rintro e W2 ⟨⟨v, rfl⟩, hi, hl, hk⟩
      refine ⟨none, _, by have := run_endLoop (P := Tryz.prog) hl (by rw [hrec]; simp); rw [hrec] at this; exact this, ?_⟩
      exact hdone _ (hI _ _ _ hi (Kc.putObj hl (by omega) _)) ((World.putObj_heap_other (by omega)).trans hk)

/-! What holds for a plain operation holds in a round. -/
theorem op_round {P : Program} {o : Oper} {a : Act} {w : World} {K : Act → World → Prop} {Q : Exit → Act → World → Prop} {l n : Nat} (hd : ∀ c, o.op ≠ .defer c) (h : o.wp P a w K Q) : o.wpIn (Fence.wide.inRound l) n P a w K Q := by
  refine ⟨fun _ _ => trivial, ?_⟩
  show o.uponIn (Fence.wide.inRound l) n P a K Q ((o.semAt (some l) a.eval).run P w)
  rw [Oper.semAt_some l _ o hd]
  have h2 : o.upon P a K Q ((execOp a.eval o).run P w) := h
  generalize (execOp a.eval o).run P w = r at h2
  cases r with
  | ok x w' =>
    cases x with
    | value v => exact h2
    | skip => exact h2
    | defer d => exact h2
    | enter f args =>
      refine ⟨fun h => (by cases h), CallsIn.inRound l (callsIn_wide.2 ?_)⟩
      exact Calls.mono h2 fun e w'' he => (by cases e <;> exact he)
    | row row args =>
      exact ⟨fun h => (by cases h), fun c cs _ => let ⟨v, w'', r, st⟩ := h2 c cs; ⟨v, w'', r, stepsIn_wide.2 st⟩⟩
    | _ => exact h2.elim
  | halt x w' => cases x <;> first | exact h2 | exact h2.elim
def noDef (o : Oper) : Bool := match o.op with | .defer _ => false | _ => true
theorem noDef_spec {o : Oper} (h : noDef o = true) : ∀ c, o.op ≠ .defer c := fun c e => by unfold noDef at h; rw [e] at h; cases h
section
variable {P : Program} {ops : Array Oper} {Q : Exit → Act → World → Prop} {l n : Nat}
theorem opsIn_round (hd : ops.all noDef = true) (hQ : ¬ LetsOut Q) : ∀ (is : List Nat) (a : Act) (w : World), wpOps P ops Q is a w → wpOpsIn (Fence.wide.inRound l) n P ops Q is a w
  | [], _, _, h => h
  | i :: rest, a, w, h => by
    simp only [wpOps] at h
    simp only [wpOpsIn]
    cases ho : ops[i]? with
    | none =>
      rw [ho] at h
      exact opsIn_round hd hQ rest a w h
    | some o =>
      rw [ho] at h
      have hnd : noDef o = true := by
        obtain ⟨hi, rfl⟩ := Array.getElem?_eq_some_iff.1 ho
        exact Array.all_eq_true.1 hd i hi
      dsimp only at h ⊢
      by_cases hw : Region.wanted o (yielded ops a.tmps) = true
      · rw [if_pos hw] at h ⊢
        rcases h with h | h
        · refine Oper.wpIn_mono (fun a' w' h' => opsIn_round hd hQ rest a' w' h') (op_round (noDef_spec hnd) h)
        · exact absurd h.2 hQ
      · rw [if_neg hw] at h ⊢
        exact ⟨fun _ _ => trivial, opsIn_round hd hQ rest _ w h⟩
theorem region_round_draw {id : Nat} {a : Act} {w : World} (hm : P.follows .mixedOrders = true) (hd : ops.all noDef = true) (hQ : ¬ LetsOut Q)
    (h : wpAny P .any ops Q ops.size (Array.replicate ops.size false) a w.drew) : (Code.region id ops true).wpIn (Fence.wide.inRound l) n P Q a w := by
  refine wpIn_region_draw fun t => ?_
  refine opsIn_round hd hQ _ a _ ?_
  simp only [Region.schedule, hm, Bool.true_or, if_true]
  exact wpAny_sound ops.size t _ a _ h
theorem listIn_op {o : Oper} {rest : List Oper} {a : Act} {w : World} (hgd : o.guard = none) (hd : ∀ c, o.op ≠ .defer c) (h : o.wp P a w (wpListIn (Fence.wide.inRound l) n P ops Q rest) Q) : wpListIn (Fence.wide.inRound l) n P ops Q (o :: rest) a w := by
  unfold wpListIn
  have hw : Region.wanted o (yielded ops a.tmps) = true := by simp [Region.wanted, hgd]
  rw [if_pos hw]
  exact op_round hd h
end

variable {md : Region.Mode} {S : World → Prop} {Z : List Nat}
section
variable {P : Program} {Q : Exit → Act → World → Prop}
/-- A region that draws its order, in a round. -/
theorem wpIn_region_trg {id l n : Nat} {a : Act} {w : World} {L : List Oper} (t : Trg) (Z : List Nat) (hm : P.follows .mixedOrders = true) (hl : t.deep = L.length) (hs : Region.noSelect L.toArray = true) (hd : L.toArray.all noDef = true) (hB : planG .any L.toArray Z t (Array.replicate L.length false) = true)
    (hQ : ∀ c a t v w, Q (.panic c) (Act.put a (some t) v) w → Q (.panic c) a w) (hQ2 : ¬ LetsOut Q) (S : World → Prop) (h : goG P L.toArray Q S Z t a w.drew) : (Code.region id L.toArray true).wpIn (Fence.wide.inRound l) n P Q a w := by
  refine region_round_draw hm hd hQ2 (wpAny_of_G (S := S) (Z := Z) _ _ _ _ ?_)
  have hsz : L.toArray.size = L.length := by simp
  rw [hsz, ← hl]
  rw [← hl] at hB
  exact wpAnyG_tre hs hQ t _ a w.drew hB h
end
end Go.Proofs.YtdmdagilopckgaaGreat
