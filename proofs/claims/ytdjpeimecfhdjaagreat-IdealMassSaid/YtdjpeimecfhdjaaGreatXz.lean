/- Package wide: the statement that ranges over short vectors. Regions that draw their order in a round of a range over a function. Package wide: Short. -/
import Derived.Test.YtdjpeimecfhdjaaGreatXy
import Derived.RangeFuncNested
import Derived.RangeFuncBound
import Derived.RangeFuncCalls
import Derived.RangeFuncLeaves
import Derived.Shelf.Abstract
import Derived.Shelf.RegionOpen
import Derived.WalkKit
import Derived.OwnWalkIn
import Derived.TacticsInMore
import Derived.LoopNIn
import Derived.LoopIn
namespace Go.Proofs.YtdjpeimecfhdjaaGreat
open Go.RowKit Go.Shelf
theorem Frm.putObj (w : World) (l : Nat) (o : Obj) : Frm (· = l) w (w.putObj l o) := ⟨rfl, rfl, rfl, by simp [World.putObj], fun k _ hk => World.putObj_heap_other (fun e => hk e)⟩
def shPost (B : Nat) (MO : Nat → Prop) (J : World → Prop) (W : World) : Exit → Act → World → Prop
 | .normal, _, W' => FrZ B MO W W' ∧ J W'
 | _, _, _ => False
theorem nocellL {w : World} {l : Nat} {o : Loop} (h : w.heap[l]? = some (.loop o)) (u : Nat) : w.cell? ⟨l, u, none⟩ = none := by
 unfold World.cell?
 simp only [h]
theorem nocellD {w : World} {l : Nat} {o : Option (List Deferred)} (h : w.heap[l]? = some (.deferred o)) (u : Nat) : w.cell? ⟨l, u, none⟩ = none := by
 unfold World.cell?
 simp only [h]
theorem wp_rangeShort {σ : Type} {g : Operand} {p1 p2 : Tmp} {assign body : Code} {Q : Exit → Act → World → Prop} {a : Act} {w : World} {n m P1 P2 cG : Nat} {AG : Option Addr} {G : List (List Int)} {b : Int} {step : List Int → Int → σ → Option σ}
  (hg : a.eval g = .func (.func 185) #[] #[.pointer (some ⟨P1, 0, none⟩), .pointer (some ⟨P2, 0, none⟩)]) (h1 : w.cell? ⟨P1, 0, none⟩ = some (.slice AG m cG)) (hG : RM w (.slice AG m cG) G) (h2 : BT w P2 b) (hS : ShOK m G b)
  (MO : Nat → Prop) (I : σ → World → Prop) (hMO : ∀ b, MO b → b < w.heap.size)
  (hI : ∀ s A B, I s A → Frm (fun b => w.heap.size ≤ b ∧ ¬ i64B A b) A B → I s B) (hI32 : ∀ s W, I s W → ∀ b, MO b → ∀ o x, W.cell? ⟨b, o, none⟩ ≠ some (.int .u32 x))
  {s0 s9 : σ} (h0 : I s0 w) (hw : wkW (unitL m) (shH m G) b step m (List.replicate m 0) s0 = some s9)
  (a₁ : Value → Bool → Option Addr → Nat → Nat → World → Act)
  (hassign : ∀ (v : Value) (neg : Bool) (B : Option Addr) (q c : Nat) (W : World) (K : Act → World → Prop), K (a₁ v neg B q c W) (W.alloc (.cells #[.bool neg, .slice B q c] 40)) →
   assign.wpIn (Fence.wide.inRound (w.heap.size + 1)) (n - 1 - 1) Tryz.prog (Exit.then K (fun _ _ _ => False)) { tmps := (a.tmps.setIfInBounds p1 v).setIfInBounds p2 (.agg #[.bool neg, .slice B q c]), defers := [] } W)
  (hbody : ∀ (s s' : σ) (x : List Int) (y : Int) (v : Value) (neg : Bool) (B : Option Addr) (q c : Nat) (W0 W : World), I s W → PvD W (fun _ => True) v x → NIntV W (fun _ => True) (.agg #[.bool neg, .slice B q c]) y → step x y s = some s' → Arr W W0.heap.size 40 [.bool neg, .slice B q c] → w.heap.size + 1 < W0.heap.size →
   body.wpIn (Fence.wide.inRound (w.heap.size + 1)) (n - 1 - 1) Tryz.prog (shPost (w.heap.size + 2) MO (I s') W) (a₁ v neg B q c W0) W)
  (hdone : ∀ W : World, I s9 W → W.heap[w.heap.size]? = some (.deferred (some [])) → Q .normal { a with defers := { target := .collected w.heap.size, args := #[] } :: a.defers } W) :
  (Code.rangeFunc g #[p1, p2] assign body).wpIn Fence.wide n Tryz.prog Q a w := by
 obtain ⟨D, hD⟩ : ∃ D, D = w.heap.size := ⟨_, rfl⟩
 rw [← hD] at hI hassign hbody hdone hMO
 refine wpIn_rangeFunc ?_
 intro fn hfn
 rw [Fence.wide_round]
 obtain ⟨rec, hrec⟩ : ∃ rec : LoopState → Option Code → Loop, rec = fun st pe => { state := st, pending := pe, fn, tmps := a.tmps, params := #[p1, p2], assign, body, defers := w.heap.size } := ⟨_, rfl⟩
 obtain ⟨W1, hW1⟩ : ∃ W1, (w.alloc (.deferred (some []))).alloc (.loop (rec .ready none)) = W1 := ⟨_, rfl⟩
 have hL1 : W1.heap[D + 1]? = some (.loop (rec .ready none)) := by
  rw [← hW1, hD]; have := World.alloc_heap_new (w.alloc (.deferred (some []))) (.loop (rec .ready none)); rwa [World.size_alloc] at this
 have hK1 : W1.heap[D]? = some (.deferred (some [])) := by
  rw [← hW1, hD]; exact (Below.heap_alloc _ _ _ (by simp)).trans (World.alloc_heap_new w _)
 have hb1 : Below w.heap.size w W1 := by
  rw [← hW1]; exact ((Below.refl _ w).alloc (Nat.le_refl _) _).alloc (by simp) _
 have hs1 : D + 2 ≤ W1.heap.size := by rw [← hW1, hD]; simp
 have hI1 : I s0 W1 := hI _ _ _ h0 (Frm.of_below hb1)
 have hloopI : ∀ s (A : World) (o : Obj) (r : Loop), A.heap[D + 1]? = some (.loop r) → I s A → I s (A.putObj (D + 1) o) := fun s A o r hr h => hI _ _ _ h ((Frm.putObj A (D + 1) o).mono fun b _ e => ⟨by omega, fun hm => by subst e; obtain ⟨⟨o2, u, hu⟩, _⟩ := hm; rw [nocellL hr] at hu; cases hu⟩)
 refine ⟨D + 1, [{ target := .collected D, args := #[] }], W1, { target := .fn (.func 185) #[.pointer (some ⟨P1, 0, none⟩), .pointer (some ⟨P2, 0, none⟩)], args := #[.func (.yield (D + 1)) #[] #[]] }, W1, 185,
  #[.func (.yield (D + 1)) #[] #[], .pointer (some ⟨P1, 0, none⟩), .pointer (some ⟨P2, 0, none⟩)], W1, ?_, ?_, ?_, ?_, fun h => (by cases h), ?_⟩
 ·rw [← hW1, hrec, hD]; exact run_enterLoop_outer _ _ _ _ _
 ·simp only [resolve, hg]
  simp [go_sem]
 ·intro f' _; trivial
 ·simp [invoke, go_sem]
 ·have Y : Yielder (n - 1 - 1) (D + 1) (D + 2) (fun b => MO b ∨ b = D ∨ b = D + 1) (fun s W => I s W ∧ W.heap[D + 1]? = some (.loop (rec .ready none)) ∧ W.heap[D]? = some (.deferred (some []))) step := by
   refine ⟨?_, ?_, ?_⟩
   ·rintro s A B ⟨hi, hl, hk⟩ hf
    refine ⟨hI _ _ _ hi (hf.mono fun b _ h => ⟨by omega, h.2⟩), ?_, ?_⟩
    ·exact (hf.block (D + 1) (Array.getElem?_eq_some_iff.1 hl).1 fun h => by omega).trans hl
    ·exact (hf.block D (Array.getElem?_eq_some_iff.1 hk).1 fun h => by omega).trans hk
   ·intro b hb
    rcases hb with h | h | h
    ·have := hMO b h; omega
    ·omega
    ·omega
   ·rintro s s' W E E' v u x y ⟨hi, hl, hk⟩ hv hu hst
    obtain ⟨neg, B, q, c, rfl, hu⟩ := hu.shp
    have hlt : D + 1 < W.heap.size := (Array.getElem?_eq_some_iff.1 hl).1
    have hy := run_yield (P := Tryz.prog) (args := #[v, .agg #[.bool neg, .slice B q c]]) hl (by rw [hrec]; rfl)
    rw [hrec] at hy
    have hz : ((#[p1, p2] : Array Tmp).zip #[v, .agg #[.bool neg, .slice B q c]]) = #[(p1, v), (p2, .agg #[.bool neg, .slice B q c])] := by simp
    dsimp only at hy
    rw [hz, List.foldl_toArray, List.foldl_cons, List.foldl_cons, List.foldl_nil] at hy
    refine ⟨fn, _, assign, body, hy, roundIn_of_wpIn hfn ?_⟩
    have hkey := hassign v neg B q c W (fun a₁ w₁ => ∃ w₂, (Instr.beginRound (D + 1)).run Tryz.prog w₁ = .ok () w₂ ∧ body.wpIn (Fence.wide.inRound (D + 1)) (n - 1 - 1) Tryz.prog (roundPost Tryz.prog (D + 1) (fun e W' =>
     e = .returned (.bool true) ∧ (I s' W' ∧ W'.heap[D + 1]? = some (.loop (rec .ready none)) ∧ W'.heap[D]? = some (.deferred (some []))) ∧ FrZ (D + 2) (fun b => MO b ∨ b = D ∨ b = D + 1) W W')) a₁ w₂)
    have hlA : (W.alloc (.cells #[.bool neg, .slice B q c] 40)).heap[D + 1]? = some (.loop (rec .ready none)) := (Below.heap_alloc _ _ _ hlt).trans hl
    refine hkey ⟨_, run_beginRound hlA (by rw [hrec]), ?_⟩
    have hkA : (W.alloc (.cells #[.bool neg, .slice B q c] 40)).heap[D]? = some (.deferred (some [])) := (Below.heap_alloc _ _ _ (by omega)).trans hk
    have hNA : Arr (W.alloc (.cells #[.bool neg, .slice B q c] 40)) W.heap.size 40 [.bool neg, .slice B q c] := Arr.new W _ [.bool neg, .slice B q c]
    have hbA : Below W.heap.size W (W.alloc (.cells #[.bool neg, .slice B q c] 40)) := (Below.refl _ _).alloc (Nat.le_refl _) _
    have hiA : I s (W.alloc (.cells #[.bool neg, .slice B q c] 40)) := hI _ _ _ hi (Frm.of_below hbA)
    obtain ⟨WA, hWA⟩ : ∃ WA, WA = W.alloc (.cells #[.bool neg, .slice B q c] 40) := ⟨_, rfl⟩
    rw [← hWA] at hlA hkA hNA hbA hiA ⊢
    obtain ⟨W2, hW2⟩ : ∃ W2, W2 = WA.putObj (D + 1) (.loop { rec .ready none with state := .busy }) := ⟨_, rfl⟩
    rw [← hW2]
    have hltA : D + 1 < WA.heap.size := (Array.getElem?_eq_some_iff.1 hlA).1
    have hl2 : W2.heap[D + 1]? = some (.loop { rec .ready none with state := .busy }) := by rw [hW2]; exact World.putObj_heap_same hltA
    have hf2 : Frm (· = D + 1) WA W2 := by rw [hW2]; exact Frm.putObj _ _ _
    have hk2 : W2.heap[D]? = some (.deferred (some [])) := (hf2.block D (Array.getElem?_eq_some_iff.1 hkA).1 (by omega)).trans hkA
    have hN2 : Arr W2 W.heap.size 40 [.bool neg, .slice B q c] := hf2.arr hNA (by omega)
    have hi2 : I s W2 := by rw [hW2]; exact hloopI _ _ _ _ hlA hiA
    have h64 : IntB64 WA (· = D + 1) := by
     rintro b rfl o u hu
     rw [nocellL hlA] at hu
     cases hu
    have hu2 : NIntV W2 (fun _ => True) (.agg #[.bool neg, .slice B q c]) y := (hf2.nint ((hu.below hbA).clrM h64) fun b hb => hb.2).mono fun _ _ _ => trivial
    have hv2 : PvD W2 (fun _ => True) v x := (Frm.foot hf2 ((PvD.below hv hbA).clrM h64) fun b hb => hb.2).mono fun _ _ _ => trivial
    refine wpIn_mono (hbody s s' x y v neg B q c W W2 hi2 hv2 hu2 hst hN2 (by omega)) ?_
    rintro e a3 W3 hp
    cases e with
    | normal =>
     obtain ⟨hfr, hi3⟩ := hp
     have hnM : ∀ b, D ≤ b → ¬ MO b := fun b h1 h2 => by have := hMO b h2; omega
     have hl3 := (Frm.block hfr (D + 1) (Array.getElem?_eq_some_iff.1 hl2).1 (fun h => h.elim (fun hm => by omega) (hnM _ (by omega)))).trans hl2
     have hk3 := (Frm.block hfr D (Array.getElem?_eq_some_iff.1 hk2).1 (fun h => h.elim (fun hm => by omega) (hnM _ (by omega)))).trans hk2
     have hr := run_endRound (P := Tryz.prog) none hl3
     have hl4 := World.putObj_heap_same (w := W3) (r := D + 1) (o := .loop (rec .ready none)) (Array.getElem?_eq_some_iff.1 hl3).1
     have hk4 : (W3.putObj (D + 1) (.loop (rec .ready none))).heap[D]? = some (.deferred (some [])) := (World.putObj_heap_other (by omega)).trans hk3
     rw [hrec] at hr hl4 hk4
     refine ⟨_, _, hr, rfl, ⟨hloopI _ _ _ _ hl3 hi3, ?_, hk4⟩, ?_⟩
     ·rw [hrec]
      exact hl4
     ·exact (((FrZ.of_below hbA).trans (FrZ.of (hf2.mono fun b _ e => .inr (.inr e)))).trans (hfr.mono fun b _ h => .inl h)).trans (FrZ.of ((Frm.putObj W3 (D + 1) _).mono fun b _ e => .inr (.inr e)))
    | ret => exact hp.elim
    | exit id => exact hp.elim
    | goto t => exact hp.elim
    | panic ch => exact hp.elim
    | outgrown => exact hp.elim
  have hM64 : ∀ s W, (I s W ∧ W.heap[D + 1]? = some (.loop (rec .ready none)) ∧ W.heap[D]? = some (.deferred (some []))) → ∀ b, (MO b ∨ b = D ∨ b = D + 1) → ∀ o x, W.cell? ⟨b, o, none⟩ ≠ some (.int .u32 x) := by
   rintro s W ⟨hi, hl, hk⟩ b hb o x hu
   rcases hb with h | h | h
   ·exact hI32 _ _ hi b h o x hu
   ·rw [h, nocellD hk] at hu; cases hu
   ·rw [h, nocellL hl] at hu; cases hu
  have hc1 : W1.cell? ⟨P1, 0, none⟩ = some (.slice AG m cG) := keepB hb1 h1
  refine (callsIn_wide.2 (short1_any Y hs1 hM64 hS hc1 (RowsD.below hG hb1) (h2.below hb1) ⟨hI1, hL1, hK1⟩ hw)).mono ?_
  rintro e W2 ⟨⟨v, rfl⟩, ⟨hi, hl, hk⟩, _⟩
  refine ⟨none, _, by have := run_endLoop (P := Tryz.prog) hl (by rw [hrec]; simp); rw [hrec] at this; exact this, ?_⟩
  exact hdone _ (hloopI _ _ _ _ hl hi) ((World.putObj_heap_other (by omega)).trans hk)
end Go.Proofs.YtdjpeimecfhdjaaGreat

namespace Go.Proofs.YtdjpeimecfhdjaaGreat
open Go.RowKit
theorem op_round {P : Program} {o : Oper} {a : Act} {w : World} {K : Act → World → Prop} {Q : Exit → Act → World → Prop} {l n : Nat} (hd : ∀ c, o.op ≠ .defer c) (h : o.wp P a w K Q) : o.wpIn (Fence.wide.inRound l) n P a w K Q := by
 refine ⟨fun _ _ => trivial, ?_⟩
 show o.uponIn (Fence.wide.inRound l) n P a K Q ((o.semAt (some l) a.eval).run P w)
 rw [Oper.semAt_some l _ o hd]
 have h2 : o.upon P a K Q ((execOp a.eval o).run P w) := h
 generalize (execOp a.eval o).run P w = r at h2
 cases r with
 | ok x w' =>
  cases x with
  | value v => exact h2
  | skip => exact h2
  | defer d => exact h2
  | enter f args =>
   refine ⟨fun h => (by cases h), CallsIn.inRound l (callsIn_wide.2 ?_)⟩
   exact Calls.mono h2 fun e w'' he => (by cases e <;> exact he)
  | row row args =>
   exact ⟨fun h => (by cases h), fun c cs _ => let ⟨v, w'', r, st⟩ := h2 c cs; ⟨v, w'', r, stepsIn_wide.2 st⟩⟩
  | _ => exact h2.elim
 | halt x w' => cases x <;> first | exact h2 | exact h2.elim
def noDef (o : Oper) : Bool := match o.op with | .defer _ => false | _ => true
theorem noDef_spec {o : Oper} (h : noDef o = true) : ∀ c, o.op ≠ .defer c := fun c e => by unfold noDef at h; rw [e] at h; cases h
section
variable {P : Program} {ops : Array Oper} {Q : Exit → Act → World → Prop} {l n : Nat}
theorem opsIn_round (hd : ops.all noDef = true) (hQ : ¬ LetsOut Q) : ∀ (is : List Nat) (a : Act) (w : World), wpOps P ops Q is a w → wpOpsIn (Fence.wide.inRound l) n P ops Q is a w
 | [], _, _, h => h
 | i :: rest, a, w, h => by
  simp only [wpOps] at h
  simp only [wpOpsIn]
  cases ho : ops[i]? with
  | none =>
   rw [ho] at h
   exact opsIn_round hd hQ rest a w h
  | some o =>
   rw [ho] at h
   have hnd : noDef o = true := by
    obtain ⟨hi, rfl⟩ := Array.getElem?_eq_some_iff.1 ho
    exact Array.all_eq_true.1 hd i hi
   dsimp only at h ⊢
   by_cases hw : Region.wanted o (yielded ops a.tmps) = true
   ·rw [if_pos hw] at h ⊢
    rcases h with h | h
    ·refine Oper.wpIn_mono (fun a' w' h' => opsIn_round hd hQ rest a' w' h') (op_round (noDef_spec hnd) h)
    ·exact absurd h.2 hQ
   ·rw [if_neg hw] at h ⊢
    exact ⟨fun _ _ => trivial, opsIn_round hd hQ rest _ w h⟩
theorem region_round_draw {id : Nat} {a : Act} {w : World} (hm : P.follows .mixedOrders = true) (hd : ops.all noDef = true) (hQ : ¬ LetsOut Q)
  (h : wpAny P .any ops Q ops.size (Array.replicate ops.size false) a w.drew) : (Code.region id ops true).wpIn (Fence.wide.inRound l) n P Q a w := by
 refine wpIn_region_draw fun t => ?_
 refine opsIn_round hd hQ _ a _ ?_
 simp only [Region.schedule, hm, Bool.true_or, if_true]
 exact wpAny_sound ops.size t _ a _ h
end
theorem goU_nilO {P : Program} {ops : Array Oper} {Q : Exit → Act → World → Prop} {S : World → Prop} {Z : List Nat} {a : Act} {w : World} (h : Q .normal a w) : goU P ops (onlyN Q) S Z .nil a w := h
theorem wpIn_region_tq5 {P : Program} {Q : Exit → Act → World → Prop} {id l n : Nat} {a : Act} {w : World} {L : List Oper} (t : Tr5) (Z : List Nat) (hm : P.follows .mixedOrders = true) (hl : t.deep = L.length) (hs : Region.noSelect L.toArray = true) (hd : L.toArray.all noDef = true) (hB : planU .any L.toArray Z t (Array.replicate L.length false) = true)
  (S : World → Prop) (h : goU P L.toArray (onlyN Q) S Z t a w.drew) : (Code.region id L.toArray true).wpIn (Fence.wide.inRound l) n P Q a w := by
 refine wpIn_mono (Q := onlyN Q) (region_round_draw hm hd (fun ⟨_, _, h⟩ => h) (wpAny_of_U (S := S) (Z := Z) _ _ _ _ ?_)) (fun e a w h => by cases e <;> first | exact h | exact h.elim)
 have hsz : L.toArray.size = L.length := by simp
 rw [hsz, ← hl]
 rw [← hl] at hB
 refine wpAnyU_tre hs (fun _ _ _ _ _ h => h) t _ a w.drew ?_ hB h
 intro j o _ hl
 rcases Nat.lt_or_ge j t.deep with h' | h'
 ·simp [h'] at hl
 ·simp [Nat.not_lt.2 h'] at hl
end Go.Proofs.YtdjpeimecfhdjaaGreat

namespace Go.Proofs.YtdjpeimecfhdjaaGreat
open Go.RowKit
theorem Short_any {w : World} {A B : Option Addr} {n c m k : Nat} {nb : Bool} :
  Calls Tryz.prog 131 #[.slice A n c, .agg #[.bool nb, .slice B m k]] w fun e w' => ∃ P P', e = .returned (.func (.func 185) #[] #[.pointer (some ⟨P, 0, none⟩), .pointer (some ⟨P', 0, none⟩)]) ∧ w'.cell? ⟨P, 0, none⟩ = some (.slice A n c) ∧ Arr w' P' 40 [.bool nb, .slice B m k] ∧ Below w.heap.size w w' := by
 obtain ⟨W, hW⟩ : ∃ W, W = (w.alloc (.cells #[.slice A n c] 113)).alloc (.cells #[.bool nb, .slice B m k] 40) := ⟨_, rfl⟩
 have hb : Below w.heap.size w W := by rw [hW]; exact ((Below.refl _ _).alloc (Nat.le_refl _) _).alloc (by simp) _
 have h1 : Arr W w.heap.size 113 [.slice A n c] := by rw [hW]; exact (Arr.new w _ [.slice A n c]).alloc _
 have h2 : Arr W (w.heap.size + 1) 40 [.bool nb, .slice B m k] := by
  rw [hW]
  have := Arr.new (w.alloc (.cells #[.slice A n c] 113)) 40 [.bool nb, .slice B m k]
  simpa using this
 have HW := Lib.hid hW
 have HB := Lib.hid hb
 have H1 := Lib.hid h1
 have H2 := Lib.hid h2
 clear hW hb h1 h2
 go_enter Tryz.func131, Tryz.ntmps131
 go_wp2_with fail
 rw [← HW.out]
 go_ret
 exact ⟨_, _, rfl, H1.out.cell 0, H2.out, HB.out⟩
end Go.Proofs.YtdjpeimecfhdjaaGreat
