/- Package wide: the statement that ranges over short vectors. Package wide: Short. Package brandt: theta of a space, given its form. -/
import Derived.Test.YtdjpeimecfhdjaaGreatSy
import Derived.RangeFuncNested
import Derived.RangeFuncBound
import Derived.RangeFuncCalls
import Derived.RangeFuncLeaves
import Derived.Shelf.Abstract
import Derived.Shelf.RegionOpen
import Derived.WalkKit
import Derived.OwnWalkIn
import Derived.TacticsInMore
import Derived.LoopNIn
import Derived.LoopIn
import Derived.Test.YtdjpeimecfhdjaaGreatSj
namespace Go.Proofs.YtdjpeimecfhdjaaGreat
open Go.RowKit Go.Shelf
theorem Frm.putObj (w : World) (l : Nat) (o : Obj) : Frm (· = l) w (w.putObj l o) := ⟨rfl, rfl, rfl, by simp [World.putObj], fun k _ hk => World.putObj_heap_other (fun e => hk e)⟩
def shPost (MO : Nat → Prop) (J : World → Prop) (W : World) : Exit → Act → World → Prop
 | .normal, _, W' => Frm MO W W' ∧ J W'
 | _, _, _ => False
theorem nocellL {w : World} {l : Nat} {o : Loop} (h : w.heap[l]? = some (.loop o)) (u : Nat) : w.cell? ⟨l, u, none⟩ = none := by
 unfold World.cell?
 simp only [h]
theorem nocellD {w : World} {l : Nat} {o : Option (List Deferred)} (h : w.heap[l]? = some (.deferred o)) (u : Nat) : w.cell? ⟨l, u, none⟩ = none := by
 unfold World.cell?
 simp only [h]
theorem wp_rangeShort {σ : Type} {g : Operand} {p1 p2 : Tmp} {assign body : Code} {Q : Exit → Act → World → Prop} {a : Act} {w : World} {n m P1 P2 cG : Nat} {AG : Option Addr} {G : List (List Int)} {b : Int} {step : List Int → Int → σ → Option σ}
  (hg : a.eval g = .func (.func 185) #[] #[.pointer (some ⟨P1, 0, none⟩), .pointer (some ⟨P2, 0, none⟩)]) (h1 : w.cell? ⟨P1, 0, none⟩ = some (.slice AG m cG)) (hG : RM w (.slice AG m cG) G) (h2 : BT w P2 b) (hS : ShOK m G b)
  (MO : Nat → Prop) (I : σ → World → Prop) (hMO : ∀ b, MO b → b < w.heap.size)
  (hI : ∀ s A B, I s A → Frm (fun b => w.heap.size ≤ b ∧ ¬ MO b) A B → I s B) (hI64 : ∀ s W, I s W → IntB64 W MO)
  {s0 s9 : σ} (h0 : I s0 w) (hw : wkW (unitL m) (shH m G) b step m (List.replicate m 0) s0 = some s9)
  (a₁ : Value → Bool → Option Addr → Nat → Nat → World → Act)
  (hassign : ∀ (v : Value) (neg : Bool) (B : Option Addr) (q c : Nat) (W : World) (K : Act → World → Prop), K (a₁ v neg B q c W) (W.alloc (.cells #[.bool neg, .slice B q c] 40)) →
   assign.wpIn (Fence.wide.inRound (w.heap.size + 1)) (n - 1 - 1) Tryz.prog (Exit.then K (fun _ _ _ => False)) { tmps := (a.tmps.setIfInBounds p1 v).setIfInBounds p2 (.agg #[.bool neg, .slice B q c]), defers := [] } W)
  (hbody : ∀ (s s' : σ) (x : List Int) (y : Int) (v : Value) (neg : Bool) (B : Option Addr) (q c : Nat) (W0 W : World), I s W → NIntV W (fun _ => True) (.agg #[.bool neg, .slice B q c]) y → step x y s = some s' → Arr W W0.heap.size 40 [.bool neg, .slice B q c] → w.heap.size + 1 < W0.heap.size →
   body.wpIn (Fence.wide.inRound (w.heap.size + 1)) (n - 1 - 1) Tryz.prog (shPost MO (I s') W) (a₁ v neg B q c W0) W)
  (hdone : ∀ W : World, I s9 W → W.heap[w.heap.size]? = some (.deferred (some [])) → Q .normal { a with defers := { target := .collected w.heap.size, args := #[] } :: a.defers } W) :
  (Code.rangeFunc g #[p1, p2] assign body).wpIn Fence.wide n Tryz.prog Q a w := by
 obtain ⟨D, hD⟩ : ∃ D, D = w.heap.size := ⟨_, rfl⟩
 rw [← hD] at hI hassign hbody hdone hMO
 refine wpIn_rangeFunc ?_
 intro fn hfn
 rw [Fence.wide_round]
 obtain ⟨rec, hrec⟩ : ∃ rec : LoopState → Option Code → Loop, rec = fun st pe => { state := st, pending := pe, fn, tmps := a.tmps, params := #[p1, p2], assign, body, defers := w.heap.size } := ⟨_, rfl⟩
 obtain ⟨W1, hW1⟩ : ∃ W1, (w.alloc (.deferred (some []))).alloc (.loop (rec .ready none)) = W1 := ⟨_, rfl⟩
 have hL1 : W1.heap[D + 1]? = some (.loop (rec .ready none)) := by
  rw [← hW1, hD]; have := World.alloc_heap_new (w.alloc (.deferred (some []))) (.loop (rec .ready none)); rwa [World.size_alloc] at this
 have hK1 : W1.heap[D]? = some (.deferred (some [])) := by
  rw [← hW1, hD]; exact (Below.heap_alloc _ _ _ (by simp)).trans (World.alloc_heap_new w _)
 have hb1 : Below w.heap.size w W1 := by
  rw [← hW1]; exact ((Below.refl _ w).alloc (Nat.le_refl _) _).alloc (by simp) _
 have hs1 : D + 2 ≤ W1.heap.size := by rw [← hW1, hD]; simp
 have hI1 : I s0 W1 := hI _ _ _ h0 (Frm.of_below hb1)
 have hloopI : ∀ s (A : World) (o : Obj), I s A → I s (A.putObj (D + 1) o) := fun s A o h => hI _ _ _ h ((Frm.putObj A (D + 1) o).mono fun b _ e => ⟨by omega, fun hm => by have := hMO b hm; omega⟩)
 refine ⟨D + 1, [{ target := .collected D, args := #[] }], W1, { target := .fn (.func 185) #[.pointer (some ⟨P1, 0, none⟩), .pointer (some ⟨P2, 0, none⟩)], args := #[.func (.yield (D + 1)) #[] #[]] }, W1, 185,
  #[.func (.yield (D + 1)) #[] #[], .pointer (some ⟨P1, 0, none⟩), .pointer (some ⟨P2, 0, none⟩)], W1, ?_, ?_, ?_, ?_, fun h => (by cases h), ?_⟩
 ·rw [← hW1, hrec, hD]; exact run_enterLoop_outer _ _ _ _ _
 ·simp only [resolve, hg]
  simp [go_sem]
 ·intro f' _; trivial
 ·simp [invoke, go_sem]
 ·have Y : Yielder (n - 1 - 1) (D + 1) (D + 2) (fun b => MO b ∨ b = D ∨ b = D + 1) (fun s W => I s W ∧ W.heap[D + 1]? = some (.loop (rec .ready none)) ∧ W.heap[D]? = some (.deferred (some []))) step := by
   refine ⟨?_, ?_, ?_⟩
   ·rintro s A B ⟨hi, hl, hk⟩ hf
    refine ⟨hI _ _ _ hi (hf.mono fun b _ h => ⟨by omega, fun hm => h.2 (.inl hm)⟩), ?_, ?_⟩
    ·exact (hf.block (D + 1) (Array.getElem?_eq_some_iff.1 hl).1 fun h => by omega).trans hl
    ·exact (hf.block D (Array.getElem?_eq_some_iff.1 hk).1 fun h => by omega).trans hk
   ·rintro s A ⟨hi, hl, hk⟩ b hb
    have := (Array.getElem?_eq_some_iff.1 hl).1
    rcases hb with h | h | h
    ·have := hMO b h; omega
    ·omega
    ·omega
   ·rintro s s' W E E' v u x y ⟨hi, hl, hk⟩ hv hu hst
    obtain ⟨neg, B, q, c, rfl, hu⟩ := hu.shp
    have hlt : D + 1 < W.heap.size := (Array.getElem?_eq_some_iff.1 hl).1
    have hy := run_yield (P := Tryz.prog) (args := #[v, .agg #[.bool neg, .slice B q c]]) hl (by rw [hrec]; rfl)
    rw [hrec] at hy
    have hz : ((#[p1, p2] : Array Tmp).zip #[v, .agg #[.bool neg, .slice B q c]]) = #[(p1, v), (p2, .agg #[.bool neg, .slice B q c])] := by simp
    dsimp only at hy
    rw [hz, List.foldl_toArray, List.foldl_cons, List.foldl_cons, List.foldl_nil] at hy
    refine ⟨fn, _, assign, body, hy, roundIn_of_wpIn hfn ?_⟩
    have hkey := hassign v neg B q c W (fun a₁ w₁ => ∃ w₂, (Instr.beginRound (D + 1)).run Tryz.prog w₁ = .ok () w₂ ∧ body.wpIn (Fence.wide.inRound (D + 1)) (n - 1 - 1) Tryz.prog (roundPost Tryz.prog (D + 1) (fun e W' =>
     e = .returned (.bool true) ∧ (I s' W' ∧ W'.heap[D + 1]? = some (.loop (rec .ready none)) ∧ W'.heap[D]? = some (.deferred (some []))) ∧ Frm (fun b => MO b ∨ b = D ∨ b = D + 1) W W')) a₁ w₂)
    have hlA : (W.alloc (.cells #[.bool neg, .slice B q c] 40)).heap[D + 1]? = some (.loop (rec .ready none)) := (Below.heap_alloc _ _ _ hlt).trans hl
    refine hkey ⟨_, run_beginRound hlA (by rw [hrec]), ?_⟩
    have hkA : (W.alloc (.cells #[.bool neg, .slice B q c] 40)).heap[D]? = some (.deferred (some [])) := (Below.heap_alloc _ _ _ (by omega)).trans hk
    have hNA : Arr (W.alloc (.cells #[.bool neg, .slice B q c] 40)) W.heap.size 40 [.bool neg, .slice B q c] := Arr.new W _ [.bool neg, .slice B q c]
    have hbA : Below W.heap.size W (W.alloc (.cells #[.bool neg, .slice B q c] 40)) := (Below.refl _ _).alloc (Nat.le_refl _) _
    have hiA : I s (W.alloc (.cells #[.bool neg, .slice B q c] 40)) := hI _ _ _ hi (Frm.of_below hbA)
    obtain ⟨WA, hWA⟩ : ∃ WA, WA = W.alloc (.cells #[.bool neg, .slice B q c] 40) := ⟨_, rfl⟩
    rw [← hWA] at hlA hkA hNA hbA hiA ⊢
    obtain ⟨W2, hW2⟩ : ∃ W2, W2 = WA.putObj (D + 1) (.loop { rec .ready none with state := .busy }) := ⟨_, rfl⟩
    rw [← hW2]
    have hltA : D + 1 < WA.heap.size := (Array.getElem?_eq_some_iff.1 hlA).1
    have hl2 : W2.heap[D + 1]? = some (.loop { rec .ready none with state := .busy }) := by rw [hW2]; exact World.putObj_heap_same hltA
    have hf2 : Frm (· = D + 1) WA W2 := by rw [hW2]; exact Frm.putObj _ _ _
    have hk2 : W2.heap[D]? = some (.deferred (some [])) := (hf2.block D (Array.getElem?_eq_some_iff.1 hkA).1 (by omega)).trans hkA
    have hN2 : Arr W2 W.heap.size 40 [.bool neg, .slice B q c] := hf2.arr hNA (by omega)
    have hi2 : I s W2 := by rw [hW2]; exact hloopI _ _ _ hiA
    have h64 : IntB64 WA (· = D + 1) := by
     rintro b rfl o u hu
     rw [nocellL hlA] at hu
     cases hu
    have hu2 : NIntV W2 (fun _ => True) (.agg #[.bool neg, .slice B q c]) y := (hf2.nint ((hu.below hbA).clrM h64) fun b hb => hb.2).mono fun _ _ _ => trivial
    refine wpIn_mono (hbody s s' x y v neg B q c W W2 hi2 hu2 hst hN2 (by omega)) ?_
    rintro e a3 W3 hp
    cases e with
    | normal =>
     obtain ⟨hfr, hi3⟩ := hp
     have hnM : ∀ b, D ≤ b → ¬ MO b := fun b h1 h2 => by have := hMO b h2; omega
     have hl3 := (hfr.block (D + 1) (Array.getElem?_eq_some_iff.1 hl2).1 (hnM _ (by omega))).trans hl2
     have hk3 := (hfr.block D (Array.getElem?_eq_some_iff.1 hk2).1 (hnM _ (by omega))).trans hk2
     have hr := run_endRound (P := Tryz.prog) none hl3
     have hl4 := World.putObj_heap_same (w := W3) (r := D + 1) (o := .loop (rec .ready none)) (Array.getElem?_eq_some_iff.1 hl3).1
     have hk4 : (W3.putObj (D + 1) (.loop (rec .ready none))).heap[D]? = some (.deferred (some [])) := (World.putObj_heap_other (by omega)).trans hk3
     rw [hrec] at hr hl4 hk4
     refine ⟨_, _, hr, rfl, ⟨hloopI _ _ _ hi3, ?_, hk4⟩, ?_⟩
     ·rw [hrec]
      exact hl4
     ·exact (((Frm.of_below hbA).trans (hf2.mono fun b _ e => .inr (.inr e))).trans (hfr.mono fun b _ h => .inl h)).trans ((Frm.putObj W3 (D + 1) _).mono fun b _ e => .inr (.inr e))
    | ret => exact hp.elim
    | exit id => exact hp.elim
    | goto t => exact hp.elim
    | panic ch => exact hp.elim
    | outgrown => exact hp.elim
  have hM64 : ∀ s W, (I s W ∧ W.heap[D + 1]? = some (.loop (rec .ready none)) ∧ W.heap[D]? = some (.deferred (some []))) → IntB64 W (fun b => MO b ∨ b = D ∨ b = D + 1) := by
   rintro s W ⟨hi, hl, hk⟩ b hb o u hu
   rcases hb with h | h | h
   ·exact hI64 _ _ hi b h o u hu
   ·rw [h, nocellD hk] at hu; cases hu
   ·rw [h, nocellL hl] at hu; cases hu
  have hc1 : W1.cell? ⟨P1, 0, none⟩ = some (.slice AG m cG) := keepB hb1 h1
  refine (callsIn_wide.2 (short1_any Y hs1 hM64 hS hc1 (RowsD.below hG hb1) (h2.below hb1) ⟨hI1, hL1, hK1⟩ hw)).mono ?_
  rintro e W2 ⟨⟨v, rfl⟩, ⟨hi, hl, hk⟩, _⟩
  refine ⟨none, _, by have := run_endLoop (P := Tryz.prog) hl (by rw [hrec]; simp); rw [hrec] at this; exact this, ?_⟩
  exact hdone _ (hloopI _ _ _ hi) ((World.putObj_heap_other (by omega)).trans hk)
end Go.Proofs.YtdjpeimecfhdjaaGreat

namespace Go.Proofs.YtdjpeimecfhdjaaGreat
open Go.RowKit
theorem Short_any {w : World} {A B : Option Addr} {n c m k : Nat} {nb : Bool} :
  Calls Tryz.prog 131 #[.slice A n c, .agg #[.bool nb, .slice B m k]] w fun e w' => ∃ P P', e = .returned (.func (.func 185) #[] #[.pointer (some ⟨P, 0, none⟩), .pointer (some ⟨P', 0, none⟩)]) ∧ w'.cell? ⟨P, 0, none⟩ = some (.slice A n c) ∧ Arr w' P' 40 [.bool nb, .slice B m k] ∧ Below w.heap.size w w' := by
 obtain ⟨W, hW⟩ : ∃ W, W = (w.alloc (.cells #[.slice A n c] 113)).alloc (.cells #[.bool nb, .slice B m k] 40) := ⟨_, rfl⟩
 have hb : Below w.heap.size w W := by rw [hW]; exact ((Below.refl _ _).alloc (Nat.le_refl _) _).alloc (by simp) _
 have h1 : Arr W w.heap.size 113 [.slice A n c] := by rw [hW]; exact (Arr.new w _ [.slice A n c]).alloc _
 have h2 : Arr W (w.heap.size + 1) 40 [.bool nb, .slice B m k] := by
  rw [hW]
  have := Arr.new (w.alloc (.cells #[.slice A n c] 113)) 40 [.bool nb, .slice B m k]
  simpa using this
 have HW := Lib.hid hW
 have HB := Lib.hid hb
 have H1 := Lib.hid h1
 have H2 := Lib.hid h2
 clear hW hb h1 h2
 go_enter Tryz.func131, Tryz.ntmps131
 go_wp2_with fail
 rw [← HW.out]
 go_ret
 exact ⟨_, _, rfl, H1.out.cell 0, H2.out, HB.out⟩
end Go.Proofs.YtdjpeimecfhdjaaGreat

namespace Go.Proofs.YtdjpeimecfhdjaaGreat
open Go.RowKit Go.Shelf
attribute [local go_sem] Oper.semAt_some
def thS (u : Int) (m : Nat) (_ : List Int) (y : Int) (s : List Nat) : Option (List Nat) :=
 if fit y && decide (0 ≤ y / u) && decide ((y / u).toNat < m) && decide (s.getD (y / u).toNat 0 < 1000000000) then some (s.set (y / u).toNat (s.getD (y / u).toNat 0 + 1)) else none
theorem thS_some {u : Int} {m : Nat} {x : List Int} {y : Int} {s s' : List Nat} (h : thS u m x y s = some s') : fit y = true ∧ 0 ≤ y / u ∧ (y / u).toNat < m ∧ s.getD (y / u).toNat 0 < 1000000000 ∧ s' = s.set (y / u).toNat (s.getD (y / u).toNat 0 + 1) := by
 unfold thS at h
 split at h
 ·rename_i h2
  simp only [Bool.and_eq_true, decide_eq_true_eq] at h2
  obtain ⟨⟨⟨h3, h4⟩, h5⟩, h6⟩ := h2
  injection h with h
  exact ⟨h3, h4, h5, h6, h.symm⟩
 ·cases h
def GramR (q : Nat) (G : List (List Int)) (u : Int) (w : World) (e : Ending) (w' : World) : Prop := ∃ A c nb B m k, e = .returned (.tuple #[.slice A q c, .agg #[.bool nb, .slice B m k]]) ∧ RM w' (.slice A q c) G ∧ NIntV w' (fun _ => True) (.agg #[.bool nb, .slice B m k]) u ∧ Below w.heap.size w w'
theorem HArr.lt1 {W : World} {O : Nat} {s : List Nat} (h1 : HArr W O s) : O < W.heap.size := Arr.lt h1
theorem HArr.i64 {W : World} {O : Nat} {s : List Nat} (h1 : HArr W O s) : IntB64 W (· = O) := by
 rintro b rfl o u hu
 have h := Arr.cell h1 o
 rw [hu, List.getElem?_map] at h
 cases hx : s[o]? with
 | none => rw [hx] at h; cases h
 | some x => rw [hx] at h; injection h with h; exact ⟨_, h⟩
set_option maxRecDepth 100000 in
set_option maxHeartbeats 4000000 in
theorem theta_any {w : World} {N q cM : Nat} {va vb : Int} {AM : Option Addr} {G : List (List Int)} {u : Int} {s9 : List Nat} (hN : N ≤ 1000000)
  (hgram : ∀ W, Below w.heap.size w W → Calls Tryz.prog 130 #[.agg #[.int .i64 va, .int .i64 vb, .slice AM q cM]] W (GramR q G u W))
  (hS : ShOK q G ((N : Int) * u)) (hu : u ≠ 0) (hfu : wl u.natAbs ≤ 4000)
  (hw : wkW (unitL q) (shH q G) ((N : Int) * u) (thS u (N + 1)) q (List.replicate q 0) (List.replicate (N + 1) 0) = some s9) :
  Calls Tryz.prog 73 #[.agg #[.int .i64 va, .int .i64 vb, .slice AM q cM], .int .i64 (N : Nat)] w fun e w' => ∃ O, e = .returned (.slice (some ⟨O, 0, none⟩) (N + 1) (N + 1)) ∧ HArr w' O s9 ∧ Below w.heap.size w w' := by
 have HGR := Lib.hid hgram
 have HS := Lib.hid hS
 have HU := Lib.hid hu
 have HFU := Lib.hid hfu
 have HW := Lib.hid hw
 clear hgram hS hu hfu hw
 refine (callsIn_wide (n := 3)).1 (callsIn_of_wp_marks Tryz.func73 rfl trivial ?_ rfl)
 simp only [Tryz.ntmps73, List.size_toArray, List.length_cons, List.length_nil, Nat.reduceAdd, Nat.reduceSub, Array.replicate_succ, Array.replicate_zero, List.push_toArray, List.append_toArray, List.nil_append, List.cons_append]
 refine wpIn_wide.2 ?_
 go_upto_region 2 with (go_at_call 130; go_must (refine (HGR.out _ ((Below.refl _ _).alloc (Nat.le_refl _) _)).mono ?_); rintro e W2 ⟨A, c, nb, B, m, k, rfl, hG2, hu2, hb2⟩)
 have hbw2 : Below w.heap.size w W2 := ((Below.refl _ _).alloc (Nat.le_refl _) _).trans (hb2.mono (by simp))
 obtain ⟨P6, h6⟩ : ∃ B, B = W2.heap.size := ⟨_, rfl⟩
 obtain ⟨W3, hW3⟩ : ∃ V, V = W2.alloc (.cells #[.bool nb, .slice B m k] 40) := ⟨_, rfl⟩
 rw [← h6, ← hW3]
 have hb3 : Below W2.heap.size W2 W3 := by rw [hW3]; exact (Below.refl _ _).alloc (Nat.le_refl _) _
 have h6A : Arr W3 P6 40 [.bool nb, .slice B m k] := by rw [hW3, h6]; exact Arr.new W2 _ [.bool nb, .slice B m k]
 have HG3 := Lib.hid (RowsD.below hG2 hb3)
 have HU3 := Lib.hid (hu2.below hb3)
 have HB3 := Lib.hid (hbw2.trans (hb3.mono hbw2.size))
 have H6 := Lib.hid h6A
 have hw6 : w.heap.size ≤ P6 := by rw [h6]; exact hbw2.size
 clear hG2 hu2 hb2 hbw2 h6 hW3 hb3 h6A
 go_upto_region 3 with (at_make; go_must (refine wpList_make_arr _ rfl _ _ _ rfl 3 (.int .i64 0) 1 8 Tryz.underlying48 info_intA _ _ _ _ (N + 1) rfl rfl (by go_num) (by go_num) (by omega) (by omega) ?_); intro W4 ha4 hb4 hz4)
 obtain ⟨O, hO⟩ : ∃ B, B = W3.heap.size := ⟨_, rfl⟩
 obtain ⟨P7, h7⟩ : ∃ B, B = W3.heap.size + 1 := ⟨_, rfl⟩
 obtain ⟨W5, hW5⟩ : ∃ V, V = W4.alloc (.cells #[.slice (some ⟨W3.heap.size, 0, none⟩) (N + 1) (N + 1)] 48) := ⟨_, rfl⟩
 rw [← h7, ← hW5, ← hO]
 rw [← hO] at ha4 hW5
 have hb5 : Below W4.heap.size W4 W5 := by rw [hW5]; exact (Below.refl _ _).alloc (Nat.le_refl _) _
 have hb35 : Below W3.heap.size W3 W5 := hb4.trans (hb5.mono hb4.size)
 have c7 : W5.cell? ⟨P7, 0, none⟩ = some (.slice (some ⟨O, 0, none⟩) (N + 1) (N + 1)) := by rw [hW5, h7, ← hz4]; go_simp
 have hO5 : HArr W5 O (List.replicate (N + 1) 0) := HArr.made (by rw [Nat.mul_one] at ha4 ⊢; exact ha4.below' hb5)
 have H65 := Lib.hid (keepA H6.out hb35 H6.out.lt)
 have HG5 := Lib.hid (RowsD.below HG3.out hb35)
 have HU5 := Lib.hid (HU3.out.below hb35)
 have HB5 := Lib.hid (HB3.out.trans (hb35.mono HB3.out.size))
 have hP6O : P6 ≠ O := by rw [hO]; exact Nat.ne_of_lt H6.out.lt
 have hP7O : P7 ≠ O := by rw [hO, h7]; omega
 have hOw : w.heap.size ≤ O := by rw [hO]; exact HB3.out.size
 have HO5 := Lib.hid hO5
 obtain ⟨r0, r1, f0, f1⟩ := H65.out.c2
 clear hO h7 hW5 hb5 hb35 ha4 hb4 hz4 hO5 HG3 HU3 HB3 H6
 have hs : Below W5.heap.size W5 W5.drew := (Below.refl _ _).drew
 refine wp_region_yld 1 (.read 0 (.read 1 (.read 3 (.step 2 (.step 4 (.step 5 .nil)))))) [] (by kernel_rfl) (by rfl) (by kernel_rfl) (by kernel_rfl) (fun V => Below W5.heap.size W5 V) ?_
 change goY _ _ _ _ _ _ _ _ W5.drew
 obtain ⟨v0, hv0⟩ : ∃ v0, v0 = W5.drew := ⟨_, rfl⟩
 rw [← hv0] at hs ⊢
 clear hv0
 refine goY_read 20 hs (by rfl) (by rfl) ?_ (by rfl) (fun wz hSw => ?_) ?_
 rotate_left
 ·go_simp
  try with_reducible rfl
 simp only [sIB, List.set]
 refine goY_read 21 hs (by rfl) (by rfl) ?_ (by rfl) (fun wz hSw => ?_) ?_
 rotate_left
 ·go_simp
  try with_reducible rfl
 simp only [sIB, List.set]
 refine goY_read 23 hs (by rfl) (by rfl) ?_ (by rfl) (fun wz hSw => ?_) ?_
 rotate_left
 ·have e0 := keepB hSw r0; have e1 := keepB hSw r1; go_simp
  try with_reducible rfl
 simp only [sIB, List.set]
 refine goY_call 22 (by rfl) (by rfl) (by rfl) (by go_simp) (Of_any (N : Int) _ (by omega) (by omega)) ?_
 rintro e v1 ⟨y1, rfl, hx1, hb1⟩
 replace hs := hs.trans (hb1.mono hs.size)
 refine ⟨_, rfl, fun _ => hs, fun V => Below W5.heap.size W5 V, fun _ h => h, ?_⟩
 simp only [sIB, List.set]
 have hwN : wl (N : Int).natAbs ≤ 1 := by rw [Int.natAbs_natCast]; exact dig_length_le (by omega) (by omega)
 refine goY_call 24 (by rfl) (by rfl) (by rfl) (by go_simp) (Mul_any hx1.int (HU5.out.below hs).int (by omega) (by have := HFU.out; omega)) ?_
 rintro e v2 ⟨y2, rfl, hx2, hb2⟩
 replace hs := hs.trans (hb2.mono hs.size)
 have hh2 := hx2.shp
 clear hx2
 obtain ⟨n2, A2, m2, c2, rfl, hx2⟩ := hh2
 refine ⟨_, rfl, fun _ => hs, fun V => Below W5.heap.size W5 V, fun _ h => h, ?_⟩
 simp only [sIB, List.set]
 refine goY_call 25 (by rfl) (by rfl) (by rfl) (by go_simp) (Short_any (A := A) (n := q) (c := c) (nb := n2) (B := A2) (m := m2) (k := c2)) ?_
 rintro e W6 ⟨P1, P2, rfl, hc1, hA2, hb3⟩
 replace hs := hs.trans (hb3.mono hs.size)
 refine ⟨_, rfl, fun _ => hs, fun V => Below W5.heap.size W5 V, fun _ h => h, goY_nil ?_⟩
 simp only [sIB, List.set]
 rename_i K hK
 refine hK _ _ ?_
 go_wp2_with fail
 have h6A := keepA H65.out hs H65.out.lt
 have c76 := keepB hs c7
 have hO6 : HArr W6 O (List.replicate (N + 1) 0) := keepA HO5.out hs HO5.out.lt
 have hl6 := h6A.lt
 have hl7 := cell_lt c76
 have hlO := hO6.lt
 have HU6 := Lib.hid (HU5.out.below hs)
 have HG6 := Lib.hid (RowsD.below HG5.out hs)
 have HB6 := Lib.hid (HB5.out.trans (hs.mono HB5.out.size))
 have HBT : Hid (BT W6 P2 ((N : Int) * u)) := Lib.hid ⟨n2, A2, m2, c2, hA2, (hx2.below hb3).mono fun _ _ _ => trivial⟩
 have H6A := Lib.hid h6A
 have HO6 := Lib.hid hO6
 clear h6A hO6 hA2 hx2 hx1 hb1 hb2 hb3 hs r0 r1 f0 f1 c7 HU5 HG5 HB5 HO5 H65
 refine (wpIn_wide (n := 3)).1 (wp_rangeShort (step := thS u (N + 1)) rfl hc1 HG6.out HBT.out HS.out (· = O) (fun s W => HArr W O s ∧ s.length = N + 1 ∧ Frm (· = O) W6 W) ?hMO ?hI ?hI64 ?h0 HW.out ?a1 ?hassign ?hbody ?hdone)
 case hassign =>
  intro v neg B q c W K hK
  gi_wp2
  exact hK
 case hMO =>
  rintro b rfl
  exact hlO
 case hI =>
  rintro s A B ⟨h1, h2, h3⟩ hf
  exact ⟨hf.arr h1 (fun h => h.2 rfl), h2, h3.past (hf.mono fun b _ h => h.1) fun b h => h⟩
 case hI64 =>
  rintro s W ⟨h1, _, _⟩
  exact h1.i64
 case h0 => exact ⟨HO6.out, List.length_replicate, Frm.refl _ _⟩
 case hdone =>
  rintro W ⟨h1, h2, h3⟩ hD
  have c7W : W.cell? ⟨P7, 0, none⟩ = some (.slice (some ⟨O, 0, none⟩) (N + 1) (N + 1)) := (h3.cell hl7 hP7O).trans c76
  have HF := Lib.hid h3
  have H1 := Lib.hid h1
  clear h3 h1
  go_wp2_with fail
  have hD2 : W.heap[W6.heap.size]? = some (.deferred (some [])) := hD
  refine ⟨by simp, .inl ⟨_, _, rfl, run_takeDeferred hD2, ?_⟩⟩
  have hfp : Frm (· = W6.heap.size) W (W.putObj W6.heap.size (.deferred none)) := Frm.putObj _ _ _
  have h1 : HArr (W.putObj W6.heap.size (.deferred none)) O s9 := hfp.arr H1.out (by omega)
  refine ⟨.slice (some ⟨O, 0, none⟩) (N + 1) (N + 1), by simp [results, Tryz.results73, go_sem], O, rfl, h1, ?_⟩
  have hB : Below w.heap.size w W := HB6.out.trans (HF.out.below (B := w.heap.size) HB6.out.size fun b (e : b = O) => by omega)
  exact hB.trans (hfp.below (B := w.heap.size) hB.size fun b (e : b = W6.heap.size) => by have := HB6.out.size; omega)
 case hbody =>
  rintro s s' x y v neg B' q' c' W0 W ⟨h1, h2, h3⟩ hy hst hbx hW0
  obtain ⟨t1, t2, t3, t4, rfl⟩ := thS_some hst
  obtain ⟨j, hj⟩ : ∃ j : Nat, (j : Int) = y / u := ⟨(y / u).toNat, Int.toNat_of_nonneg t2⟩
  have hj2 : (y / u).toNat = j := by omega
  rw [hj2] at t3 t4 ⊢
  have hwy := fit_wl t1
  have a1 : (0 : Int) ≤ (j : Int) := by omega
  have a2 : (j : Int) < (N : Int) + 1 := by omega
  have hsm : sm64 (j : Int) = (j : Int) := by
   unfold sm64
   rw [if_pos (by unfold in64; simp; omega)]
  have HSJ := Lib.hid hsm
  clear hsm
  have HJ := Lib.hid hj
  have hP6W := h3.arr H6A.out hP6O
  have c7W : W.cell? ⟨P7, 0, none⟩ = some (.slice (some ⟨O, 0, none⟩) (N + 1) (N + 1)) := (h3.cell hl7 hP7O).trans c76
  obtain ⟨PB, hPB⟩ : ∃ B, B = W0.heap.size := ⟨_, rfl⟩
  rw [← hPB] at hbx ⊢
  have huW : NIntV W (fun _ => True) (.agg #[.bool nb, .slice B m k]) u := (h3.nint (HU6.out.clrM HO6.out.i64) fun b hb => hb.2).mono fun _ _ _ => trivial
  obtain ⟨x0, x1, x2, x3⟩ := hbx.c2
  obtain ⟨y0, y1', y2, y3⟩ := hP6W.c2
  have z0 := HArr.cell h1 (i := j) (by omega)
  have z1 := HArr.frozen h1 j
  have HQ := Lib.hid (wQuo_any hy.int huW.int (by omega) (by have := HFU.out; omega) HU.out)
  rw [← hj] at HQ
  have HF := Lib.hid h3
  have H1 := Lib.hid h1
  clear hst hj hj2 h3 h1 hP6W hbx t1 t2 hPB huW
  gi_wp2
  refine ⟨trivial, (CallsIn.inRound _ (callsIn_wide.2 HQ.out)).mono ?_⟩
  rintro e W1 ⟨vq, rfl, hxq, hb1⟩
  have HSM := Lib.hid (Small_any hxq)
  have c71 := keepB hb1 c7W
  have z01 := keepB hb1 z0
  have hO1 : Hid (HArr W1 O s) := Lib.hid (keepA (show Arr W O 3 _ from H1.out) hb1 (HArr.lt1 H1.out))
  clear x0 x1 x2 x3 y0 y1' y2 y3 z0 z1 c7W hxq
  gi_wp2
  refine ⟨trivial, (CallsIn.inRound _ (callsIn_wide.2 HSM.out)).mono ?_⟩
  rintro e W2 ⟨rfl, hb2⟩
  rw [HSJ.out]
  generalize in64 (j : Int) = bb
  have c72 := keepB hb2 c71
  obtain ⟨gj, hgj⟩ : ∃ gj, gj = gw s j := ⟨_, rfl⟩
  have hgd : s.getD j 0 = gj := by rw [hgj]; rfl
  rw [← hgj] at z01
  rw [hgd] at t4
  have z02 := keepB hb2 z01
  have hO2 : HArr W2 O s := keepA (show Arr W1 O 3 _ from hO1.out) hb2 (HArr.lt1 hO1.out)
  have z12 := HArr.frozen hO2 j
  have hset := HArr.set_ hO2 j (gj + 1)
  obtain ⟨W3, hW3⟩ : ∃ V, V = W2.setCell ⟨O, j, none⟩ (.int .i64 ((gj : Int) + 1)) := ⟨_, rfl⟩
  have hf3 : Frm (· = O) W2 W3 := by rw [hW3]; exact Frm.setCell (O := (· = O)) (p := ⟨O, j, none⟩) (fun _ => rfl) _
  rw [show ((gj + 1 : Nat) : Int) = (gj : Int) + 1 from rfl, ← hW3] at hset
  have hfW : Frm (· = O) W W3 := ((Frm.of_below hb1).trans (Frm.of_below hb2)).trans hf3
  have HSET := Lib.hid hset
  have HFW := Lib.hid hfW
  have HW3 := Lib.hid hW3
  have HGD := Lib.hid hgd
  have H2L := Lib.hid h2
  clear hset hfW hf3 hW3 hgj hgd z01 c71 hb1 hb2 h2 hwy
  gi_wp2
  rw [← HW3.out]
  exact ⟨HFW.out, by rw [HGD.out]; exact HSET.out, by rw [List.length_set]; exact H2L.out, HF.out.trans HFW.out⟩
end Go.Proofs.YtdjpeimecfhdjaaGreat
