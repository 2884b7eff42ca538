/- graph.cycleThrough. -/
import Derived.Test.YtpkjdnplmgfbbaaDoorY4
import Derived.Test.YtpkjdnplmgfbbaaDoorCmv
import Derived.Test.YtpkjdnplmgfbbaaDoorZw
namespace Go.Proofs.YtpkjdnplmgfbbaaDoor
open Go.RowKit

theorem cell_other {w : World} {A B : Nat} {u v : Value} (h : B ≠ A) (hc : w.cell? ⟨B, 0, none⟩ = some u) : (w.setCell ⟨A, 0, none⟩ v).cell? ⟨B, 0, none⟩ = some u := by
  rw [← hc]; exact World.cell?_of_block (Below.heap_setCell _ _ _ _ (fun e => h e))
theorem frozen_other {w : World} {A B : Nat} {b : Bool} {v : Value} (h : B ≠ A) (hc : w.frozen? ⟨B, 0, none⟩ = b) : (w.setCell ⟨A, 0, none⟩ v).frozen? ⟨B, 0, none⟩ = b := by
  rw [← hc]; exact World.frozen?_of_block (Below.heap_setCell _ _ _ _ (fun e => h e))
theorem Slc.below {W W' : World} {B : Nat} {v : Value} (h : Slc W B v) (hb : Below W.heap.size W W') : Slc W' B v := Arr.below' h hb
/-- What cycleThrough has when its lists are made. -/
def CtI (W : World) (n FV PV FG PG : Nat) (wx : World) : Prop :=
  wx.cell? ⟨FV, 0, none⟩ = some (.slice (some ⟨FG, 0, none⟩) n n) ∧ wx.cell? ⟨PV, 0, none⟩ = some (.slice (some ⟨PG, 0, none⟩) n n) ∧ NArr wx FG (List.replicate n (-1)) ∧ NArr wx PG (List.replicate n (-1)) ∧
    (W.heap.size ≤ FV ∧ W.heap.size ≤ PV ∧ W.heap.size ≤ FG ∧ W.heap.size ≤ PG) ∧ (FG ≠ PG ∧ FV ≠ FG ∧ FV ≠ PG ∧ PV ≠ FG ∧ PV ≠ PG) ∧ Below W.heap.size W wx
theorem ct_fin {W wz : World} {n FV PV FG PG : Nat} (hF : NArr wz FG (List.replicate n (-1))) (hP : NArr wz PG (List.replicate n (-1))) (sF : Slc wz FV (.slice none 0 0)) (sP : Slc wz PV (.slice none 0 0))
    (hd : FG ≠ PG ∧ FV ≠ FG ∧ FV ≠ PG ∧ PV ≠ FG ∧ PV ≠ PG ∧ PV ≠ FV) (hC : Below W.heap.size W wz) (hge : W.heap.size ≤ FV ∧ W.heap.size ≤ PV ∧ W.heap.size ≤ FG ∧ W.heap.size ≤ PG) :
    CtI W n FV PV FG PG ((wz.setCell ⟨FV, 0, none⟩ (.slice (some ⟨FG, 0, none⟩) n n)).setCell ⟨PV, 0, none⟩ (.slice (some ⟨PG, 0, none⟩) n n)) := by
  obtain ⟨d1, d2, d3, d4, d5, d6⟩ := hd
  obtain ⟨g1, g2, g3, g4⟩ := hge
  have f1 : Fr (· = FV) wz (wz.setCell ⟨FV, 0, none⟩ (.slice (some ⟨FG, 0, none⟩) n n)) := Fr.setCell (O := (· = FV)) (p := ⟨FV, 0, none⟩) (fun _ => rfl) _
  have f2 : Fr (· = PV) (wz.setCell ⟨FV, 0, none⟩ (.slice (some ⟨FG, 0, none⟩) n n)) ((wz.setCell ⟨FV, 0, none⟩ (.slice (some ⟨FG, 0, none⟩) n n)).setCell ⟨PV, 0, none⟩ (.slice (some ⟨PG, 0, none⟩) n n)) := Fr.setCell (O := (· = PV)) (p := ⟨PV, 0, none⟩) (fun _ => rfl) _
  have sP1 : Slc _ PV _ := f1.arr sP (fun e => d6 e)
  have sF1 := sF.set_ (.slice (some ⟨FG, 0, none⟩) n n)
  have sF2 : Slc _ FV _ := f2.arr sF1 (fun e => d6 e.symm)
  have hF1 : NArr _ FG _ := f1.arr hF (fun e => d2 e.symm)
  have hP1 : NArr _ PG _ := f1.arr hP (fun e => d3 e.symm)
  exact ⟨sF2.cell, (sP1.set_ _).cell, f2.arr hF1 (fun e => d4 e.symm), f2.arr hP1 (fun e => d5 e.symm), ⟨g1, g2, g3, g4⟩, ⟨d1, d2, d3, d4, d5⟩, (hC.setCell (p := ⟨FV, 0, none⟩) g1 _).setCell (p := ⟨PV, 0, none⟩) g2 _⟩
theorem ctbox (w : World) (s t : Value) (a m : Nat) : ∃ W G FR MO, W = ((w.alloc (.cells #[s, t] 25)).alloc (.cells #[.int .i64 (a : Nat)] 3)).alloc (.cells #[.int .i64 (m : Nat)] 3) ∧ G = w.heap.size ∧ FR = G + 1 ∧ MO = FR + 1 ∧ Below w.heap.size w W ∧
    W.cell? ⟨G, 0, none⟩ = some s ∧ W.cell? ⟨G, 1, none⟩ = some t ∧ W.cell? ⟨FR, 0, none⟩ = some (.int .i64 (a : Nat)) ∧ Num W MO (m : Nat) ∧ W.heap.size = G + 3 := by
  refine ⟨_, _, _, _, rfl, rfl, rfl, rfl, below_allocR (below_allocR (below_allocR (Below.refl _ _) _) _) _, alloc_cellm _ (alloc_cellm _ (by simp)), alloc_cellm _ (alloc_cellm _ (by simp)), alloc_cellm _ ?_, ?_, by simp⟩
  · have := Arr.cell (heap_alloc_new (w.alloc (.cells #[s, t] 25)) (.cells #[.int .i64 (a : Nat)] 3)) 0
    have e : (w.alloc (.cells #[s, t] 25)).heap.size = w.heap.size + 1 := by simp
    rw [e] at this
    exact this
  have := heap_alloc_new ((w.alloc (.cells #[s, t] 25)).alloc (.cells #[.int .i64 (a : Nat)] 3)) (.cells #[.int .i64 (m : Nat)] 3)
  have e : ((w.alloc (.cells #[s, t] 25)).alloc (.cells #[.int .i64 (a : Nat)] 3)).heap.size = w.heap.size + 1 + 1 := by simp
  rw [e] at this
  exact this
/-- A cycle through a vertex, shorter than asked, or nil; none through it is shorter. -/
def CthR (w : World) (E : List (List Nat)) (a m0 : Nat) (e : Ending) (w' : World) : Prop :=
  ∃ m b bv tb, e = .returned bv ∧ BestV w' w.heap.size tb bv b ∧ Bst E m0 b m ∧ (∀ l, IsCyc E l → 3 ≤ l.length → a ∈ l → m ≤ l.length) ∧ Below w.heap.size w w'
theorem BestV.base {W : World} {base base' : Nat} {tb : Option Nat} {bv : Value} {b : Option (List Nat)} (h : BestV W base tb bv b) (hb : base' ≤ base) : BestV W base' tb bv b := by
  cases b with
  | none => exact h
  | some l =>
    obtain ⟨g, c, h1, h2, h3, h4⟩ := h
    exact ⟨g, c, h1, h2, own_base h3 hb, h4⟩

set_option maxHeartbeats 16000000 in
set_option maxRecDepth 100000 in
theorem cycleThrough_any {w : World} {v : Value} {names : List ByteArray} {E : List (List Nat)} (h : GrV w v names (toI E)) (hk : Ok names E) (hS : Sym E) (hs : Smp E) {a m0 : Nat} (ha : a < E.length) (hm0 : m0 ≤ 2501) :
    Calls Tryd.prog 125 #[v, .int .i64 (a : Nat), .int .i64 (m0 : Nat)] w (CthR w E a m0) := by
  have hsm := hk.small
  have HM := Lib.hid (fun w' hb => marked_any (h.at w' hb) hk)
  have eg := enters_of Tryd.func139 (by kernel_rfl) rfl
  have EG := Lib.hid eg
  have HE := Lib.hid hk.valid
  have HS := Lib.hid hS
  have HSM := Lib.hid hs
  clear eg hS hs hk
  obtain ⟨A1, c1, A', c', hv, hs, hg⟩ := h
  rw [toI_length] at hv hg
  subst hv
  have HGL := Lib.hid hg
  obtain ⟨wr, G, FR, MO, hW, hG, hFR, hMO, hbr, d0, d1, d2, d3, hsz⟩ := ctbox w (.slice A1 names.length c1) (.slice A' E.length c') a m0
  have HW := Lib.hid hW
  have HG := Lib.hid hG
  have HFR := Lib.hid hFR
  have HMO := Lib.hid hMO
  have hGr : G < wr.heap.size ∧ G < FR ∧ FR < MO ∧ MO < wr.heap.size ∧ w.heap.size ≤ G := by omega
  clear hW hG hs hg hFR hMO hsz
  go_enter Tryd.func125, Tryd.ntmps125
  go_upto_region 1 with (fail)
  rw [← HW.out, ← HG.out, ← HFR.out, ← HMO.out]
  have hGw := hGr.1
  go_cut [7, 8] (fun a b wx => ∃ (FV PV FG PG : Nat), a = .pointer (some ⟨FV, 0, none⟩) ∧ b = .pointer (some ⟨PV, 0, none⟩) ∧ Hid (CtI wr E.length FV PV FG PG wx))
  case first =>
    refine wp_region_tr3 (.read 0 (.read 2 (.thr 1 4 5 (.thr 3 4 5 (.two 4 5 (.step 5 (.step 6 (.step 7 .nil))) (.step 4 (.step 6 (.step 7 .nil)))) (.two 3 5 (.step 5 (.step 6 (.step 7 .nil))) (.step 3 (.step 6 (.step 7 .nil)))) (.two 3 4 (.step 4 (.step 6 (.step 7 .nil))) (.step 3 (.step 6 (.step 7 .nil))))) (.two 1 5 (.two 3 5 (.step 5 (.step 6 (.step 7 .nil))) (.step 3 (.step 6 (.step 7 .nil)))) (.step 1 (.step 3 (.step 6 (.step 7 .nil))))) (.two 1 4 (.two 3 4 (.step 4 (.step 6 (.step 7 .nil))) (.step 3 (.step 6 (.step 7 .nil)))) (.step 1 (.step 3 (.step 6 (.step 7 .nil)))))))) (by kernel_rfl) (by rfl) (by kernel_rfl) (by kernel_rfl) (fun _ _ _ _ _ h => h) (Same wr) ?_
    change goV _ _ _ _ _ _ wr.drew
    have hs0 := same_drew wr
    refine goV_read 10 hs0 (by rfl) (by rfl) ?_ (by rfl) (fun wz hSw => ?_) ?_
    rotate_left
    · obtain ⟨hs1, hs2⟩ := hSw
      go_simp
      try with_reducible rfl
    simp only [List.setIfInBounds_toArray, List.set]
    refine goV_read 12 hs0 (by rfl) (by rfl) ?_ (by rfl) (fun wz hSw => ?_) ?_
    rotate_left
    · obtain ⟨hs1, hs2⟩ := hSw
      go_simp
      try with_reducible rfl
    simp only [List.setIfInBounds_toArray, List.set]
    have hB : Below w.heap.size w wr.drew := hbr.drew
    have hC : Below wr.heap.size wr wr.drew := (Below.refl _ _).drew
    obtain ⟨w4, hw4⟩ : ∃ wz, wz = wr.drew := ⟨_, rfl⟩
    rw [← hw4] at hB hC ⊢
    have hz9 := hC.size
    clear hw4
    refine goV_thr (same_below hC) (by rfl) (by rfl) (by rfl) ?_ ?_ ?_ 
    · go_wp2_with (go_at_call 78; refine (HM.out _ hB).mono ?_; rintro e w5 ⟨FG, rfl, n1, hg1, hb⟩)
      have hl1 := n1.lt
      have hB' := hB.trans (hb.mono hB.size)
      have hC' := hC.trans (hb.mono hC.size)
      have hz0 := hb.size
      clear hB hC hb
      have hB := hB'
      have hC := hC'
      clear hB' hC'
      refine goV_thr (same_below hC) (by rfl) (by rfl) (by rfl) ?_ ?_ ?_ 
      · go_wp2_with (go_at_call 78; refine (HM.out _ hB).mono ?_; rintro e w6 ⟨PG, rfl, n3, hg3, hb⟩)
        have hl3 := n3.lt
        have m1 := n1.below hb
        clear n1
        have n1 := m1
        clear m1
        have hB' := hB.trans (hb.mono hB.size)
        have hC' := hC.trans (hb.mono hC.size)
        have hz1 := hb.size
        clear hB hC hb
        have hB := hB'
        have hC := hC'
        clear hB' hC'
        refine goV_two (same_below hC) (by rfl) (by rfl) ?_ ?_ 
        · go_wp2_with fail
          obtain ⟨w7, hw_⟩ : ∃ wz, wz = w6.alloc (.cells #[.slice none 0 0] 28) := ⟨_, rfl⟩
          obtain ⟨FV, hb_⟩ : ∃ b, b = w6.heap.size := ⟨_, rfl⟩
          rw [← hw_, ← hb_]
          have hb : Below w6.heap.size w6 w7 := by rw [hw_]; exact below_allocR (Below.refl _ _) _
          have n4 : Slc w7 FV (.slice none 0 0) := by rw [hw_, hb_]; exact heap_alloc_new w6 _
          have hg4 : w6.heap.size ≤ FV := Nat.le_of_eq hb_.symm
          have hl4 := cell_some_lt n4.cell
          clear hw_ hb_
          have m1 := n1.below hb
          clear n1
          have n1 := m1
          clear m1
          have m3 := n3.below hb
          clear n3
          have n3 := m3
          clear m3
          have hB' := hB.trans (hb.mono hB.size)
          have hC' := hC.trans (hb.mono hC.size)
          have hz2 := hb.size
          clear hB hC hb
          have hB := hB'
          have hC := hC'
          clear hB' hC'
          refine goV_step (same_below hC) (by rfl) ?_
          go_wp2_with fail
          obtain ⟨w8, hw_⟩ : ∃ wz, wz = w7.alloc (.cells #[.slice none 0 0] 28) := ⟨_, rfl⟩
          obtain ⟨PV, hb_⟩ : ∃ b, b = w7.heap.size := ⟨_, rfl⟩
          rw [← hw_, ← hb_]
          have hb : Below w7.heap.size w7 w8 := by rw [hw_]; exact below_allocR (Below.refl _ _) _
          have n5 : Slc w8 PV (.slice none 0 0) := by rw [hw_, hb_]; exact heap_alloc_new w7 _
          have hg5 : w7.heap.size ≤ PV := Nat.le_of_eq hb_.symm
          have hl5 := cell_some_lt n5.cell
          clear hw_ hb_
          have m1 := n1.below hb
          clear n1
          have n1 := m1
          clear m1
          have m3 := n3.below hb
          clear n3
          have n3 := m3
          clear m3
          have m4 := n4.below hb
          clear n4
          have n4 := m4
          clear m4
          have hB' := hB.trans (hb.mono hB.size)
          have hC' := hC.trans (hb.mono hC.size)
          have hz3 := hb.size
          clear hB hC hb
          have hB := hB'
          have hC := hC'
          clear hB' hC'
          have hS1 := hC.setCell (p := ⟨FV, 0, none⟩) (show wr.heap.size ≤ FV by omega) (.slice (some ⟨FG, 0, none⟩) E.length E.length)
          have hS2 := hS1.setCell (p := ⟨PV, 0, none⟩) (show wr.heap.size ≤ PV by omega) (.slice (some ⟨PG, 0, none⟩) E.length E.length)
          have fin := ct_fin n1 n3 n4 n5 (by omega) hC (by omega)
          have FIN := Lib.hid fin
          have c4 := n4.cell
          have f4 := n4.frozen
          have c5 := (cell_other (v := .slice (some ⟨FG, 0, none⟩) E.length E.length) (show PV ≠ FV by omega) n5.cell)
          have f5 := (frozen_other (v := .slice (some ⟨FG, 0, none⟩) E.length E.length) (show PV ≠ FV by omega) n5.frozen)
          clear fin n1 n3 n4 n5 hB
          refine goV_step (same_below hC) (by rfl) ?_
          go_wp2_with fail
          refine goV_step (same_below hS1) (by rfl) ?_
          go_wp2_with fail
          refine goV_nil (same_below hS2) ?_
          go_wp2_with fail
          go_meet
          exact ⟨FV, PV, FG, PG, rfl, rfl, FIN⟩
        · go_wp2_with fail
          obtain ⟨w7, hw_⟩ : ∃ wz, wz = w6.alloc (.cells #[.slice none 0 0] 28) := ⟨_, rfl⟩
          obtain ⟨PV, hb_⟩ : ∃ b, b = w6.heap.size := ⟨_, rfl⟩
          rw [← hw_, ← hb_]
          have hb : Below w6.heap.size w6 w7 := by rw [hw_]; exact below_allocR (Below.refl _ _) _
          have n5 : Slc w7 PV (.slice none 0 0) := by rw [hw_, hb_]; exact heap_alloc_new w6 _
          have hg5 : w6.heap.size ≤ PV := Nat.le_of_eq hb_.symm
          have hl5 := cell_some_lt n5.cell
          clear hw_ hb_
          have m1 := n1.below hb
          clear n1
          have n1 := m1
          clear m1
          have m3 := n3.below hb
          clear n3
          have n3 := m3
          clear m3
          have hB' := hB.trans (hb.mono hB.size)
          have hC' := hC.trans (hb.mono hC.size)
          have hz2 := hb.size
          clear hB hC hb
          have hB := hB'
          have hC := hC'
          clear hB' hC'
          refine goV_step (same_below hC) (by rfl) ?_
          go_wp2_with fail
          obtain ⟨w8, hw_⟩ : ∃ wz, wz = w7.alloc (.cells #[.slice none 0 0] 28) := ⟨_, rfl⟩
          obtain ⟨FV, hb_⟩ : ∃ b, b = w7.heap.size := ⟨_, rfl⟩
          rw [← hw_, ← hb_]
          have hb : Below w7.heap.size w7 w8 := by rw [hw_]; exact below_allocR (Below.refl _ _) _
          have n4 : Slc w8 FV (.slice none 0 0) := by rw [hw_, hb_]; exact heap_alloc_new w7 _
          have hg4 : w7.heap.size ≤ FV := Nat.le_of_eq hb_.symm
          have hl4 := cell_some_lt n4.cell
          clear hw_ hb_
          have m1 := n1.below hb
          clear n1
          have n1 := m1
          clear m1
          have m3 := n3.below hb
          clear n3
          have n3 := m3
          clear m3
          have m5 := n5.below hb
          clear n5
          have n5 := m5
          clear m5
          have hB' := hB.trans (hb.mono hB.size)
          have hC' := hC.trans (hb.mono hC.size)
          have hz3 := hb.size
          clear hB hC hb
          have hB := hB'
          have hC := hC'
          clear hB' hC'
          have hS1 := hC.setCell (p := ⟨FV, 0, none⟩) (show wr.heap.size ≤ FV by omega) (.slice (some ⟨FG, 0, none⟩) E.length E.length)
          have hS2 := hS1.setCell (p := ⟨PV, 0, none⟩) (show wr.heap.size ≤ PV by omega) (.slice (some ⟨PG, 0, none⟩) E.length E.length)
          have fin := ct_fin n1 n3 n4 n5 (by omega) hC (by omega)
          have FIN := Lib.hid fin
          have c4 := n4.cell
          have f4 := n4.frozen
          have c5 := (cell_other (v := .slice (some ⟨FG, 0, none⟩) E.length E.length) (show PV ≠ FV by omega) n5.cell)
          have f5 := (frozen_other (v := .slice (some ⟨FG, 0, none⟩) E.length E.length) (show PV ≠ FV by omega) n5.frozen)
          clear fin n1 n3 n4 n5 hB
          refine goV_step (same_below hC) (by rfl) ?_
          go_wp2_with fail
          refine goV_step (same_below hS1) (by rfl) ?_
          go_wp2_with fail
          refine goV_nil (same_below hS2) ?_
          go_wp2_with fail
          go_meet
          exact ⟨FV, PV, FG, PG, rfl, rfl, FIN⟩
      · go_wp2_with fail
        obtain ⟨w6, hw_⟩ : ∃ wz, wz = w5.alloc (.cells #[.slice none 0 0] 28) := ⟨_, rfl⟩
        obtain ⟨FV, hb_⟩ : ∃ b, b = w5.heap.size := ⟨_, rfl⟩
        rw [← hw_, ← hb_]
        have hb : Below w5.heap.size w5 w6 := by rw [hw_]; exact below_allocR (Below.refl _ _) _
        have n4 : Slc w6 FV (.slice none 0 0) := by rw [hw_, hb_]; exact heap_alloc_new w5 _
        have hg4 : w5.heap.size ≤ FV := Nat.le_of_eq hb_.symm
        have hl4 := cell_some_lt n4.cell
        clear hw_ hb_
        have m1 := n1.below hb
        clear n1
        have n1 := m1
        clear m1
        have hB' := hB.trans (hb.mono hB.size)
        have hC' := hC.trans (hb.mono hC.size)
        have hz1 := hb.size
        clear hB hC hb
        have hB := hB'
        have hC := hC'
        clear hB' hC'
        refine goV_two (same_below hC) (by rfl) (by rfl) ?_ ?_ 
        · go_wp2_with (go_at_call 78; refine (HM.out _ hB).mono ?_; rintro e w7 ⟨PG, rfl, n3, hg3, hb⟩)
          have hl3 := n3.lt
          have m1 := n1.below hb
          clear n1
          have n1 := m1
          clear m1
          have m4 := n4.below hb
          clear n4
          have n4 := m4
          clear m4
          have hB' := hB.trans (hb.mono hB.size)
          have hC' := hC.trans (hb.mono hC.size)
          have hz2 := hb.size
          clear hB hC hb
          have hB := hB'
          have hC := hC'
          clear hB' hC'
          refine goV_step (same_below hC) (by rfl) ?_
          go_wp2_with fail
          obtain ⟨w8, hw_⟩ : ∃ wz, wz = w7.alloc (.cells #[.slice none 0 0] 28) := ⟨_, rfl⟩
          obtain ⟨PV, hb_⟩ : ∃ b, b = w7.heap.size := ⟨_, rfl⟩
          rw [← hw_, ← hb_]
          have hb : Below w7.heap.size w7 w8 := by rw [hw_]; exact below_allocR (Below.refl _ _) _
          have n5 : Slc w8 PV (.slice none 0 0) := by rw [hw_, hb_]; exact heap_alloc_new w7 _
          have hg5 : w7.heap.size ≤ PV := Nat.le_of_eq hb_.symm
          have hl5 := cell_some_lt n5.cell
          clear hw_ hb_
          have m1 := n1.below hb
          clear n1
          have n1 := m1
          clear m1
          have m4 := n4.below hb
          clear n4
          have n4 := m4
          clear m4
          have m3 := n3.below hb
          clear n3
          have n3 := m3
          clear m3
          have hB' := hB.trans (hb.mono hB.size)
          have hC' := hC.trans (hb.mono hC.size)
          have hz3 := hb.size
          clear hB hC hb
          have hB := hB'
          have hC := hC'
          clear hB' hC'
          have hS1 := hC.setCell (p := ⟨FV, 0, none⟩) (show wr.heap.size ≤ FV by omega) (.slice (some ⟨FG, 0, none⟩) E.length E.length)
          have hS2 := hS1.setCell (p := ⟨PV, 0, none⟩) (show wr.heap.size ≤ PV by omega) (.slice (some ⟨PG, 0, none⟩) E.length E.length)
          have fin := ct_fin n1 n3 n4 n5 (by omega) hC (by omega)
          have FIN := Lib.hid fin
          have c4 := n4.cell
          have f4 := n4.frozen
          have c5 := (cell_other (v := .slice (some ⟨FG, 0, none⟩) E.length E.length) (show PV ≠ FV by omega) n5.cell)
          have f5 := (frozen_other (v := .slice (some ⟨FG, 0, none⟩) E.length E.length) (show PV ≠ FV by omega) n5.frozen)
          clear fin n1 n3 n4 n5 hB
          refine goV_step (same_below hC) (by rfl) ?_
          go_wp2_with fail
          refine goV_step (same_below hS1) (by rfl) ?_
          go_wp2_with fail
          refine goV_nil (same_below hS2) ?_
          go_wp2_with fail
          go_meet
          exact ⟨FV, PV, FG, PG, rfl, rfl, FIN⟩
        · go_wp2_with fail
          obtain ⟨w7, hw_⟩ : ∃ wz, wz = w6.alloc (.cells #[.slice none 0 0] 28) := ⟨_, rfl⟩
          obtain ⟨PV, hb_⟩ : ∃ b, b = w6.heap.size := ⟨_, rfl⟩
          rw [← hw_, ← hb_]
          have hb : Below w6.heap.size w6 w7 := by rw [hw_]; exact below_allocR (Below.refl _ _) _
          have n5 : Slc w7 PV (.slice none 0 0) := by rw [hw_, hb_]; exact heap_alloc_new w6 _
          have hg5 : w6.heap.size ≤ PV := Nat.le_of_eq hb_.symm
          have hl5 := cell_some_lt n5.cell
          clear hw_ hb_
          have m1 := n1.below hb
          clear n1
          have n1 := m1
          clear m1
          have m4 := n4.below hb
          clear n4
          have n4 := m4
          clear m4
          have hB' := hB.trans (hb.mono hB.size)
          have hC' := hC.trans (hb.mono hC.size)
          have hz2 := hb.size
          clear hB hC hb
          have hB := hB'
          have hC := hC'
          clear hB' hC'
          refine goV_step (same_below hC) (by rfl) ?_
          go_wp2_with (go_at_call 78; refine (HM.out _ hB).mono ?_; rintro e w8 ⟨PG, rfl, n3, hg3, hb⟩)
          have hl3 := n3.lt
          have m1 := n1.below hb
          clear n1
          have n1 := m1
          clear m1
          have m4 := n4.below hb
          clear n4
          have n4 := m4
          clear m4
          have m5 := n5.below hb
          clear n5
          have n5 := m5
          clear m5
          have hB' := hB.trans (hb.mono hB.size)
          have hC' := hC.trans (hb.mono hC.size)
          have hz3 := hb.size
          clear hB hC hb
          have hB := hB'
          have hC := hC'
          clear hB' hC'
          have hS1 := hC.setCell (p := ⟨FV, 0, none⟩) (show wr.heap.size ≤ FV by omega) (.slice (some ⟨FG, 0, none⟩) E.length E.length)
          have hS2 := hS1.setCell (p := ⟨PV, 0, none⟩) (show wr.heap.size ≤ PV by omega) (.slice (some ⟨PG, 0, none⟩) E.length E.length)
          have fin := ct_fin n1 n3 n4 n5 (by omega) hC (by omega)
          have FIN := Lib.hid fin
          have c4 := n4.cell
          have f4 := n4.frozen
          have c5 := (cell_other (v := .slice (some ⟨FG, 0, none⟩) E.length E.length) (show PV ≠ FV by omega) n5.cell)
          have f5 := (frozen_other (v := .slice (some ⟨FG, 0, none⟩) E.length E.length) (show PV ≠ FV by omega) n5.frozen)
          clear fin n1 n3 n4 n5 hB
          refine goV_step (same_below hC) (by rfl) ?_
          go_wp2_with fail
          refine goV_step (same_below hS1) (by rfl) ?_
          go_wp2_with fail
          refine goV_nil (same_below hS2) ?_
          go_wp2_with fail
          go_meet
          exact ⟨FV, PV, FG, PG, rfl, rfl, FIN⟩
      · go_wp2_with fail
        obtain ⟨w6, hw_⟩ : ∃ wz, wz = w5.alloc (.cells #[.slice none 0 0] 28) := ⟨_, rfl⟩
        obtain ⟨PV, hb_⟩ : ∃ b, b = w5.heap.size := ⟨_, rfl⟩
        rw [← hw_, ← hb_]
        have hb : Below w5.heap.size w5 w6 := by rw [hw_]; exact below_allocR (Below.refl _ _) _
        have n5 : Slc w6 PV (.slice none 0 0) := by rw [hw_, hb_]; exact heap_alloc_new w5 _
        have hg5 : w5.heap.size ≤ PV := Nat.le_of_eq hb_.symm
        have hl5 := cell_some_lt n5.cell
        clear hw_ hb_
        have m1 := n1.below hb
        clear n1
        have n1 := m1
        clear m1
        have hB' := hB.trans (hb.mono hB.size)
        have hC' := hC.trans (hb.mono hC.size)
        have hz1 := hb.size
        clear hB hC hb
        have hB := hB'
        have hC := hC'
        clear hB' hC'
        refine goV_two (same_below hC) (by rfl) (by rfl) ?_ ?_ 
        · go_wp2_with (go_at_call 78; refine (HM.out _ hB).mono ?_; rintro e w7 ⟨PG, rfl, n3, hg3, hb⟩)
          have hl3 := n3.lt
          have m1 := n1.below hb
          clear n1
          have n1 := m1
          clear m1
          have m5 := n5.below hb
          clear n5
          have n5 := m5
          clear m5
          have hB' := hB.trans (hb.mono hB.size)
          have hC' := hC.trans (hb.mono hC.size)
          have hz2 := hb.size
          clear hB hC hb
          have hB := hB'
          have hC := hC'
          clear hB' hC'
          refine goV_step (same_below hC) (by rfl) ?_
          go_wp2_with fail
          obtain ⟨w8, hw_⟩ : ∃ wz, wz = w7.alloc (.cells #[.slice none 0 0] 28) := ⟨_, rfl⟩
          obtain ⟨FV, hb_⟩ : ∃ b, b = w7.heap.size := ⟨_, rfl⟩
          rw [← hw_, ← hb_]
          have hb : Below w7.heap.size w7 w8 := by rw [hw_]; exact below_allocR (Below.refl _ _) _
          have n4 : Slc w8 FV (.slice none 0 0) := by rw [hw_, hb_]; exact heap_alloc_new w7 _
          have hg4 : w7.heap.size ≤ FV := Nat.le_of_eq hb_.symm
          have hl4 := cell_some_lt n4.cell
          clear hw_ hb_
          have m1 := n1.below hb
          clear n1
          have n1 := m1
          clear m1
          have m5 := n5.below hb
          clear n5
          have n5 := m5
          clear m5
          have m3 := n3.below hb
          clear n3
          have n3 := m3
          clear m3
          have hB' := hB.trans (hb.mono hB.size)
          have hC' := hC.trans (hb.mono hC.size)
          have hz3 := hb.size
          clear hB hC hb
          have hB := hB'
          have hC := hC'
          clear hB' hC'
          have hS1 := hC.setCell (p := ⟨FV, 0, none⟩) (show wr.heap.size ≤ FV by omega) (.slice (some ⟨FG, 0, none⟩) E.length E.length)
          have hS2 := hS1.setCell (p := ⟨PV, 0, none⟩) (show wr.heap.size ≤ PV by omega) (.slice (some ⟨PG, 0, none⟩) E.length E.length)
          have fin := ct_fin n1 n3 n4 n5 (by omega) hC (by omega)
          have FIN := Lib.hid fin
          have c4 := n4.cell
          have f4 := n4.frozen
          have c5 := (cell_other (v := .slice (some ⟨FG, 0, none⟩) E.length E.length) (show PV ≠ FV by omega) n5.cell)
          have f5 := (frozen_other (v := .slice (some ⟨FG, 0, none⟩) E.length E.length) (show PV ≠ FV by omega) n5.frozen)
          clear fin n1 n3 n4 n5 hB
          refine goV_step (same_below hC) (by rfl) ?_
          go_wp2_with fail
          refine goV_step (same_below hS1) (by rfl) ?_
          go_wp2_with fail
          refine goV_nil (same_below hS2) ?_
          go_wp2_with fail
          go_meet
          exact ⟨FV, PV, FG, PG, rfl, rfl, FIN⟩
        · go_wp2_with fail
          obtain ⟨w7, hw_⟩ : ∃ wz, wz = w6.alloc (.cells #[.slice none 0 0] 28) := ⟨_, rfl⟩
          obtain ⟨FV, hb_⟩ : ∃ b, b = w6.heap.size := ⟨_, rfl⟩
          rw [← hw_, ← hb_]
          have hb : Below w6.heap.size w6 w7 := by rw [hw_]; exact below_allocR (Below.refl _ _) _
          have n4 : Slc w7 FV (.slice none 0 0) := by rw [hw_, hb_]; exact heap_alloc_new w6 _
          have hg4 : w6.heap.size ≤ FV := Nat.le_of_eq hb_.symm
          have hl4 := cell_some_lt n4.cell
          clear hw_ hb_
          have m1 := n1.below hb
          clear n1
          have n1 := m1
          clear m1
          have m5 := n5.below hb
          clear n5
          have n5 := m5
          clear m5
          have hB' := hB.trans (hb.mono hB.size)
          have hC' := hC.trans (hb.mono hC.size)
          have hz2 := hb.size
          clear hB hC hb
          have hB := hB'
          have hC := hC'
          clear hB' hC'
          refine goV_step (same_below hC) (by rfl) ?_
          go_wp2_with (go_at_call 78; refine (HM.out _ hB).mono ?_; rintro e w8 ⟨PG, rfl, n3, hg3, hb⟩)
          have hl3 := n3.lt
          have m1 := n1.below hb
          clear n1
          have n1 := m1
          clear m1
          have m5 := n5.below hb
          clear n5
          have n5 := m5
          clear m5
          have m4 := n4.below hb
          clear n4
          have n4 := m4
          clear m4
          have hB' := hB.trans (hb.mono hB.size)
          have hC' := hC.trans (hb.mono hC.size)
          have hz3 := hb.size
          clear hB hC hb
          have hB := hB'
          have hC := hC'
          clear hB' hC'
          have hS1 := hC.setCell (p := ⟨FV, 0, none⟩) (show wr.heap.size ≤ FV by omega) (.slice (some ⟨FG, 0, none⟩) E.length E.length)
          have hS2 := hS1.setCell (p := ⟨PV, 0, none⟩) (show wr.heap.size ≤ PV by omega) (.slice (some ⟨PG, 0, none⟩) E.length E.length)
          have fin := ct_fin n1 n3 n4 n5 (by omega) hC (by omega)
          have FIN := Lib.hid fin
          have c4 := n4.cell
          have f4 := n4.frozen
          have c5 := (cell_other (v := .slice (some ⟨FG, 0, none⟩) E.length E.length) (show PV ≠ FV by omega) n5.cell)
          have f5 := (frozen_other (v := .slice (some ⟨FG, 0, none⟩) E.length E.length) (show PV ≠ FV by omega) n5.frozen)
          clear fin n1 n3 n4 n5 hB
          refine goV_step (same_below hC) (by rfl) ?_
          go_wp2_with fail
          refine goV_step (same_below hS1) (by rfl) ?_
          go_wp2_with fail
          refine goV_nil (same_below hS2) ?_
          go_wp2_with fail
          go_meet
          exact ⟨FV, PV, FG, PG, rfl, rfl, FIN⟩
    · go_wp2_with fail
      obtain ⟨w5, hw_⟩ : ∃ wz, wz = w4.alloc (.cells #[.slice none 0 0] 28) := ⟨_, rfl⟩
      obtain ⟨FV, hb_⟩ : ∃ b, b = w4.heap.size := ⟨_, rfl⟩
      rw [← hw_, ← hb_]
      have hb : Below w4.heap.size w4 w5 := by rw [hw_]; exact below_allocR (Below.refl _ _) _
      have n4 : Slc w5 FV (.slice none 0 0) := by rw [hw_, hb_]; exact heap_alloc_new w4 _
      have hg4 : w4.heap.size ≤ FV := Nat.le_of_eq hb_.symm
      have hl4 := cell_some_lt n4.cell
      clear hw_ hb_
      have hB' := hB.trans (hb.mono hB.size)
      have hC' := hC.trans (hb.mono hC.size)
      have hz0 := hb.size
      clear hB hC hb
      have hB := hB'
      have hC := hC'
      clear hB' hC'
      refine goV_two (same_below hC) (by rfl) (by rfl) ?_ ?_ 
      · go_wp2_with (go_at_call 78; refine (HM.out _ hB).mono ?_; rintro e w6 ⟨FG, rfl, n1, hg1, hb⟩)
        have hl1 := n1.lt
        have m4 := n4.below hb
        clear n4
        have n4 := m4
        clear m4
        have hB' := hB.trans (hb.mono hB.size)
        have hC' := hC.trans (hb.mono hC.size)
        have hz1 := hb.size
        clear hB hC hb
        have hB := hB'
        have hC := hC'
        clear hB' hC'
        refine goV_two (same_below hC) (by rfl) (by rfl) ?_ ?_ 
        · go_wp2_with (go_at_call 78; refine (HM.out _ hB).mono ?_; rintro e w7 ⟨PG, rfl, n3, hg3, hb⟩)
          have hl3 := n3.lt
          have m4 := n4.below hb
          clear n4
          have n4 := m4
          clear m4
          have m1 := n1.below hb
          clear n1
          have n1 := m1
          clear m1
          have hB' := hB.trans (hb.mono hB.size)
          have hC' := hC.trans (hb.mono hC.size)
          have hz2 := hb.size
          clear hB hC hb
          have hB := hB'
          have hC := hC'
          clear hB' hC'
          refine goV_step (same_below hC) (by rfl) ?_
          go_wp2_with fail
          obtain ⟨w8, hw_⟩ : ∃ wz, wz = w7.alloc (.cells #[.slice none 0 0] 28) := ⟨_, rfl⟩
          obtain ⟨PV, hb_⟩ : ∃ b, b = w7.heap.size := ⟨_, rfl⟩
          rw [← hw_, ← hb_]
          have hb : Below w7.heap.size w7 w8 := by rw [hw_]; exact below_allocR (Below.refl _ _) _
          have n5 : Slc w8 PV (.slice none 0 0) := by rw [hw_, hb_]; exact heap_alloc_new w7 _
          have hg5 : w7.heap.size ≤ PV := Nat.le_of_eq hb_.symm
          have hl5 := cell_some_lt n5.cell
          clear hw_ hb_
          have m4 := n4.below hb
          clear n4
          have n4 := m4
          clear m4
          have m1 := n1.below hb
          clear n1
          have n1 := m1
          clear m1
          have m3 := n3.below hb
          clear n3
          have n3 := m3
          clear m3
          have hB' := hB.trans (hb.mono hB.size)
          have hC' := hC.trans (hb.mono hC.size)
          have hz3 := hb.size
          clear hB hC hb
          have hB := hB'
          have hC := hC'
          clear hB' hC'
          have hS1 := hC.setCell (p := ⟨FV, 0, none⟩) (show wr.heap.size ≤ FV by omega) (.slice (some ⟨FG, 0, none⟩) E.length E.length)
          have hS2 := hS1.setCell (p := ⟨PV, 0, none⟩) (show wr.heap.size ≤ PV by omega) (.slice (some ⟨PG, 0, none⟩) E.length E.length)
          have fin := ct_fin n1 n3 n4 n5 (by omega) hC (by omega)
          have FIN := Lib.hid fin
          have c4 := n4.cell
          have f4 := n4.frozen
          have c5 := (cell_other (v := .slice (some ⟨FG, 0, none⟩) E.length E.length) (show PV ≠ FV by omega) n5.cell)
          have f5 := (frozen_other (v := .slice (some ⟨FG, 0, none⟩) E.length E.length) (show PV ≠ FV by omega) n5.frozen)
          clear fin n1 n3 n4 n5 hB
          refine goV_step (same_below hC) (by rfl) ?_
          go_wp2_with fail
          refine goV_step (same_below hS1) (by rfl) ?_
          go_wp2_with fail
          refine goV_nil (same_below hS2) ?_
          go_wp2_with fail
          go_meet
          exact ⟨FV, PV, FG, PG, rfl, rfl, FIN⟩
        · go_wp2_with fail
          obtain ⟨w7, hw_⟩ : ∃ wz, wz = w6.alloc (.cells #[.slice none 0 0] 28) := ⟨_, rfl⟩
          obtain ⟨PV, hb_⟩ : ∃ b, b = w6.heap.size := ⟨_, rfl⟩
          rw [← hw_, ← hb_]
          have hb : Below w6.heap.size w6 w7 := by rw [hw_]; exact below_allocR (Below.refl _ _) _
          have n5 : Slc w7 PV (.slice none 0 0) := by rw [hw_, hb_]; exact heap_alloc_new w6 _
          have hg5 : w6.heap.size ≤ PV := Nat.le_of_eq hb_.symm
          have hl5 := cell_some_lt n5.cell
          clear hw_ hb_
          have m4 := n4.below hb
          clear n4
          have n4 := m4
          clear m4
          have m1 := n1.below hb
          clear n1
          have n1 := m1
          clear m1
          have hB' := hB.trans (hb.mono hB.size)
          have hC' := hC.trans (hb.mono hC.size)
          have hz2 := hb.size
          clear hB hC hb
          have hB := hB'
          have hC := hC'
          clear hB' hC'
          refine goV_step (same_below hC) (by rfl) ?_
          go_wp2_with (go_at_call 78; refine (HM.out _ hB).mono ?_; rintro e w8 ⟨PG, rfl, n3, hg3, hb⟩)
          have hl3 := n3.lt
          have m4 := n4.below hb
          clear n4
          have n4 := m4
          clear m4
          have m1 := n1.below hb
          clear n1
          have n1 := m1
          clear m1
          have m5 := n5.below hb
          clear n5
          have n5 := m5
          clear m5
          have hB' := hB.trans (hb.mono hB.size)
          have hC' := hC.trans (hb.mono hC.size)
          have hz3 := hb.size
          clear hB hC hb
          have hB := hB'
          have hC := hC'
          clear hB' hC'
          have hS1 := hC.setCell (p := ⟨FV, 0, none⟩) (show wr.heap.size ≤ FV by omega) (.slice (some ⟨FG, 0, none⟩) E.length E.length)
          have hS2 := hS1.setCell (p := ⟨PV, 0, none⟩) (show wr.heap.size ≤ PV by omega) (.slice (some ⟨PG, 0, none⟩) E.length E.length)
          have fin := ct_fin n1 n3 n4 n5 (by omega) hC (by omega)
          have FIN := Lib.hid fin
          have c4 := n4.cell
          have f4 := n4.frozen
          have c5 := (cell_other (v := .slice (some ⟨FG, 0, none⟩) E.length E.length) (show PV ≠ FV by omega) n5.cell)
          have f5 := (frozen_other (v := .slice (some ⟨FG, 0, none⟩) E.length E.length) (show PV ≠ FV by omega) n5.frozen)
          clear fin n1 n3 n4 n5 hB
          refine goV_step (same_below hC) (by rfl) ?_
          go_wp2_with fail
          refine goV_step (same_below hS1) (by rfl) ?_
          go_wp2_with fail
          refine goV_nil (same_below hS2) ?_
          go_wp2_with fail
          go_meet
          exact ⟨FV, PV, FG, PG, rfl, rfl, FIN⟩
      · go_wp2_with fail
        obtain ⟨w6, hw_⟩ : ∃ wz, wz = w5.alloc (.cells #[.slice none 0 0] 28) := ⟨_, rfl⟩
        obtain ⟨PV, hb_⟩ : ∃ b, b = w5.heap.size := ⟨_, rfl⟩
        rw [← hw_, ← hb_]
        have hb : Below w5.heap.size w5 w6 := by rw [hw_]; exact below_allocR (Below.refl _ _) _
        have n5 : Slc w6 PV (.slice none 0 0) := by rw [hw_, hb_]; exact heap_alloc_new w5 _
        have hg5 : w5.heap.size ≤ PV := Nat.le_of_eq hb_.symm
        have hl5 := cell_some_lt n5.cell
        clear hw_ hb_
        have m4 := n4.below hb
        clear n4
        have n4 := m4
        clear m4
        have hB' := hB.trans (hb.mono hB.size)
        have hC' := hC.trans (hb.mono hC.size)
        have hz1 := hb.size
        clear hB hC hb
        have hB := hB'
        have hC := hC'
        clear hB' hC'
        refine goV_step (same_below hC) (by rfl) ?_
        go_wp2_with (go_at_call 78; refine (HM.out _ hB).mono ?_; rintro e w7 ⟨FG, rfl, n1, hg1, hb⟩)
        have hl1 := n1.lt
        have m4 := n4.below hb
        clear n4
        have n4 := m4
        clear m4
        have m5 := n5.below hb
        clear n5
        have n5 := m5
        clear m5
        have hB' := hB.trans (hb.mono hB.size)
        have hC' := hC.trans (hb.mono hC.size)
        have hz2 := hb.size
        clear hB hC hb
        have hB := hB'
        have hC := hC'
        clear hB' hC'
        refine goV_step (same_below hC) (by rfl) ?_
        go_wp2_with (go_at_call 78; refine (HM.out _ hB).mono ?_; rintro e w8 ⟨PG, rfl, n3, hg3, hb⟩)
        have hl3 := n3.lt
        have m4 := n4.below hb
        clear n4
        have n4 := m4
        clear m4
        have m5 := n5.below hb
        clear n5
        have n5 := m5
        clear m5
        have m1 := n1.below hb
        clear n1
        have n1 := m1
        clear m1
        have hB' := hB.trans (hb.mono hB.size)
        have hC' := hC.trans (hb.mono hC.size)
        have hz3 := hb.size
        clear hB hC hb
        have hB := hB'
        have hC := hC'
        clear hB' hC'
        have hS1 := hC.setCell (p := ⟨FV, 0, none⟩) (show wr.heap.size ≤ FV by omega) (.slice (some ⟨FG, 0, none⟩) E.length E.length)
        have hS2 := hS1.setCell (p := ⟨PV, 0, none⟩) (show wr.heap.size ≤ PV by omega) (.slice (some ⟨PG, 0, none⟩) E.length E.length)
        have fin := ct_fin n1 n3 n4 n5 (by omega) hC (by omega)
        have FIN := Lib.hid fin
        have c4 := n4.cell
        have f4 := n4.frozen
        have c5 := (cell_other (v := .slice (some ⟨FG, 0, none⟩) E.length E.length) (show PV ≠ FV by omega) n5.cell)
        have f5 := (frozen_other (v := .slice (some ⟨FG, 0, none⟩) E.length E.length) (show PV ≠ FV by omega) n5.frozen)
        clear fin n1 n3 n4 n5 hB
        refine goV_step (same_below hC) (by rfl) ?_
        go_wp2_with fail
        refine goV_step (same_below hS1) (by rfl) ?_
        go_wp2_with fail
        refine goV_nil (same_below hS2) ?_
        go_wp2_with fail
        go_meet
        exact ⟨FV, PV, FG, PG, rfl, rfl, FIN⟩
    · go_wp2_with fail
      obtain ⟨w5, hw_⟩ : ∃ wz, wz = w4.alloc (.cells #[.slice none 0 0] 28) := ⟨_, rfl⟩
      obtain ⟨PV, hb_⟩ : ∃ b, b = w4.heap.size := ⟨_, rfl⟩
      rw [← hw_, ← hb_]
      have hb : Below w4.heap.size w4 w5 := by rw [hw_]; exact below_allocR (Below.refl _ _) _
      have n5 : Slc w5 PV (.slice none 0 0) := by rw [hw_, hb_]; exact heap_alloc_new w4 _
      have hg5 : w4.heap.size ≤ PV := Nat.le_of_eq hb_.symm
      have hl5 := cell_some_lt n5.cell
      clear hw_ hb_
      have hB' := hB.trans (hb.mono hB.size)
      have hC' := hC.trans (hb.mono hC.size)
      have hz0 := hb.size
      clear hB hC hb
      have hB := hB'
      have hC := hC'
      clear hB' hC'
      refine goV_two (same_below hC) (by rfl) (by rfl) ?_ ?_ 
      · go_wp2_with (go_at_call 78; refine (HM.out _ hB).mono ?_; rintro e w6 ⟨FG, rfl, n1, hg1, hb⟩)
        have hl1 := n1.lt
        have m5 := n5.below hb
        clear n5
        have n5 := m5
        clear m5
        have hB' := hB.trans (hb.mono hB.size)
        have hC' := hC.trans (hb.mono hC.size)
        have hz1 := hb.size
        clear hB hC hb
        have hB := hB'
        have hC := hC'
        clear hB' hC'
        refine goV_two (same_below hC) (by rfl) (by rfl) ?_ ?_ 
        · go_wp2_with (go_at_call 78; refine (HM.out _ hB).mono ?_; rintro e w7 ⟨PG, rfl, n3, hg3, hb⟩)
          have hl3 := n3.lt
          have m5 := n5.below hb
          clear n5
          have n5 := m5
          clear m5
          have m1 := n1.below hb
          clear n1
          have n1 := m1
          clear m1
          have hB' := hB.trans (hb.mono hB.size)
          have hC' := hC.trans (hb.mono hC.size)
          have hz2 := hb.size
          clear hB hC hb
          have hB := hB'
          have hC := hC'
          clear hB' hC'
          refine goV_step (same_below hC) (by rfl) ?_
          go_wp2_with fail
          obtain ⟨w8, hw_⟩ : ∃ wz, wz = w7.alloc (.cells #[.slice none 0 0] 28) := ⟨_, rfl⟩
          obtain ⟨FV, hb_⟩ : ∃ b, b = w7.heap.size := ⟨_, rfl⟩
          rw [← hw_, ← hb_]
          have hb : Below w7.heap.size w7 w8 := by rw [hw_]; exact below_allocR (Below.refl _ _) _
          have n4 : Slc w8 FV (.slice none 0 0) := by rw [hw_, hb_]; exact heap_alloc_new w7 _
          have hg4 : w7.heap.size ≤ FV := Nat.le_of_eq hb_.symm
          have hl4 := cell_some_lt n4.cell
          clear hw_ hb_
          have m5 := n5.below hb
          clear n5
          have n5 := m5
          clear m5
          have m1 := n1.below hb
          clear n1
          have n1 := m1
          clear m1
          have m3 := n3.below hb
          clear n3
          have n3 := m3
          clear m3
          have hB' := hB.trans (hb.mono hB.size)
          have hC' := hC.trans (hb.mono hC.size)
          have hz3 := hb.size
          clear hB hC hb
          have hB := hB'
          have hC := hC'
          clear hB' hC'
          have hS1 := hC.setCell (p := ⟨FV, 0, none⟩) (show wr.heap.size ≤ FV by omega) (.slice (some ⟨FG, 0, none⟩) E.length E.length)
          have hS2 := hS1.setCell (p := ⟨PV, 0, none⟩) (show wr.heap.size ≤ PV by omega) (.slice (some ⟨PG, 0, none⟩) E.length E.length)
          have fin := ct_fin n1 n3 n4 n5 (by omega) hC (by omega)
          have FIN := Lib.hid fin
          have c4 := n4.cell
          have f4 := n4.frozen
          have c5 := (cell_other (v := .slice (some ⟨FG, 0, none⟩) E.length E.length) (show PV ≠ FV by omega) n5.cell)
          have f5 := (frozen_other (v := .slice (some ⟨FG, 0, none⟩) E.length E.length) (show PV ≠ FV by omega) n5.frozen)
          clear fin n1 n3 n4 n5 hB
          refine goV_step (same_below hC) (by rfl) ?_
          go_wp2_with fail
          refine goV_step (same_below hS1) (by rfl) ?_
          go_wp2_with fail
          refine goV_nil (same_below hS2) ?_
          go_wp2_with fail
          go_meet
          exact ⟨FV, PV, FG, PG, rfl, rfl, FIN⟩
        · go_wp2_with fail
          obtain ⟨w7, hw_⟩ : ∃ wz, wz = w6.alloc (.cells #[.slice none 0 0] 28) := ⟨_, rfl⟩
          obtain ⟨FV, hb_⟩ : ∃ b, b = w6.heap.size := ⟨_, rfl⟩
          rw [← hw_, ← hb_]
          have hb : Below w6.heap.size w6 w7 := by rw [hw_]; exact below_allocR (Below.refl _ _) _
          have n4 : Slc w7 FV (.slice none 0 0) := by rw [hw_, hb_]; exact heap_alloc_new w6 _
          have hg4 : w6.heap.size ≤ FV := Nat.le_of_eq hb_.symm
          have hl4 := cell_some_lt n4.cell
          clear hw_ hb_
          have m5 := n5.below hb
          clear n5
          have n5 := m5
          clear m5
          have m1 := n1.below hb
          clear n1
          have n1 := m1
          clear m1
          have hB' := hB.trans (hb.mono hB.size)
          have hC' := hC.trans (hb.mono hC.size)
          have hz2 := hb.size
          clear hB hC hb
          have hB := hB'
          have hC := hC'
          clear hB' hC'
          refine goV_step (same_below hC) (by rfl) ?_
          go_wp2_with (go_at_call 78; refine (HM.out _ hB).mono ?_; rintro e w8 ⟨PG, rfl, n3, hg3, hb⟩)
          have hl3 := n3.lt
          have m5 := n5.below hb
          clear n5
          have n5 := m5
          clear m5
          have m1 := n1.below hb
          clear n1
          have n1 := m1
          clear m1
          have m4 := n4.below hb
          clear n4
          have n4 := m4
          clear m4
          have hB' := hB.trans (hb.mono hB.size)
          have hC' := hC.trans (hb.mono hC.size)
          have hz3 := hb.size
          clear hB hC hb
          have hB := hB'
          have hC := hC'
          clear hB' hC'
          have hS1 := hC.setCell (p := ⟨FV, 0, none⟩) (show wr.heap.size ≤ FV by omega) (.slice (some ⟨FG, 0, none⟩) E.length E.length)
          have hS2 := hS1.setCell (p := ⟨PV, 0, none⟩) (show wr.heap.size ≤ PV by omega) (.slice (some ⟨PG, 0, none⟩) E.length E.length)
          have fin := ct_fin n1 n3 n4 n5 (by omega) hC (by omega)
          have FIN := Lib.hid fin
          have c4 := n4.cell
          have f4 := n4.frozen
          have c5 := (cell_other (v := .slice (some ⟨FG, 0, none⟩) E.length E.length) (show PV ≠ FV by omega) n5.cell)
          have f5 := (frozen_other (v := .slice (some ⟨FG, 0, none⟩) E.length E.length) (show PV ≠ FV by omega) n5.frozen)
          clear fin n1 n3 n4 n5 hB
          refine goV_step (same_below hC) (by rfl) ?_
          go_wp2_with fail
          refine goV_step (same_below hS1) (by rfl) ?_
          go_wp2_with fail
          refine goV_nil (same_below hS2) ?_
          go_wp2_with fail
          go_meet
          exact ⟨FV, PV, FG, PG, rfl, rfl, FIN⟩
      · go_wp2_with fail
        obtain ⟨w6, hw_⟩ : ∃ wz, wz = w5.alloc (.cells #[.slice none 0 0] 28) := ⟨_, rfl⟩
        obtain ⟨FV, hb_⟩ : ∃ b, b = w5.heap.size := ⟨_, rfl⟩
        rw [← hw_, ← hb_]
        have hb : Below w5.heap.size w5 w6 := by rw [hw_]; exact below_allocR (Below.refl _ _) _
        have n4 : Slc w6 FV (.slice none 0 0) := by rw [hw_, hb_]; exact heap_alloc_new w5 _
        have hg4 : w5.heap.size ≤ FV := Nat.le_of_eq hb_.symm
        have hl4 := cell_some_lt n4.cell
        clear hw_ hb_
        have m5 := n5.below hb
        clear n5
        have n5 := m5
        clear m5
        have hB' := hB.trans (hb.mono hB.size)
        have hC' := hC.trans (hb.mono hC.size)
        have hz1 := hb.size
        clear hB hC hb
        have hB := hB'
        have hC := hC'
        clear hB' hC'
        refine goV_step (same_below hC) (by rfl) ?_
        go_wp2_with (go_at_call 78; refine (HM.out _ hB).mono ?_; rintro e w7 ⟨FG, rfl, n1, hg1, hb⟩)
        have hl1 := n1.lt
        have m5 := n5.below hb
        clear n5
        have n5 := m5
        clear m5
        have m4 := n4.below hb
        clear n4
        have n4 := m4
        clear m4
        have hB' := hB.trans (hb.mono hB.size)
        have hC' := hC.trans (hb.mono hC.size)
        have hz2 := hb.size
        clear hB hC hb
        have hB := hB'
        have hC := hC'
        clear hB' hC'
        refine goV_step (same_below hC) (by rfl) ?_
        go_wp2_with (go_at_call 78; refine (HM.out _ hB).mono ?_; rintro e w8 ⟨PG, rfl, n3, hg3, hb⟩)
        have hl3 := n3.lt
        have m5 := n5.below hb
        clear n5
        have n5 := m5
        clear m5
        have m4 := n4.below hb
        clear n4
        have n4 := m4
        clear m4
        have m1 := n1.below hb
        clear n1
        have n1 := m1
        clear m1
        have hB' := hB.trans (hb.mono hB.size)
        have hC' := hC.trans (hb.mono hC.size)
        have hz3 := hb.size
        clear hB hC hb
        have hB := hB'
        have hC := hC'
        clear hB' hC'
        have hS1 := hC.setCell (p := ⟨FV, 0, none⟩) (show wr.heap.size ≤ FV by omega) (.slice (some ⟨FG, 0, none⟩) E.length E.length)
        have hS2 := hS1.setCell (p := ⟨PV, 0, none⟩) (show wr.heap.size ≤ PV by omega) (.slice (some ⟨PG, 0, none⟩) E.length E.length)
        have fin := ct_fin n1 n3 n4 n5 (by omega) hC (by omega)
        have FIN := Lib.hid fin
        have c4 := n4.cell
        have f4 := n4.frozen
        have c5 := (cell_other (v := .slice (some ⟨FG, 0, none⟩) E.length E.length) (show PV ≠ FV by omega) n5.cell)
        have f5 := (frozen_other (v := .slice (some ⟨FG, 0, none⟩) E.length E.length) (show PV ≠ FV by omega) n5.frozen)
        clear fin n1 n3 n4 n5 hB
        refine goV_step (same_below hC) (by rfl) ?_
        go_wp2_with fail
        refine goV_step (same_below hS1) (by rfl) ?_
        go_wp2_with fail
        refine goV_nil (same_below hS2) ?_
        go_wp2_with fail
        go_meet
        exact ⟨FV, PV, FG, PG, rfl, rfl, FIN⟩
  case rest =>
    obtain ⟨FV, PV, FG, PG, rfl, rfl, HI⟩ := hcut
    obtain ⟨hFV, hPV, hFG, hPG, hge, hdis, hbc⟩ := HI.out
    clear HI HM
    obtain ⟨ws, hws⟩ : ∃ wz, wz = wc.alloc (.cells #[.slice none 0 0] 28) := ⟨_, rfl⟩
    obtain ⟨BE, hBE⟩ : ∃ b, b = wc.heap.size := ⟨_, rfl⟩
    have hbs : Below wc.heap.size wc ws := by rw [hws]; exact below_allocR (Below.refl _ _) _
    have hsl : Slc ws BE (.slice none 0 0) := by rw [hws, hBE]; exact heap_alloc_new wc _
    have hbes : wc.heap.size ≤ BE := Nat.le_of_eq hBE.symm
    have hbel := cell_some_lt hsl.cell
    have HWS := Lib.hid hws
    have HBE := Lib.hid hBE
    clear hws hBE
    have hbx : Below wr.heap.size wr ws := hbc.trans (hbs.mono hbc.size)
    have hbw := hbr.trans (hbx.mono hbr.size)
    have k0 := cells_at hbx d0
    have k1 := cells_at hbx d1
    have k2 := cells_at hbx d2
    have k3 : Num ws MO (m0 : Nat) := Arr.below' d3 hbx
    have k4 := cells_at hbs hFV
    have k5 := cells_at hbs hPV
    have k6 := hFG.below hbs
    have k7 := hPG.below hbs
    have l1 := hFG.lt
    have l2 := hPG.lt
    have l3 := cell_some_lt hFV
    have l4 := cell_some_lt hPV
    have hO : ∀ b, CtO PG FG MO BE b → w.heap.size ≤ b ∧ b < ws.heap.size := fun b hb => by
      have := hbs.size
      rcases hb with e | e | e | e <;> omega
    have hcx : Cx ws PV FV FR MO G BE PG FG E.length a A' c' := ⟨k5, k4, k2, k1, fun hb => by rcases hb with e | e | e | e <;> omega, fun hb => by rcases hb with e | e | e | e <;> omega, fun hb => by rcases hb with e | e | e | e <;> omega, fun hb => by rcases hb with e | e | e | e <;> omega⟩
    have hdd : PG ≠ FG ∧ PG ≠ MO ∧ PG ≠ BE ∧ FG ≠ MO ∧ FG ≠ BE ∧ MO ≠ BE := by omega
    have hV : Visits3 E a (CtO PG FG MO BE) (CtV E a m0 ws.heap.size PG FG MO BE) (CtS E a m0 ws.heap.size BE) ws 139 #[.pointer (some ⟨PV, 0, none⟩), .pointer (some ⟨FV, 0, none⟩), .pointer (some ⟨FR, 0, none⟩), .pointer (some ⟨MO, 0, none⟩), .pointer (some ⟨G, 0, none⟩), .pointer (some ⟨BE, 0, none⟩)] :=
      fun k p tb W hpr hp hcv hfr => ct1_any HE.out hsm HS.out HSM.out ha hm0 hcx HGL.out hbw (fun b hb => (hO b hb).1) hdd (fun b hb => (hO b hb).2) (Nat.le_refl _) k p tb W hpr hp hcv hfr
    have h0 : CtV E a m0 ws.heap.size PG FG MO BE [] none ws := ⟨m0, none, .slice none 0 0, k6, k7, ⟨k3, hsl, ⟨rfl, rfl⟩, rfl⟩, ToldD.nil _ _ _⟩
    have hVs : ∀ done tb W W', CtV E a m0 ws.heap.size PG FG MO BE done tb W → Fr (fun b => ws.heap.size ≤ b ∧ tb ≠ some b) W W' → CtV E a m0 ws.heap.size PG FG MO BE done tb W' := fun done tb W W' hv hf => by
      obtain ⟨m, b, bv, h1, h2, h3, h4⟩ := hv
      have no : ∀ B, CtO PG FG MO BE B → ¬ (ws.heap.size ≤ B ∧ tb ≠ some B) := fun B hB hh => by have := (hO B hB).2; omega
      exact ⟨m, b, bv, hf.arr h1 (no FG (.inr (.inl rfl))), hf.arr h2 (no PG (.inl rfl)), h3.fr hf (no MO (.inr (.inr (.inl rfl)))) (no BE (.inr (.inr (.inr rfl)))) (fun g hg hb hh => hh.2 hg), h4⟩
    have HSR := Lib.hid (search3_any (lb := #[.pointer (some ⟨PV, 0, none⟩), .pointer (some ⟨FV, 0, none⟩), .pointer (some ⟨FR, 0, none⟩), .pointer (some ⟨MO, 0, none⟩), .pointer (some ⟨G, 0, none⟩), .pointer (some ⟨BE, 0, none⟩)]) HE.out hsm ha hV hO hVs HGL.out hbw h0 EG.out)
    have hOw := hO
    clear hO hcx hdd hV h0 hVs hFV hPV hFG hPG k4 k5 k6 k7 hsl k3 d0 d1 d2 d3 hge hdis
    have HOW := Lib.hid hOw
    clear hOw
    go_upto_region 3 with (fail)
    rw [← HWS.out, ← HBE.out]
    go_wp2_with fail
    refine (HSR.out).mono ?_
    rintro e w9 ⟨rfl, hfr, hres⟩
    have hb9 := hbw.trans (hfr.below hbw.size (fun b hb => (HOW.out b hb).1))
    have key : ∃ m b bv tb, Slc w9 BE bv ∧ BestV w9 ws.heap.size tb bv b ∧ Bst E m0 b m ∧ ∀ l, IsCyc E l → 3 ≤ l.length → a ∈ l → m ≤ l.length := by
      rcases hres with ⟨k, hk, hpr, tb, m, b, bv, h1, h2, h3, h4⟩ | ⟨k, p, m, b, bv, tb, hpr, hp, h4, h5, h6, h7, h8⟩
      · have et : (bs E a k).q.take k = (bs E a k).q := List.take_of_length_le (by omega)
        exact ⟨m, b, bv, tb, h3.slc, h3.best, h3.bst, fun l hl h3l hal => told_all HE.out HS.out ha hpr (by rw [et]; exact h4) (.inl hk) hl h3l hal⟩
      · exact ⟨m, b, bv, tb, h6, h7, h8, fun l hl h3l hal => told_all HE.out HS.out ha hpr h4 (.inr ⟨p, hp, h5⟩) hl h3l hal⟩
    obtain ⟨m, b, bv, tb, hsl, hbe, hbst, hall⟩ := key
    have r1 := hsl.cell
    have HB := Lib.hid hbe
    have HBS := Lib.hid hbst
    have HALL := Lib.hid hall
    clear hres hsl hbe hbst hall HSR
    go_wp2_with fail
    go_ret
    exact ⟨m, b, bv, tb, rfl, HB.out.base hbw.size, HBS.out, HALL.out, hb9⟩
end Go.Proofs.YtpkjdnplmgfbbaaDoor
