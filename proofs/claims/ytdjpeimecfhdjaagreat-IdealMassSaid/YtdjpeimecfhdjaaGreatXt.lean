/- Package wide: stages. -/
import Derived.Test.YtdjpeimecfhdjaaGreatXs
namespace Go.Proofs.YtdjpeimecfhdjaaGreat
open Go.RowKit
def gS (g : List (List Int)) : Nat → List (List Int)
 | 0 => g
 | j + 1 => nxt (gS g j)
def bS (g : List (List Int)) (b : Int) : Nat → Int
 | 0 => b
 | j + 1 => gm (gS g j) 0 0 * bS g b j
def stL (g : List (List Int)) (b : Int) (m : Nat) : List Stg := (List.range m).map fun t => (gS g t, bS g b t)
theorem stL_length (g : List (List Int)) (b : Int) (m : Nat) : (stL g b m).length = m := by unfold stL; rw [List.length_map, List.length_range]
theorem stL_succ (g : List (List Int)) (b : Int) (m : Nat) : stL g b (m + 1) = stL g b m ++ [(gS g m, bS g b m)] := by unfold stL; rw [List.range_succ, List.map_append]; rfl
theorem nxt_length (g : List (List Int)) : (nxt g).length = g.length - 1 := by unfold nxt; rw [List.length_map, List.length_range]
theorem nxt_at {g : List (List Int)} {t : Nat} (h : t < g.length - 1) : (nxt g)[t]? = some ((List.range (g.length - 1)).map fun k => gm g 0 0 * gm g (t + 1) (k + 1) - gm g 0 (t + 1) * gm g 0 (k + 1)) := by
 unfold nxt
 rw [List.getElem?_map, List.getElem?_range h]
 rfl
theorem nxt_shp {g : List (List Int)} {l : List Int} (h : l ∈ nxt g) : l.length = g.length - 1 := by
 unfold nxt at h
 obtain ⟨t, _, rfl⟩ := List.mem_map.1 h
 rw [List.length_map, List.length_range]
theorem gS_shp {g : List (List Int)} {n : Nat} (hl : g.length = n) (hr : ∀ l ∈ g, l.length = n) : ∀ j, (gS g j).length = n - j ∧ ∀ l ∈ gS g j, l.length = n - j
 | 0 => ⟨hl, hr⟩
 | j + 1 => by
  have ih := gS_shp hl hr j
  show (nxt (gS g j)).length = _ ∧ ∀ l ∈ nxt (gS g j), _
  exact ⟨by rw [nxt_length, ih.1]; omega, fun l h => by rw [nxt_shp h, ih.1]; omega⟩
theorem PvD.all {w : World} {D : Nat → Prop} {A : Option Addr} {n c : Nat} {l : List Int} (h : PvD w D (.slice A n c) l) (hn : 0 < n) : ∃ b off, A = some ⟨b, off, none⟩ ∧ ∀ j, j < n → ∃ neg B m k, w.cell? ⟨b, off + j * 2, none⟩ = some (.bool neg) ∧ w.cell? ⟨b, off + j * 2 + 1, none⟩ = some (.slice B m k) ∧ NIntV w D (.agg #[.bool neg, .slice B m k]) (gz l j) := by
 obtain ⟨b, off, _, _, _, _, e, _⟩ := PvD.at h hn
 refine ⟨b, off, e, fun j hj => ?_⟩
 obtain ⟨b2, off2, neg, B, m, k, e2, _, h1, h2, h3⟩ := PvD.at h hj
 rw [e] at e2
 injection e2 with e2
 injection e2 with e2 e3
 subst e2 e3
 exact ⟨neg, B, m, k, h1, h2, h3⟩
def lenOf (v : Value) : Nat := match v with | .slice _ n _ => n | _ => 0
def OwnRn (w : World) (base : Nat) (v : Value) (l : List Int) : Prop := OwnR w base (fun b => base ≤ b ∧ some b ≠ v.ownBlock) v l
theorem wpList_pushRn (w0 : World) (d : Nat) {ops : Array Oper} {rest : List Oper} {o : Oper} {a : Act} {Q : Exit → Act → World → Prop} (hgd : o.guard = none) (hd : o.dst = some d) (s x : Operand) (t t' : TypeId)
  (ho : o.op = .call { callee := .builtin .append, args := #[s, x], argTypes := #[t, t'] })
  (base : Nat) (ht : Tryz.prog.underlying t = some (.slice 40)) (ht' : Tryz.prog.underlying t' = some (.slice 40))
  (v : Value) (l : List Int) (n : Nat) (hln : l.length = n) (hs : a.eval s = v) (hown : OwnRn w0 base v l)
  (neg : Bool) (B : Option Addr) (m k : Nat) (y : Int) (G : Nat) (hG : Arr w0 G 40 [.bool neg, .slice B m k]) (hx : a.eval x = .slice (some ⟨G, 0, none⟩) 1 1) (hy : NIntV w0 (fun b => base ≤ b ∧ some b ≠ v.ownBlock) (.agg #[.bool neg, .slice B m k]) y)
  (h63 : n + 1 ≤ 1000000000) (hbase : base ≤ w0.heap.size)
  (h : ∀ A' c' w', OwnRn w' base (.slice A' (n + 1) c') (l ++ [y]) → Below base w0 w' → wpList Tryz.prog ops Q rest { a with tmps := a.tmps.setIfInBounds d (.slice A' (n + 1) c') } w') :
  wpList Tryz.prog ops Q (o :: rest) a w0 := by
 subst hln
 obtain ⟨xs, hrow, hcs⟩ := hown
 refine wpList_app _ hgd s x t t' ho base 40 40 (.agg #[.bool false, .slice none 0 0]) 2 32 ht ht' info_Int rfl (by omega) v l.length xs hs hrow _ 1 1 [.bool neg, .slice B m k] hx (src_block hG 1 2 rfl) (by simp [Value.oneCell']) (by unfold maxLen; omega) (by omega) hbase ?_
 intro v' w' hown' hg hob
 obtain ⟨A', c', rfl, _, _⟩ := own_slice hown'
 rw [put_some hd]
 refine h A' c' w' ⟨_, by rw [List.length_append]; exact hown', ?_⟩ ((Below.refl _ _).grown hg hbase (fun k hk => (hrow.lt k hk).1))
 have hc3 : Cs w0 (fun b => (base ≤ b ∧ some b ≠ v.ownBlock) ∧ b < w0.heap.size) (xs ++ [.bool neg, .slice B m k]) (l ++ [y]) := (hcs.snoc hy).mono fun b h1 h2 => ⟨h1, h2⟩
 refine (hc3.keep (w' := w') fun b o hd hb => World.cell?_of_block (hg.block b hb hd.1.2)).mono fun b hd _ => ⟨hd.1.1, ?_⟩
 rcases hob with e | e
 ·rw [e]; exact hd.1.2
 ·rw [e]
  intro e2
  have := hd.2
  simp at e2
  omega
theorem OwnS.one {w : World} {base g : Nat} {E : Nat → Prop} {A : Option Addr} {q c : Nat} {G : List (List Int)} {neg : Bool} {B : Option Addr} {m k : Nat} {y : Int} (h : Arr w g 223 [.slice A q c, .bool neg, .slice B m k]) (hb : base ≤ g)
  (hG : RowsD PvD w (fun b => E b ∧ b ≠ g) (.slice A q c) G) (hy : NIntV w (fun b => E b ∧ b ≠ g) (.agg #[.bool neg, .slice B m k]) y) : OwnS w base E (.slice (some ⟨g, 0, none⟩) 1 1) [(G, y)] := by
 have hne : ∀ b, b ≠ g → some b ≠ (Value.slice (some ⟨g, 0, none⟩) 1 1).ownBlock := fun b hb e => by
  have e : some b = some g := e
  injection e with e
  exact hb e
 refine ⟨[.slice A q c, .bool neg, .slice B m k], ⟨rfl, .inr ⟨g, 1, #[.slice A q c, .bool neg, .slice B m k], rfl, hb, h, Nat.le_refl _, by unfold maxLen; omega, rfl, rfl⟩⟩, ?_⟩
 have := StC.snoc (D := fun b => E b ∧ b ≠ g) (w := w) (xs := []) (S := []) ⟨rfl, fun j s hs => by simp at hs⟩ hG hy
 exact this.mono fun b hd _ => ⟨hd.1, hne b hd.2⟩
set_option maxRecDepth 100000 in
set_option maxHeartbeats 4000000 in
theorem stages_any {w : World} {F : Nat → Prop} (hF : ∀ b, w.heap.size ≤ b → F b) {A : Option Addr} {n c : Nat} {G : List (List Int)} {vb : Value} {b : Int} (h : RowsD PvD w F (.slice A n c) G) (hb : NIntV w F vb b) (hn : 0 < n) (hn2 : n ≤ 1000) (hrow : ∀ l ∈ G, l.length = n) (hfit : ∀ j, j < n → fitM (gS G j) = true ∧ fit (bS G b j) = true) :
  Calls Tryz.prog 188 #[.slice A n c, vb] w (Gives w fun w' v => StV w' F v (stL G b n)) := by
 obtain ⟨nb, Ab, mb, cb, rfl, hbn⟩ := hb.shp
 have HRW := Lib.hid (gS_shp (RowsD.room h).1.symm hrow)
 have HFT := Lib.hid hfit
 clear hrow hfit hb
 obtain ⟨B3, hB3⟩ : ∃ B3, B3 = w.heap.size := ⟨_, rfl⟩
 obtain ⟨OB, hOB⟩ : ∃ OB, OB = w.heap.size + 1 := ⟨_, rfl⟩
 obtain ⟨W, hW⟩ : ∃ W, W = (w.alloc (.cells #[.bool nb, .slice Ab mb cb] 40)).alloc (.cells #[.slice A n c, .bool nb, .slice Ab mb cb] 223) := ⟨_, rfl⟩
 have hbW : Below w.heap.size w W := by rw [hW]; exact ((Below.refl _ _).alloc (Nat.le_refl _) _).alloc (by simp) _
 have hBA : Arr W B3 40 [.bool nb, .slice Ab mb cb] := by rw [hW, hB3]; exact (Arr.new w _ [.bool nb, .slice Ab mb cb]).alloc _
 have hOA : Arr W OB 223 [.slice A n c, .bool nb, .slice Ab mb cb] := by
  rw [hW, hOB]
  have := Arr.new (w.alloc (.cells #[.bool nb, .slice Ab mb cb] 40)) 223 [.slice A n c, .bool nb, .slice Ab mb cb]
  simpa using this
 have hg0 := RowsD.below (RowsD.mono (D' := fun b => F b ∧ b < w.heap.size) h fun _ hb hl => ⟨hb, hl⟩) hbW
 have hb0 := (hbn.mono (D' := fun b => F b ∧ b < w.heap.size) fun _ hb hl => ⟨hb, hl⟩).below hbW
 have hown : OwnS W (w.heap.size + 1) (fun b => F b ∧ b ≠ B3) (.slice (some ⟨OB, 0, none⟩) 1 1) (stL G b 1) := OwnS.one hOA (by omega) (RowsD.mono hg0 fun b hb _ => ⟨⟨hb.1, by have := hb.2; omega⟩, by have := hb.2; omega⟩) (hb0.dd fun b hb => ⟨⟨hb.1, by have := hb.2; omega⟩, by have := hb.2; omega⟩)
 have hbx : Bx W B3 (fun b => (F b ∧ b ≠ B3) ∧ b ≠ OB) b := ⟨nb, Ab, mb, cb, hBA, hb0.dd fun b hb => ⟨⟨hb.1, by have := hb.2; omega⟩, by have := hb.2; omega⟩⟩
 have hgr : RowsD PvD W (fun b => (F b ∧ b ≠ B3) ∧ b ≠ OB) (.slice A n c) G := RowsD.mono hg0 fun b hb _ => ⟨⟨hb.1, by have := hb.2; omega⟩, by have := hb.2; omega⟩
 have HFF := Lib.hid hF
 clear hF
 have hne : ∀ b, b ≠ OB → some b ≠ (Value.slice (some ⟨OB, 0, none⟩) 1 1).ownBlock := fun b hb e => by
  have e : some b = some OB := e
  injection e with e
  exact hb e
 obtain ⟨r0, r1, f0, f1⟩ := hBA.c2
 have HWW := Lib.hid hW
 have HBB := Lib.hid hB3
 have HOO := Lib.hid hOB
 have HBW := Lib.hid hbW
 have HOW := Lib.hid hown
 have HBX := Lib.hid hbx
 have HGR := Lib.hid hgr
 have HNE := Lib.hid hne
 have hwB : w.heap.size ≤ B3 := by omega
 clear hne hB3 hOB hW hbW hBA hOA hg0 hb0 hown hbx hgr h hbn
 go_enter Tryz.func188, Tryz.ntmps188
 go_upto_region 1 with (fail)
 go_upto_block 0 with (fail)
 rw [← HOO.out, ← HBB.out]
 rw [← HWW.out]
 go_wp2_with fail
 go_loopw [0, 5] (fun gv ov wr => ∃ (j q : Nat) (A1 : Option Addr) (c1 : Nat) (A2 : Option Addr) (c2 : Nat), gv = .slice A1 q c1 ∧ ov = .slice A2 (j + 1) c2 ∧ j + q = n ∧ 0 < q ∧ RowsD PvD wr (fun b => (F b ∧ b ≠ B3) ∧ some b ≠ (Value.slice A2 (j + 1) c2).ownBlock) (.slice A1 q c1) (gS G j) ∧ Bx wr B3 (fun b => (F b ∧ b ≠ B3) ∧ some b ≠ (Value.slice A2 (j + 1) c2).ownBlock) (bS G b j) ∧ OwnS wr (w.heap.size + 1) (fun b => F b ∧ b ≠ B3) (.slice A2 (j + 1) c2) (stL G b (j + 1)) ∧ Below w.heap.size w wr) (fun gv _ _ => lenOf gv)
 case atStart =>
  obtain ⟨_, _, _, _, hx1, hx2⟩ := HBX.out
  exact ⟨0, n, A, c, some ⟨OB, 0, none⟩, 1, rfl, rfl, by omega, hn, RowsD.mono HGR.out fun b hb _ => ⟨hb.1, HNE.out b hb.2⟩, ⟨_, _, _, _, hx1, hx2.dd fun b hb => ⟨hb.1, HNE.out b hb.2⟩⟩, HOW.out, HBW.out⟩
 case round =>
  obtain ⟨j, q, A1, c1, A2, c2, rfl, rfl, hjq, hq, hgr, hbx, hown, hbr⟩ := hrel
  have hft := HFT.out j (by omega)
  have hshp := HRW.out j
  rw [show n - j = q by omega] at hshp
  clear r0 r1 f0 f1
  rcases Nat.lt_or_ge 1 q with hq1 | hq1
  ·skip
   obtain ⟨wo, rfl⟩ : ∃ wo, wo = wr := ⟨_, rfl⟩
   obtain ⟨H, hH⟩ : ∃ H, H = gS G j := ⟨_, rfl⟩
   have HHJ := Lib.hid hH
   have hnx : gS G (j + 1) = nxt H := by rw [hH]; rfl
   have HNX := Lib.hid hnx
   rw [← hH] at hgr hft hshp
   clear hH hnx
   have HGR2 := Lib.hid hgr
   have HBX2 := Lib.hid hbx
   have HOW2 := Lib.hid hown
   have HBR := Lib.hid hbr
   have HFM := Lib.hid hft.1
   have HFB := Lib.hid hft.2
   have hlH := hshp.1
   have HRH := Lib.hid (fun i (hi : i < q) => hshp.2 _ (rw_mem (L := H) (i := i) (by rw [hlH]; exact hi)))
   have HLX := Lib.hid (show (nxt H).length = q - 1 by rw [nxt_length, hlH])
   have HLH := Lib.hid hlH
   have hBw : B3 < wo.heap.size := hbx.arr
   have hob : ∀ b, wo.heap.size ≤ b → some b ≠ (Value.slice A2 (j + 1) c2).ownBlock := fun b hb => hown.fresh hb
   have HOB := Lib.hid hob
   clear hgr hbx hown hbr hft hshp hlH hob
   have hq1' : (1 : Int) < (q : Int) := by omega
   go_wp2_with fail
   go_loopw [6, 7] (fun nv iv wr => ∃ (t i : Nat) (A3 : Option Addr) (c3 : Nat), nv = .slice A3 t c3 ∧ iv = .int .i64 i ∧ Hid (i = t + 1) ∧ i ≤ q ∧ OwnL PvD 175 wr wo.heap.size (.slice A3 t c3) ((nxt H).take t) ∧ Below wo.heap.size wo wr) (fun _ iv _ => q - (intOf iv).toNat)
   case atStart => exact ⟨0, 1, none, 0, rfl, rfl, rfl, by omega, OwnL.nil _ _, Below.refl _ _⟩
   case round =>
    obtain ⟨t, i, A3, c3, rfl, rfl, HI, hi, hown, hbr⟩ := hrel
    obtain ⟨w3, rfl⟩ : ∃ w3, w3 = wr := ⟨_, rfl⟩
    have HOW3 := Lib.hid hown
    have HBR3 := Lib.hid hbr
    clear hown hbr
    rcases Nat.lt_or_ge i q with htq | htq
    ·have b1 : (i : Int) < (q : Int) := by omega
     have b3 : (0 : Int) ≤ (i : Int) := by omega
     have htq' : t < q - 1 := by have := HI.out; omega
     obtain ⟨R, hR⟩ : ∃ R, R = (List.range (q - 1)).map fun k => gm H 0 0 * gm H (t + 1) (k + 1) - gm H 0 (t + 1) * gm H 0 (k + 1) := ⟨_, rfl⟩
     have HRA := Lib.hid (show (nxt H)[t]? = some R by rw [hR, nxt_at (by rw [HLH.out]; exact htq'), HLH.out])
     have HRL := Lib.hid (show R.length = q - 1 by rw [hR, List.length_map, List.length_range])
     have HRK := Lib.hid (fun s (hs : s < q - 1) => show R[s]? = some (gm H 0 0 * gm H (t + 1) (s + 1) - gm H 0 (t + 1) * gm H 0 (s + 1)) by rw [hR, List.getElem?_map, List.getElem?_range hs]; rfl)
     clear hR
     go_wp2_with fail
     go_loopw [8, 9] (fun rv kv wr => ∃ (s k : Nat) (A4 : Option Addr) (c4 : Nat), rv = .slice A4 s c4 ∧ kv = .int .i64 k ∧ Hid (k = s + 1) ∧ k ≤ q ∧ OwnRn wr w3.heap.size (.slice A4 s c4) (R.take s) ∧ Below w3.heap.size w3 wr) (fun _ kv _ => q - (intOf kv).toNat)
     case atStart => exact ⟨0, 1, none, 0, rfl, rfl, rfl, by omega, OwnR.nil _ _ _, Below.refl _ _⟩
     case round =>
      obtain ⟨s, k, A4, c4, rfl, rfl, HK, hk, hown, hbr⟩ := hrel
      rcases Nat.lt_or_ge k q with hsq | hsq
      ·skip
       have b2 : (k : Int) < (q : Int) := by omega
       have b4 : (0 : Int) ≤ (k : Int) := by omega
       have b5 : (0 : Int) < (q : Int) := by omega
       have hb13 : Below wo.heap.size wo wr := HBR3.out.trans (hbr.mono HBR3.out.size)
       have hgw := RowsD.below HGR2.out hb13
       obtain ⟨bg, og, u0, e0, hc0, A5, c5, rfl, hp0⟩ := RowsD.at hgw (rw_some (L := H) (i := 0) (by rw [HLH.out]; omega))
       obtain ⟨bg2, og2, u2, e2, hci, A6, c6, rfl, hpi⟩ := RowsD.at hgw (rw_some (L := H) (i := i) (by rw [HLH.out]; omega))
       rw [e0] at e2
       injection e2 with e2
       injection e2 with e2 e3 e4
       subst e0
       subst e2 e3
       clear e4 hgw
       have hv0 : PvD wr _ (.slice A5 (rw_ H 0).length c5) (rw_ H 0) := ⟨A5, c5, rfl, hp0⟩
       have hvi : PvD wr _ (.slice A6 (rw_ H i).length c6) (rw_ H i) := ⟨A6, c6, rfl, hpi⟩
       rw [HRH.out 0 (by omega)] at hv0 hc0
       rw [HRH.out i (by omega)] at hvi hci
       clear hp0 hpi
       rw [Nat.add_zero] at hc0
       obtain ⟨b7, o7, rfl, h7⟩ := PvD.all hv0 (by omega)
       obtain ⟨b8, o8, rfl, h8⟩ := PvD.all hvi (by omega)
       obtain ⟨n1, B1, m1, k1, x10, x11, x12⟩ := h7 0 (by omega)
       obtain ⟨n2, B2, m2, k2, x20, x21, x22⟩ := h7 i (by omega)
       obtain ⟨n3, B4, m3, k3, x30, x31, x32⟩ := h7 k (by omega)
       obtain ⟨n4, B5, m4, k4, x40, x41, x42⟩ := h8 k (by omega)
       rw [Nat.zero_mul, Nat.add_zero] at x10 x11
       clear h7 h8 hv0 hvi
       have f1 := fit_wl (fitM_gm HFM.out 0 0)
       have f2 := fit_wl (fitM_gm HFM.out 0 i)
       have f3 := fit_wl (fitM_gm HFM.out 0 k)
       have f4 := fit_wl (fitM_gm HFM.out i k)
       have f5 := wl_mulI (gm H 0 0) (gm H i k)
       have f6 := wl_mulI (gm H 0 i) (gm H 0 k)
       have HM1 := Lib.hid (fun w' (hb : Below wr.heap.size wr w') => (Mul_any (x12.below hb).int (x42.below hb).int (show wl (gm H 0 0).natAbs ≤ _ by omega) (show wl (gm H i k).natAbs ≤ _ by omega)))
       have HM2 := Lib.hid (fun w' (hb : Below wr.heap.size wr w') => (Mul_any (x22.below hb).int (x32.below hb).int (show wl (gm H 0 i).natAbs ≤ _ by omega) (show wl (gm H 0 k).natAbs ≤ _ by omega)))
       have HSB := Lib.hid (fun (w' : World) (v v' : Value) (h : NIntV w' (fun _ => True) v (gm H 0 0 * gm H i k)) (h' : NIntV w' (fun _ => True) v' (gm H 0 i * gm H 0 k)) => Sub_any h.int h'.int (by omega) (by omega))
       have HRS := Lib.hid (show R.take (s + 1) = R.take s ++ [gm H 0 0 * gm H i k - gm H 0 i * gm H 0 k] by rw [List.take_add_one, HRK.out s (by have := HK.out; omega), HI.out, HK.out]; rfl)
       have HTL := Lib.hid (show (R.take s).length = s by rw [List.length_take, HRL.out]; have := HK.out; omega)
       have HOWN := Lib.hid hown
       have HBB3 := Lib.hid hbr
       have hsz3 := hbr.size
       clear x12 x22 x32 x42 f1 f2 f3 f4 f5 f6 hown hbr hb13
       go_upto_region 11 with (fail)
       have hs0 : Below wr.heap.size wr wr.drew := (Below.refl _ _).drew
       refine wp_region_tq5 (.read 0 (.read 1 (.read 2 (.read 3 (.read 4 (.read 5 (.read 6 (.read 7 (.read 8 (.read 9 (.read 10 (.read 11 (.read 12 (.read 14 (.read 15 (.read 16 (.read 17 (.read 18 (.read 19 (.read 20 (.read 21 (.read 22 (.read 23 (.read 24 (.read 25 (.step 13 (.step 26 (.step 27 (.step 28 (.step 29 (.step 30 .nil))))))))))))))))))))))))))))))) [29, 30] (by kernel_rfl) (by rfl) (by kernel_rfl) (by kernel_rfl) (fun V => Below wr.heap.size wr V) ?_
       change goU _ _ _ _ _ _ _ wr.drew
       refine goU_read 29 hs0 (by rfl) (by rfl) ?_ (by rfl) (fun wz hSw => ?_) ?_
       rotate_left
       ·have e0 := keepB hSw hc0; have e1 := keepB hSw hci; have e2 := keepB hSw x10; have e3 := keepB hSw x11; have e4 := keepB hSw x20; have e5 := keepB hSw x21; have e6 := keepB hSw x30; have e7 := keepB hSw x31; have e8 := keepB hSw x40; have e9 := keepB hSw x41; go_simp
        try with_reducible rfl
       simp only [sIB, List.set]
       refine goU_read 30 hs0 (by rfl) (by rfl) ?_ (by rfl) (fun wz hSw => ?_) ?_
       rotate_left
       ·have e0 := keepB hSw hc0; have e1 := keepB hSw hci; have e2 := keepB hSw x10; have e3 := keepB hSw x11; have e4 := keepB hSw x20; have e5 := keepB hSw x21; have e6 := keepB hSw x30; have e7 := keepB hSw x31; have e8 := keepB hSw x40; have e9 := keepB hSw x41; go_simp
        try with_reducible rfl
       simp only [sIB, List.set]
       refine goU_read 31 hs0 (by rfl) (by rfl) ?_ (by rfl) (fun wz hSw => ?_) ?_
       rotate_left
       ·have e0 := keepB hSw hc0; have e1 := keepB hSw hci; have e2 := keepB hSw x10; have e3 := keepB hSw x11; have e4 := keepB hSw x20; have e5 := keepB hSw x21; have e6 := keepB hSw x30; have e7 := keepB hSw x31; have e8 := keepB hSw x40; have e9 := keepB hSw x41; go_simp
        try with_reducible rfl
       simp only [sIB, List.set]
       refine goU_read 32 hs0 (by rfl) (by rfl) ?_ (by rfl) (fun wz hSw => ?_) ?_
       rotate_left
       ·have e0 := keepB hSw hc0; have e1 := keepB hSw hci; have e2 := keepB hSw x10; have e3 := keepB hSw x11; have e4 := keepB hSw x20; have e5 := keepB hSw x21; have e6 := keepB hSw x30; have e7 := keepB hSw x31; have e8 := keepB hSw x40; have e9 := keepB hSw x41; go_simp
        try with_reducible rfl
       simp only [sIB, List.set]
       refine goU_read 33 hs0 (by rfl) (by rfl) ?_ (by rfl) (fun wz hSw => ?_) ?_
       rotate_left
       ·have e0 := keepB hSw hc0; have e1 := keepB hSw hci; have e2 := keepB hSw x10; have e3 := keepB hSw x11; have e4 := keepB hSw x20; have e5 := keepB hSw x21; have e6 := keepB hSw x30; have e7 := keepB hSw x31; have e8 := keepB hSw x40; have e9 := keepB hSw x41; go_simp
        try with_reducible rfl
       simp only [sIB, List.set]
       refine goU_read 34 hs0 (by rfl) (by rfl) ?_ (by rfl) (fun wz hSw => ?_) ?_
       rotate_left
       ·have e0 := keepB hSw hc0; have e1 := keepB hSw hci; have e2 := keepB hSw x10; have e3 := keepB hSw x11; have e4 := keepB hSw x20; have e5 := keepB hSw x21; have e6 := keepB hSw x30; have e7 := keepB hSw x31; have e8 := keepB hSw x40; have e9 := keepB hSw x41; go_simp
        try with_reducible rfl
       simp only [sIB, List.set]
       refine goU_read 35 hs0 (by rfl) (by rfl) ?_ (by rfl) (fun wz hSw => ?_) ?_
       rotate_left
       ·have e0 := keepB hSw hc0; have e1 := keepB hSw hci; have e2 := keepB hSw x10; have e3 := keepB hSw x11; have e4 := keepB hSw x20; have e5 := keepB hSw x21; have e6 := keepB hSw x30; have e7 := keepB hSw x31; have e8 := keepB hSw x40; have e9 := keepB hSw x41; go_simp
        try with_reducible rfl
       simp only [sIB, List.set]
       refine goU_read 36 hs0 (by rfl) (by rfl) ?_ (by rfl) (fun wz hSw => ?_) ?_
       rotate_left
       ·have e0 := keepB hSw hc0; have e1 := keepB hSw hci; have e2 := keepB hSw x10; have e3 := keepB hSw x11; have e4 := keepB hSw x20; have e5 := keepB hSw x21; have e6 := keepB hSw x30; have e7 := keepB hSw x31; have e8 := keepB hSw x40; have e9 := keepB hSw x41; go_simp
        try with_reducible rfl
       simp only [sIB, List.set]
       refine goU_read 37 hs0 (by rfl) (by rfl) ?_ (by rfl) (fun wz hSw => ?_) ?_
       rotate_left
       ·have e0 := keepB hSw hc0; have e1 := keepB hSw hci; have e2 := keepB hSw x10; have e3 := keepB hSw x11; have e4 := keepB hSw x20; have e5 := keepB hSw x21; have e6 := keepB hSw x30; have e7 := keepB hSw x31; have e8 := keepB hSw x40; have e9 := keepB hSw x41; go_simp
        try with_reducible rfl
       simp only [sIB, List.set]
       refine goU_read 38 hs0 (by rfl) (by rfl) ?_ (by rfl) (fun wz hSw => ?_) ?_
       rotate_left
       ·have e0 := keepB hSw hc0; have e1 := keepB hSw hci; have e2 := keepB hSw x10; have e3 := keepB hSw x11; have e4 := keepB hSw x20; have e5 := keepB hSw x21; have e6 := keepB hSw x30; have e7 := keepB hSw x31; have e8 := keepB hSw x40; have e9 := keepB hSw x41; go_simp
        try with_reducible rfl
       simp only [sIB, List.set]
       refine goU_read 39 hs0 (by rfl) (by rfl) ?_ (by rfl) (fun wz hSw => ?_) ?_
       rotate_left
       ·have e0 := keepB hSw hc0; have e1 := keepB hSw hci; have e2 := keepB hSw x10; have e3 := keepB hSw x11; have e4 := keepB hSw x20; have e5 := keepB hSw x21; have e6 := keepB hSw x30; have e7 := keepB hSw x31; have e8 := keepB hSw x40; have e9 := keepB hSw x41; go_simp
        try with_reducible rfl
       simp only [sIB, List.set]
       refine goU_read 40 hs0 (by rfl) (by rfl) ?_ (by rfl) (fun wz hSw => ?_) ?_
       rotate_left
       ·have e0 := keepB hSw hc0; have e1 := keepB hSw hci; have e2 := keepB hSw x10; have e3 := keepB hSw x11; have e4 := keepB hSw x20; have e5 := keepB hSw x21; have e6 := keepB hSw x30; have e7 := keepB hSw x31; have e8 := keepB hSw x40; have e9 := keepB hSw x41; go_simp
        try with_reducible rfl
       simp only [sIB, List.set]
       refine goU_read 41 hs0 (by rfl) (by rfl) ?_ (by rfl) (fun wz hSw => ?_) ?_
       rotate_left
       ·have e0 := keepB hSw hc0; have e1 := keepB hSw hci; have e2 := keepB hSw x10; have e3 := keepB hSw x11; have e4 := keepB hSw x20; have e5 := keepB hSw x21; have e6 := keepB hSw x30; have e7 := keepB hSw x31; have e8 := keepB hSw x40; have e9 := keepB hSw x41; go_simp
        try with_reducible rfl
       simp only [sIB, List.set]
       refine goU_read 43 hs0 (by rfl) (by rfl) ?_ (by rfl) (fun wz hSw => ?_) ?_
       rotate_left
       ·have e0 := keepB hSw hc0; have e1 := keepB hSw hci; have e2 := keepB hSw x10; have e3 := keepB hSw x11; have e4 := keepB hSw x20; have e5 := keepB hSw x21; have e6 := keepB hSw x30; have e7 := keepB hSw x31; have e8 := keepB hSw x40; have e9 := keepB hSw x41; go_simp
        try with_reducible rfl
       simp only [sIB, List.set]
       refine goU_read 44 hs0 (by rfl) (by rfl) ?_ (by rfl) (fun wz hSw => ?_) ?_
       rotate_left
       ·have e0 := keepB hSw hc0; have e1 := keepB hSw hci; have e2 := keepB hSw x10; have e3 := keepB hSw x11; have e4 := keepB hSw x20; have e5 := keepB hSw x21; have e6 := keepB hSw x30; have e7 := keepB hSw x31; have e8 := keepB hSw x40; have e9 := keepB hSw x41; go_simp
        try with_reducible rfl
       simp only [sIB, List.set]
       refine goU_read 45 hs0 (by rfl) (by rfl) ?_ (by rfl) (fun wz hSw => ?_) ?_
       rotate_left
       ·have e0 := keepB hSw hc0; have e1 := keepB hSw hci; have e2 := keepB hSw x10; have e3 := keepB hSw x11; have e4 := keepB hSw x20; have e5 := keepB hSw x21; have e6 := keepB hSw x30; have e7 := keepB hSw x31; have e8 := keepB hSw x40; have e9 := keepB hSw x41; go_simp
        try with_reducible rfl
       simp only [sIB, List.set]
       refine goU_read 46 hs0 (by rfl) (by rfl) ?_ (by rfl) (fun wz hSw => ?_) ?_
       rotate_left
       ·have e0 := keepB hSw hc0; have e1 := keepB hSw hci; have e2 := keepB hSw x10; have e3 := keepB hSw x11; have e4 := keepB hSw x20; have e5 := keepB hSw x21; have e6 := keepB hSw x30; have e7 := keepB hSw x31; have e8 := keepB hSw x40; have e9 := keepB hSw x41; go_simp
        try with_reducible rfl
       simp only [sIB, List.set]
       refine goU_read 47 hs0 (by rfl) (by rfl) ?_ (by rfl) (fun wz hSw => ?_) ?_
       rotate_left
       ·have e0 := keepB hSw hc0; have e1 := keepB hSw hci; have e2 := keepB hSw x10; have e3 := keepB hSw x11; have e4 := keepB hSw x20; have e5 := keepB hSw x21; have e6 := keepB hSw x30; have e7 := keepB hSw x31; have e8 := keepB hSw x40; have e9 := keepB hSw x41; go_simp
        try with_reducible rfl
       simp only [sIB, List.set]
       refine goU_read 48 hs0 (by rfl) (by rfl) ?_ (by rfl) (fun wz hSw => ?_) ?_
       rotate_left
       ·have e0 := keepB hSw hc0; have e1 := keepB hSw hci; have e2 := keepB hSw x10; have e3 := keepB hSw x11; have e4 := keepB hSw x20; have e5 := keepB hSw x21; have e6 := keepB hSw x30; have e7 := keepB hSw x31; have e8 := keepB hSw x40; have e9 := keepB hSw x41; go_simp
        try with_reducible rfl
       simp only [sIB, List.set]
       refine goU_read 49 hs0 (by rfl) (by rfl) ?_ (by rfl) (fun wz hSw => ?_) ?_
       rotate_left
       ·have e0 := keepB hSw hc0; have e1 := keepB hSw hci; have e2 := keepB hSw x10; have e3 := keepB hSw x11; have e4 := keepB hSw x20; have e5 := keepB hSw x21; have e6 := keepB hSw x30; have e7 := keepB hSw x31; have e8 := keepB hSw x40; have e9 := keepB hSw x41; go_simp
        try with_reducible rfl
       simp only [sIB, List.set]
       refine goU_read 50 hs0 (by rfl) (by rfl) ?_ (by rfl) (fun wz hSw => ?_) ?_
       rotate_left
       ·have e0 := keepB hSw hc0; have e1 := keepB hSw hci; have e2 := keepB hSw x10; have e3 := keepB hSw x11; have e4 := keepB hSw x20; have e5 := keepB hSw x21; have e6 := keepB hSw x30; have e7 := keepB hSw x31; have e8 := keepB hSw x40; have e9 := keepB hSw x41; go_simp
        try with_reducible rfl
       simp only [sIB, List.set]
       refine goU_read 51 hs0 (by rfl) (by rfl) ?_ (by rfl) (fun wz hSw => ?_) ?_
       rotate_left
       ·have e0 := keepB hSw hc0; have e1 := keepB hSw hci; have e2 := keepB hSw x10; have e3 := keepB hSw x11; have e4 := keepB hSw x20; have e5 := keepB hSw x21; have e6 := keepB hSw x30; have e7 := keepB hSw x31; have e8 := keepB hSw x40; have e9 := keepB hSw x41; go_simp
        try with_reducible rfl
       simp only [sIB, List.set]
       refine goU_read 52 hs0 (by rfl) (by rfl) ?_ (by rfl) (fun wz hSw => ?_) ?_
       rotate_left
       ·have e0 := keepB hSw hc0; have e1 := keepB hSw hci; have e2 := keepB hSw x10; have e3 := keepB hSw x11; have e4 := keepB hSw x20; have e5 := keepB hSw x21; have e6 := keepB hSw x30; have e7 := keepB hSw x31; have e8 := keepB hSw x40; have e9 := keepB hSw x41; go_simp
        try with_reducible rfl
       simp only [sIB, List.set]
       refine goU_read 53 hs0 (by rfl) (by rfl) ?_ (by rfl) (fun wz hSw => ?_) ?_
       rotate_left
       ·have e0 := keepB hSw hc0; have e1 := keepB hSw hci; have e2 := keepB hSw x10; have e3 := keepB hSw x11; have e4 := keepB hSw x20; have e5 := keepB hSw x21; have e6 := keepB hSw x30; have e7 := keepB hSw x31; have e8 := keepB hSw x40; have e9 := keepB hSw x41; go_simp
        try with_reducible rfl
       simp only [sIB, List.set]
       refine goU_read 54 hs0 (by rfl) (by rfl) ?_ (by rfl) (fun wz hSw => ?_) ?_
       rotate_left
       ·have e0 := keepB hSw hc0; have e1 := keepB hSw hci; have e2 := keepB hSw x10; have e3 := keepB hSw x11; have e4 := keepB hSw x20; have e5 := keepB hSw x21; have e6 := keepB hSw x30; have e7 := keepB hSw x31; have e8 := keepB hSw x40; have e9 := keepB hSw x41; go_simp
        try with_reducible rfl
       simp only [sIB, List.set]
       refine goU_call 42 (by rfl) (by rfl) (by rfl) (by go_simp) (HM1.out _ hs0) ?_
       rintro e w5 ⟨v5, rfl, hv5, hb5⟩
       have hs1 := hs0.trans (hb5.mono hs0.size)
       refine ⟨_, rfl, fun _ => hs1, ?_⟩
       simp only [sIB, List.set]
       refine goU_call 55 (by rfl) (by rfl) (by rfl) (by go_simp) (HM2.out _ hs1) ?_
       rintro e w6 ⟨v6, rfl, hv6, hb6⟩
       have hs2 := hs1.trans (hb6.mono hs1.size)
       refine ⟨_, rfl, fun _ => hs2, ?_⟩
       simp only [sIB, List.set]
       refine goU_call 56 (by rfl) (by rfl) (by rfl) (by go_simp) (HSB.out _ _ _ (hv5.tt.below hb6) hv6.tt) ?_
       rintro e w7 ⟨v7, rfl, hv7, hb7⟩
       obtain ⟨n9, A8, m9, k9, rfl, hw7⟩ := hv7.shp
       have hs3 := hs2.trans (hb7.mono hs2.size)
       refine ⟨_, rfl, fun _ => hs3, ?_⟩
       simp only [sIB, List.set]
       clear hv5 hv6 hv7
       refine goU_step (by rfl) ?_
       go_wp2_with fail
       obtain ⟨w8, hw8⟩ : ∃ V, V = w7.alloc (.cells #[.bool n9, .slice A8 m9 k9] 40) := ⟨_, rfl⟩
       obtain ⟨Gx, hGx⟩ : ∃ P, P = w7.heap.size := ⟨_, rfl⟩
       have hb8 : Below w7.heap.size w7 w8 := by rw [hw8]; exact (Below.refl _ _).alloc (Nat.le_refl _) _
       have hG8 : Arr w8 Gx 40 [.bool n9, .slice A8 m9 k9] := by rw [hw8, hGx]; exact Arr.new w7 _ [.bool n9, .slice A8 m9 k9]
       rw [← hw8, ← hGx]
       have hs4 := hs3.trans (hb8.mono hs3.size)
       first | refine ⟨fun _ => hs4, ?_⟩ | refine ⟨hs4, ?_⟩
       have hz2 := hs2.size
       have hz4 := hs4.size
       have ho8 := OwnR.below HOWN.out hs4
       have hn8 : NIntV w8 (fun b => w3.heap.size ≤ b ∧ some b ≠ (Value.slice A4 s c4).ownBlock) (.agg #[.bool n9, .slice A8 m9 k9]) (gm H 0 0 * gm H i k - gm H 0 i * gm H 0 k) := (hw7.below hb8).dd fun b (hb : w6.heap.size ≤ b) => ⟨by omega, fun e => by have := (HOWN.out.lt e.symm).2; omega⟩
       clear hw8 hGx
       refine goU_step (by rfl) ?_
       refine wpList_pushRn w8 58 (by rfl) (by rfl) _ _ _ _ (by rfl) w3.heap.size Tryz.underlying175 Tryz.underlying175 (.slice A4 s c4) (R.take s) s HTL.out (by rfl) ho8 n9 A8 m9 k9 _ Gx hG8 (by rfl) hn8 (by have := HK.out; omega) (Nat.le_trans hsz3 hz4) ?_
       intro A9 c9 w9 hown9 hb9
       have hb39 : Below w3.heap.size w3 w9 := (HBB3.out.trans (hs4.mono HBB3.out.size)).trans hb9
       unfold wpList
       simp only [sIB, List.set]
       refine ⟨fun h => absurd h (by decide), ?_⟩
       refine goU_step (by rfl) ?_
       go_wp2_with fail
       try (refine ⟨fun h => absurd h (by decide), ?_⟩)
       refine goU_nilN ?_
       go_wp2_with fail
       go_roundw
       case rel => exact ⟨s + 1, k + 1, A9, c9, rfl, by go_num, Lib.hid (by rw [HK.out]), by omega, by rw [HRS.out]; exact hown9, hb39⟩
       case measure => simp [intOf]; omega
      ·skip
       obtain rfl : k = q := by omega
       have b2 : ¬ ((k : Int) < (k : Int)) := by omega
       have hsk : s = k - 1 := by have := HK.out; omega
       have hRs : R.take s = R := List.take_of_length_le (by rw [HRL.out, hsk]; exact Nat.le_refl _)
       rw [hRs] at hown
       have hRl : R.length = s := by rw [HRL.out, hsk]
       have HRL2 := Lib.hid hRl
       obtain ⟨A9, c9, e9, g9, g10⟩ := hown.slice
       rw [hRl] at e9
       injection e9 with e9 e10 e11
       subst e9 e11
       clear e10 hRs hRl hsk
       have hpv : PvD wr (w3.heap.size ≤ ·) (.slice A4 s c4) R := OwnR.pvd hown fun b hb => hb.elim (fun h => h.1) fun h => (hown.lt h).1
       have hu := HOW3.out.row HBR3.out.size (Nat.le_refl _) hpv
       have HU := Lib.hid hu
       have HOW4 := Lib.hid (HOW3.out.below hbr)
       have hb13 : Below wo.heap.size wo wr := HBR3.out.trans (hbr.mono HBR3.out.size)
       have HB13 := Lib.hid hb13
       have HST := Lib.hid (show (nxt H).take (t + 1) = (nxt H).take t ++ [R] by rw [List.take_add_one, HRA.out]; rfl)
       have HTL := Lib.hid (show ((nxt H).take t).length = t by rw [List.length_take, HLX.out]; have := HI.out; omega)
       clear hu hpv hown hbr g9 g10 hb13
       go_wp2_with (at_builtin; go_must (refine wpList_pushL _ rfl _ _ _ _ (.slice none 0 0) 24 rfl Tryz.underlying113 Tryz.underlying113 info_Row rfl (by omega) wo.heap.size (.slice A3 t c3) ((nxt H).take t) t HTL.out rfl HOW4.out _ R HU.out rfl (by have := HI.out; omega) HB13.out.size ?_); intro A6 c6 w6 hown6 hgr6 hb6)
       go_roundw
       case rel => exact ⟨t + 1, i + 1, A6, c6, rfl, by go_num, Lib.hid (by rw [HI.out]), by omega, by rw [HST.out]; exact hown6, HB13.out.trans hb6⟩
       case measure => simp [intOf]; omega
    ·skip
     obtain rfl : i = q := by omega
     have b2 : ¬ ((i : Int) < (i : Int)) := by omega
     have hti : t + 1 = i := HI.out.symm
     have hnt : (nxt H).take t = nxt H := List.take_of_length_le (by rw [HLX.out]; omega)
     have hown := HOW3.out
     rw [hnt] at hown
     have HN3 := Lib.hid (RowsD.mono (D' := (wo.heap.size ≤ ·)) hown.rows fun _ hb _ => hb)
     have hOS := HOW2.out.below HBR3.out
     have HOS := Lib.hid hOS
     have hbx3 := HBX2.out.below HBR3.out
     have hgw := RowsD.below HGR2.out HBR3.out
     obtain ⟨bg, og, u0, e0, hc0, A5, c5, rfl, hp0⟩ := RowsD.at hgw (rw_some (L := H) (i := 0) (by rw [HLH.out]; omega))
     subst e0
     have hv0 : PvD w3 _ (.slice A5 (rw_ H 0).length c5) (rw_ H 0) := ⟨A5, c5, rfl, hp0⟩
     rw [HRH.out 0 (by omega)] at hv0 hc0
     rw [Nat.add_zero] at hc0
     obtain ⟨b7, o7, rfl, h7⟩ := PvD.all hv0 (by omega)
     obtain ⟨n1, B1, m1, k1, x10, x11, x12⟩ := h7 0 (by omega)
     rw [Nat.zero_mul, Nat.add_zero] at x10 x11
     obtain ⟨nq, Aq, mq, cq, hPA, hPv⟩ := hbx3
     obtain ⟨r0, r1, f0, f1⟩ := hPA.c2
     have f1 := fit_wl (fitM_gm HFM.out 0 0)
     have f2 := fit_wl HFB.out
     have HM1 := Lib.hid (fun w' (hb : Below w3.heap.size w3 w') => (Mul_any (x12.below hb).int (hPv.below hb).int (show wl (gm H 0 0).natAbs ≤ _ by omega) (by omega)))
     have HPA := Lib.hid hPA
     have HBS := Lib.hid (show bS G b (j + 1) = gm H 0 0 * bS G b j by show gm (gS G j) 0 0 * _ = _; rw [← HHJ.out])
     have hb5 : (0 : Int) < (i : Int) := by omega
     have hB3 : B3 < w3.heap.size := hPA.lt
     clear hgw hp0 hv0 h7 x12 hPv f1 f2 hnt hown hOS hPA
     go_upto_region 13 with (fail)
     have hs0 : Below w3.heap.size w3 w3.drew := (Below.refl _ _).drew
     refine wp_region_tq5 (.read 0 (.read 1 (.read 2 (.read 3 (.read 4 (.read 5 (.step 6 (.step 7 .nil)))))))) [7] (by kernel_rfl) (by rfl) (by kernel_rfl) (by kernel_rfl) (fun V => Below w3.heap.size w3 V) ?_
     change goU _ _ _ _ _ _ _ w3.drew
     refine goU_read 63 hs0 (by rfl) (by rfl) ?_ (by rfl) (fun wz hSw => ?_) ?_
     rotate_left
     ·have e0 := keepB hSw hc0; have e2 := keepB hSw x10; have e3 := keepB hSw x11; have e4 := keepB hSw r0; have e5 := keepB hSw r1; go_simp
      try with_reducible rfl
     simp only [sIB, List.set]
     refine goU_read 64 hs0 (by rfl) (by rfl) ?_ (by rfl) (fun wz hSw => ?_) ?_
     rotate_left
     ·have e0 := keepB hSw hc0; have e2 := keepB hSw x10; have e3 := keepB hSw x11; have e4 := keepB hSw r0; have e5 := keepB hSw r1; go_simp
      try with_reducible rfl
     simp only [sIB, List.set]
     refine goU_read 65 hs0 (by rfl) (by rfl) ?_ (by rfl) (fun wz hSw => ?_) ?_
     rotate_left
     ·have e0 := keepB hSw hc0; have e2 := keepB hSw x10; have e3 := keepB hSw x11; have e4 := keepB hSw r0; have e5 := keepB hSw r1; go_simp
      try with_reducible rfl
     simp only [sIB, List.set]
     refine goU_read 66 hs0 (by rfl) (by rfl) ?_ (by rfl) (fun wz hSw => ?_) ?_
     rotate_left
     ·have e0 := keepB hSw hc0; have e2 := keepB hSw x10; have e3 := keepB hSw x11; have e4 := keepB hSw r0; have e5 := keepB hSw r1; go_simp
      try with_reducible rfl
     simp only [sIB, List.set]
     refine goU_read 67 hs0 (by rfl) (by rfl) ?_ (by rfl) (fun wz hSw => ?_) ?_
     rotate_left
     ·have e0 := keepB hSw hc0; have e2 := keepB hSw x10; have e3 := keepB hSw x11; have e4 := keepB hSw r0; have e5 := keepB hSw r1; go_simp
      try with_reducible rfl
     simp only [sIB, List.set]
     refine goU_read 68 hs0 (by rfl) (by rfl) ?_ (by rfl) (fun wz hSw => ?_) ?_
     rotate_left
     ·have e0 := keepB hSw hc0; have e2 := keepB hSw x10; have e3 := keepB hSw x11; have e4 := keepB hSw r0; have e5 := keepB hSw r1; go_simp
      try with_reducible rfl
     simp only [sIB, List.set]
     refine goU_call 69 (by rfl) (by rfl) (by rfl) (by go_simp) (HM1.out _ hs0) ?_
     rintro e w6 ⟨v6, rfl, hv6, hb6⟩
     have hs1 := hs0.trans (hb6.mono hs0.size)
     refine ⟨_, rfl, fun _ => hs1, ?_⟩
     simp only [sIB, List.set]
     obtain ⟨n9, A8, m9, k9, rfl, hwv⟩ := hv6.shp
     have hPA6 := HPA.out.below' hs1
     obtain ⟨r0, r1, f0, f1⟩ := hPA6.c2
     refine goU_step (by rfl) ?_
     go_wp2_with fail
     try (refine ⟨fun h => absurd h (by decide), ?_⟩)
     refine goU_nilN ?_
     clear hv6 hb6 hPA6
     obtain ⟨w7, hw7⟩ : ∃ V, V = (w6.setCell ⟨B3, 0, none⟩ (.bool n9)).setCell ⟨B3, 1, none⟩ (.slice A8 m9 k9) := ⟨_, rfl⟩
     rw [← hw7]
     have hf7 : Frm (· = B3) w6 w7 := by rw [hw7]; exact (Frm.setCell (O := (· = B3)) (p := ⟨B3, 0, none⟩) (fun _ => rfl) _).trans (Frm.setCell (O := (· = B3)) (p := ⟨B3, 1, none⟩) (fun _ => rfl) _)
     have hA7 : Arr w7 B3 40 [.bool n9, .slice A8 m9 k9] := by rw [hw7]; exact ((HPA.out.below' hs1).set_ 0 _).set_ 1 _
     have hn7 : NIntV w7 (w3.heap.size ≤ ·) (.agg #[.bool n9, .slice A8 m9 k9]) (bS G b (j + 1)) := by rw [HBS.out]; exact hf7.nint hwv fun b (hb : w3.heap.size ≤ b) e => by omega
     have hOS7 : OwnS w7 (w.heap.size + 1) (fun b => F b ∧ b ≠ B3) (.slice A2 (j + 1) c2) (stL G b (j + 1)) := (HOS.out.below hs1).frm hf7 (fun b hb e => hb.2 e) (fun b hb e => by have := (HOS.out.lt hb).1; have := HBB.out; omega)
     have hw3o := HBR3.out.size
     have hw63 := hs1.size
     have hNX7 : RowsD PvD w7 (wo.heap.size ≤ ·) (.slice A3 t c3) (nxt H) := Frm.foot hf7 (RowsD.below HN3.out hs1) fun b (hb : wo.heap.size ≤ b) e => by omega
     have hb37 : Below w.heap.size w w7 := ((HBR.out.trans (HBR3.out.mono HBR.out.size)).trans (hs1.mono (Nat.le_trans HBR.out.size hw3o))).trans (hf7.below (by have := HBR.out.size; omega) fun b e => by omega)
     have hB7 : B3 < w7.heap.size := hA7.lt
     have hs67 := hf7.size
     have HA7 := Lib.hid hA7
     have HNX7 := Lib.hid hNX7
     have HN7 := Lib.hid hn7
     have HB37 := Lib.hid hb37
     obtain ⟨r0, r1, f0, f1⟩ := hA7.c2
     clear hw7 hf7 hA7 hn7 hNX7 hb37 hwv hs1 hs0 hb5
     obtain ⟨w8, hw8⟩ : ∃ V, V = w7.alloc (.cells #[.slice A3 t c3, .bool n9, .slice A8 m9 k9] 223) := ⟨_, rfl⟩
     obtain ⟨Gx, hGx⟩ : ∃ P, P = w7.heap.size := ⟨_, rfl⟩
     have hb8 : Below w7.heap.size w7 w8 := by rw [hw8]; exact (Below.refl _ _).alloc (Nat.le_refl _) _
     have hG8 : Arr w8 Gx 223 [.slice A3 t c3, .bool n9, .slice A8 m9 k9] := by rw [hw8, hGx]; exact Arr.new w7 _ [.slice A3 t c3, .bool n9, .slice A8 m9 k9]
     have hOB8 : ∀ b, wo.heap.size ≤ b → some b ≠ (Value.slice A2 (j + 1) c2).ownBlock := HOB.out
     have hBA8 : Arr w8 B3 40 [.bool n9, .slice A8 m9 k9] := HA7.out.below' hb8
     have hNX8 := RowsD.below HNX7.out hb8
     have hN8 := HN7.out.below hb8
     have HNX8 := Lib.hid (RowsD.mono (D' := fun b => (F b ∧ b ≠ B3) ∧ some b ≠ (Value.slice A2 (j + 1) c2).ownBlock) hNX8 fun b (hb : wo.heap.size ≤ b) _ => ⟨⟨HFF.out b (by have := HBR.out.size; omega), by omega⟩, HOB.out b hb⟩)
     have HN8 := Lib.hid (hN8.dd (D' := fun b => (F b ∧ b ≠ B3) ∧ some b ≠ (Value.slice A2 (j + 1) c2).ownBlock) fun b (hb : w3.heap.size ≤ b) => ⟨⟨HFF.out b (by have := HBR.out.size; omega), by omega⟩, HOB.out b (by omega)⟩)
     have HW8 := Lib.hid hw8
     have HGX := Lib.hid hGx
     have HG8 := Lib.hid hG8
     have HO8 := Lib.hid (hOS7.below hb8)
     have HB8 := Lib.hid hb8
     have HBA8 := Lib.hid hBA8
     have HJJ := Lib.hid (show stL G b (j + 1 + 1) = stL G b (j + 1) ++ [(nxt H, bS G b (j + 1))] by rw [stL_succ, HNX.out])
     have hwo7 : w.heap.size + 1 ≤ w8.heap.size := by have := hb8.size; have := HBR.out.size; omega
     clear hw8 hGx hG8 hBA8 hNX8 hN8 hb8 hOS7 hOB8
     go_wp2_with (at_builtin; rw [← HW8.out, ← HGX.out]; go_must (refine wpList_pushS w8 rfl _ _ _ _ rfl (w.heap.size + 1) Tryz.underlying219 Tryz.underlying219 (.slice A2 (j + 1) c2) (stL G b (j + 1)) (j + 1) (stL_length _ _ _) rfl HO8.out A3 t c3 n9 A8 m9 k9 (nxt H) (bS G b (j + 1)) Gx HG8.out rfl HNX8.out HN8.out (by omega) hwo7 ?_); intro A9 c9 w9 hown9 hgr9 hnw9 hb9)
     have hl8 := HB8.out.size
     have hB8 : B3 < w8.heap.size := HBA8.out.lt
     have hown3 : some B3 ≠ (Value.slice A2 (j + 1) c2).ownBlock := fun e => by have := (HOS.out.lt e.symm).1; have := HBB.out; omega
     go_roundw
     case rel =>
      refine ⟨j + 1, t, A3, c3, A9, c9, rfl, rfl, by omega, by omega, ?_, ?_, by rw [HJJ.out]; exact hown9, (HB37.out.trans (HB8.out.mono HB37.out.size)).trans (hb9.mono (by omega))⟩
      ·rw [HNX.out]
       have h1 := RowsD.mono (D' := fun b => ((F b ∧ b ≠ B3) ∧ some b ≠ (Value.slice A2 (j + 1) c2).ownBlock) ∧ b < w8.heap.size) HNX8.out fun b hb hl => ⟨hb, hl⟩
       exact RowsD.mono (RowsD.keep h1 fun b hb hl => hgr9.block b hl hb.1.2) fun b hb _ => ⟨hb.1.1, hnw9 b hb.2 hb.1.2⟩
      ·refine ⟨n9, A8, m9, k9, (hgr9.block B3 hB8 hown3).trans HBA8.out, ?_⟩
       have h1 := HN8.out.mono (D' := fun b => ((F b ∧ b ≠ B3) ∧ some b ≠ (Value.slice A2 (j + 1) c2).ownBlock) ∧ b < w8.heap.size) fun b hb hl => ⟨hb, hl⟩
       exact (h1.keep fun b o hb hl => World.cell?_of_block (hgr9.block b hl hb.1.2)).mono fun b hb _ => ⟨hb.1.1, hnw9 b hb.2 hb.1.2⟩
     case measure => show t < i; omega
  ·obtain rfl : q = 1 := by omega
   have hjn : j + 1 = n := by omega
   have HST := Lib.hid (show StV wr F (.slice A2 (j + 1) c2) (stL G b n) by rw [← hjn]; exact hown.stvF (fun b hb => HFF.out b (by omega)) fun b hb => hb.1)
   go_wp2_with fail
   go_ret
   exact ⟨_, rfl, HST.out, hbr⟩
end Go.Proofs.YtdjpeimecfhdjaaGreat
