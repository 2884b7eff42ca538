/- Package brandt: the matrix of the norm (gram). -/
import Derived.Test.YtdjpeimecfhdjaaGreatTh
import Derived.Test.YtdjpeimecfhdjaaGreatSn
import Derived.Test.YtdjpeimecfhdjaaGreatSp
namespace Go.Proofs.YtdjpeimecfhdjaaGreat
open Go.RowKit
def gmE (va vb : Int) (R : List (List Int)) (i k : Nat) : Int := gmX va vb (rw_ R i) (rw_ R k)
def gmL (va vb : Int) (R : List (List Int)) (i : Nat) (m : Nat) : List Int := (List.range m).map (gmE va vb R i)
def gmM (va vb : Int) (R : List (List Int)) : List (List Int) := (List.range R.length).map fun i => gmL va vb R i R.length
def gmG (va vb : Int) (R : List (List Int)) (i : Nat) (g : Int) : Nat → Int
 | 0 => g
 | j + 1 => (Int.gcd (gmG va vb R i g j) (if i = j then gmE va vb R i j else 2 * gmE va vb R i j) : Int)
def gmU (va vb : Int) (R : List (List Int)) : Nat → Int
 | 0 => 0
 | i + 1 => gmG va vb R i (gmU va vb R i) R.length
theorem gmL_length (va vb : Int) (R : List (List Int)) (i m : Nat) : (gmL va vb R i m).length = m := by simp [gmL]
theorem gmL_succ (va vb : Int) (R : List (List Int)) (i m : Nat) : gmL va vb R i (m + 1) = gmL va vb R i m ++ [gmE va vb R i m] := by simp [gmL, List.range_succ]
theorem gmM_at {va vb : Int} {R : List (List Int)} {i : Nat} (h : i < R.length) : (gmM va vb R)[i]? = some (gmL va vb R i R.length) := by
 unfold gmM
 rw [List.getElem?_map, List.getElem?_range h]
 rfl
theorem wl_gmG {va vb : Int} {R : List (List Int)} {i q : Nat} {g : Int} (hg : wl g.natAbs ≤ 5000) (hx : ∀ k, k < q → wl (gmE va vb R i k).natAbs ≤ 4000) : ∀ j, j ≤ q → wl (gmG va vb R i g j).natAbs ≤ 5000
 | 0, _ => hg
 | j + 1, hj => by
  unfold gmG
  rw [Int.natAbs_natCast]
  refine wl_gcd _ _ (wl_gmG hg hx j (by omega)) ?_
  have h1 := hx j (by omega)
  split
  ·omega
  ·have h2 := wl_mulI 2 (gmE va vb R i j)
   have h3 : wl (2 : Int).natAbs = 1 := by decide +kernel
   omega
theorem wl_gmU {va vb : Int} {R : List (List Int)} (hx : ∀ i k, i < R.length → k < R.length → wl (gmE va vb R i k).natAbs ≤ 4000) : ∀ i, i ≤ R.length → wl (gmU va vb R i).natAbs ≤ 5000
 | 0, _ => by unfold gmU; rw [wl_zero0]; omega
 | i + 1, hi => by
  unfold gmU
  exact wl_gmG (wl_gmU hx i (by omega)) (fun k hk => hx i k (by omega) hk) _ (Nat.le_refl _)
theorem wpList_pushRm (w0 : World) (d : Nat) {ops : Array Oper} {rest : List Oper} {o : Oper} {a : Act} {Q : Exit → Act → World → Prop} (hgd : o.guard = none) (hd : o.dst = some d) (s x : Operand) (t t' : TypeId)
  (ho : o.op = .call { callee := .builtin .append, args := #[s, x], argTypes := #[t, t'] })
  (base : Nat) (ht : Tryz.prog.underlying t = some (.slice 40)) (ht' : Tryz.prog.underlying t' = some (.slice 40))
  (v : Value) (l : List Int) (n : Nat) (hln : l.length = n) (hs : a.eval s = v) (hown : OwnRn w0 base v l)
  (neg : Bool) (B : Option Addr) (m k : Nat) (y : Int) (G : Nat) (hG : Arr w0 G 40 [.bool neg, .slice B m k]) (hx : a.eval x = .slice (some ⟨G, 0, none⟩) 1 1) (hy : NIntV w0 (fun b => base ≤ b ∧ some b ≠ v.ownBlock) (.agg #[.bool neg, .slice B m k]) y)
  (h63 : n + 1 ≤ 1000000000) (hbase : base ≤ w0.heap.size)
  (h : ∀ A' c' w', OwnRn w' base (.slice A' (n + 1) c') (l ++ [y]) → w0.grownBy w' v.ownBlock → wpList Tryz.prog ops Q rest { a with tmps := a.tmps.setIfInBounds d (.slice A' (n + 1) c') } w') :
  wpList Tryz.prog ops Q (o :: rest) a w0 := by
 subst hln
 obtain ⟨xs, hrow, hcs⟩ := hown
 refine wpList_app _ hgd s x t t' ho base 40 40 (.agg #[.bool false, .slice none 0 0]) 2 32 ht ht' info_Int rfl (by omega) v l.length xs hs hrow _ 1 1 [.bool neg, .slice B m k] hx (src_block hG 1 2 rfl) (by simp [Value.oneCell']) (by unfold maxLen; omega) (by omega) hbase ?_
 intro v' w' hown' hg hob
 obtain ⟨A', c', rfl, _, _⟩ := own_slice hown'
 rw [put_some hd]
 refine h A' c' w' ⟨_, by rw [List.length_append]; exact hown', ?_⟩ hg
 have hc3 : Cs w0 (fun b => (base ≤ b ∧ some b ≠ v.ownBlock) ∧ b < w0.heap.size) (xs ++ [.bool neg, .slice B m k]) (l ++ [y]) := (hcs.snoc hy).mono fun b h1 h2 => ⟨h1, h2⟩
 refine (hc3.keep (w' := w') fun b o hd hb => World.cell?_of_block (hg.block b hb hd.1.2)).mono fun b hd _ => ⟨hd.1.1, ?_⟩
 rcases hob with e | e
 ·rw [e]; exact hd.1.2
 ·rw [e]
  intro e2
  have := hd.2
  simp at e2
  omega
theorem gm_mid {wo wr w' w3 w4 : World} {Bg Gu B0 P i n' c' : Nat} {us : List Value} {v : Value} {A' : Option Addr} {l l' : List Int} {u x : Int} {n : Bool} {B : Option Addr} {m k : Nat}
  (har : Arr wr Bg 175 (us.set i v)) (hown : OwnRn wr B0 v l) (hbx : Bx wr Gu (fun b => b ≠ Gu ∧ b ≠ Bg ∧ some b ≠ v.ownBlock) u) (hfi : Frm (fun b => b = Bg ∨ b = Gu) wo wr)
  (hb : Below wr.heap.size wr w') (hA : Arr w' P 40 [.bool n, .slice B m k]) (hx : NIntV w' (fun b => wr.heap.size ≤ b ∧ b ≠ P) (.agg #[.bool n, .slice B m k]) x) (hP : wr.heap.size ≤ P) (hb3 : Below w'.heap.size w' w3)
  (hg4 : w3.grownBy w4 v.ownBlock) (hown4 : OwnRn w4 B0 (.slice A' n' c') l') (hBG : Bg ≠ Gu) (hB : Bg < B0) (hG : Gu < B0) (hB0 : B0 = wo.heap.size) :
  Arr (w4.setCell ⟨Bg, i, none⟩ (.slice A' n' c')) Bg 175 (us.set i (.slice A' n' c')) ∧ OwnRn (w4.setCell ⟨Bg, i, none⟩ (.slice A' n' c')) B0 (.slice A' n' c') l' ∧ Bx (w4.setCell ⟨Bg, i, none⟩ (.slice A' n' c')) Gu (fun b => b ≠ Gu ∧ b ≠ Bg) u ∧ Bx (w4.setCell ⟨Bg, i, none⟩ (.slice A' n' c')) P (fun b => b ≠ P) x ∧ Frm (fun b => b = Bg ∨ b = Gu) wo (w4.setCell ⟨Bg, i, none⟩ (.slice A' n' c')) ∧ wr.heap.size ≤ w4.heap.size := by
 have hlt : ∀ b, v.ownBlock = some b → B0 ≤ b ∧ b < wr.heap.size := fun b e => hown.lt e
 have hb13 : Below wr.heap.size wr w3 := hb.trans (hb3.mono hb.size)
 have hf4 : Frm (fun b => some b = v.ownBlock) w3 w4 := ⟨hg4.os, hg4.tape, hg4.output, hg4.size, fun b h1 h2 => hg4.block b h1 h2⟩
 have hf5 : Frm (· = Bg) w4 (w4.setCell ⟨Bg, i, none⟩ (.slice A' n' c')) := Frm.setCell (O := (· = Bg)) (p := ⟨Bg, i, none⟩) (fun _ => rfl) _
 have har3 := har.below' hb13
 have har4 := hf4.arr har3 (fun e => by have := hlt _ e.symm; omega)
 have hsz : wr.heap.size ≤ w4.heap.size := Nat.le_trans hb13.size hg4.size
 have hrs := hfi.size
 refine ⟨?_, ?_, ?_, ?_, ?_, hsz⟩
 ·have := har4.set_ i (.slice A' n' c')
  rwa [List.set_set] at this
 ·exact hown4.frm hf5 (fun b hd e => by have e : b = Bg := e; have := hd.1; omega) (fun b hv e => by have e : b = Bg := e; have := (hown4.lt hv).1; omega)
 ·obtain ⟨neg, Bu, mu, ku, h1, h2⟩ := hbx
  refine ⟨neg, Bu, mu, ku, hf5.arr (hf4.arr (h1.below' hb13) (fun e => by have := hlt _ e.symm; omega)) (fun e => hBG e.symm), ?_⟩
  exact hf5.nint ((hf4.nint (h2.below hb13) fun b hd e => hd.2.2 e).mono fun b hd _ => ⟨hd.1, hd.2.1⟩) fun b hd e => hd.2 e
 ·refine ⟨n, B, m, k, hf5.arr (hf4.arr (hA.below' hb3) (fun e => by have := hlt _ e.symm; omega)) (fun e => by omega), ?_⟩
  exact hf5.nint ((hf4.nint (hx.below hb3) fun b hd e => by have := hlt _ e.symm; have := hd.1; omega).mono fun b hd _ => (show b ≠ P ∧ b ≠ Bg from ⟨hd.2, by have := hd.1; omega⟩)) (fun b hd e => hd.2 e) |>.mono fun b hd _ => hd.1
 ·have hf13 := hfi.over hb13
  exact ⟨hf5.os.trans (hf4.os.trans hf13.os), hf5.tape.trans (hf4.tape.trans hf13.tape), hf5.output.trans (hf4.output.trans hf13.output), Nat.le_trans hf13.size (Nat.le_trans hf4.size hf5.size), fun b h1 h2 => by
   have h3 : b < w3.heap.size := Nat.lt_of_lt_of_le h1 hf13.size
   have h4 : b < w4.heap.size := Nat.lt_of_lt_of_le h3 hf4.size
   exact (hf5.block b h4 (fun e => h2 (.inl e))).trans ((hf4.block b h3 (fun e => by have := hlt _ e.symm; omega)).trans (hf13.block b h1 h2))⟩
theorem gm_end {wo w5 w7 : World} {Bg Gu B0 n' c' : Nat} {us : List Value} {A' : Option Addr} {l' : List Int} {g : Int} {n9 : Bool} {A9 : Option Addr} {m9 c9 : Nat} {y0 y1 : Value}
  (har : Arr w5 Bg 175 us) (hown : OwnRn w5 B0 (.slice A' n' c') l') (hfi : Frm (fun b => b = Bg ∨ b = Gu) wo w5) (hbu : Arr w5 Gu 40 [y0, y1]) (hb : Below w5.heap.size w5 w7) (hx : NIntV w7 (w5.heap.size ≤ ·) (.agg #[.bool n9, .slice A9 m9 c9]) g) (hBG : Bg ≠ Gu) (hG : Gu < B0) :
  Arr ((w7.setCell ⟨Gu, 0, none⟩ (.bool n9)).setCell ⟨Gu, 1, none⟩ (.slice A9 m9 c9)) Bg 175 us ∧ OwnRn ((w7.setCell ⟨Gu, 0, none⟩ (.bool n9)).setCell ⟨Gu, 1, none⟩ (.slice A9 m9 c9)) B0 (.slice A' n' c') l' ∧ Bx ((w7.setCell ⟨Gu, 0, none⟩ (.bool n9)).setCell ⟨Gu, 1, none⟩ (.slice A9 m9 c9)) Gu (fun b => b ≠ Gu ∧ b ≠ Bg ∧ some b ≠ (Value.slice A' n' c').ownBlock) g ∧ Frm (fun b => b = Bg ∨ b = Gu) wo ((w7.setCell ⟨Gu, 0, none⟩ (.bool n9)).setCell ⟨Gu, 1, none⟩ (.slice A9 m9 c9)) := by
 have hf : Frm (· = Gu) w7 ((w7.setCell ⟨Gu, 0, none⟩ (.bool n9)).setCell ⟨Gu, 1, none⟩ (.slice A9 m9 c9)) := Frm.put2 w7 Gu _ _
 have hl1 := har.lt
 have hl2 := hbu.lt
 have hbu7 := hbu.below' hb
 obtain ⟨xs, hxs⟩ : ∃ n0 : Bool, True := ⟨true, trivial⟩
 refine ⟨hf.arr (har.below' hb) hBG, (hown.below hb).frm hf (fun b hd e => by have e : b = Gu := e; have := hd.1; omega) (fun b hv e => by have e : b = Gu := e; have := (hown.lt hv).1; omega), ?_, ?_⟩
 ·refine ⟨n9, A9, m9, c9, hbu7.put2 _ _, hf.nint (hx.mono fun b (hd : _ ≤ b) _ => ?_) fun b hd e => hd.1 e⟩
  exact ⟨by omega, by omega, fun e => by have := (hown.lt e.symm).2; omega⟩
 ·exact (hfi.over hb).trans (hf.mono fun b _ e => .inr e)
set_option maxRecDepth 100000 in
set_option maxHeartbeats 4000000 in
theorem bgram_any {w : World} {q c : Nat} {A : Option Addr} {va vb : Int} {R : List (List Int)} (h : RM w (.slice A q c) R) (hq0 : 0 < q) (hq : q ≤ 1000) (h4 : ∀ l ∈ R, l.length = 4) (hf : fitM R = true) (ha : va.natAbs ≤ 1000000000) (hb : vb.natAbs ≤ 1000000000) (hx : ∀ i k, i < R.length → k < R.length → wl (gmE va vb R i k).natAbs ≤ 4000) :
  Calls Tryz.prog 130 #[.agg #[.int .i64 va, .int .i64 vb, .slice A q c]] w (GramR q (gmM va vb R) (gmU va vb R q) w) := by
 have HL := Lib.hid (RowsD.room h).1.symm
 have HTL := Lib.hid (show (gmM va vb R).length = q by unfold gmM; rw [List.length_map, List.length_range, HL.out])
 have HTA := Lib.hid (fun i (hi : i < q) => (show (gmM va vb R)[i]? = some (gmL va vb R i q) by rw [gmM_at (by rw [HL.out]; exact hi), HL.out]))
 have HUS := Lib.hid (fun i => (show gmU va vb R (i + 1) = gmG va vb R i (gmU va vb R i) q by rw [← HL.out]; rfl))
 have HWU := Lib.hid (fun i (hi : i ≤ q) => wl_gmU hx i (by rw [HL.out]; exact hi))
 have HWG := Lib.hid (fun i (hi : i < q) j (hj : j ≤ q) => wl_gmG (wl_gmU hx i (by rw [HL.out]; omega)) (fun k hk => hx i k (by rw [HL.out]; exact hi) (by rw [HL.out]; exact hk)) j hj)
 have HWX := Lib.hid (fun i j (hi : i < q) (hj : j < q) => hx i j (by rw [HL.out]; exact hi) (by rw [HL.out]; exact hj))
 have HFR := Lib.hid (fun (_ : Unit) i => fitM_rw hf i)
 have HA := Lib.hid ha
 have HB := Lib.hid hb
 obtain ⟨b, off, rfl, hrow⟩ : ∃ b off, A = some ⟨b, off, none⟩ ∧ ∀ i, i < q → ∃ Ai ci, w.cell? ⟨b, off + i, none⟩ = some (.slice Ai 4 ci) ∧ PvD w (· < w.heap.size) (.slice Ai 4 ci) (rw_ R i) := by
  have h' := RowsD.mono (D' := (· < w.heap.size)) h fun _ _ hb => hb
  obtain ⟨b, off, _, rfl, _⟩ := RowsD.at h' (rw_some (L := R) (i := 0) (by rw [HL.out]; exact hq0))
  refine ⟨b, off, rfl, fun i hi => ?_⟩
  obtain ⟨b2, off2, u, e, hc, hu⟩ := RowsD.at h' (rw_some (L := R) (i := i) (by rw [HL.out]; exact hi))
  injection e with e
  injection e with e1 e2
  subst e1 e2
  obtain ⟨Au, cu, rfl, hpu⟩ := hu
  have hl4 := h4 _ (rw_mem (L := R) (i := i) (by rw [HL.out]; exact hi))
  have hp : PvD w (· < w.heap.size) (.slice Au (rw_ R i).length cu) (rw_ R i) := ⟨Au, cu, rfl, hpu⟩
  rw [hl4] at hp hc
  exact ⟨Au, cu, hc, hp⟩
 have HROW := Lib.hid hrow
 clear hrow h h4 hf ha hb hx
 obtain ⟨W, hW⟩ : ∃ W, W = (w.alloc (.cells #[.int .i64 va, .int .i64 vb, .slice (some ⟨b, off, none⟩) q c] 115)).alloc (.cells #[.bool false, .slice none 0 0] 40) := ⟨_, rfl⟩
 obtain ⟨S, hS⟩ : ∃ S, S = w.heap.size := ⟨_, rfl⟩
 obtain ⟨Rr, hRr⟩ : ∃ Rr, Rr = w.heap.size + 1 := ⟨_, rfl⟩
 have hbW : Below w.heap.size w W := by rw [hW]; exact ((Below.refl _ _).alloc (Nat.le_refl _) _).alloc (by simp) _
 have s0 : W.cell? ⟨S, 0, none⟩ = some (.int .i64 va) := by rw [hW, hS]; go_simp
 have s1 : W.cell? ⟨S, 1, none⟩ = some (.int .i64 vb) := by rw [hW, hS]; go_simp
 have s2 : W.cell? ⟨S, 2, none⟩ = some (.slice (some ⟨b, off, none⟩) q c) := by rw [hW, hS]; go_simp
 have hRA : Arr W Rr 40 [.bool false, .slice none 0 0] := by
  rw [hW, hRr]
  have h1 := Arr.new (w.alloc (.cells #[.int .i64 va, .int .i64 vb, .slice (some ⟨b, off, none⟩) q c] 115)) 40 [.bool false, .slice none 0 0]
  simpa using h1
 have hSR : S < Rr := by omega
 have hS0 : w.heap.size ≤ S := by omega
 have hRW := hRA.lt
 have HWW := Lib.hid hW
 have HSS := Lib.hid hS
 have HRR := Lib.hid hRr
 have HBW := Lib.hid hbW
 have HRA := Lib.hid hRA
 clear hW hS hRr hbW hRA
 go_enter Tryz.func130, Tryz.ntmps130
 go_upto_region 1 with (fail)
 rw [← HWW.out]
 rw [← HRR.out, ← HSS.out]
 go_upto_region 2 with (at_make; go_must (refine wpList_make_arr _ rfl _ _ _ rfl 175 (.slice none 0 0) 1 24 Tryz.underlying113 info_Row _ _ _ _ q rfl rfl (by omega) (by omega) (by omega) (by omega) ?_); intro w1 ha hb1 hz)
 have HZ := Lib.hid hz
 clear hz
 go_upto_region 3 with (fail)
 obtain ⟨Bg, hBg⟩ : ∃ B, B = W.heap.size := ⟨_, rfl⟩
 obtain ⟨Gu, hGu⟩ : ∃ G, G = w1.heap.size := ⟨_, rfl⟩
 obtain ⟨W2, hW2⟩ : ∃ V, V = w1.alloc (.cells #[.bool false, .slice none 0 0] 40) := ⟨_, rfl⟩
 rw [← hW2, ← hGu, ← hBg]
 have hb12 : Below w1.heap.size w1 W2 := by rw [hW2]; exact (Below.refl _ _).alloc (Nat.le_refl _) _
 have hm1 : MatR w1 W.heap.size (fun b => Gu < b) _ _ := MatR.make ha
 have hbg1 := hm1.lt
 have hm : MatR W2 Bg (fun b => Gu < b) (List.replicate q (.slice none 0 0)) (List.replicate q []) := by rw [hBg]; exact hm1.below hb12
 have hGA : Arr W2 Gu 40 [.bool false, .slice none 0 0] := by rw [hW2, hGu]; exact Arr.new w1 _ [.bool false, .slice none 0 0]
 have hbx : Bx W2 Gu (fun b => b ≠ Gu ∧ b ≠ Bg) (gmU va vb R 0) := ⟨false, none, 0, 0, hGA, NIntV.zero _ _⟩
 have hbW2 : Below W.heap.size W W2 := hb1.trans (hb12.mono hb1.size)
 have hBG : Bg < Gu := by omega
 have hSB : S < Bg := by rw [HSS.out, hBg]; have := HBW.out.size; have := HRR.out; have := HRA.out.lt; omega
 have hSW : S < W.heap.size := by rw [← hBg]; exact hSB
 have hRB : Rr < Bg := by rw [hBg]; exact hRW
 have hwB : w.heap.size ≤ Bg := by omega
 have hGW2 : Gu < W2.heap.size := hGA.lt
 replace s0 := keepW hbW2 hSW s0
 replace s1 := keepW hbW2 hSW s1
 replace s2 := keepW hbW2 hSW s2
 have HRA2 := Lib.hid (keepA HRA.out hbW2 hRW)
 have HBW2 := Lib.hid (HBW.out.trans (hbW2.mono HBW.out.size))
 have HM0 := Lib.hid hm
 have HBX := Lib.hid hbx
 clear ha hb1 hb12 hm1 hbg1 hW2 hGu hBg hGA hbW2 hSW hRW HRA HZ hm hbx
 go_wp2_with fail
 go_loopw [19] (fun iv wr => ∃ (i : Nat) (us : List Value), iv = .int .i64 i ∧ i ≤ q ∧ MatR wr Bg (fun b => Gu < b) us ((gmM va vb R).take i ++ List.replicate (q - i) []) ∧ Hid (∀ k, i ≤ k → k < q → us[k]? = some (.slice none 0 0)) ∧ Bx wr Gu (fun b => b ≠ Gu ∧ b ≠ Bg) (gmU va vb R i) ∧ Frm (fun b => b = Bg ∨ b = Gu) W2 wr) (fun iv _ => q - (intOf iv).toNat)
 case atStart => exact ⟨0, _, rfl, by omega, by simpa using HM0.out, Lib.hid (fun k _ hk => by rw [List.getElem?_replicate, if_pos hk]), HBX.out, Frm.refl _ _⟩
 case round =>
  obtain ⟨i, us, rfl, hi, hmx, HNIL, hbx, hfr⟩ := hrel
  have hlt := hmx.lt
  rcases Nat.lt_or_ge i q with hin | hin
  ·obtain ⟨wo, rfl⟩ : ∃ wo, wo = wr := ⟨_, rfl⟩
   have hlen2 : ((gmM va vb R).take i ++ List.replicate (q - i) ([] : List Int)).length = q := by rw [List.length_append, List.length_take, List.length_replicate, HTL.out]; omega
   have HSTEP := Lib.hid (set_snoc (z := ([] : List Int)) hin HTL.out (HTA.out i hin))
   have HLE := Lib.hid hlen2
   have hui : i < us.length := by rw [hmx.len, hlen2]; exact hin
   have HM := Lib.hid hmx.old
   have hset : us.set i (.slice none 0 0) = us := by
    apply List.ext_getElem?
    intro k
    rw [List.getElem?_set]
    split
    ·rename_i e; subst e; exact (HNIL.out i (Nat.le_refl _) hin).symm
    ·rfl
   have harr : Arr wo Bg 175 (us.set i (.slice none 0 0)) := by rw [hset]; exact hmx.arr
   have HAR := Lib.hid harr
   have hws := hfr.size
   have hbwo : Below w.heap.size w wo := HBW2.out.trans (hfr.below (B := w.heap.size) HBW2.out.size fun b e => by omega)
   obtain ⟨Ap, cp, r0, rp⟩ := HROW.out i hin
   replace r0 := keepB hbwo r0
   have t0 := (hfr.cell (o := 0) (b := S) (by omega) (by omega)).trans s0
   have t1 := (hfr.cell (o := 1) (b := S) (by omega) (by omega)).trans s1
   have t2 := (hfr.cell (o := 2) (b := S) (by omega) (by omega)).trans s2
   have HRP := Lib.hid (Foot.below rp hbwo)
   have HFRM := Lib.hid hfr
   have HBX0 : Hid (Bx wo Gu (fun b => b ≠ Gu ∧ b ≠ Bg ∧ some b ≠ (Value.slice none 0 0).ownBlock) (gmG va vb R i (gmU va vb R i) 0)) := Lib.hid (Bx.mono hbx fun b hb _ => ⟨hb.1, hb.2, fun e => by cases e⟩)
   have hBgw : Bg < wo.heap.size := hlt
   have hGuw : Gu < wo.heap.size := by omega
   have hSw : S < wo.heap.size := by omega
   have HBWO := Lib.hid hbwo
   clear hmx hset hlen2 harr hfr hbx rp hlt hbwo
   have a1 : (0 : Int) ≤ (i : Int) := by omega
   have a2 : (i : Int) < (q : Int) := by omega
   go_wp2_with fail
   go_loopw [27] (fun jv wr => ∃ (j : Nat) (A2 : Option Addr) (c2 : Nat), jv = .int .i64 j ∧ j ≤ q ∧ Arr wr Bg 175 (us.set i (.slice A2 j c2)) ∧ OwnRn wr wo.heap.size (.slice A2 j c2) (gmL va vb R i j) ∧ Bx wr Gu (fun b => b ≠ Gu ∧ b ≠ Bg ∧ some b ≠ (Value.slice A2 j c2).ownBlock) (gmG va vb R i (gmU va vb R i) j) ∧ Frm (fun b => b = Bg ∨ b = Gu) wo wr) (fun jv _ => q - (intOf jv).toNat)
   case atStart => exact ⟨0, none, 0, rfl, by omega, HAR.out, OwnR.nil _ _ _, HBX0.out, Frm.refl _ _⟩
   case round =>
    obtain ⟨j, A2, c2, rfl, hj, har, hown, hbx, hfi⟩ := hrel
    have hws2 := hfi.size
    rcases Nat.lt_or_ge j q with hjq | hjq
    ·have hbw2 : Below w.heap.size wo wr := hfi.below HBWO.out.size fun b e => by omega
     obtain ⟨Aq, cq, rq0, rq⟩ := HROW.out j hjq
     have hbwr := HBWO.out.trans hbw2
     replace rq0 := keepB hbwr rq0
     have z0 := (hfi.cell (o := 0) (b := S) (by omega) (by omega)).trans t0
     have z1 := (hfi.cell (o := 1) (b := S) (by omega) (by omega)).trans t1
     have z2 := (hfi.cell (o := 2) (b := S) (by omega) (by omega)).trans t2
     have HRP2 := Lib.hid (hfi.foot HRP.out fun b (hb : b < w.heap.size) e => by omega)
     have HRQ2 := Lib.hid (Foot.below rq hbwr)
     have hco : wr.cell? ⟨Bg, i, none⟩ = some (.slice A2 j c2) := by
      have h1 := har.cell i
      rw [List.getElem?_set_self hui] at h1
      exact h1
     have hlw : Bg < wr.heap.size := har.lt
     have HOW := Lib.hid hown
     have HAR2 := Lib.hid har
     have HFI := Lib.hid hfi
     have HBX := Lib.hid hbx
     clear hown har hfi hbx rq hbwr hbw2
     have a3 : (0 : Int) ≤ (j : Int) := by omega
     have a4 : (j : Int) < (q : Int) := by omega
     have hqlen := HWX.out i j hin hjq
     go_upto_region 9 with (fail)
     refine gmreg9 z0 z1 z2 HRP2.out HRQ2.out (HFR.out () i) (HFR.out () j) HA.out HB.out ?_
     intro w' P n B m k u32 u33 u34 u35 u36 u37 u38 hA hxP hP hb
     rename_i K hK
     refine hK _ _ ?_
     go_upto_region 10 with (fail)
     have hco2 := keepB hb hco
     obtain ⟨x0, x1, _, _⟩ := hA.c2
     have hP1 : P < w'.heap.size := hA.lt
     have hlo : ∀ b, (Value.slice A2 j c2).ownBlock = some b → wo.heap.size ≤ b ∧ b < wr.heap.size := fun b e => OwnR.lt HOW.out e
     have HXP := Lib.hid hxP
     have HAP := Lib.hid hA
     have HLO := Lib.hid hlo
     have HWB := Lib.hid hb
     clear hxP hA hlo
     have hs0 : Below w'.heap.size w' w'.drew := (Below.refl _ _).drew
     refine wp_region_tq5 (.pure 0 (.pure 1 (.read 2 (.read 3 (.read 4 (.read 5 (.read 6 (.step 7 (.step 8 (.step 9 (.step 10 .nil))))))))))) [0, 1, 8, 9, 10] (by kernel_rfl) (by rfl) (by kernel_rfl) (by kernel_rfl) (fun V => Below w'.heap.size w' V) ?_
     change goU _ _ _ _ _ _ _ w'.drew
     refine goU_pure 39 (by rfl) (by rfl) ?_ (by rfl) (fun wz => ?_) ?_
     rotate_left
     ·go_simp
      try with_reducible rfl
     simp only [sIB, List.set]
     refine goU_pure 40 (by rfl) (by rfl) ?_ (by rfl) (fun wz => ?_) ?_
     rotate_left
     ·go_simp
      try with_reducible rfl
     simp only [sIB, List.set]
     refine goU_read 41 hs0 (by rfl) (by rfl) ?_ (by rfl) (fun wz hSw => ?_) ?_
     rotate_left
     ·have y0 := keepB hSw hco2; have y1 := keepB hSw x0; have y2 := keepB hSw x1; go_simp
      try with_reducible rfl
     simp only [sIB, List.set]
     refine goU_read 42 hs0 (by rfl) (by rfl) ?_ (by rfl) (fun wz hSw => ?_) ?_
     rotate_left
     ·have y0 := keepB hSw hco2; have y1 := keepB hSw x0; have y2 := keepB hSw x1; go_simp
      try with_reducible rfl
     simp only [sIB, List.set]
     refine goU_read 43 hs0 (by rfl) (by rfl) ?_ (by rfl) (fun wz hSw => ?_) ?_
     rotate_left
     ·have y0 := keepB hSw hco2; have y1 := keepB hSw x0; have y2 := keepB hSw x1; go_simp
      try with_reducible rfl
     simp only [sIB, List.set]
     refine goU_read 44 hs0 (by rfl) (by rfl) ?_ (by rfl) (fun wz hSw => ?_) ?_
     rotate_left
     ·have y0 := keepB hSw hco2; have y1 := keepB hSw x0; have y2 := keepB hSw x1; go_simp
      try with_reducible rfl
     simp only [sIB, List.set]
     refine goU_read 45 hs0 (by rfl) (by rfl) ?_ (by rfl) (fun wz hSw => ?_) ?_
     rotate_left
     ·have y0 := keepB hSw hco2; have y1 := keepB hSw x0; have y2 := keepB hSw x1; go_simp
      try with_reducible rfl
     simp only [sIB, List.set]
     refine goU_step (by rfl) ?_
     go_wp2_with fail
     obtain ⟨w3, hw3⟩ : ∃ V, V = (w'.alloc (.cells #[.bool n, .slice B m k] 40)).drew := ⟨_, rfl⟩
     obtain ⟨G, hGe⟩ : ∃ G, G = w'.heap.size := ⟨_, rfl⟩
     have hG : Arr w3 G 40 [.bool n, .slice B m k] := by rw [hw3, hGe]; exact Arr.new w' _ [.bool n, .slice B m k]
     have hb3 : Below w'.heap.size w' w3 := by rw [hw3]; exact ((Below.refl _ _).alloc (Nat.le_refl _) _).drew
     have hbG : Below G w' w3 := by rw [hGe]; exact hb3
     rw [← hw3, ← hGe]
     clear hw3 hGe
     first | refine ⟨fun _ => hbG, ?_⟩ | refine ⟨hbG, ?_⟩
     refine goU_step (by rfl) ?_
     refine wpList_pushRm w3 47 (by rfl) (by rfl) _ _ _ _ (by rfl) wo.heap.size Tryz.underlying175 Tryz.underlying175 (.slice A2 j c2) (gmL va vb R i j) j (gmL_length va vb R i j) (by rfl) (OwnR.below (OwnR.below HOW.out HWB.out) hb3) n B m k (gmE va vb R i j) G hG (by rfl) ((HXP.out.below hb3).mono fun b hd _ => ⟨by have := hd.1; omega, fun e => by have := (HLO.out b e.symm).2; have := hd.1; omega⟩) (by omega) (Nat.le_trans hws2 (Nat.le_trans HWB.out.size hb3.size)) ?_
     intro A3 c3 w4 hown4 hg4
     simp only [sIB, List.set]
     have har4 : Arr w4 Bg 175 (us.set i (.slice A2 j c2)) := ((HAR2.out.below' HWB.out).below' hb3).grown hg4 (fun e => by have := (HLO.out _ e.symm).1; omega)
     obtain ⟨H1, H2, H3, H4, H5, H6⟩ := gm_mid HAR2.out HOW.out HBX.out HFI.out HWB.out HAP.out HXP.out hP hb3 hg4 hown4 (by omega) hBgw hGuw rfl
     have w0 : w4.cell? ⟨Bg, i, none⟩ = some (.slice A2 j c2) := by
      have h1 := har4.cell i
      rw [List.getElem?_set_self hui] at h1
      exact h1
     have w1 := har4.frozen i
     have hl4 := har4.lt
     have E1 := Lib.hid H1
     have E2 := Lib.hid H2
     have E3 := Lib.hid H3
     have E4 := Lib.hid H4
     have E5 := Lib.hid H5
     clear H1 H2 H3 H4 H5 har4 hown4 hg4 hG
     refine ⟨fun h => absurd h (by decide), ?_⟩
     refine goU_step (by rfl) ?_
     go_wp2_with fail
     try (refine ⟨fun h => absurd h (by decide), ?_⟩)
     refine goU_step (by rfl) ?_
     go_wp2_with fail
     try (refine ⟨fun h => absurd h (by decide), ?_⟩)
     refine goU_nilN ?_
     obtain ⟨w5, hw5⟩ : ∃ V, V = w4.setCell ⟨Bg, i, none⟩ (.slice A3 (j + 1) c3) := ⟨_, rfl⟩
     rw [← hw5] at E1 E2 E3 E4 E5 ⊢
     clear hw5 w0 w1 hl4 hco2 x0 x1 hbG hb3 hs0
     obtain ⟨nu, Bu, mu, ku, g1, g2⟩ := E3.out
     obtain ⟨nx, Bx', mx, kx, f1, f2⟩ := E4.out
     obtain ⟨p0, p1, _, _⟩ := g1.c2
     obtain ⟨x0, x1, _, _⟩ := f1.c2
     have hG5 : Gu < w5.heap.size := g1.lt
     have hP5 : P < w5.heap.size := f1.lt
     have hwu := HWG.out i hin j (by omega)
     have hwx := hqlen
     have G1 := Lib.hid g1
     have G2 := Lib.hid g2
     have F2 := Lib.hid f2
     clear g1 g2 f1 f2 E3 E4
     by_cases hij : i = j
     ·have HST2 := Lib.hid (show gmG va vb R i (gmU va vb R i) (j + 1) = (Int.gcd (gmG va vb R i (gmU va vb R i) j) (gmE va vb R i j) : Int) by show (Int.gcd _ (if i = j then _ else _) : Int) = _; rw [if_pos hij])
      have q1 : ((i : Int) == (j : Int)) = true := beq_iff_eq.mpr (by omega)
      clear hij
      go_upto_region 12 with (fail)
      go_wp2_with (go_at_call 162; go_must (refine (Gcd_any G2.out.int F2.out.int (Nat.le_trans hwu (by omega)) (Nat.le_trans hwx (by omega))).mono ?_); rintro e w7 ⟨v7, rfl, hv7, hb7⟩; obtain ⟨n9, A9, m9, c9, rfl, hw9⟩ := hv7.shp; clear hv7; obtain ⟨t0, t1, u0, u1⟩ := (G1.out.below' hb7).c2)
      go_round
      case rel =>
       obtain ⟨J1, J2, J3, J4⟩ := gm_end E1.out E2.out E5.out G1.out hb7 hw9 (by omega) hGuw
       refine ⟨j + 1, A3, c3, by go_num, by omega, J1, ?_, ?_, J4⟩
       ·rw [gmL_succ]; exact J2
       ·rw [HST2.out]; exact J3
      case measure => simp [intOf]; omega
     ·have HST2 := Lib.hid (show gmG va vb R i (gmU va vb R i) (j + 1) = (Int.gcd (gmG va vb R i (gmU va vb R i) j) (2 * gmE va vb R i j) : Int) by show (Int.gcd _ (if i = j then _ else _) : Int) = _; rw [if_neg hij])
      have q1 : ((i : Int) == (j : Int)) = false := by simpa using (show ¬ (i : Int) = (j : Int) by omega)
      have q2 : ¬ (i : Int) = (j : Int) := by omega
      clear hij
      go_upto_region 13 with (fail)
      have hs0 : Below w5.heap.size w5 w5.drew := (Below.refl _ _).drew
      refine wp_region_tq5 (.read 0 (.read 2 (.step 1 (.step 3 (.step 4 (.step 5 .nil)))))) [5] (by kernel_rfl) (by rfl) (by kernel_rfl) (by kernel_rfl) (fun V => Below w5.heap.size w5 V) ?_
      change goU _ _ _ _ _ _ _ w5.drew
      refine goU_read 55 hs0 (by rfl) (by rfl) ?_ (by rfl) (fun wz hSw => ?_) ?_
      rotate_left
      ·have y0 := keepB hSw p0; have y1 := keepB hSw p1; have y2 := keepB hSw x0; have y3 := keepB hSw x1; go_simp
       try with_reducible rfl
      simp only [sIB, List.set]
      refine goU_read 57 hs0 (by rfl) (by rfl) ?_ (by rfl) (fun wz hSw => ?_) ?_
      rotate_left
      ·have y0 := keepB hSw p0; have y1 := keepB hSw p1; have y2 := keepB hSw x0; have y3 := keepB hSw x1; go_simp
       try with_reducible rfl
      simp only [sIB, List.set]
      refine goU_call 56 (by rfl) (by rfl) (by rfl) (by go_simp) (Of_any 2 w5.drew (by omega) (by omega)) ?_
      rintro e v4 ⟨z4, rfl, hz4, hb4⟩
      have hs1 := hs0.trans (hb4.mono hs0.size)
      refine ⟨_, rfl, fun _ => hs1, ?_⟩
      simp only [sIB, List.set]
      refine goU_call 58 (by rfl) (by rfl) (by rfl) (by go_simp) (Mul_any hz4.int (F2.out.below hs1).int (by decide +kernel) (Nat.le_trans hwx (by omega))) ?_
      rintro e v5 ⟨z5, rfl, hz5, hb5⟩
      have hs2 := hs1.trans (hb5.mono hs1.size)
      refine ⟨_, rfl, fun _ => hs2, ?_⟩
      simp only [sIB, List.set]
      have hw2x := wl_mulI 2 (gmE va vb R i j)
      have hw21 : wl (2 : Int).natAbs = 1 := by decide +kernel
      have hw22 : wl (2 * gmE va vb R i j).natAbs ≤ 900000000000 := by omega
      refine goU_call 59 (by rfl) (by rfl) (by rfl) (by go_simp) (Gcd_any (G2.out.below hs2).int hz5.int (Nat.le_trans hwu (by omega)) hw22) ?_
      rintro e w7 ⟨v7, rfl, hv7, hb7'⟩
      have hb7 := hs2.trans (hb7'.mono hs2.size)
      obtain ⟨n9, A9, m9, c9, rfl, hw9'⟩ := hv7.shp
      have hw9 : NIntV w7 (w5.heap.size ≤ ·) (.agg #[.bool n9, .slice A9 m9 c9]) (Int.gcd (gmG va vb R i (gmU va vb R i) j) (2 * gmE va vb R i j) : Int) := hw9'.mono fun b (hd : _ ≤ b) _ => Nat.le_trans hs2.size hd
      clear hv7 hw9'
      refine ⟨_, rfl, fun _ => hb7, ?_⟩
      simp only [sIB, List.set]
      obtain ⟨t0, t1, u0, u1⟩ := (G1.out.below' hb7).c2
      refine goU_step (by rfl) ?_
      go_wp2_with fail
      try (refine ⟨fun h => absurd h (by decide), ?_⟩)
      refine goU_nilN ?_
      go_wp2_with fail
      go_round
      case rel =>
       obtain ⟨J1, J2, J3, J4⟩ := gm_end E1.out E2.out E5.out G1.out hb7 hw9 (by omega) hGuw
       refine ⟨j + 1, A3, c3, by go_num, by omega, J1, ?_, ?_, J4⟩
       ·rw [gmL_succ]; exact J2
       ·rw [HST2.out]; exact J3
      case measure => simp [intOf]; omega
    ·obtain rfl : j = q := by omega
     have hpvd : PvD wr (fun b => (fun b => Gu < b) b ∧ b ≠ Bg) (.slice A2 j c2) (gmL va vb R i j) := OwnR.pvd hown fun b hb => by
      rcases hb with hb | hb
      ·have := hb.1; exact ⟨by omega, by omega⟩
      ·have := (OwnR.lt hown hb).1; exact ⟨by omega, by omega⟩
     have hm9 := HM.out.redo (i := i) (E' := fun b => Gu < b) (w3 := wr) (u := .slice A2 j c2) (by rw [HLE.out]; exact hin) har (fun b hb hne hlt2 => hfi.block b hb.2 (fun e => e.elim hne fun e => by have := hb.1; omega)) hpvd (fun _ h => h.1)
     rw [HSTEP.out] at hm9
     have HN2 : Hid (∀ k, i + 1 ≤ k → k < j → (us.set i (.slice A2 j c2))[k]? = some (.slice none 0 0)) := Lib.hid fun k h1 h2 => by rw [List.getElem?_set_ne (by omega)]; exact HNIL.out k (by omega) h2
     have HBX9 : Hid (Bx wr Gu (fun b => b ≠ Gu ∧ b ≠ Bg) (gmU va vb R (i + 1))) := Lib.hid (by rw [HUS.out]; exact Bx.mono hbx fun b hb _ => ⟨hb.1, hb.2.1⟩)
     have HFI9 := Lib.hid hfi
     have HM9 := Lib.hid hm9
     clear hpvd hown har hm9 hbx hfi
     go_wp2_with fail
     go_round
     case rel => exact ⟨i + 1, _, by go_num, by omega, HM9.out, HN2, HBX9.out, HFRM.out.trans HFI9.out⟩
     case measure => simp [intOf]; omega
  ·obtain rfl : i = q := by omega
   rw [Nat.sub_self, List.replicate_zero, List.append_nil, List.take_of_length_le (by rw [HTL.out]; exact Nat.le_refl _)] at hmx
   obtain ⟨nu, Bu, mu, ku, g1, g2⟩ := hbx
   obtain ⟨p0, p1, _, _⟩ := g1.c2
   have hws := hfr.size
   have hra := hfr.arr HRA2.out (fun e => by omega)
   obtain ⟨_, _, e0, e1⟩ := hra.c2
   have hrl := hra.lt
   have hmr := hmx.rd HTL.out (Nat.le_refl _) (by unfold maxLen; omega)
   have hbe : Below w.heap.size w wr := HBW2.out.trans (hfr.below (B := w.heap.size) HBW2.out.size fun b e => by omega)
   have HMR := Lib.hid hmr
   have HBE := Lib.hid hbe
   have HRA3 := Lib.hid hra
   have G2 := Lib.hid g2
   clear hmx hmr hbe hra g2 hfr
   go_upto_region 16 with (fail)
   have hs0 : Below wr.heap.size wr wr.drew := (Below.refl _ _).drew
   refine wp_region_tq5 (.read 0 (.read 1 (.step 2 (.step 3 .nil)))) [3] (by kernel_rfl) (by rfl) (by kernel_rfl) (by kernel_rfl) (fun V => Below wr.heap.size wr V) ?_
   change goU _ _ _ _ _ _ _ wr.drew
   refine goU_read 62 hs0 (by rfl) (by rfl) ?_ (by rfl) (fun wz hSw => ?_) ?_
   rotate_left
   ·go_simp
    try with_reducible rfl
   simp only [sIB, List.set]
   refine goU_read 63 hs0 (by rfl) (by rfl) ?_ (by rfl) (fun wz hSw => ?_) ?_
   rotate_left
   ·have y0 := keepB hSw p0; have y1 := keepB hSw p1; go_simp
    try with_reducible rfl
   simp only [sIB, List.set]
   obtain ⟨r0, r1, e2, e3⟩ := (keepA HRA3.out hs0 hrl).c2
   refine goU_step (by rfl) ?_
   go_wp2_with fail
   first | refine ⟨fun _ => hs0, ?_⟩ | refine ⟨hs0, ?_⟩
   refine goU_step (by rfl) ?_
   go_wp2_with fail
   try (refine ⟨fun h => absurd h (by decide), ?_⟩)
   refine goU_nilN ?_
   go_wp2_with fail
   obtain ⟨w9, hw9⟩ : ∃ V, V = ((wr.setCell ⟨Rr, 0, none⟩ (.bool nu)).setCell ⟨Rr, 1, none⟩ (.slice Bu mu ku)).drew := ⟨_, rfl⟩
   have hf9 : Frm (· = Rr) wr w9 := by rw [hw9]; exact (Frm.put2 _ Rr _ _).over (Below.refl _ _).drew
   have hA9 : Arr w9 Rr 40 [.bool nu, .slice Bu mu ku] := by
    have hA8 := HRA3.out.put2 (.bool nu) (.slice Bu mu ku)
    rw [hw9]
    exact keepA hA8 (Below.refl _ _).drew hA8.lt
   obtain ⟨d0, d1, _, _⟩ := hA9.c2
   rw [← hw9]
   refine bodyPost_ret (v := .tuple #[.slice (some ⟨Bg, 0, none⟩) i i, .agg #[.bool nu, .slice Bu mu ku]]) (by simp [results, Tryz.results130, go_sem, d0, d1]) rfl ⟨some ⟨Bg, 0, none⟩, i, nu, Bu, mu, ku, rfl, ?_, ?_, ?_⟩
   ·exact RowsD.t (hf9.foot HMR.out fun b hb e => by
     have e : b = Rr := e
     rcases hb with hb | hb
     ·have hb : Gu < b := hb; omega
     ·omega)
   ·exact (hf9.nint (G2.out.clr HRA3.out) fun b hb e => hb.2 e).mono fun _ _ _ => trivial
   ·exact HBE.out.trans (hf9.below (B := w.heap.size) HBE.out.size fun b (e : b = Rr) => by omega)
end Go.Proofs.YtdjpeimecfhdjaaGreat
