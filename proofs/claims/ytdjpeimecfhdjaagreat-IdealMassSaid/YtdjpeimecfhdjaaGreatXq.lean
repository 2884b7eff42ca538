/- Package wide: up, Unit. Package wide: the value of a form at two rows. -/
import Derived.Test.YtdjpeimecfhdjaaGreatXn
import Derived.Test.YtdjpeimecfhdjaaGreatXp
namespace Go.Proofs.YtdjpeimecfhdjaaGreat
open Go.RowKit
theorem wl_neg (x : Int) : wl (-x).natAbs = wl x.natAbs := by rw [Int.natAbs_neg]
set_option maxRecDepth 100000 in
set_option maxHeartbeats 4000000 in
theorem up_any {D D' : Nat → Prop} {v v' : Value} {x y : Int} {w : World} (h : IntV w D v x) (h' : IntV w D' v' y) (hl : wl x.natAbs ≤ 800000000) (hl' : wl y.natAbs ≤ 800000000) (hy : y ≠ 0) :
  Calls Tryz.prog 192 #[v, v'] w (Gives w fun w' v => NIntV w' (w.heap.size ≤ ·) v (-(-x / y))) := by
 obtain ⟨neg, A, n, c, l, rfl, h, hx⟩ := h
 obtain ⟨neg', A', n', c', l', rfl, h', hy'⟩ := h'
 obtain ⟨W, P, R, hW, hP, hR, hbW, HR, c0, c1, d0, d1, hlt, hlt2⟩ := boxes2 w (.bool neg) (.slice A n c) (.bool neg') (.slice A' n' c')
 have HX := Lib.hid (show IntV W D (.agg #[.bool neg, .slice A n c]) x from ⟨neg, A, n, c, l, rfl, h.below hbW, hx⟩)
 have HY := Lib.hid (show IntV W D' (.agg #[.bool neg', .slice A' n' c']) y from ⟨neg', A', n', c', l', rfl, h'.below hbW, hy'⟩)
 have HRA := Lib.hid (show Arr W R 40 [.bool false, .slice none 0 0] from HR.out)
 have HY0 := Lib.hid hy
 have HL := Lib.hid hl
 have HL' := Lib.hid hl'
 have HWW := Lib.hid hW
 have HPP := Lib.hid hP
 have HRR := Lib.hid hR
 have HBW := Lib.hid hbW
 have hRl := HRA.out.lt
 have hwR : w.heap.size ≤ R := Nat.le_of_lt hlt
 clear hW hP hR hbW hx hy' hy hl hl' h h' HR
 go_enter Tryz.func192, Tryz.ntmps192
 go_upto_region 1 with (fail)
 rw [← HWW.out, ← HRR.out, ← HPP.out]
 have hs0 : Below W.heap.size W W.drew := (Below.refl _ _).drew
 refine wp_region_tq5 (.read 0 (.read 2 (.step 1 (.step 3 (.step 4 (.step 5 .nil)))))) [5] (by kernel_rfl) (by rfl) (by kernel_rfl) (by kernel_rfl) (fun V => Below W.heap.size W V) ?_
 change goU _ _ _ _ _ _ _ W.drew
 refine goU_read 5 hs0 (by rfl) (by rfl) ?_ (by rfl) (fun wz hSw => ?_) ?_
 rotate_left
 ·have e0 := keepB hSw c0; have e1 := keepB hSw c1; have e2 := keepB hSw d0; have e3 := keepB hSw d1; go_simp
  try with_reducible rfl
 simp only [sIB, List.set]
 refine goU_read 7 hs0 (by rfl) (by rfl) ?_ (by rfl) (fun wz hSw => ?_) ?_
 rotate_left
 ·have e0 := keepB hSw c0; have e1 := keepB hSw c1; have e2 := keepB hSw d0; have e3 := keepB hSw d1; go_simp
  try with_reducible rfl
 simp only [sIB, List.set]
 refine goU_call 6 (by rfl) (by rfl) (by rfl) (by go_simp) (wNeg_any (HX.out.below hs0) (by have := HL.out; omega)) ?_
 rintro e w7 ⟨v7, rfl, hv7, hb7⟩
 have hs1 := hs0.trans (hb7.mono hs0.size)
 refine ⟨_, rfl, fun _ => hs1, ?_⟩
 simp only [sIB, List.set]
 refine goU_call 8 (by rfl) (by rfl) (by rfl) (by go_simp) (wQuo_any hv7.int (HY.out.below hs1) (by rw [wl_neg]; exact Nat.le_trans HL.out (by omega)) (Nat.le_trans HL'.out (by omega)) HY0.out) ?_
 rintro e w8 ⟨v8, rfl, hv8, hb8⟩
 have hs2 := hs1.trans (hb8.mono hs1.size)
 refine ⟨_, rfl, fun _ => hs2, ?_⟩
 simp only [sIB, List.set]
 refine goU_call 9 (by rfl) (by rfl) (by rfl) (by go_simp) (wNeg_any hv8.int (by have := wl_div (-x) y; rw [wl_neg] at this; have := HL.out; omega)) ?_
 rintro e w9 ⟨v9, rfl, hv9, hb9⟩
 obtain ⟨n9, A9, m9, c9, rfl, hw9⟩ := hv9.shp
 have hs3 := hs2.trans (hb9.mono hs2.size)
 refine ⟨_, rfl, fun _ => hs3, ?_⟩
 simp only [sIB, List.set]
 have hA9 := HRA.out.below' hs3
 obtain ⟨r0, r1, f0, f1⟩ := hA9.c2
 refine goU_step (by rfl) ?_
 go_wp2_with fail
 try (refine ⟨fun h => absurd h (by decide), ?_⟩)
 refine goU_nilN ?_
 go_wp2_with fail
 refine bodyPost_ret (v := .agg #[.bool n9, .slice A9 m9 c9]) (by simp [results, Tryz.results192, go_sem, r0, r1]) rfl ⟨_, rfl, ?_, ?_⟩
 ·have hs := hs2.size
  refine NIntV.mono (NIntV.setCell (p := ⟨R, 1, none⟩) (NIntV.setCell (p := ⟨R, 0, none⟩) hw9 (fun h => by have h : w8.heap.size ≤ R := h; omega) _) (fun h => by have h : w8.heap.size ≤ R := h; omega) _) fun b (h1 : w8.heap.size ≤ b) _ => ?_
  show w.heap.size ≤ b
  have := HBW.out.size; omega
 ·exact ((HBW.out.trans (hs3.mono HBW.out.size)).setCell (p := ⟨R, 0, none⟩) hwR _).setCell (p := ⟨R, 1, none⟩) hwR _
set_option maxRecDepth 100000 in
set_option maxHeartbeats 4000000 in
theorem Unit_any {w : World} {n : Nat} (hn : n ≤ 1000000) : Calls Tryz.prog 203 #[.int .i64 n] w (Gives w fun w' v => RowsD PvD w' (w.heap.size ≤ ·) v (unitL n)) := by
 go_enter Tryz.func203, Tryz.ntmps203
 go_wp2_with (at_make; go_must (refine wpList_make_arr _ rfl _ _ _ rfl 175 (.slice none 0 0) 1 24 Tryz.underlying113 info_Row _ _ _ _ n rfl rfl (by omega) (by omega) (by omega) (by omega) ?_); intro w1 ha hb hz)
 have HB1 := Lib.hid hb
 have hm := MatR.make (E := (w.heap.size ≤ ·)) ha
 have HZ := Lib.hid hz
 have htl : (unitL n).length = n := by unfold unitL; rw [List.length_map, List.length_range]
 have HTL := Lib.hid htl
 clear hz ha hb htl
 go_loopw [9] (fun iv wr => ∃ (i : Nat) (us : List Value), iv = .int .i64 i ∧ i ≤ n ∧ MatR wr w.heap.size (w.heap.size ≤ ·) us ((unitL n).take i ++ List.replicate (n - i) []) ∧ Below w.heap.size w wr) (fun iv _ => n - (intOf iv).toNat)
 case atStart => exact ⟨0, _, rfl, by omega, by simpa using hm, HB1.out⟩
 case round =>
  obtain ⟨i, us, rfl, hi, hmx, hbr⟩ := hrel
  clear hm
  have hlt := hmx.lt
  rcases Nat.lt_or_ge i n with hin | hin
  ·obtain ⟨wo, rfl⟩ : ∃ wo, wo = wr := ⟨_, rfl⟩
   have z0 := hmx.arr.frozen i
   have hlen2 : ((unitL n).take i ++ List.replicate (n - i) ([] : List Int)).length = n := by rw [List.length_append, List.length_take, List.length_replicate, HTL.out]; omega
   obtain ⟨uo, _, z2, _⟩ := hmx.at (i := i) (by rw [hlen2]; exact hin)
   have HSTEP := Lib.hid (set_snoc (z := ([] : List Int)) hin HTL.out (show (unitL n)[i]? = some ((List.replicate n 0).set i 1) by unfold unitL; rw [List.getElem?_map, List.getElem?_range hin]; rfl))
   have HLE := Lib.hid hlen2
   have HMO := Lib.hid hmx.old
   have HBR := Lib.hid hbr
   clear hmx hlen2 hbr
   have a1 : (0 : Int) ≤ (i : Int) := by omega
   have a2 : (i : Int) < (n : Int) := by omega
   go_upto_region 6 with (at_make; go_must (refine wpList_make_arr _ rfl _ _ _ rfl 40 (.agg #[.bool false, .slice none 0 0]) 2 32 Tryz.underlying175 info_Int _ _ _ _ n rfl rfl (by omega) (by omega) (by omega) (by omega) ?_); intro w2 ha hb hz; have y0 := keepB hb z2; have y1 := ((bcell hb).2 _ _ hlt).trans z0)
   obtain ⟨G, hG⟩ : ∃ G, G = wo.heap.size := ⟨_, rfl⟩
   have hGB : w.heap.size ≠ G := by rw [hG]; omega
   have hwG : w.heap.size < G := by rw [hG]; exact hlt
   rw [← hG] at ha ⊢
   obtain ⟨w3, hw3⟩ : ∃ V, V = w2.setCell ⟨w.heap.size, i, none⟩ (.slice (some ⟨G, 0, none⟩) n n) := ⟨_, rfl⟩
   rw [← hw3]
   have ha3 := ha.far (p := ⟨w.heap.size, i, none⟩) (fun e => hGB e.symm) (.slice (some ⟨G, 0, none⟩) n n)
   rw [← hw3] at ha3
   have hrow := OwnR.made (base := w.heap.size) (D := (G < ·)) (Nat.le_of_lt hwG) (show n ≤ maxLen by unfold maxLen; omega) ha3
   have hfB : Frm (· = w.heap.size) w2 w3 := by rw [hw3]; exact Frm.setCell (O := (· = w.heap.size)) (p := ⟨w.heap.size, i, none⟩) (fun _ => rfl) _
   have hm2 := HMO.out.below hb
   have harr3 : Arr w3 w.heap.size 175 (us.set i (.slice (some ⟨G, 0, none⟩) n n)) := by rw [hw3]; exact hm2.arr.set_ _ _
   have hui : i < us.length := by rw [HMO.out.len, HLE.out]; exact hin
   have hco : w3.cell? ⟨w.heap.size, i, none⟩ = some (.slice (some ⟨G, 0, none⟩) n n) := by
    have h1 := harr3.cell i
    rw [List.getElem?_set_self hui] at h1
    exact h1
   have hb13 : Below w.heap.size w w3 := by rw [hw3]; exact (HBR.out.trans (hb.mono HBR.out.size)).setCell (p := ⟨w.heap.size, i, none⟩) (Nat.le_refl _) _
   have HAR := Lib.hid harr3
   have HFB := Lib.hid hfB
   have HM2 := Lib.hid hm2
   have HB13 := Lib.hid hb13
   have hws3 : G < w3.heap.size := ha3.lt
   have hwB3 : w.heap.size < w3.heap.size := Nat.lt_trans hwG hws3
   have HRW0 := Lib.hid hrow
   have HGE := Lib.hid hG
   clear hw3 ha ha3 hrow hfB hm2 harr3 hb hz y0 y1 hb13 hG z0 z2
   have hs0 : Below w3.heap.size w3 w3.drew := (Below.refl _ _).drew
   refine wp_region_tq5 (.read 0 (.read 1 (.read 2 (.read 3 (.read 4 (.step 5 (.read 6 (.step 7 .nil)))))))) [7] (by kernel_rfl) (by rfl) (by kernel_rfl) (by kernel_rfl) (fun V => Below w3.heap.size w3 V) ?_
   change goU _ _ _ _ _ _ _ w3.drew
   refine goU_read 17 hs0 (by rfl) (by rfl) ?_ (by rfl) (fun wz hSw => ?_) ?_
   rotate_left
   ·have e0 := keepB hSw hco; go_simp
    try with_reducible rfl
   simp only [sIB, List.set]
   refine goU_read 18 hs0 (by rfl) (by rfl) ?_ (by rfl) (fun wz hSw => ?_) ?_
   rotate_left
   ·have e0 := keepB hSw hco; go_simp
    try with_reducible rfl
   simp only [sIB, List.set]
   refine goU_read 19 hs0 (by rfl) (by rfl) ?_ (by rfl) (fun wz hSw => ?_) ?_
   rotate_left
   ·have e0 := keepB hSw hco; go_simp
    try with_reducible rfl
   simp only [sIB, List.set]
   refine goU_read 20 hs0 (by rfl) (by rfl) ?_ (by rfl) (fun wz hSw => ?_) ?_
   rotate_left
   ·have e0 := keepB hSw hco; go_simp
    try with_reducible rfl
   simp only [sIB, List.set]
   refine goU_read 21 hs0 (by rfl) (by rfl) ?_ (by rfl) (fun wz hSw => ?_) ?_
   rotate_left
   ·have e0 := keepB hSw hco; go_simp
    try with_reducible rfl
   simp only [sIB, List.set]
   refine goU_call 22 (by rfl) (by rfl) (by rfl) (by go_simp) (Of_any 1 _ (by omega) (by omega)) ?_
   rintro e w4 ⟨v4, rfl, hv4, hb4⟩
   obtain ⟨n9, A9, m9, c9, rfl, hw9⟩ := hv4.shp
   have hs1 := hs0.trans (hb4.mono hs0.size)
   refine ⟨_, rfl, fun _ => hs1, ?_⟩
   simp only [sIB, List.set]
   refine goU_read 23 hs1 (by rfl) (by rfl) ?_ (by rfl) (fun wz hSw => ?_) ?_
   rotate_left
   ·go_simp
    try with_reducible rfl
   simp only [sIB, List.set]
   obtain ⟨g8, cap8, e8, _, _, _, _, hfz, hcl⟩ := (HRW0.out.below hs1).at (by rw [List.length_replicate]; omega)
   injection e8 with e8 e9 e10
   injection e8 with e8
   injection e8 with e8
   subst e8
   clear e9 e10
   obtain ⟨neg0, B0, m0, k0, r0, r1, _⟩ := hcl i (by rw [List.length_replicate]; exact hin)
   have z0 := hfz (i * 2)
   have z1 := hfz (i * 2 + 1)
   clear hcl hfz
   refine goU_step (by rfl) ?_
   go_wp2_with fail
   try (refine ⟨fun h => absurd h (by decide), ?_⟩)
   refine goU_nilN ?_
   go_wp2_with fail
   have hb43 := hb4.size
   have hset := OwnR.set (i := i) (HRW0.out.below hs1) (Nat.lt_irrefl G) (by rw [List.length_replicate]; exact hin) (hw9.mono (D' := (G < ·)) fun b (h1 : w3.heap.size ≤ b) _ => Nat.lt_of_lt_of_le hws3 h1)
   have hfi : Frm (· = G) w3 ((w4.setCell ⟨G, i * 2, none⟩ (.bool n9)).setCell ⟨G, i * 2 + 1, none⟩ (.slice A9 m9 c9)) := (Frm.of_below hs1).trans ((Frm.setCell (O := (· = G)) (p := ⟨G, i * 2, none⟩) (fun _ => rfl) _).trans (Frm.setCell (O := (· = G)) (p := ⟨G, i * 2 + 1, none⟩) (fun _ => rfl) _))
   obtain ⟨w5, hw5⟩ : ∃ V, V = (w4.setCell ⟨G, i * 2, none⟩ (.bool n9)).setCell ⟨G, i * 2 + 1, none⟩ (.slice A9 m9 c9) := ⟨_, rfl⟩
   rw [← hw5] at hset hfi ⊢
   have hpvd : PvD w5 (fun b => w.heap.size ≤ b ∧ b ≠ w.heap.size) (.slice (some ⟨G, 0, none⟩) n n) ((List.replicate n 0).set i 1) := hset.pvd fun b hb => by
    rcases hb with hb | hb
    ·omega
    ·have hb2 : some G = some b := hb
     injection hb2 with hb2
     omega
   have hm9 := HM2.out.redo (i := i) (E' := (w.heap.size ≤ ·)) (w3 := w5) (u := .slice (some ⟨G, 0, none⟩) n n) (by rw [HLE.out]; exact hin) (hfi.arr HAR.out hGB) (fun b hb hne hlt2 => (hfi.block b (Nat.lt_of_lt_of_le hlt2 HFB.out.size) (by have := hb.2; have := HGE.out; omega)).trans (HFB.out.block b hlt2 hne)) hpvd (fun b hb => hb.1)
   rw [HSTEP.out] at hm9
   go_roundw
   case rel => exact ⟨i + 1, _, by go_num, by omega, hm9, HB13.out.trans (hfi.below HB13.out.size fun b e => by rw [e]; exact Nat.le_of_lt hwG)⟩
   case measure => simp [intOf]; omega
  ·obtain rfl : i = n := by omega
   rw [Nat.sub_self, List.replicate_zero, List.append_nil, List.take_of_length_le (by rw [HTL.out]; exact Nat.le_refl _)] at hmx
   go_wp2_with fail
   go_ret
   have hz := HZ.out
   exact ⟨_, rfl, RowsD.mono (hmx.rd HTL.out (Nat.le_refl _) (by unfold maxLen; omega)) fun b hb _ => hb.elim id fun h => by show w.heap.size ≤ b; omega, hbr⟩
end Go.Proofs.YtdjpeimecfhdjaaGreat

namespace Go.Proofs.YtdjpeimecfhdjaaGreat
open Go.RowKit
theorem wl_vrS {g y : List Int} {a s : Int} {B : Nat} (hg : fitR g = true) (hy : fitR y = true) (ha : fit a = true) (hs : wl s.natAbs ≤ 12000 + B) (k : Nat) : wl (vrS g y a s k).natAbs ≤ 12000 + B + k := by
 induction k with
 | zero => exact hs
 | succ k ih =>
  unfold vrS
  have h1 := wl_addI (vrS g y a s k) (a * gz g k * gz y k)
  have h2 := wl_mulI (a * gz g k) (gz y k)
  have h3 := wl_mulI a (gz g k)
  have h4 := fit_wl ha
  have h5 := fit_wl (fitR_gz hg k)
  have h6 := fit_wl (fitR_gz hy k)
  omega
theorem wl_vlS {g : List (List Int)} {x y : List Int} (hg : fitM g = true) (hx : fitR x = true) (hy : fitR y = true) (i : Nat) : wl (vlS g x y i).natAbs ≤ 12000 + i * y.length := by
 induction i with
 | zero => unfold vlS; rw [wl_zero0]; omega
 | succ i ih =>
  unfold vlS
  have h1 := wl_vrS (k := y.length) (fitM_rw hg i) hy (fitR_gz hx i) ih
  rw [Nat.succ_mul]
  omega
theorem PvD.mono2 {w W : World} {D : Nat → Prop} {v : Value} {l : List Int} (h : PvD w D v l) (hb : Below w.heap.size w W) : PvD W (· < w.heap.size) v l := Foot.below (Foot.mono h fun _ _ hl => hl) hb
set_option maxRecDepth 100000 in
set_option maxHeartbeats 4000000 in
theorem value_any {w : World} {D1 D2 : Nat → Prop} {A Ax Ay : Option Addr} {q c nx cx ny cy : Nat} {G : List (List Int)} {x y : List Int} (h : RM w (.slice A q c) G) (hx : PvD w D1 (.slice Ax nx cx) x) (hy : PvD w D2 (.slice Ay ny cy) y)
  (hxq : nx ≤ q) (hrow : ∀ i, i < nx → ny ≤ (rw_ G i).length) (hn1 : nx ≤ 10000) (hn2 : ny ≤ 10000) (hq : q ≤ 1000000) (hfg : fitM G = true) (hfx : fitR x = true) (hfy : fitR y = true) :
  Calls Tryz.prog 190 #[.slice A q c, .slice Ax nx cx, .slice Ay ny cy] w (Gives w fun w' v => NIntV w' (w.heap.size ≤ ·) v (vl G x y)) := by
 have HNX := Lib.hid hx.len
 have HNY := Lib.hid hy.len
 have HQ := Lib.hid (RowsD.room h).1.symm
 obtain ⟨W, hW⟩ : ∃ W, W = (w.alloc (.cells #[.bool false, .slice none 0 0] 40)).alloc (.cells #[.bool false, .slice none 0 0] 40) := ⟨_, rfl⟩
 obtain ⟨R, hR⟩ : ∃ R, R = w.heap.size := ⟨_, rfl⟩
 obtain ⟨S, hS⟩ : ∃ S, S = w.heap.size + 1 := ⟨_, rfl⟩
 have hbW : Below w.heap.size w W := by rw [hW]; exact ((Below.refl _ _).alloc (Nat.le_refl _) _).alloc (by simp) _
 have hRA : Arr W R 40 [.bool false, .slice none 0 0] := by rw [hW, hR]; exact (Arr.new w _ [.bool false, .slice none 0 0]).alloc _
 have hSA : Arr W S 40 [.bool false, .slice none 0 0] := by
  rw [hW, hS]
  have := Arr.new (w.alloc (.cells #[.bool false, .slice none 0 0] 40)) 40 [.bool false, .slice none 0 0]
  simpa using this
 have hRS : R < S := by omega
 have hwR : w.heap.size ≤ R := by omega
 have hBX : Bx W S (fun b => S < b) 0 := ⟨false, none, 0, 0, hSA, NIntV.zero _ _⟩
 have hSW : S < W.heap.size := hSA.lt
 have HRA := Lib.hid hRA
 have HWW := Lib.hid hW
 have HRR := Lib.hid hR
 have HSS := Lib.hid hS
 have HX := Lib.hid (hx.mono2 hbW)
 have HY := Lib.hid (hy.mono2 hbW)
 have HG := Lib.hid (RowsD.below (RowsD.mono (D' := (· < w.heap.size)) h fun _ _ hb => hb) hbW)
 have HFG := Lib.hid hfg
 have HFX := Lib.hid hfx
 have HFY := Lib.hid hfy
 have HRW := Lib.hid hrow
 clear hW hR hS hRA hSA hfg hfx hfy hrow h hx hy
 go_enter Tryz.func190, Tryz.ntmps190
 go_upto_region 2 with (fail)
 rw [← HWW.out, ← HSS.out, ← HRR.out]
 go_wp2_with fail
 go_loopw [15] (fun iv wr => ∃ i : Nat, iv = .int .i64 i ∧ i ≤ nx ∧ Bx wr S (fun b => S < b) (vlS G x y i) ∧ Frm (· = S) W wr) (fun iv _ => nx - (intOf iv).toNat)
 case atStart => exact ⟨0, rfl, by omega, hBX, Frm.refl _ _⟩
 case round =>
  obtain ⟨i, rfl, hi, hbx, hfr⟩ := hrel
  clear hBX
  rcases Nat.lt_or_ge i nx with hin | hin
  ·obtain ⟨wo, rfl⟩ : ∃ wo, wo = wr := ⟨_, rfl⟩
   obtain ⟨b1, off1, neg, B, m, k, rfl, _, e0, e1, e2⟩ := PvD.at (hfr.foot HX.out fun b (hb : b < w.heap.size) e => by omega) hin
   obtain ⟨W2, hW2⟩ : ∃ W2, W2 = wo.alloc (.cells #[.bool neg, .slice B m k] 40) := ⟨_, rfl⟩
   obtain ⟨PX, hPX⟩ : ∃ PX, PX = wo.heap.size := ⟨_, rfl⟩
   have HB2 : Below wo.heap.size wo W2 := by rw [hW2]; exact (Below.refl _ _).alloc (Nat.le_refl _) _
   have hXA : Arr W2 PX 40 [.bool neg, .slice B m k] := by rw [hW2, hPX]; exact Arr.new wo _ [.bool neg, .slice B m k]
   obtain ⟨x0, x1, _, _⟩ := hXA.c2
   have hSX : S < PX := by rw [hPX]; exact hbx.arr
   have HW2 := Lib.hid hW2
   have HPX := Lib.hid hPX
   have HXA := Lib.hid hXA
   have HXV := Lib.hid ((e2.mono (D' := fun b => b ≠ S ∧ b < PX) fun b (hb : b < w.heap.size) hl => ⟨by omega, by omega⟩).below HB2)
   have hwlx := fit_wl (fitR_gz HFX.out i)
   have hST : vlS G x y (i + 1) = vrS (rw_ G i) y (gz x i) (vlS G x y i) ny := by show vrS _ _ _ _ y.length = _; rw [HNY.out]
   have HBO := Lib.hid (hbx.below HB2)
   have HF2 := Lib.hid (hfr.over HB2)
   have HZ := Lib.hid (fun w' (hb : Below W2.heap.size W2 w') => Zero_any ((e2.below HB2).below hb))
   have hX2 : PX < W2.heap.size := hXA.lt
   clear hW2 hPX hXA e2 HB2 hbx hfr
   have a1 : (0 : Int) ≤ (i : Int) := by omega
   have a2 : (i : Int) < (nx : Int) := by omega
   by_cases hx0 : gz x i = 0
   ·have HST := Lib.hid (show vlS G x y (i + 1) = vlS G x y i by rw [hST, hx0, vrS_zero])
    clear hST
    go_upto_region 5 with (fail)
    rw [← HW2.out, ← HPX.out]
    go_wp2_with (go_at_call 166; go_must (refine (HZ.out _ (Below.refl _ _)).mono ?_); rintro e w3 ⟨rfl, hb3⟩)
    go_roundw
    case rel => exact ⟨i + 1, by go_num, by omega, by rw [HST.out]; exact HBO.out.below hb3, HF2.out.over hb3⟩
    case measure => simp [intOf]; omega
   ·have HST := Lib.hid hST
    have HX0 := Lib.hid hx0
    have hiq : i < q := by omega
    have hlr := HRW.out i hin
    clear hST
    go_upto_region 5 with (fail)
    rw [← HW2.out, ← HPX.out]
    go_wp2_with (go_at_call 166; go_must (refine (HZ.out _ (Below.refl _ _)).mono ?_); rintro e w3 ⟨rfl, hb3⟩)
    clear hx0
    have HB3 := Lib.hid (HBO.out.below hb3)
    have HF3 := Lib.hid (HF2.out.over hb3)
    have HXA3 := Lib.hid (keepA HXA.out hb3 hX2)
    have HXV3 := Lib.hid (HXV.out.below hb3)
    have hX3 : PX < w3.heap.size := HXA3.out.lt
    clear hb3 x0 x1
    obtain ⟨bg, offg, ug, eg, hcg, hug⟩ := RowsD.at HG.out (rw_some (L := G) (i := i) (by rw [HQ.out]; exact hiq))
    obtain ⟨Ag, cg, rfl, hpg⟩ := hug
    have hpvg : PvD W (· < w.heap.size) (.slice Ag (rw_ G i).length cg) (rw_ G i) := ⟨Ag, cg, rfl, hpg⟩
    generalize hgl : (rw_ G i).length = ng at *
    have HGL := Lib.hid hgl
    have HPG := Lib.hid hpvg
    have HEG := Lib.hid eg
    have hbg : bg < W.heap.size := cell_lt hcg
    have hbg2 : bg ≠ S := by
     have := HG.out
     obtain ⟨_, _, _, e9, _, _, _, h9, _⟩ := this
     injection e9 with e9
     obtain ⟨b9, o9, e8, h8, _⟩ := h9 (by rw [HQ.out]; omega)
     rw [← e9, HEG.out] at e8
     injection e8 with e8
     injection e8 with e8
     have h8 : b9 < w.heap.size := h8
     omega
    clear hgl hpg hpvg eg
    have hwlo := wl_vlS HFG.out HFX.out HFY.out i
    rw [HNY.out] at hwlo
    have hmul : i * ny ≤ 10000 * 10000 := Nat.mul_le_mul (by omega) hn2
    go_wp2_with fail
    go_loopw [24] (fun kv wr => ∃ k : Nat, kv = .int .i64 k ∧ k ≤ ny ∧ Bx wr S (fun b => S < b) (vrS (rw_ G i) y (gz x i) (vlS G x y i) k) ∧ Frm (· = S) w3 wr) (fun kv _ => ny - (intOf kv).toNat)
    case atStart => exact ⟨0, rfl, by omega, HB3.out, Frm.refl _ _⟩
    case round =>
     obtain ⟨k, rfl, hk, hbx, hfi⟩ := hrel
     rcases Nat.lt_or_ge k ny with hkn | hkn
     ·have hwf : Frm (· = S) W wr := HF3.out.trans hfi
      obtain ⟨b2, off2, neg4, B4, m4, k4, rfl, _, y0, y1, y2⟩ := PvD.at (hwf.foot HY.out fun b (hb : b < w.heap.size) e => by omega) hkn
      obtain ⟨b5, off5, neg5, B5, m5, k5, rfl, _, z0, z1, z2⟩ := PvD.at (hwf.foot HPG.out fun b (hb : b < w.heap.size) e => by omega) (show k < ng by have := hlr; have := HGL.out; omega)
      obtain ⟨neg6, B6, m6, k6, hp6, hv6⟩ := hbx
      obtain ⟨rfl⟩ := HEG.out
      have hcg2 := (hwf.cell hbg hbg2 (o := offg + i)).trans hcg
      have hXr := hfi.arr HXA3.out (fun e => by omega)
      obtain ⟨x0, x1, _, _⟩ := hXr.c2
      obtain ⟨p0, p1, _, _⟩ := hp6.c2
      obtain ⟨W5, hW5⟩ : ∃ V, V = wr.alloc (.cells #[.bool neg4, .slice B4 m4 k4] 40) := ⟨_, rfl⟩
      obtain ⟨PY, hPY⟩ : ∃ P, P = wr.heap.size := ⟨_, rfl⟩
      have HB5 : Below wr.heap.size wr W5 := by rw [hW5]; exact (Below.refl _ _).alloc (Nat.le_refl _) _
      have hYA : Arr W5 PY 40 [.bool neg4, .slice B4 m4 k4] := by rw [hW5, hPY]; exact Arr.new wr _ [.bool neg4, .slice B4 m4 k4]
      obtain ⟨q0, q1, _, _⟩ := hYA.c2
      have HW5 := Lib.hid hW5
      have HPY := Lib.hid hPY
      replace z0 := keepB HB5 z0
      replace z1 := keepB HB5 z1
      replace x0 := keepB HB5 x0
      replace x1 := keepB HB5 x1
      replace p0 := keepB HB5 p0
      replace p1 := keepB HB5 p1
      replace hcg2 := keepB HB5 hcg2
      have HZ5 := Lib.hid (fun w' (hb : Below W5.heap.size W5 w') => Zero_any ((y2.below HB5).below hb))
      have hwa := fit_wl (fitR_gz HFX.out i)
      have hwg := fit_wl (fitR_gz (fitM_rw HFG.out i) k)
      have hwy := fit_wl (fitR_gz HFY.out k)
      have hw1 := wl_mulI (gz x i) (gz (rw_ G i) k)
      have hw2 := wl_mulI (gz x i * gz (rw_ G i) k) (gz y k)
      have hw3 := wl_vrS (k := k) (g := rw_ G i) (y := y) (fitM_rw HFG.out i) HFY.out (fitR_gz HFX.out i) hwlo
      have hxv := (hfi.nint HXV3.out fun b hb e => hb.1 e).below HB5
      have HM1 := Lib.hid (fun w' (hb : Below W5.heap.size W5 w') => Mul_any (hxv.below hb).int ((z2.below HB5).below hb).int (by omega) (by omega))
      have HM2 := Lib.hid (fun w' v (hb : Below W5.heap.size W5 w') (hv : NIntV w' (fun _ => True) v (gz x i * gz (rw_ G i) k)) => Mul_any hv.int ((y2.below HB5).below hb).int (by omega) (by omega))
      have HAD := Lib.hid (fun w' v (hb : Below W5.heap.size W5 w') (hv : NIntV w' (fun _ => True) v (gz x i * gz (rw_ G i) k * gz y k)) => Add_any ((hv6.below HB5).below hb).int hv.int (by omega) (by omega))
      have HS5 := Lib.hid (hp6.below' HB5)
      have hS5 : S < W5.heap.size := HS5.out.lt
      have HFI := Lib.hid (hfi.over HB5)
      have HBX := Lib.hid (show Bx W5 S (fun b => S < b) (vrS (rw_ G i) y (gz x i) (vlS G x y i) k) from ⟨neg6, B6, m6, k6, HS5.out, hv6.below HB5⟩)
      have hSr : S < wr.heap.size := hp6.lt
      have hsz5 := HB5.size
      clear hW5 hPY hYA y2 z2 hp6 hv6 hXr hxv hw1 hw2 hw3 hwa hwg hwy hwf hfi HB5
      have a4 : (0 : Int) ≤ (k : Int) := by omega
      have a5 : (k : Int) < (ny : Int) := by omega
      have a6 : (k : Int) < (ng : Int) := by have := hlr; have := HGL.out; omega
      have a7 : (i : Int) < (q : Int) := by omega
      by_cases hy0 : gz y k = 0
      ·have HS2 := Lib.hid (show vrS (rw_ G i) y (gz x i) (vlS G x y i) (k + 1) = vrS (rw_ G i) y (gz x i) (vlS G x y i) k by unfold vrS; rw [hy0, Int.mul_zero, Int.add_zero]; cases k <;> rfl)
       go_upto_region 9 with (fail)
       rw [← HW5.out, ← HPY.out]
       go_wp2_with (go_at_call 166; go_must (refine (HZ5.out _ (Below.refl _ _)).mono ?_); rintro e w6 ⟨rfl, hb6⟩)
       go_roundw
       case rel => exact ⟨k + 1, by go_num, by omega, by rw [HS2.out]; exact HBX.out.below hb6, HFI.out.over hb6⟩
       case measure => simp [intOf]; omega
      ·have HS2 := Lib.hid (show vrS (rw_ G i) y (gz x i) (vlS G x y i) (k + 1) = vrS (rw_ G i) y (gz x i) (vlS G x y i) k + gz x i * gz (rw_ G i) k * gz y k from rfl)
       go_upto_region 9 with (fail)
       rw [← HW5.out, ← HPY.out]
       go_upto_region 10 with (go_at_call 166; go_must (refine (HZ5.out _ (Below.refl _ _)).mono ?_); rintro e w6 ⟨rfl, hb6⟩)
       clear hy0
       have hs0 : Below W5.heap.size W5 w6.drew := hb6.drew
       refine wp_region_tq5 (.read 0 (.read 1 (.read 2 (.read 3 (.read 4 (.read 5 (.read 6 (.read 7 (.read 8 (.read 10 (.step 9 (.step 11 (.step 12 (.step 13 .nil)))))))))))))) [13] (by kernel_rfl) (by rfl) (by kernel_rfl) (by kernel_rfl) (fun V => Below W5.heap.size W5 V) ?_
       change goU _ _ _ _ _ _ _ w6.drew
       refine goU_read 32 hs0 (by rfl) (by rfl) ?_ (by rfl) (fun wz hSw => ?_) ?_
       rotate_left
       ·have e0 := keepB hSw p0; have e1 := keepB hSw p1; have e2 := keepB hSw x0; have e3 := keepB hSw x1; have e4 := keepB hSw hcg2; have e5 := keepB hSw z0; have e6 := keepB hSw z1; have e7 := keepB hSw q0; have e8 := keepB hSw q1; go_simp
        try with_reducible rfl
       simp only [sIB, List.set]
       refine goU_read 33 hs0 (by rfl) (by rfl) ?_ (by rfl) (fun wz hSw => ?_) ?_
       rotate_left
       ·have e0 := keepB hSw p0; have e1 := keepB hSw p1; have e2 := keepB hSw x0; have e3 := keepB hSw x1; have e4 := keepB hSw hcg2; have e5 := keepB hSw z0; have e6 := keepB hSw z1; have e7 := keepB hSw q0; have e8 := keepB hSw q1; go_simp
        try with_reducible rfl
       simp only [sIB, List.set]
       refine goU_read 34 hs0 (by rfl) (by rfl) ?_ (by rfl) (fun wz hSw => ?_) ?_
       rotate_left
       ·have e0 := keepB hSw p0; have e1 := keepB hSw p1; have e2 := keepB hSw x0; have e3 := keepB hSw x1; have e4 := keepB hSw hcg2; have e5 := keepB hSw z0; have e6 := keepB hSw z1; have e7 := keepB hSw q0; have e8 := keepB hSw q1; go_simp
        try with_reducible rfl
       simp only [sIB, List.set]
       refine goU_read 35 hs0 (by rfl) (by rfl) ?_ (by rfl) (fun wz hSw => ?_) ?_
       rotate_left
       ·have e0 := keepB hSw p0; have e1 := keepB hSw p1; have e2 := keepB hSw x0; have e3 := keepB hSw x1; have e4 := keepB hSw hcg2; have e5 := keepB hSw z0; have e6 := keepB hSw z1; have e7 := keepB hSw q0; have e8 := keepB hSw q1; go_simp
        try with_reducible rfl
       simp only [sIB, List.set]
       refine goU_read 36 hs0 (by rfl) (by rfl) ?_ (by rfl) (fun wz hSw => ?_) ?_
       rotate_left
       ·have e0 := keepB hSw p0; have e1 := keepB hSw p1; have e2 := keepB hSw x0; have e3 := keepB hSw x1; have e4 := keepB hSw hcg2; have e5 := keepB hSw z0; have e6 := keepB hSw z1; have e7 := keepB hSw q0; have e8 := keepB hSw q1; go_simp
        try with_reducible rfl
       simp only [sIB, List.set]
       refine goU_read 37 hs0 (by rfl) (by rfl) ?_ (by rfl) (fun wz hSw => ?_) ?_
       rotate_left
       ·have e0 := keepB hSw p0; have e1 := keepB hSw p1; have e2 := keepB hSw x0; have e3 := keepB hSw x1; have e4 := keepB hSw hcg2; have e5 := keepB hSw z0; have e6 := keepB hSw z1; have e7 := keepB hSw q0; have e8 := keepB hSw q1; go_simp
        try with_reducible rfl
       simp only [sIB, List.set]
       refine goU_read 38 hs0 (by rfl) (by rfl) ?_ (by rfl) (fun wz hSw => ?_) ?_
       rotate_left
       ·have e0 := keepB hSw p0; have e1 := keepB hSw p1; have e2 := keepB hSw x0; have e3 := keepB hSw x1; have e4 := keepB hSw hcg2; have e5 := keepB hSw z0; have e6 := keepB hSw z1; have e7 := keepB hSw q0; have e8 := keepB hSw q1; go_simp
        try with_reducible rfl
       simp only [sIB, List.set]
       refine goU_read 39 hs0 (by rfl) (by rfl) ?_ (by rfl) (fun wz hSw => ?_) ?_
       rotate_left
       ·have e0 := keepB hSw p0; have e1 := keepB hSw p1; have e2 := keepB hSw x0; have e3 := keepB hSw x1; have e4 := keepB hSw hcg2; have e5 := keepB hSw z0; have e6 := keepB hSw z1; have e7 := keepB hSw q0; have e8 := keepB hSw q1; go_simp
        try with_reducible rfl
       simp only [sIB, List.set]
       refine goU_read 40 hs0 (by rfl) (by rfl) ?_ (by rfl) (fun wz hSw => ?_) ?_
       rotate_left
       ·have e0 := keepB hSw p0; have e1 := keepB hSw p1; have e2 := keepB hSw x0; have e3 := keepB hSw x1; have e4 := keepB hSw hcg2; have e5 := keepB hSw z0; have e6 := keepB hSw z1; have e7 := keepB hSw q0; have e8 := keepB hSw q1; go_simp
        try with_reducible rfl
       simp only [sIB, List.set]
       refine goU_read 42 hs0 (by rfl) (by rfl) ?_ (by rfl) (fun wz hSw => ?_) ?_
       rotate_left
       ·have e0 := keepB hSw p0; have e1 := keepB hSw p1; have e2 := keepB hSw x0; have e3 := keepB hSw x1; have e4 := keepB hSw hcg2; have e5 := keepB hSw z0; have e6 := keepB hSw z1; have e7 := keepB hSw q0; have e8 := keepB hSw q1; go_simp
        try with_reducible rfl
       simp only [sIB, List.set]
       refine goU_call 41 (by rfl) (by rfl) (by rfl) (by go_simp) (HM1.out _ hs0) ?_
       rintro e w7 ⟨v7, rfl, hv7, hb7⟩
       have hs1 := hs0.trans (hb7.mono hs0.size)
       refine ⟨_, rfl, fun _ => hs1, ?_⟩
       simp only [sIB, List.set]
       refine goU_call 43 (by rfl) (by rfl) (by rfl) (by go_simp) (HM2.out _ _ hs1 hv7.tt) ?_
       rintro e w8 ⟨v8, rfl, hv8, hb8⟩
       have hs2 := hs1.trans (hb8.mono hs1.size)
       refine ⟨_, rfl, fun _ => hs2, ?_⟩
       simp only [sIB, List.set]
       refine goU_call 44 (by rfl) (by rfl) (by rfl) (by go_simp) (HAD.out _ _ hs2 hv8.tt) ?_
       rintro e w9 ⟨v9, rfl, hv9, hb9⟩
       obtain ⟨n9, A9, m9, c9, rfl, hw9⟩ := hv9.shp
       have hs3 := hs2.trans (hb9.mono hs2.size)
       refine ⟨_, rfl, fun _ => hs3, ?_⟩
       simp only [sIB, List.set]
       clear hv7 hv8 hv9
       have hA9 := keepA HS5.out hs3 hS5
       obtain ⟨r0, r1, f0, f1⟩ := hA9.c2
       refine goU_step (by rfl) ?_
       go_wp2_with fail
       try (refine ⟨fun h => absurd h (by decide), ?_⟩)
       refine goU_nilN ?_
       go_wp2_with fail
       go_roundw
       case rel => exact ⟨k + 1, by go_num, by omega, by rw [HS2.out]; exact Bx.put hA9 (hw9.dd fun b (h1 : _ ≤ b) => by show S < b; have := hs2.size; omega) (fun h => Nat.lt_irrefl _ h), (HFI.out.over hs3).trans ((Frm.setCell (O := (· = S)) (p := ⟨S, 0, none⟩) (fun _ => rfl) _).trans (Frm.setCell (O := (· = S)) (p := ⟨S, 1, none⟩) (fun _ => rfl) _))⟩
       case measure => simp [intOf]; omega
     ·obtain rfl : k = ny := by omega
      rw [← HST.out] at hbx
      go_wp2_with fail
      go_roundw
      case rel => exact ⟨i + 1, by go_num, by omega, hbx, HF3.out.trans hfi⟩
      case measure => simp [intOf]; omega
  ·obtain rfl : i = nx := by omega
   obtain ⟨neg2, B2, m3, k2, hp, hv⟩ := hbx
   obtain ⟨p0, p1, _, _⟩ := hp.c2
   obtain ⟨r0, r1, f0, f1⟩ := (hfr.arr HRA.out (fun e => by omega)).c2
   have hvl : vl G x y = vlS G x y i := by unfold vl; rw [HNX.out]
   have HVL := Lib.hid hvl
   clear hvl
   go_wp2_with fail
   refine bodyPost_ret (v := .agg #[.bool neg2, .slice B2 m3 k2]) (by simp [results, Tryz.results190, go_sem, r0, r1]) rfl ⟨_, rfl, ?_, ?_⟩
   ·rw [HVL.out]
    exact ((hv.setCell (p := ⟨R, 0, none⟩) (fun h => by have h : S < R := h; omega) _).setCell (p := ⟨R, 1, none⟩) (fun h => by have h : S < R := h; omega) _).dd fun b (hb : S < b) => by show w.heap.size ≤ b; omega
   ·have hwr : Below w.heap.size w wr := hbW.trans (hfr.below hbW.size fun b e => by omega)
    exact (hwr.setCell (p := ⟨R, 0, none⟩) (by show w.heap.size ≤ R; omega) _).setCell (p := ⟨R, 1, none⟩) (by show w.heap.size ≤ R; omega) _
end Go.Proofs.YtdjpeimecfhdjaaGreat
