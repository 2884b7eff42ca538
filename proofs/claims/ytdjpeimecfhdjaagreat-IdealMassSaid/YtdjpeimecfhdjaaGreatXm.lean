/- Package wide: the product of two matrices. Package lattice: Normal. Package algebra: Check. Package ideal: a lattice that is accepted is read. -/
import Derived.Test.YtdjpeimecfhdjaaGreatXk
import Derived.Test.YtdjpeimecfhdjaaGreatXf
import Derived.Test.YtdjpeimecfhdjaaGreatXl
namespace Go.Proofs.YtdjpeimecfhdjaaGreat
open Go.RowKit
theorem wl_addI (a b : Int) : wl (a + b).natAbs ≤ max (wl a.natAbs) (wl b.natAbs) + 1 := by
 have := wl_sub a (-b)
 rw [Int.natAbs_neg, Int.sub_neg] at this
 exact this
theorem wl_zero0 : wl (0 : Int).natAbs = 0 := rfl
theorem wl_rowT {N : List (List Int)} {n : Nat} {r : List Int} (hN : fitM N = true) (hr : fitR r = true) (j t : Nat) : wl (gz (rowT N n r j) t).natAbs ≤ 8001 + j := by
 induction j with
 | zero => unfold rowT; rw [gz_replicate, wl_zero0]; omega
 | succ j ih =>
  unfold rowT
  rcases Nat.lt_or_ge t (rowT N n r j).length with h | h
  ·rw [addF_gz _ _ _ h]
   have h1 := wl_addI (gz (rowT N n r j) t) (gz r j * gz (rw_ N j) t)
   have h2 := wl_mulI (gz r j) (gz (rw_ N j) t)
   have h3 := fit_wl (fitR_gz hr j)
   have h4 := fit_wl (fitR_gz (fitM_rw hN j) t)
   omega
  ·rw [gz_ge (by rw [addF_length]; exact h), wl_zero0]; omega
section
variable {w w1 w3 : World} {B : Nat} {E E' : Nat → Prop} {us : List Value} {L : List (List Int)}
theorem MatR.old (h : MatR w B E us L) : MatR w B (fun b => E b ∧ b < w.heap.size) us L := ⟨h.arr, h.len, fun i u l hu hl => Foot.mono (h.rows i u l hu hl) fun _ hb hlt => ⟨⟨hb.1, hlt⟩, hb.2⟩⟩
theorem MatR.redo (h : MatR w1 B E us L) {i : Nat} {u : Value} {l : List Int} (hi : i < L.length) (ha : Arr w3 B 175 (us.set i u)) (hk : ∀ b, E b → b ≠ B → b < w1.heap.size → w3.heap[b]? = w1.heap[b]?) (hr : PvD w3 (fun b => E' b ∧ b ≠ B) u l) (hE : ∀ b, E b → E' b) : MatR w3 B E' (us.set i u) (L.set i l) := by
 refine ⟨ha, by simp [h.len], fun k x y hx hy => ?_⟩
 by_cases e : i = k
 ·subst e
  rw [List.getElem?_set_self (by rw [h.len]; exact hi)] at hx
  rw [List.getElem?_set_self hi] at hy
  injection hx with hx; injection hy with hy; subst hx hy
  exact hr
 ·rw [List.getElem?_set_ne e] at hx hy
  exact Foot.mono (Foot.keep (h.rows k x y hx hy) fun b hb => hk b hb.1 hb.2) fun b hb _ => ⟨hE b hb.1, hb.2⟩
end
set_option maxRecDepth 100000 in
set_option maxHeartbeats 4000000 in
theorem Times_any {w : World} {A A' : Option Addr} {q c p c' n : Nat} {L N : List (List Int)} (h : RM w (.slice A q c) L) (h' : RM w (.slice A' p c') N) (hq : q ≤ 1000000) (hp : p ≤ 1000000) (hp0 : 0 < p) (hn : n ≤ 1000000) (hn0 : 0 < n)
  (hL : ∀ l ∈ L, l.length = p) (hN : ∀ l ∈ N, l.length = n) (hfL : fitM L = true) (hfN : fitM N = true) :
  Calls Tryz.prog 168 #[.slice A q c, .slice A' p c'] w (Gives w fun w' v => RowsD PvD w' (w.heap.size ≤ ·) v (tms L N)) := by
 have HL := Lib.hid (RowsD.room h).1.symm
 have HN := Lib.hid (RowsD.room h').1.symm
 have HLL := Lib.hid hL
 have HNN := Lib.hid hN
 have HFL := Lib.hid hfL
 have HFN := Lib.hid hfN
 have hlen0 : (rw_ N 0).length = n := hN _ (rw_mem (by rw [HN.out]; exact hp0))
 have HT : Hid (tms L N = L.map fun r => rowT N n r r.length) := Lib.hid (by unfold tms; rw [hlen0])
 clear hL hN hfL hfN hlen0
 replace h := RowsD.mono (D' := (· < w.heap.size)) h fun _ _ hb => hb
 replace h' := RowsD.mono (D' := (· < w.heap.size)) h' fun _ _ hb => hb
 obtain ⟨b0', off0', u0, e0, hc0, hu0⟩ := RowsD.at h' (rw_some (L := N) (i := 0) (by rw [HN.out]; exact hp0))
 obtain ⟨Au0, cu0, rfl, _⟩ := hu0
 rw [HNN.out _ (rw_mem (by rw [HN.out]; exact hp0)), Nat.add_zero] at hc0
 have HE0 := Lib.hid e0
 go_enter Tryz.func168, Tryz.ntmps168
 go_wp2_with (at_make; go_must (refine wpList_make_arr _ rfl _ _ _ rfl 175 (.slice none 0 0) 1 24 Tryz.underlying113 info_Row _ _ _ _ q rfl rfl (by omega) (by omega) (by omega) (by omega) ?_); intro w1 ha hb hz)
 have HB1 := Lib.hid hb
 have hm := MatR.make (E := (w.heap.size ≤ ·)) ha
 have HZ := Lib.hid hz
 clear hz ha hb
 go_loopw [15] (fun iv wr => ∃ (i : Nat) (us : List Value), iv = .int .i64 i ∧ i ≤ q ∧ MatR wr w.heap.size (w.heap.size ≤ ·) us ((tms L N).take i ++ List.replicate (q - i) []) ∧ Below w.heap.size w wr) (fun iv _ => q - (intOf iv).toNat)
 case atStart => exact ⟨0, _, rfl, by omega, by simpa using hm, HB1.out⟩
 case round =>
  obtain ⟨i, us, rfl, hi, hmx, hbr⟩ := hrel
  clear hm
  have hlt := hmx.lt
  have htl : (tms L N).length = q := by rw [HT.out, List.length_map, HL.out]
  rcases Nat.lt_or_ge i q with hiq | hiq
  ·obtain ⟨wo, rfl⟩ : ∃ wo, wo = wr := ⟨_, rfl⟩
   have hx := rw_some (L := L) (i := i) (by rw [HL.out]; exact hiq)
   obtain ⟨b, off, u, rfl, hc, hu⟩ := RowsD.at h hx
   obtain ⟨Au, cu, rfl, hpu⟩ := hu
   have hpv : PvD w (· < w.heap.size) (.slice Au (rw_ L i).length cu) (rw_ L i) := ⟨Au, cu, rfl, hpu⟩
   rw [HLL.out _ (rw_mem (by rw [HL.out]; exact hiq))] at hpv hc
   replace hc := keepB hbr hc
   have hc1 := keepB hbr hc0
   have z0 := hmx.arr.frozen i
   have hlen2 : ((tms L N).take i ++ List.replicate (q - i) ([] : List Int)).length = q := by rw [List.length_append, List.length_take, List.length_replicate, htl]; omega
   obtain ⟨uo, _, z2, _⟩ := hmx.at (i := i) (by rw [hlen2]; exact hiq)
   have HSTEP := Lib.hid (set_snoc (z := ([] : List Int)) hiq htl (show (tms L N)[i]? = some (rowT N n (rw_ L i) p) by rw [HT.out, List.getElem?_map, hx]; show some (rowT N n (rw_ L i) (rw_ L i).length) = _; rw [HLL.out _ (rw_mem (by rw [HL.out]; exact hiq))]))
   have HFR := Lib.hid (fitM_rw HFL.out i)
   have HPV := Lib.hid hpv
   have HLE := Lib.hid hlen2
   have HRL := Lib.hid (show (rw_ L i).length = p from HLL.out _ (rw_mem (by rw [HL.out]; exact hiq)))
   have HMO := Lib.hid hmx.old
   have HBR := Lib.hid hbr
   clear hpv hpu hx hmx hlen2 hbr htl
   have a1 : (0 : Int) ≤ (i : Int) := by omega
   have a2 : (i : Int) < (q : Int) := by omega
   have a3 : (0 : Int) < (p : Int) := by omega
   obtain ⟨rfl⟩ := HE0.out
   go_upto_region 6 with (at_make; go_must (refine wpList_make_arr _ rfl _ _ _ rfl 40 (.agg #[.bool false, .slice none 0 0]) 2 32 Tryz.underlying175 info_Int _ _ _ _ n rfl rfl (by omega) (by omega) (by omega) (by omega) ?_); intro w2 ha hb hz; have y0 := keepB hb z2; have y1 := ((bcell hb).2 _ _ hlt).trans z0)
   obtain ⟨G, hG⟩ : ∃ G, G = wo.heap.size := ⟨_, rfl⟩
   have hGB : w.heap.size ≠ G := by rw [hG]; omega
   have hwG : w.heap.size < G := by rw [hG]; exact hlt
   rw [← hG] at ha ⊢
   obtain ⟨w3, hw3⟩ : ∃ V, V = w2.setCell ⟨w.heap.size, i, none⟩ (.slice (some ⟨G, 0, none⟩) n n) := ⟨_, rfl⟩
   rw [← hw3]
   have ha3 := ha.far (p := ⟨w.heap.size, i, none⟩) (fun e => hGB e.symm) (.slice (some ⟨G, 0, none⟩) n n)
   rw [← hw3] at ha3
   have hrow := OwnR.made (base := w.heap.size) (D := (G < ·)) (Nat.le_of_lt hwG) (show n ≤ maxLen by unfold maxLen; omega) ha3
   have hfB : Frm (· = w.heap.size) w2 w3 := by rw [hw3]; exact Frm.setCell (O := (· = w.heap.size)) (p := ⟨w.heap.size, i, none⟩) (fun _ => rfl) _
   have hm2 := HMO.out.below hb
   have harr3 : Arr w3 w.heap.size 175 (us.set i (.slice (some ⟨G, 0, none⟩) n n)) := by rw [hw3]; exact hm2.arr.set_ _ _
   have hui : i < us.length := by rw [HMO.out.len, HLE.out]; exact hiq
   have HAR := Lib.hid harr3
   have HFB := Lib.hid hfB
   have HM2 := Lib.hid hm2
   have hb13 : Below w.heap.size w w3 := by rw [hw3]; exact (HBR.out.trans (hb.mono HBR.out.size)).setCell (p := ⟨w.heap.size, i, none⟩) (Nat.le_refl _) _
   have HB13 := Lib.hid hb13
   have hws3 : G < w3.heap.size := ha3.lt
   have hwB3 : w.heap.size < w3.heap.size := Nat.lt_trans hwG hws3
   have HRW0 := Lib.hid hrow
   have HGE := Lib.hid hG
   replace hc1 := keepW hb13 (cell_lt hc0) hc0
   clear hw3 ha ha3 hrow hfB hm2 harr3 hb hz y0 y1 hb13 hG hc z0 z2
   go_wp2_with fail
   go_loopw [30] (fun jv wr => ∃ j : Nat, jv = .int .i64 j ∧ j ≤ p ∧ OwnR wr w.heap.size (G < ·) (.slice (some ⟨G, 0, none⟩) n n) (rowT N n (rw_ L i) j) ∧ Frm (· = G) w3 wr) (fun jv _ => p - (intOf jv).toNat)
   case atStart => exact ⟨0, rfl, by omega, HRW0.out, Frm.refl _ _⟩
   case round =>
    obtain ⟨j, rfl, hj, hown, hfi⟩ := hrel
    rcases Nat.lt_or_ge j p with hjp | hjp
    ·have hbw : Below w.heap.size w wr := HB13.out.trans (hfi.below HB13.out.size fun b e => by rw [e]; exact Nat.le_of_lt hwG)
     obtain ⟨b1, off1, neg, B1, m1, k1, rfl, _, e0, e1, e2⟩ := PvD.at (Foot.below HPV.out hbw) hjp
     obtain ⟨b2, off2, u2, e3, hc2, hu2⟩ := RowsD.at h' (rw_some (L := N) (i := j) (by rw [HN.out]; exact hjp))
     injection e3 with e3
     injection e3 with e3 e4
     subst e3 e4
     obtain ⟨Au2, cu2, rfl, hpu2⟩ := hu2
     have hpv2 : PvD w (· < w.heap.size) (.slice Au2 (rw_ N j).length cu2) (rw_ N j) := ⟨Au2, cu2, rfl, hpu2⟩
     rw [HNN.out _ (rw_mem (by rw [HN.out]; exact hjp))] at hpv2 hc2
     replace hc2 := keepB hbw hc2
     obtain ⟨W2, hW2⟩ : ∃ W2, W2 = wr.alloc (.cells #[.bool neg, .slice B1 m1 k1] 40) := ⟨_, rfl⟩
     have HB2 : Below wr.heap.size wr W2 := by rw [hW2]; exact (Below.refl _ _).alloc (Nat.le_refl _) _
     have x0 : W2.cell? ⟨wr.heap.size, 0, none⟩ = some (.bool neg) := by rw [hW2]; go_simp
     have x1 : W2.cell? ⟨wr.heap.size, 1, none⟩ = some (.slice B1 m1 k1) := by rw [hW2]; go_simp
     have hco : W2.cell? ⟨w.heap.size, i, none⟩ = some (.slice (some ⟨G, 0, none⟩) n n) := by
      have h1 := (hfi.arr HAR.out hGB).cell i
      rw [List.getElem?_set_self hui] at h1
      exact keepB HB2 h1
     replace hc2 := keepB HB2 hc2
     have HW2 := Lib.hid hW2
     have hr2 := hown.below HB2
     have hk2 : NIntV W2 (· ≠ G) (.agg #[.bool neg, .slice B1 m1 k1]) (gz (rw_ L i) j) := (e2.below HB2).dd fun b (hb : b < w.heap.size) => by omega
     have hpv3 : PvD W2 (· ≠ G) (.slice Au2 n cu2) (rw_ N j) := Foot.mono (Foot.below (Foot.below hpv2 hbw) HB2) fun b (hb : b < w.heap.size) _ => by show b ≠ G; omega
     have hwk := fit_wl (fitR_gz HFR.out j)
     have HAD := Lib.hid (fun w' (hb' : Below W2.heap.size W2 w') => add_any (hr2.below hb') (Nat.lt_irrefl G) (fun b hb => Nat.lt_of_lt_of_le hws3 (Nat.le_trans hfi.size (Nat.le_trans HB2.size (Nat.le_trans hb'.size hb)))) (hk2.below hb') (Foot.below hpv3 hb') (rowT_length _ _ _ _) (Nat.le_refl _) hn (by omega) (fun t => Nat.le_trans (wl_rowT HFN.out HFR.out j t) (by omega)) (fun t => Nat.le_trans (fit_wl (fitR_gz (fitM_rw HFN.out j) t)) (by omega)))
     have HFI := Lib.hid (hfi.over HB2)
     have hwW : w.heap.size < W2.heap.size := Nat.lt_of_lt_of_le hwB3 (Nat.le_trans hfi.size HB2.size)
     have hbW2 : b0' < W2.heap.size := cell_lt hc2
     have hx0 : wr.heap.size < W2.heap.size := cell_lt x0
     clear hW2 hown hfi hpv2 hpu2 hr2 hk2 hpv3 hwk e2 hbw
     have a4 : (0 : Int) ≤ (j : Int) := by omega
     have a5 : (j : Int) < (p : Int) := by omega
     go_upto_region 9 with (fail)
     rw [← HW2.out]
     have hs0 : Below W2.heap.size W2 W2.drew := (Below.refl _ _).drew
     refine wp_region_tr5 (.read 0 (.read 1 (.read 2 (.read 3 (.read 4 (.read 5 (.read 6 (.read 7 (.read 8 (.step 9 .nil)))))))))) [9] (by kernel_rfl) (by rfl) (by kernel_rfl) (by kernel_rfl) (fun _ _ _ _ _ h => h) (fun V => Below W2.heap.size W2 V) ?_
     change goU _ _ _ _ _ _ _ W2.drew
     refine goU_read 35 hs0 (by rfl) (by rfl) ?_ (by rfl) (fun wz hSw => ?_) ?_
     rotate_left
     ·have y0 := keepB hSw hco; have y1 := keepB hSw hc2; have y2 := keepB hSw x0; have y3 := keepB hSw x1; go_simp
      try with_reducible rfl
     simp only [sIB, List.set]
     refine goU_read 36 hs0 (by rfl) (by rfl) ?_ (by rfl) (fun wz hSw => ?_) ?_
     rotate_left
     ·have y0 := keepB hSw hco; have y1 := keepB hSw hc2; have y2 := keepB hSw x0; have y3 := keepB hSw x1; go_simp
      try with_reducible rfl
     simp only [sIB, List.set]
     refine goU_read 37 hs0 (by rfl) (by rfl) ?_ (by rfl) (fun wz hSw => ?_) ?_
     rotate_left
     ·have y0 := keepB hSw hco; have y1 := keepB hSw hc2; have y2 := keepB hSw x0; have y3 := keepB hSw x1; go_simp
      try with_reducible rfl
     simp only [sIB, List.set]
     refine goU_read 38 hs0 (by rfl) (by rfl) ?_ (by rfl) (fun wz hSw => ?_) ?_
     rotate_left
     ·have y0 := keepB hSw hco; have y1 := keepB hSw hc2; have y2 := keepB hSw x0; have y3 := keepB hSw x1; go_simp
      try with_reducible rfl
     simp only [sIB, List.set]
     refine goU_read 39 hs0 (by rfl) (by rfl) ?_ (by rfl) (fun wz hSw => ?_) ?_
     rotate_left
     ·have y0 := keepB hSw hco; have y1 := keepB hSw hc2; have y2 := keepB hSw x0; have y3 := keepB hSw x1; go_simp
      try with_reducible rfl
     simp only [sIB, List.set]
     refine goU_read 40 hs0 (by rfl) (by rfl) ?_ (by rfl) (fun wz hSw => ?_) ?_
     rotate_left
     ·have y0 := keepB hSw hco; have y1 := keepB hSw hc2; have y2 := keepB hSw x0; have y3 := keepB hSw x1; go_simp
      try with_reducible rfl
     simp only [sIB, List.set]
     refine goU_read 41 hs0 (by rfl) (by rfl) ?_ (by rfl) (fun wz hSw => ?_) ?_
     rotate_left
     ·have y0 := keepB hSw hco; have y1 := keepB hSw hc2; have y2 := keepB hSw x0; have y3 := keepB hSw x1; go_simp
      try with_reducible rfl
     simp only [sIB, List.set]
     refine goU_read 42 hs0 (by rfl) (by rfl) ?_ (by rfl) (fun wz hSw => ?_) ?_
     rotate_left
     ·have y0 := keepB hSw hco; have y1 := keepB hSw hc2; have y2 := keepB hSw x0; have y3 := keepB hSw x1; go_simp
      try with_reducible rfl
     simp only [sIB, List.set]
     refine goU_read 43 hs0 (by rfl) (by rfl) ?_ (by rfl) (fun wz hSw => ?_) ?_
     rotate_left
     ·have y0 := keepB hSw hco; have y1 := keepB hSw hc2; have y2 := keepB hSw x0; have y3 := keepB hSw x1; go_simp
      try with_reducible rfl
     simp only [sIB, List.set]
     refine goU_call 44 (by rfl) (by rfl) (by rfl) (by go_simp) (HAD.out _ hs0) ?_
     rintro e w6 ⟨rfl, hr6, hf6⟩
     refine ⟨_, rfl, fun h => absurd h (by decide), ?_⟩
     simp only [sIB, List.set]
     show Exit.inBlock _ _ .normal _ _
     go_wp2_with fail
     go_round
     case rel => exact ⟨j + 1, by go_num, by omega, hr6, (HFI.out.over hs0).trans hf6⟩
     case measure => simp [intOf]; omega
    ·obtain rfl : j = p := by omega
     have hpvd : PvD wr (fun b => w.heap.size ≤ b ∧ b ≠ w.heap.size) (.slice (some ⟨G, 0, none⟩) n n) (rowT N n (rw_ L i) j) := hown.pvd fun b hb => by
      rcases hb with hb | hb
      ·omega
      ·have hb2 : some G = some b := hb
       injection hb2 with hb2
       omega
     have hm9 := HM2.out.redo (i := i) (E' := (w.heap.size ≤ ·)) (w3 := wr) (u := .slice (some ⟨G, 0, none⟩) n n) (by rw [HLE.out]; exact hiq) (hfi.arr HAR.out hGB) (fun b hb hne hlt2 => (hfi.block b (Nat.lt_of_lt_of_le hlt2 HFB.out.size) (by have := hb.2; have := HGE.out; omega)).trans (HFB.out.block b hlt2 hne)) hpvd (fun b hb => hb.1)
     rw [HSTEP.out] at hm9
     go_wp2_with fail
     go_round
     case rel => exact ⟨i + 1, _, by go_num, by omega, hm9, HB13.out.trans (hfi.below HB13.out.size fun b e => by rw [e]; exact Nat.le_of_lt hwG)⟩
     case measure => simp [intOf]; omega
  ·obtain rfl : i = q := by omega
   rw [Nat.sub_self, List.replicate_zero, List.append_nil, List.take_of_length_le (by rw [htl]; exact Nat.le_refl _)] at hmx
   go_wp2_with fail
   go_ret
   have hz := HZ.out
   exact ⟨_, rfl, RowsD.mono (hmx.rd htl (Nat.le_refl _) (by unfold maxLen; omega)) fun b hb _ => hb.elim id fun h => by show w.heap.size ≤ b; omega, hbr⟩
end Go.Proofs.YtdjpeimecfhdjaaGreat

namespace Go.Proofs.YtdjpeimecfhdjaaGreat
open Go.RowKit
theorem netR_len (H : List (List Int)) (g : Int) : (netR H g).length = H.length := by unfold netR ovr; rw [List.length_map]
theorem netR_rows {H : List (List Int)} {g : Int} {n : Nat} (h : ∀ l ∈ H, l.length = n) : ∀ l ∈ netR H g, l.length = n := fun l hl => by
 obtain ⟨m, hm, rfl⟩ := List.mem_map.1 hl
 rw [List.length_map]
 exact h m hm
set_option maxHeartbeats 1000000 in
theorem algCheck_ok {aA aB : Int} (w : World) (h1 : aA ≠ 0) (h2 : aB ≠ 0) (h3 : -1000 ≤ aA ∧ aA ≤ 1000) (h4 : -1000 ≤ aB ∧ aB ≤ 1000) :
  Calls Tryz.prog 178 #[.agg #[.int .i64 aA, .int .i64 aB]] w fun e w' => e = .returned (.int .i64 0) ∧ Below w.heap.size w w' := by
 obtain ⟨W, hW⟩ : ∃ W, W = w.alloc (.cells #[.int .i64 aA, .int .i64 aB] 23) := ⟨_, rfl⟩
 have hbW : Below w.heap.size w W := by rw [hW]; exact (Below.refl _ _).alloc (Nat.le_refl _) _
 have b0 : W.cell? ⟨w.heap.size, 0, none⟩ = some (.int .i64 aA) := by rw [hW]; go_simp
 have b1 : W.cell? ⟨w.heap.size, 1, none⟩ = some (.int .i64 aB) := by rw [hW]; go_simp
 have HWW := Lib.hid hW
 clear hW
 have e1 : (aA == 0) = false := by simpa using h1
 have e2 : (aB == 0) = false := by simpa using h2
 have e3 : ¬ aA < -1000 := by omega
 have e4 : ¬ 1000 < aA := by omega
 have e5 : ¬ aB < -1000 := by omega
 have e6 : ¬ 1000 < aB := by omega
 clear h1 h2 h3 h4
 go_enter Tryz.func178, Tryz.ntmps178
 go_upto_region 1 with (fail)
 rw [← HWW.out]
 go_wp2_with fail
 go_ret
 exact ⟨rfl, hbW⟩
noncomputable def ireReg (n : Nat) : Code := (regOf n ((Tryz.f99.body).getD .skip)).getD .skip
set_option maxRecDepth 100000 in
set_option maxHeartbeats 4000000 in
theorem ireReg_any {w : World} {Q : Exit → Act → World → Prop} {PA P q c f : Nat} {A : Option Addr} {aA aB den : Int} {L H : List (List Int)} {t0 t1 t4 t5 t6 t7 t8 t9 t10 t11 t12 t13 t14 t15 t16 t17 t18 t19 t20 t21 t22 t23 t24 t25 t26 t27 t28 t29 t30 t31 t32 t33 t34 t35 t36 t37 t38 t39 t40 t41 t42 : Value}
  (a0 : w.cell? ⟨PA, 0, none⟩ = some (.int .i64 aA)) (a1 : w.cell? ⟨PA, 1, none⟩ = some (.int .i64 aB)) (b0 : w.cell? ⟨P, 0, none⟩ = some (.int .i64 4)) (b1 : w.cell? ⟨P, 1, none⟩ = some (.slice A q c)) (b2 : w.cell? ⟨P, 2, none⟩ = some (.int .i64 den))
  (hR : RowsD IsD w (fun _ => True) (.slice A q c) L) (HL : Hid (L.length = q)) (hG : Good 4 den L) (HM : Hid (herm f L = some H))
  (hQ : ∀ (w' : World) (G A6 c6 n6 B6 m6 k6) (u20 u21 u22 u23 u24 u25 u26 u27 : Value), Arr w' G 136 [.int .i64 aA, .int .i64 aB, .slice A6 H.length c6, .bool n6, .slice B6 m6 k6] → RowsD PvD w' (fun b => w.heap.size ≤ b ∧ b ≠ G) (.slice A6 H.length c6) (netR H den) → NIntV w' (fun b => w.heap.size ≤ b ∧ b ≠ G) (.agg #[.bool n6, .slice B6 m6 k6]) (netD H den) → w.heap.size ≤ G → Below w.heap.size w w' → Q .normal ⟨#[t0, t1, .pointer (some ⟨PA, 0, none⟩), .pointer (some ⟨P, 0, none⟩), t4, t5, t6, .pointer (some ⟨G, 0, none⟩), t8, t9, t10, t11, t12, t13, t14, t15, t16, t17, t18, t19, u20, u21, u22, u23, u24, u25, u26, u27, t28, t29, t30, t31, t32, t33, t34, t35, t36, t37, t38, t39, t40, t41, t42], []⟩ w') :
  (ireReg 6).wp Tryz.prog Q ⟨#[t0, t1, .pointer (some ⟨PA, 0, none⟩), .pointer (some ⟨P, 0, none⟩), t4, t5, t6, t7, t8, t9, t10, t11, t12, t13, t14, t15, t16, t17, t18, t19, t20, t21, t22, t23, t24, t25, t26, t27, t28, t29, t30, t31, t32, t33, t34, t35, t36, t37, t38, t39, t40, t41, t42], []⟩ w := by
 have HQ := Lib.hid hQ
 clear hQ
 have hG0 := hG
 have HG := Lib.hid hG
 have hq64 := hG.q
 rw [HL.out] at hq64
 have HOF := Lib.hid (fun w' (hb : Below w.heap.size w w') => wOf_any (RowsD.below hR hb) (by omega) (fun l hl => by rw [hG0.rows l hl]; have := hG0.d2; omega) hG0.i64)
 have HOI := Lib.hid (fun w' => Of_any den w' (by have := hG0.e1; omega) (by have := hG0.e2; omega))
 have hA0 : PA < w.heap.size := cell_lt a0
 have hP0 : P < w.heap.size := cell_lt b0
 clear hG0 hG hR
 show Code.wp _ (Code.region 6 (List.toArray _) true) _ _ _
 obtain ⟨v0, hv0⟩ : ∃ v0, v0 = w.drew := ⟨_, rfl⟩
 have hs : Below w.heap.size w v0 := by rw [hv0]; exact (Below.refl _ _).drew
 refine wp_region_tq5 (.read 0 (.read 1 (.read 2 (.read 4 (.read 5 (.two 3 8 (.two 6 8 (.two 7 8 (.step 8 (.step 9 .nil)) (.step 7 (.step 9 .nil))) (.step 6 (.step 7 (.step 9 .nil)))) (.step 3 (.step 6 (.step 7 (.step 9 .nil)))))))))) [9] (by kernel_rfl) (by rfl) (by kernel_rfl) (by kernel_rfl) (fun V => Below w.heap.size w V) ?_
 change goU _ _ _ _ _ _ _ w.drew
 rw [← hv0]
 clear hv0
 refine goU_read 20 hs (by rfl) (by rfl) ?_ (by rfl) (fun wz hSw => ?_) ?_
 rotate_left
 ·have y0 := keepW hSw hP0 b0; have y1 := keepW hSw hP0 b1; have y2 := keepW hSw hP0 b2; have z0 := keepW hSw hA0 a0; have z1 := keepW hSw hA0 a1; go_simp
  try with_reducible rfl
 simp only [sIB, List.set]
 refine goU_read 21 hs (by rfl) (by rfl) ?_ (by rfl) (fun wz hSw => ?_) ?_
 rotate_left
 ·have y0 := keepW hSw hP0 b0; have y1 := keepW hSw hP0 b1; have y2 := keepW hSw hP0 b2; have z0 := keepW hSw hA0 a0; have z1 := keepW hSw hA0 a1; go_simp
  try with_reducible rfl
 simp only [sIB, List.set]
 refine goU_read 22 hs (by rfl) (by rfl) ?_ (by rfl) (fun wz hSw => ?_) ?_
 rotate_left
 ·have y0 := keepW hSw hP0 b0; have y1 := keepW hSw hP0 b1; have y2 := keepW hSw hP0 b2; have z0 := keepW hSw hA0 a0; have z1 := keepW hSw hA0 a1; go_simp
  try with_reducible rfl
 simp only [sIB, List.set]
 refine goU_read 24 hs (by rfl) (by rfl) ?_ (by rfl) (fun wz hSw => ?_) ?_
 rotate_left
 ·have y0 := keepW hSw hP0 b0; have y1 := keepW hSw hP0 b1; have y2 := keepW hSw hP0 b2; have z0 := keepW hSw hA0 a0; have z1 := keepW hSw hA0 a1; go_simp
  try with_reducible rfl
 simp only [sIB, List.set]
 refine goU_read 25 hs (by rfl) (by rfl) ?_ (by rfl) (fun wz hSw => ?_) ?_
 rotate_left
 ·have y0 := keepW hSw hP0 b0; have y1 := keepW hSw hP0 b1; have y2 := keepW hSw hP0 b2; have z0 := keepW hSw hA0 a0; have z1 := keepW hSw hA0 a1; go_simp
  try with_reducible rfl
 simp only [sIB, List.set]
 refine goU_two (by rfl) (by rfl) ?_ ?_
 ·go_wp2_with (go_at_call 129; refine (HOF.out _ hs).mono ?_; rintro e v1 ⟨vr, rfl, hrows, hb0⟩; obtain ⟨A4, c4, rfl⟩ := RowsD.slice_ hrows (n := q) HL.out)
  replace hrows : RowsD PvD v1 (fun b => w.heap.size ≤ b) _ _ := RowsD.mono hrows fun b (hb : _ ≤ b) _ => Nat.le_trans hs.size hb
  replace hs := hs.trans (hb0.mono hs.size)
  refine ⟨fun _ => hs, ?_⟩
  refine goU_two (by rfl) (by rfl) ?_ ?_
  ·go_wp2_with (go_at_call 88; refine (HOI.out _).mono ?_; rintro e v2 ⟨vn, rfl, hnum, hb1⟩)
   replace hnum : NIntV v2 (fun b => w.heap.size ≤ b) _ _ := hnum.dd fun b (hb : _ ≤ b) => Nat.le_trans hs.size hb
   replace hrows := RowsD.below hrows hb1
   replace hs := hs.trans (hb1.mono hs.size)
   refine ⟨fun _ => hs, ?_⟩
   refine goU_two (by rfl) (by rfl) ?_ ?_
   ·go_wp2_with (go_at_call 159; refine (inetOf_any (aA := aA) (aB := aB) hrows hnum (by omega) HG.out.rows (by omega) (by omega) HG.out.fit (wl_den HG.out.e1 HG.out.e2) (by have := HG.out.e1; omega) HM.out).mono ?_; rintro e v3 ⟨v6, rfl, ⟨A6, c6, n6, B6, m6, k6, rfl, hv6, hd6⟩, hb2⟩)
    replace hv6 : RowsD PvD v3 (fun b => w.heap.size ≤ b) (.slice A6 H.length c6) (netR H den) := RowsD.mono hv6 fun b hb _ => hb.elim id fun hb => Nat.le_trans hs.size hb
    replace hd6 : NIntV v3 (fun b => w.heap.size ≤ b) _ _ := hd6.dd fun b (hb : _ ≤ b) => Nat.le_trans hs.size hb
    clear hrows hnum
    replace hs := hs.trans (hb2.mono hs.size)
    refine ⟨fun _ => hs, ?_⟩
    refine goU_step (by rfl) ?_
    go_wp2_with fail
    obtain ⟨v4, hv4⟩ : ∃ V, V = v3.alloc (.cells #[.int .i64 0, .int .i64 0, .slice none 0 0, .bool false, .slice none 0 0] 136) := ⟨_, rfl⟩
    obtain ⟨G, hGe⟩ : ∃ G, G = v3.heap.size := ⟨_, rfl⟩
    have hG : Arr v4 G 136 [.int .i64 0, .int .i64 0, .slice none 0 0, .bool false, .slice none 0 0] := by rw [hv4, hGe]; exact Arr.new v3 _ [.int .i64 0, .int .i64 0, .slice none 0 0, .bool false, .slice none 0 0]
    have hb3 : Below v3.heap.size v3 v4 := by rw [hv4]; exact (Below.refl _ _).alloc (Nat.le_refl _) _
    have hGw : w.heap.size ≤ G := by rw [hGe]; exact hs.size
    rw [← hv4, ← hGe]
    replace hv6 : RowsD PvD v3 (fun b => w.heap.size ≤ b ∧ b ≠ G) _ _ := RowsD.mono hv6 fun b hb hl => ⟨hb, by omega⟩
    replace hd6 : NIntV v3 (fun b => w.heap.size ≤ b ∧ b ≠ G) _ _ := hd6.mono fun b hb hl => ⟨hb, by omega⟩
    clear hv4 hGe
    replace hv6 := RowsD.below hv6 hb3
    replace hd6 := hd6.below hb3
    replace hs := hs.trans (hb3.mono hs.size)
    first | refine ⟨fun _ => hs, ?_⟩ | refine ⟨hs, ?_⟩
    have r0 := hG.rd (i := 0) rfl
    have f0 := hG.frozen 0
    have r1 := hG.rd (i := 1) rfl
    have f1 := hG.frozen 1
    have r2 := hG.rd (i := 2) rfl
    have f2 := hG.frozen 2
    have r3 := hG.rd (i := 3) rfl
    have f3 := hG.frozen 3
    have r4 := hG.rd (i := 4) rfl
    have f4 := hG.frozen 4
    refine goU_step (by rfl) ?_
    go_wp2_with fail
    try (refine ⟨fun h => absurd h (by decide), ?_⟩)
    refine goU_nilN ?_
    have hfr : ∀ (i : Nat) (u : Value) (V : World), Frm (· = G) V (V.setCell ⟨G, i, none⟩ u) := fun i u V => Frm.setCell (O := (· = G)) (p := ⟨G, i, none⟩) (fun _ => rfl) u
    have hff := ((((hfr 0 (.int .i64 aA) v4).trans (hfr 1 (.int .i64 aB) _)).trans (hfr 2 (.slice A6 H.length c6) _)).trans (hfr 3 (.bool n6) _)).trans (hfr 4 (.slice B6 m6 k6) _)
    exact HQ.out _ G A6 c6 n6 B6 m6 k6 _ _ _ _ _ _ _ _ (((((hG.set_ 0 _).set_ 1 _).set_ 2 _).set_ 3 _).set_ 4 _) (Frm.foot hff hv6 fun b hb => hb.2) (Frm.nint hff hd6 fun b hb => hb.2) hGw (hs.trans (Frm.below hff hs.size fun b e => by rw [e]; exact hGw))
   ·go_wp2_with fail
    obtain ⟨v3, hv3⟩ : ∃ V, V = v2.alloc (.cells #[.int .i64 0, .int .i64 0, .slice none 0 0, .bool false, .slice none 0 0] 136) := ⟨_, rfl⟩
    obtain ⟨G, hGe⟩ : ∃ G, G = v2.heap.size := ⟨_, rfl⟩
    have hG : Arr v3 G 136 [.int .i64 0, .int .i64 0, .slice none 0 0, .bool false, .slice none 0 0] := by rw [hv3, hGe]; exact Arr.new v2 _ [.int .i64 0, .int .i64 0, .slice none 0 0, .bool false, .slice none 0 0]
    have hb2 : Below v2.heap.size v2 v3 := by rw [hv3]; exact (Below.refl _ _).alloc (Nat.le_refl _) _
    have hGw : w.heap.size ≤ G := by rw [hGe]; exact hs.size
    rw [← hv3, ← hGe]
    replace hrows : RowsD PvD v2 (fun b => w.heap.size ≤ b ∧ b ≠ G) _ _ := RowsD.mono hrows fun b hb hl => ⟨hb, by omega⟩
    replace hnum : NIntV v2 (fun b => w.heap.size ≤ b ∧ b ≠ G) _ _ := hnum.mono fun b hb hl => ⟨hb, by omega⟩
    clear hv3 hGe
    replace hrows := RowsD.below hrows hb2
    replace hnum := hnum.below hb2
    replace hs := hs.trans (hb2.mono hs.size)
    first | refine ⟨fun _ => hs, ?_⟩ | refine ⟨hs, ?_⟩
    refine goU_step (by rfl) ?_
    go_wp2_with (go_at_call 159; refine (inetOf_any (aA := aA) (aB := aB) hrows hnum (by omega) HG.out.rows (by omega) (by omega) HG.out.fit (wl_den HG.out.e1 HG.out.e2) (by have := HG.out.e1; omega) HM.out).mono ?_; rintro e v4 ⟨v6, rfl, ⟨A6, c6, n6, B6, m6, k6, rfl, hv6, hd6⟩, hb3⟩)
    replace hv6 : RowsD PvD v4 (fun b => w.heap.size ≤ b ∧ b ≠ G) (.slice A6 H.length c6) (netR H den) := RowsD.mono hv6 fun b hb _ => hb.elim id fun hb => ⟨Nat.le_trans hs.size hb, fun e => by have := hG.lt; omega⟩
    replace hd6 : NIntV v4 (fun b => w.heap.size ≤ b ∧ b ≠ G) _ _ := hd6.dd fun b (hb : _ ≤ b) => ⟨Nat.le_trans hs.size hb, fun e => by have := hG.lt; omega⟩
    clear hrows hnum
    replace hG := keepA hG hb3 hG.lt
    replace hs := hs.trans (hb3.mono hs.size)
    refine ⟨fun _ => hs, ?_⟩
    have r0 := hG.rd (i := 0) rfl
    have f0 := hG.frozen 0
    have r1 := hG.rd (i := 1) rfl
    have f1 := hG.frozen 1
    have r2 := hG.rd (i := 2) rfl
    have f2 := hG.frozen 2
    have r3 := hG.rd (i := 3) rfl
    have f3 := hG.frozen 3
    have r4 := hG.rd (i := 4) rfl
    have f4 := hG.frozen 4
    refine goU_step (by rfl) ?_
    go_wp2_with fail
    try (refine ⟨fun h => absurd h (by decide), ?_⟩)
    refine goU_nilN ?_
    have hfr : ∀ (i : Nat) (u : Value) (V : World), Frm (· = G) V (V.setCell ⟨G, i, none⟩ u) := fun i u V => Frm.setCell (O := (· = G)) (p := ⟨G, i, none⟩) (fun _ => rfl) u
    have hff := ((((hfr 0 (.int .i64 aA) v4).trans (hfr 1 (.int .i64 aB) _)).trans (hfr 2 (.slice A6 H.length c6) _)).trans (hfr 3 (.bool n6) _)).trans (hfr 4 (.slice B6 m6 k6) _)
    exact HQ.out _ G A6 c6 n6 B6 m6 k6 _ _ _ _ _ _ _ _ (((((hG.set_ 0 _).set_ 1 _).set_ 2 _).set_ 3 _).set_ 4 _) (Frm.foot hff hv6 fun b hb => hb.2) (Frm.nint hff hd6 fun b hb => hb.2) hGw (hs.trans (Frm.below hff hs.size fun b e => by rw [e]; exact hGw))
  ·go_wp2_with fail
   obtain ⟨v2, hv2⟩ : ∃ V, V = v1.alloc (.cells #[.int .i64 0, .int .i64 0, .slice none 0 0, .bool false, .slice none 0 0] 136) := ⟨_, rfl⟩
   obtain ⟨G, hGe⟩ : ∃ G, G = v1.heap.size := ⟨_, rfl⟩
   have hG : Arr v2 G 136 [.int .i64 0, .int .i64 0, .slice none 0 0, .bool false, .slice none 0 0] := by rw [hv2, hGe]; exact Arr.new v1 _ [.int .i64 0, .int .i64 0, .slice none 0 0, .bool false, .slice none 0 0]
   have hb1 : Below v1.heap.size v1 v2 := by rw [hv2]; exact (Below.refl _ _).alloc (Nat.le_refl _) _
   have hGw : w.heap.size ≤ G := by rw [hGe]; exact hs.size
   rw [← hv2, ← hGe]
   replace hrows : RowsD PvD v1 (fun b => w.heap.size ≤ b ∧ b ≠ G) _ _ := RowsD.mono hrows fun b hb hl => ⟨hb, by omega⟩
   clear hv2 hGe
   replace hrows := RowsD.below hrows hb1
   replace hs := hs.trans (hb1.mono hs.size)
   first | refine ⟨fun _ => hs, ?_⟩ | refine ⟨hs, ?_⟩
   refine goU_step (by rfl) ?_
   go_wp2_with (go_at_call 88; refine (HOI.out _).mono ?_; rintro e v3 ⟨vn, rfl, hnum, hb2⟩)
   replace hnum : NIntV v3 (fun b => w.heap.size ≤ b ∧ b ≠ G) _ _ := hnum.dd fun b (hb : _ ≤ b) => ⟨Nat.le_trans hs.size hb, fun e => by have := hG.lt; omega⟩
   replace hrows := RowsD.below hrows hb2
   replace hG := keepA hG hb2 hG.lt
   replace hs := hs.trans (hb2.mono hs.size)
   refine ⟨fun _ => hs, ?_⟩
   refine goU_step (by rfl) ?_
   go_wp2_with (go_at_call 159; refine (inetOf_any (aA := aA) (aB := aB) hrows hnum (by omega) HG.out.rows (by omega) (by omega) HG.out.fit (wl_den HG.out.e1 HG.out.e2) (by have := HG.out.e1; omega) HM.out).mono ?_; rintro e v4 ⟨v6, rfl, ⟨A6, c6, n6, B6, m6, k6, rfl, hv6, hd6⟩, hb3⟩)
   replace hv6 : RowsD PvD v4 (fun b => w.heap.size ≤ b ∧ b ≠ G) (.slice A6 H.length c6) (netR H den) := RowsD.mono hv6 fun b hb _ => hb.elim id fun hb => ⟨Nat.le_trans hs.size hb, fun e => by have := hG.lt; omega⟩
   replace hd6 : NIntV v4 (fun b => w.heap.size ≤ b ∧ b ≠ G) _ _ := hd6.dd fun b (hb : _ ≤ b) => ⟨Nat.le_trans hs.size hb, fun e => by have := hG.lt; omega⟩
   clear hrows hnum
   replace hG := keepA hG hb3 hG.lt
   replace hs := hs.trans (hb3.mono hs.size)
   refine ⟨fun _ => hs, ?_⟩
   have r0 := hG.rd (i := 0) rfl
   have f0 := hG.frozen 0
   have r1 := hG.rd (i := 1) rfl
   have f1 := hG.frozen 1
   have r2 := hG.rd (i := 2) rfl
   have f2 := hG.frozen 2
   have r3 := hG.rd (i := 3) rfl
   have f3 := hG.frozen 3
   have r4 := hG.rd (i := 4) rfl
   have f4 := hG.frozen 4
   refine goU_step (by rfl) ?_
   go_wp2_with fail
   try (refine ⟨fun h => absurd h (by decide), ?_⟩)
   refine goU_nilN ?_
   have hfr : ∀ (i : Nat) (u : Value) (V : World), Frm (· = G) V (V.setCell ⟨G, i, none⟩ u) := fun i u V => Frm.setCell (O := (· = G)) (p := ⟨G, i, none⟩) (fun _ => rfl) u
   have hff := ((((hfr 0 (.int .i64 aA) v4).trans (hfr 1 (.int .i64 aB) _)).trans (hfr 2 (.slice A6 H.length c6) _)).trans (hfr 3 (.bool n6) _)).trans (hfr 4 (.slice B6 m6 k6) _)
   exact HQ.out _ G A6 c6 n6 B6 m6 k6 _ _ _ _ _ _ _ _ (((((hG.set_ 0 _).set_ 1 _).set_ 2 _).set_ 3 _).set_ 4 _) (Frm.foot hff hv6 fun b hb => hb.2) (Frm.nint hff hd6 fun b hb => hb.2) hGw (hs.trans (Frm.below hff hs.size fun b e => by rw [e]; exact hGw))
 ·go_wp2_with fail
  obtain ⟨v1, hv1⟩ : ∃ V, V = v0.alloc (.cells #[.int .i64 0, .int .i64 0, .slice none 0 0, .bool false, .slice none 0 0] 136) := ⟨_, rfl⟩
  obtain ⟨G, hGe⟩ : ∃ G, G = v0.heap.size := ⟨_, rfl⟩
  have hG : Arr v1 G 136 [.int .i64 0, .int .i64 0, .slice none 0 0, .bool false, .slice none 0 0] := by rw [hv1, hGe]; exact Arr.new v0 _ [.int .i64 0, .int .i64 0, .slice none 0 0, .bool false, .slice none 0 0]
  have hb0 : Below v0.heap.size v0 v1 := by rw [hv1]; exact (Below.refl _ _).alloc (Nat.le_refl _) _
  have hGw : w.heap.size ≤ G := by rw [hGe]; exact hs.size
  rw [← hv1, ← hGe]
  clear hv1 hGe
  replace hs := hs.trans (hb0.mono hs.size)
  first | refine ⟨fun _ => hs, ?_⟩ | refine ⟨hs, ?_⟩
  refine goU_step (by rfl) ?_
  go_wp2_with (go_at_call 129; refine (HOF.out _ hs).mono ?_; rintro e v2 ⟨vr, rfl, hrows, hb1⟩; obtain ⟨A4, c4, rfl⟩ := RowsD.slice_ hrows (n := q) HL.out)
  replace hrows : RowsD PvD v2 (fun b => w.heap.size ≤ b ∧ b ≠ G) _ _ := RowsD.mono hrows fun b (hb : _ ≤ b) _ => ⟨Nat.le_trans hs.size hb, fun e => by have := hG.lt; omega⟩
  replace hG := keepA hG hb1 hG.lt
  replace hs := hs.trans (hb1.mono hs.size)
  refine ⟨fun _ => hs, ?_⟩
  refine goU_step (by rfl) ?_
  go_wp2_with (go_at_call 88; refine (HOI.out _).mono ?_; rintro e v3 ⟨vn, rfl, hnum, hb2⟩)
  replace hnum : NIntV v3 (fun b => w.heap.size ≤ b ∧ b ≠ G) _ _ := hnum.dd fun b (hb : _ ≤ b) => ⟨Nat.le_trans hs.size hb, fun e => by have := hG.lt; omega⟩
  replace hrows := RowsD.below hrows hb2
  replace hG := keepA hG hb2 hG.lt
  replace hs := hs.trans (hb2.mono hs.size)
  refine ⟨fun _ => hs, ?_⟩
  refine goU_step (by rfl) ?_
  go_wp2_with (go_at_call 159; refine (inetOf_any (aA := aA) (aB := aB) hrows hnum (by omega) HG.out.rows (by omega) (by omega) HG.out.fit (wl_den HG.out.e1 HG.out.e2) (by have := HG.out.e1; omega) HM.out).mono ?_; rintro e v4 ⟨v6, rfl, ⟨A6, c6, n6, B6, m6, k6, rfl, hv6, hd6⟩, hb3⟩)
  replace hv6 : RowsD PvD v4 (fun b => w.heap.size ≤ b ∧ b ≠ G) (.slice A6 H.length c6) (netR H den) := RowsD.mono hv6 fun b hb _ => hb.elim id fun hb => ⟨Nat.le_trans hs.size hb, fun e => by have := hG.lt; omega⟩
  replace hd6 : NIntV v4 (fun b => w.heap.size ≤ b ∧ b ≠ G) _ _ := hd6.dd fun b (hb : _ ≤ b) => ⟨Nat.le_trans hs.size hb, fun e => by have := hG.lt; omega⟩
  clear hrows hnum
  replace hG := keepA hG hb3 hG.lt
  replace hs := hs.trans (hb3.mono hs.size)
  refine ⟨fun _ => hs, ?_⟩
  have r0 := hG.rd (i := 0) rfl
  have f0 := hG.frozen 0
  have r1 := hG.rd (i := 1) rfl
  have f1 := hG.frozen 1
  have r2 := hG.rd (i := 2) rfl
  have f2 := hG.frozen 2
  have r3 := hG.rd (i := 3) rfl
  have f3 := hG.frozen 3
  have r4 := hG.rd (i := 4) rfl
  have f4 := hG.frozen 4
  refine goU_step (by rfl) ?_
  go_wp2_with fail
  try (refine ⟨fun h => absurd h (by decide), ?_⟩)
  refine goU_nilN ?_
  have hfr : ∀ (i : Nat) (u : Value) (V : World), Frm (· = G) V (V.setCell ⟨G, i, none⟩ u) := fun i u V => Frm.setCell (O := (· = G)) (p := ⟨G, i, none⟩) (fun _ => rfl) u
  have hff := ((((hfr 0 (.int .i64 aA) v4).trans (hfr 1 (.int .i64 aB) _)).trans (hfr 2 (.slice A6 H.length c6) _)).trans (hfr 3 (.bool n6) _)).trans (hfr 4 (.slice B6 m6 k6) _)
  exact HQ.out _ G A6 c6 n6 B6 m6 k6 _ _ _ _ _ _ _ _ (((((hG.set_ 0 _).set_ 1 _).set_ 2 _).set_ 3 _).set_ 4 _) (Frm.foot hff hv6 fun b hb => hb.2) (Frm.nint hff hd6 fun b hb => hb.2) hGw (hs.trans (Frm.below hff hs.size fun b e => by rw [e]; exact hGw))
end Go.Proofs.YtdjpeimecfhdjaaGreat
