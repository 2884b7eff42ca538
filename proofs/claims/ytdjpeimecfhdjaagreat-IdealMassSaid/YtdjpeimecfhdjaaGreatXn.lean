/- Package wide: the transposed matrix. Rows that grow. Package integer: Root (of a number that is not negative). -/
import Derived.Test.YtdjpeimecfhdjaaGreatXm
namespace Go.Proofs.YtdjpeimecfhdjaaGreat
open Go.RowKit
theorem wpList_pushR (w0 : World) (d : Nat) {ops : Array Oper} {rest : List Oper} {o : Oper} {a : Act} {Q : Exit → Act → World → Prop} (hgd : o.guard = none) (hd : o.dst = some d) (s x : Operand) (t t' : TypeId)
  (ho : o.op = .call { callee := .builtin .append, args := #[s, x], argTypes := #[t, t'] })
  (base : Nat) (ht : Tryz.prog.underlying t = some (.slice 40)) (ht' : Tryz.prog.underlying t' = some (.slice 40))
  (v : Value) (l : List Int) (n : Nat) (hln : l.length = n) (hs : a.eval s = v) {D : Nat → Prop} (hown : OwnR w0 base D v l)
  (neg : Bool) (B : Option Addr) (m k : Nat) (y : Int) (G : Nat) (hG : Arr w0 G 40 [.bool neg, .slice B m k]) (hx : a.eval x = .slice (some ⟨G, 0, none⟩) 1 1) (hy : NIntV w0 D (.agg #[.bool neg, .slice B m k]) y)
  (h63 : n + 1 ≤ 1000000000) (hbase : base ≤ w0.heap.size) (hDv : ∀ b, D b → some b ≠ v.ownBlock)
  (h : ∀ A' c' w', OwnR w' base D (.slice A' (n + 1) c') (l ++ [y]) → w0.grownBy w' v.ownBlock → (∀ b, (Value.slice A' (n + 1) c').ownBlock = some b → v.ownBlock = some b ∨ w0.heap.size ≤ b) → Below base w0 w' → wpList Tryz.prog ops Q rest { a with tmps := a.tmps.setIfInBounds d (.slice A' (n + 1) c') } w') :
  wpList Tryz.prog ops Q (o :: rest) a w0 := by
 subst hln
 obtain ⟨xs, hrow, hcs⟩ := hown
 refine wpList_app _ hgd s x t t' ho base 40 40 (.agg #[.bool false, .slice none 0 0]) 2 32 ht ht' info_Int rfl (by omega) v l.length xs hs hrow _ 1 1 [.bool neg, .slice B m k] hx (src_block hG 1 2 rfl) (by simp [Value.oneCell']) (by unfold maxLen; omega) (by omega) hbase ?_
 intro v' w' hown' hg hob
 obtain ⟨A', c', rfl, _, _⟩ := own_slice hown'
 rw [put_some hd]
 refine h A' c' w' ⟨_, by rw [List.length_append]; exact hown', ?_⟩ hg (fun b hb => ?_) ((Below.refl _ _).grown hg hbase (fun k hk => (hrow.lt k hk).1))
 ·have hc3 : Cs w0 (fun b => D b ∧ b < w0.heap.size) (xs ++ [.bool neg, .slice B m k]) (l ++ [y]) := (hcs.snoc hy).mono fun b h1 h2 => ⟨h1, h2⟩
  exact (hc3.keep (w' := w') fun b o hd hb => World.cell?_of_block (hg.block b hb (hDv b hd.1))).mono fun b hd _ => hd.1
 ·rcases hob with e | e
  ·exact .inl (by rw [← e]; exact hb)
  ·rw [e] at hb
   injection hb with hb
   exact .inr (by omega)
theorem trs_length (M : List (List Int)) : (trs M).length = (rw_ M 0).length := by simp [trs]
theorem trs_at {M : List (List Int)} {i : Nat} (h : i < (rw_ M 0).length) : (trs M)[i]? = some (M.map fun r => gz r i) := by
 unfold trs
 rw [List.getElem?_map, List.getElem?_range h]
 rfl
set_option maxRecDepth 100000 in
set_option maxHeartbeats 4000000 in
theorem Transposed_any {w : World} {A : Option Addr} {q c n : Nat} {L : List (List Int)} (h : RM w (.slice A q c) L) (hq : q ≤ 1000000) (hq0 : 0 < q) (hn : n ≤ 1000000) (hL : ∀ l ∈ L, l.length = n) :
  Calls Tryz.prog 187 #[.slice A q c] w (Gives w fun w' v => RM w' v (trs L)) := by
 have HL := Lib.hid (RowsD.room h).1.symm
 have HLL := Lib.hid hL
 have hlen0 : (rw_ L 0).length = n := hL _ (rw_mem (by rw [HL.out]; exact hq0))
 have HTL := Lib.hid (show (trs L).length = n by rw [trs_length, hlen0])
 have HTA := Lib.hid (fun i (hi : i < n) => trs_at (M := L) (i := i) (by rw [hlen0]; exact hi))
 clear hL hlen0
 replace h := RowsD.mono (D' := (· < w.heap.size)) h fun _ _ hb => hb
 obtain ⟨b0', off0', u0, e0, hc0, hu0⟩ := RowsD.at h (rw_some (L := L) (i := 0) (by rw [HL.out]; exact hq0))
 obtain ⟨Au0, cu0, rfl, _⟩ := hu0
 rw [HLL.out _ (rw_mem (by rw [HL.out]; exact hq0)), Nat.add_zero] at hc0
 subst e0
 have hq1 : ((q : Int) == 0) = false := by simpa using (show ¬ (q : Int) = 0 by omega)
 have hq2 : ¬ (q : Int) = 0 := by omega
 have hq3 : (0 : Int) < (q : Int) := by omega
 go_enter Tryz.func187, Tryz.ntmps187
 go_wp2_with (at_make; go_must (refine wpList_make_arr _ rfl _ _ _ rfl 175 (.slice none 0 0) 1 24 Tryz.underlying113 info_Row _ _ _ _ n rfl rfl (by omega) (by omega) (by omega) (by omega) ?_); intro w1 ha hb hz)
 have HB1 := Lib.hid hb
 have hm := MatR.make (E := fun _ => True) ha
 have HZ := Lib.hid hz
 clear hz ha hb
 go_loopw [17] (fun iv wr => ∃ (i : Nat) (us : List Value), iv = .int .i64 i ∧ i ≤ n ∧ MatR wr w.heap.size (fun _ => True) us ((trs L).take i ++ List.replicate (n - i) []) ∧ Hid (∀ k, i ≤ k → k < n → us[k]? = some (.slice none 0 0)) ∧ Below w.heap.size w wr) (fun iv _ => n - (intOf iv).toNat)
 case atStart => exact ⟨0, _, rfl, by omega, by simpa using hm, Lib.hid (fun k _ hk => by rw [List.getElem?_replicate, if_pos hk]), HB1.out⟩
 case round =>
  obtain ⟨i, us, rfl, hi, hmx, HNIL, hbr⟩ := hrel
  clear hm
  have hlt := hmx.lt
  rcases Nat.lt_or_ge i n with hin | hin
  ·obtain ⟨wo, rfl⟩ : ∃ wo, wo = wr := ⟨_, rfl⟩
   have hlen2 : ((trs L).take i ++ List.replicate (n - i) ([] : List Int)).length = n := by rw [List.length_append, List.length_take, List.length_replicate, HTL.out]; omega
   have HSTEP := Lib.hid (set_snoc (z := ([] : List Int)) hin HTL.out (HTA.out i hin))
   have HLE := Lib.hid hlen2
   have hui : i < us.length := by rw [hmx.len, hlen2]; exact hin
   have HM := Lib.hid hmx.old
   have HBR := Lib.hid hbr
   have hset : us.set i (.slice none 0 0) = us := by
    apply List.ext_getElem?
    intro k
    rw [List.getElem?_set]
    split
    ·rename_i e; subst e; exact (HNIL.out i (Nat.le_refl _) hin).symm
    ·rfl
   have harr : Arr wo w.heap.size 175 (us.set i (.slice none 0 0)) := by rw [hset]; exact hmx.arr
   have HAR := Lib.hid harr
   clear hmx hbr hset hlen2 harr
   have a1 : (0 : Int) ≤ (i : Int) := by omega
   have a2 : (i : Int) < (n : Int) := by omega
   go_wp2_with fail
   go_loopw [22] (fun jv wr => ∃ (j : Nat) (A2 : Option Addr) (c2 : Nat), jv = .int .i64 j ∧ j ≤ q ∧ Arr wr w.heap.size 175 (us.set i (.slice A2 j c2)) ∧ OwnR wr wo.heap.size (· < w.heap.size) (.slice A2 j c2) ((L.take j).map fun r => gz r i) ∧ Frm (· = w.heap.size) wo wr) (fun jv _ => q - (intOf jv).toNat)
   case atStart => exact ⟨0, none, 0, rfl, by omega, HAR.out, OwnR.nil _ _ _, Frm.refl _ _⟩
   case round =>
    obtain ⟨j, A2, c2, rfl, hj, har, hown, hfi⟩ := hrel
    rcases Nat.lt_or_ge j q with hjq | hjq
    ·have hbw : Below w.heap.size w wr := HBR.out.trans (hfi.below HBR.out.size fun b e => by rw [e]; exact Nat.le_refl _)
     obtain ⟨b2, off2, u2, e3, hc2, hu2⟩ := RowsD.at h (rw_some (L := L) (i := j) (by rw [HL.out]; exact hjq))
     injection e3 with e3
     injection e3 with e3 e4
     subst e3 e4
     obtain ⟨Au2, cu2, rfl, hpu2⟩ := hu2
     have hpv2 : PvD w (· < w.heap.size) (.slice Au2 (rw_ L j).length cu2) (rw_ L j) := ⟨Au2, cu2, rfl, hpu2⟩
     rw [HLL.out _ (rw_mem (by rw [HL.out]; exact hjq))] at hpv2 hc2
     replace hc2 := keepB hbw hc2
     obtain ⟨b1, off1, neg, B1, m1, k1, rfl, _, e0, e1, e2⟩ := PvD.at (Foot.below hpv2 hbw) hin
     have hco : wr.cell? ⟨w.heap.size, i, none⟩ = some (.slice A2 j c2) := by
      have h1 := har.cell i
      rw [List.getElem?_set_self hui] at h1
      exact h1
     have hlw : w.heap.size < wr.heap.size := har.lt
     have HST := Lib.hid (show (L.take (j + 1)).map (fun r => gz r i) = (L.take j).map (fun r => gz r i) ++ [gz (rw_ L j) i] by rw [take_succ_rw (by rw [HL.out]; exact hjq), List.map_append]; rfl)
     have HLJ := Lib.hid (show ((L.take j).map fun r => gz r i).length = j by rw [List.length_map, List.length_take, HL.out]; omega)
     have HOW := Lib.hid hown
     have HAR2 := Lib.hid har
     have HFI := Lib.hid hfi
     have HX := Lib.hid e2
     have HBW := Lib.hid hbw
     clear hpu2 hpv2 hown har hfi e2 hbw
     have a4 : (0 : Int) ≤ (j : Int) := by omega
     have a5 : (j : Int) < (q : Int) := by omega
     go_upto_region 10 with (fail)
     have hs0 : Below wr.heap.size wr wr.drew := (Below.refl _ _).drew
     refine wp_region_tr5 (.pure 0 (.pure 1 (.read 2 (.read 3 (.read 4 (.read 5 (.read 6 (.read 7 (.read 8 (.read 9 (.step 10 (.step 11 (.step 12 (.step 13 .nil)))))))))))))) [0, 1, 11, 12, 13] (by kernel_rfl) (by rfl) (by kernel_rfl) (by kernel_rfl) (fun _ _ _ _ _ h => h) (fun V => Below wr.heap.size wr V) ?_
     change goU _ _ _ _ _ _ _ wr.drew
     refine goU_pure 26 (by rfl) (by rfl) ?_ (by rfl) (fun wz => ?_) ?_
     rotate_left
     ·go_simp
      try with_reducible rfl
     simp only [sIB, List.set]
     refine goU_pure 27 (by rfl) (by rfl) ?_ (by rfl) (fun wz => ?_) ?_
     rotate_left
     ·go_simp
      try with_reducible rfl
     simp only [sIB, List.set]
     refine goU_read 28 hs0 (by rfl) (by rfl) ?_ (by rfl) (fun wz hSw => ?_) ?_
     rotate_left
     ·have y0 := keepB hSw hco; have y1 := keepB hSw e0; have y2 := keepB hSw e1; go_simp
      try with_reducible rfl
     simp only [sIB, List.set]
     refine goU_read 29 hs0 (by rfl) (by rfl) ?_ (by rfl) (fun wz hSw => ?_) ?_
     rotate_left
     ·have y0 := keepB hSw hco; have y1 := keepB hSw e0; have y2 := keepB hSw e1; go_simp
      try with_reducible rfl
     simp only [sIB, List.set]
     refine goU_read 30 hs0 (by rfl) (by rfl) ?_ (by rfl) (fun wz hSw => ?_) ?_
     rotate_left
     ·have y0 := keepB hSw hco; have y1 := keepB hSw e0; have y2 := keepB hSw e1; go_simp
      try with_reducible rfl
     simp only [sIB, List.set]
     refine goU_read 31 hs0 (by rfl) (by rfl) ?_ (by rfl) (fun wz hSw => ?_) ?_
     rotate_left
     ·have y0 := keepB hSw hco; have y1 := keepB hSw e0; have y2 := keepB hSw e1; go_simp
      try with_reducible rfl
     simp only [sIB, List.set]
     refine goU_read 32 hs0 (by rfl) (by rfl) ?_ (by rfl) (fun wz hSw => ?_) ?_
     rotate_left
     ·have y0 := keepB hSw hco; have y1 := keepB hSw e0; have y2 := keepB hSw e1; go_simp
      try with_reducible rfl
     simp only [sIB, List.set]
     refine goU_read 33 hs0 (by rfl) (by rfl) ?_ (by rfl) (fun wz hSw => ?_) ?_
     rotate_left
     ·have y0 := keepB hSw hco; have y1 := keepB hSw e0; have y2 := keepB hSw e1; go_simp
      try with_reducible rfl
     simp only [sIB, List.set]
     refine goU_read 34 hs0 (by rfl) (by rfl) ?_ (by rfl) (fun wz hSw => ?_) ?_
     rotate_left
     ·have y0 := keepB hSw hco; have y1 := keepB hSw e0; have y2 := keepB hSw e1; go_simp
      try with_reducible rfl
     simp only [sIB, List.set]
     refine goU_read 35 hs0 (by rfl) (by rfl) ?_ (by rfl) (fun wz hSw => ?_) ?_
     rotate_left
     ·have y0 := keepB hSw hco; have y1 := keepB hSw e0; have y2 := keepB hSw e1; go_simp
      try with_reducible rfl
     simp only [sIB, List.set]
     refine goU_step (by rfl) ?_
     go_wp2_with fail
     obtain ⟨w3, hw3⟩ : ∃ V, V = (wr.alloc (.cells #[.bool neg, .slice B1 m1 k1] 40)).drew := ⟨_, rfl⟩
     obtain ⟨G, hGe⟩ : ∃ G, G = wr.heap.size := ⟨_, rfl⟩
     have hG : Arr w3 G 40 [.bool neg, .slice B1 m1 k1] := by rw [hw3, hGe]; exact Arr.new wr _ [.bool neg, .slice B1 m1 k1]
     have hb3 : Below wr.heap.size wr w3 := by rw [hw3]; exact ((Below.refl _ _).alloc (Nat.le_refl _) _).drew
     have hbG : Below G wr w3 := by rw [hGe]; exact hb3
     rw [← hw3, ← hGe]
     clear hw3 hGe
     refine ⟨hbG, ?_⟩
     refine goU_step (by rfl) ?_
     refine wpList_pushR w3 37 (by rfl) (by rfl) _ _ _ _ (by rfl) wo.heap.size Tryz.underlying175 Tryz.underlying175 (.slice A2 j c2) ((L.take j).map fun r => gz r i) j HLJ.out (by rfl) (HOW.out.below hb3) neg B1 m1 k1 (gz (rw_ L j) i) G hG (by rfl) (HX.out.below hb3) (by omega) (Nat.le_trans HFI.out.size hb3.size) (fun b (hb : b < w.heap.size) e => ?_) ?_
     ·have := (HOW.out.lt e.symm).1
      omega
     intro A3 c3 w4 hown4 hg4 hob4 hb4
     simp only [sIB, List.set]
     have har4 : Arr w4 w.heap.size 175 (us.set i (.slice A2 j c2)) := (HAR2.out.below' hb3).grown hg4 (fun e => by have := (HOW.out.lt e.symm).1; omega)
     have hf3 := HFI.out.over hb3
     have hown0 := HOW.out
     have hfi4 : Frm (· = w.heap.size) wo w4 := ⟨hg4.os.trans hf3.os, hg4.tape.trans hf3.tape, hg4.output.trans hf3.output, Nat.le_trans hf3.size hg4.size, fun b hb hne => (hg4.block b (Nat.lt_of_lt_of_le hb hf3.size) (fun e => by have := (hown0.lt e.symm).1; omega)).trans (hf3.block b hb hne)⟩
     have x0 : w4.cell? ⟨w.heap.size, i, none⟩ = some (.slice A2 j c2) := by
      have h1 := har4.cell i
      rw [List.getElem?_set_self hui] at h1
      exact h1
     have x1 := har4.frozen i
     have hl4 := har4.lt
     have HR4 := Lib.hid har4
     have HF4 := Lib.hid hfi4
     have HO4 := Lib.hid hown4
     have HOB := Lib.hid hob4
     have HLV := Lib.hid (fun b (hb : (Value.slice A2 j c2).ownBlock = some b) => (hown0.lt hb).1)
     clear har4 hfi4 hown4 hob4 hown0 hf3 hg4
     refine ⟨fun h => absurd h (by decide), ?_⟩
     refine goU_step (by rfl) ?_
     go_wp2_with fail
     try (refine ⟨fun h => absurd h (by decide), ?_⟩)
     refine goU_step (by rfl) ?_
     go_wp2_with fail
     try (refine ⟨fun h => absurd h (by decide), ?_⟩)
     show Exit.inBlock _ _ .normal _ _
     go_wp2_with fail
     go_round
     case rel =>
      have ha5 := HR4.out.set_ i (.slice A3 (j + 1) c3)
      rw [List.set_set] at ha5
      refine ⟨j + 1, A3, c3, by go_num, by omega, ha5, ?_, HF4.out.trans (Frm.setCell (O := (· = w.heap.size)) (p := ⟨w.heap.size, i, none⟩) (fun _ => rfl) _)⟩
      rw [HST.out]
      refine HO4.out.keep fun b hb _ => Below.heap_setCell _ _ _ _ (fun e => ?_)
      have e : b = w.heap.size := e
      rcases hb with hb | hb
      ·omega
      ·rcases HOB.out b hb with h1 | h1
       ·have := HLV.out b h1; omega
       ·have := HFI.out.size; have := hb3.size; omega
     case measure => simp [intOf]; omega
    ·obtain rfl : j = q := by omega
     rw [List.take_of_length_le (by rw [HL.out]; exact Nat.le_refl _)] at hown
     have hwo : w.heap.size < wo.heap.size := HM.out.lt
     have hpvd : PvD wr (fun b => True ∧ b ≠ w.heap.size) (.slice A2 j c2) (L.map fun r => gz r i) := hown.pvd fun b hb => ⟨trivial, fun e => by
      rcases hb with hb | hb
      ·omega
      ·have := (hown.lt hb).1; omega⟩
     have hm9 := HM.out.redo (i := i) (E' := fun _ => True) (w3 := wr) (u := .slice A2 j c2) (by rw [HLE.out]; exact hin) har (fun b hb hne hlt2 => hfi.block b hb.2 hne) hpvd (fun _ _ => trivial)
     rw [HSTEP.out] at hm9
     have HN2 : Hid (∀ k, i + 1 ≤ k → k < n → (us.set i (.slice A2 j c2))[k]? = some (.slice none 0 0)) := Lib.hid fun k h1 h2 => by rw [List.getElem?_set_ne (by omega)]; exact HNIL.out k (by omega) h2
     clear hpvd hown har
     go_wp2_with fail
     go_round
     case rel => exact ⟨i + 1, _, by go_num, by omega, hm9, HN2, HBR.out.trans (hfi.below HBR.out.size fun b e => by rw [e]; exact Nat.le_refl _)⟩
     case measure => simp [intOf]; omega
  ·obtain rfl : i = n := by omega
   rw [Nat.sub_self, List.replicate_zero, List.append_nil, List.take_of_length_le (by rw [HTL.out]; exact Nat.le_refl _)] at hmx
   go_wp2_with fail
   go_ret
   exact ⟨_, rfl, RowsD.t (hmx.rd HTL.out (Nat.le_refl _) (by unfold maxLen; omega)), hbr⟩
end Go.Proofs.YtdjpeimecfhdjaaGreat

namespace Go.Proofs.YtdjpeimecfhdjaaGreat
open Go.RowKit
theorem newton_step {m r : Nat} (hr : 0 < r) : m < ((r + m / r) / 2 + 1) * ((r + m / r) / 2 + 1) := by
 obtain ⟨q, hq⟩ : ∃ q, q = m / r := ⟨_, rfl⟩
 rw [← hq]
 have h1 : m < r * (q + 1) := by rw [hq, Nat.mul_add, Nat.mul_one]; have := Nat.div_add_mod m r; have := Nat.mod_lt m hr; omega
 obtain ⟨s, hs⟩ : ∃ s, s = (r + q) / 2 := ⟨_, rfl⟩
 rw [← hs]
 have h2 : r + (q + 1) ≤ 2 * (s + 1) := by omega
 have h3 : 4 * (r * (q + 1)) ≤ (r + (q + 1)) * (r + (q + 1)) := by
  generalize q + 1 = t
  rcases Nat.le_total r t with h | h
  ·obtain ⟨d, rfl⟩ := Nat.le.dest h
   grind
  ·obtain ⟨d, rfl⟩ := Nat.le.dest h
   grind
 have h4 := Nat.mul_le_mul h2 h2
 have h5 : 2 * (s + 1) * (2 * (s + 1)) = 4 * ((s + 1) * (s + 1)) := by grind
 omega
theorem newton_end {m r : Nat} (hr : 0 < r) (h : r ≤ (r + m / r) / 2) : r * r ≤ m := by
 have h1 : r ≤ m / r := by omega
 exact (Nat.le_div_iff_mul_le hr).1 h1
theorem root_unique {m a b : Nat} (h1 : a * a ≤ m) (h2 : m < (a + 1) * (a + 1)) (h3 : b * b ≤ m) (h4 : m < (b + 1) * (b + 1)) : a = b := by
 rcases Nat.lt_trichotomy a b with h | h | h
 ·have := Nat.mul_le_mul (show a + 1 ≤ b by omega) (show a + 1 ≤ b by omega); omega
 ·exact h
 ·have := Nat.mul_le_mul (show b + 1 ≤ a by omega) (show b + 1 ≤ a by omega); omega
def rt0 (n : Nat) : List Nat := (List.replicate n 0).set (n - 1) 1
theorem rt0_eq (n : Nat) : rt0 (n + 1) = List.replicate n 0 ++ [1] := by
 unfold rt0
 rw [show n + 1 - 1 = n by omega, List.replicate_succ']
 rw [List.set_append_right _ _ (by simp)]
 simp
theorem rt0_dig (n : Nat) : rt0 (n + 1) = dig 4294967296 (4294967296 ^ n) := by
 have h1 : ∀ x ∈ rt0 (n + 1), x < 4294967296 := by
  intro x hx
  rw [rt0_eq] at hx
  rcases List.mem_append.1 hx with h | h
  ·rw [List.eq_of_mem_replicate h]; omega
  ·rw [List.mem_singleton.1 h]; omega
 have h2 := trim_eq_dig (b := 4294967296) (by omega) h1
 have h3 : val 4294967296 (rt0 (n + 1)) = 4294967296 ^ n := by rw [rt0_eq, val_snoc, val_zeros, List.length_replicate]; omega
 rw [h3, rt0_eq, trim_snoc_ne _ _ (by omega), ← rt0_eq] at h2
 exact h2
theorem root_start {m : Nat} : m < (4294967296 ^ (wl m / 2 + 1) + 1) * (4294967296 ^ (wl m / 2 + 1) + 1) := by
 have h1 : m < 4294967296 ^ wl m := by
  have h := val_lt (dig_lt (b := 4294967296) (by omega) m)
  rw [val_dig_w] at h
  exact h
 have h2 : 4294967296 ^ wl m ≤ 4294967296 ^ (wl m / 2 + 1) * 4294967296 ^ (wl m / 2 + 1) := by
  rw [← Nat.pow_add]
  exact Nat.pow_le_pow_right (by omega) (by omega)
 have h3 := Nat.mul_le_mul (Nat.le_succ (4294967296 ^ (wl m / 2 + 1))) (Nat.le_succ (4294967296 ^ (wl m / 2 + 1)))
 exact Nat.lt_of_lt_of_le h1 (Nat.le_trans h2 h3)
theorem short2_any {D : Nat → Prop} {A : Option Addr} {n c : Nat} {l : List Nat} {w : World} (h : Wd w D A n c l) (hn : n ≤ 2000000000000) :
  Calls Tryz.prog 236 #[.slice A n c, .int .u32 2] w (GivesShort w (dig 4294967296 (val 4294967296 l / 2)) (val 4294967296 l % 2)) := short_any h 2 (by omega) (by omega) hn
theorem made0_any {D : Nat → Prop} {A : Option Addr} {c g : Nat} {w : World} (h : Wd w D A (dig 4294967296 g).length c (dig 4294967296 g)) (hn : (dig 4294967296 g).length ≤ 10000000000000) :
  Calls Tryz.prog 146 #[.bool false, .slice A (dig 4294967296 g).length c] w (fun e w' => ∃ A' c', e = .returned (.agg #[.bool false, .slice A' (wl g) c']) ∧ Wd w' (w.heap.size ≤ ·) A' (wl g) c' (dig 4294967296 g) ∧ Below w.heap.size w w') := by
 refine (made_any (neg := false) h (by rw [trim_dig (by omega)]; exact hn)).mono ?_
 rintro e w' ⟨v, rfl, hv, hb⟩
 rw [val_dig_w, show sg false g = (g : Int) from rfl] at hv
 obtain ⟨A', c', rfl, hw⟩ := hv
 rw [show decide ((g : Int) < 0) = false by simp, Int.natAbs_natCast] at *
 exact ⟨A', c', rfl, hw, hb⟩
def GivesRt (w : World) (m : Nat) (e : Ending) (w' : World) : Prop := ∃ v r, e = .returned (.tuple #[v, .int .i64 0]) ∧ NIntV w' (w.heap.size ≤ ·) v (r : Nat) ∧ Below w.heap.size w w' ∧ r * r ≤ m ∧ m < (r + 1) * (r + 1)
set_option maxRecDepth 100000 in
set_option maxHeartbeats 4000000 in
theorem Root_any {D : Nat → Prop} {v : Value} {m : Nat} {w : World} (h : NIntV w D v (m : Int)) (hl : wl m ≤ 900000000) :
  Calls Tryz.prog 191 #[v] w (GivesRt w m) := by
 obtain ⟨A, c, rfl, hw⟩ := h
 rw [show decide ((m : Int) < 0) = false by simp]
 rw [show wl (m : Int).natAbs = wl m by rw [Int.natAbs_natCast]]
 rw [Int.natAbs_natCast] at hw
 obtain ⟨n, hn⟩ : ∃ n, n = wl m := ⟨_, rfl⟩
 rw [← hn] at hw hl ⊢
 obtain ⟨W, hW⟩ : ∃ W, W = (w.alloc (.cells #[.bool false, .slice A n c] 40)).alloc (.cells #[.bool false, .slice none 0 0] 40) := ⟨_, rfl⟩
 obtain ⟨P, hP⟩ : ∃ P, P = w.heap.size := ⟨_, rfl⟩
 obtain ⟨R, hR⟩ : ∃ R, R = w.heap.size + 1 := ⟨_, rfl⟩
 have hbW : Below w.heap.size w W := by rw [hW]; exact ((Below.refl _ _).alloc (Nat.le_refl _) _).alloc (by simp) _
 have hPA : Arr W P 40 [.bool false, .slice A n c] := by rw [hW, hP]; exact (Arr.new w _ [.bool false, .slice A n c]).alloc _
 have hRA : Arr W R 40 [.bool false, .slice none 0 0] := by
  rw [hW, hR]
  have := Arr.new (w.alloc (.cells #[.bool false, .slice A n c] 40)) 40 [.bool false, .slice none 0 0]
  simpa using this
 have hwR : w.heap.size ≤ R := by omega
 have HS := Lib.hid (size_any (neg := false) (hw.below hbW))
 have hw2 : Wd w D A n n (dig 4294967296 m) := by
  have h1 := hw.trim
  rw [trim_dig (by omega), show (dig 4294967296 m).length = n from hn.symm] at h1
  exact h1
 have hd := Lib.hid (hw2.below hbW)
 have HN := Lib.hid hn
 have HWW := Lib.hid hW
 have HRR := Lib.hid hR
 have HPP := Lib.hid hP
 have HBW := Lib.hid hbW
 obtain ⟨p0, p1, _, _⟩ := hPA.c2
 obtain ⟨r0, r1, f0, f1⟩ := hRA.c2
 have hPl := hPA.lt
 have hRl := hRA.lt
 have HPA := Lib.hid hPA
 have HRA := Lib.hid hRA
 clear hn hW hR hP hbW hw hw2 hPA hRA
 rcases Nat.eq_zero_or_pos m with h0 | h0
 ·have hn0 : n = 0 := by rw [HN.out, h0]; rfl
  subst hn0
  have HM := Lib.hid h0
  clear h0
  go_enter Tryz.func191, Tryz.ntmps191
  go_upto_region 1 with (fail)
  rw [← HWW.out, ← HRR.out, ← HPP.out]
  go_wp2_with (go_at_call 165; go_must (refine HS.out.mono ?_); rintro e w1 ⟨rfl, hb1⟩; rw [trim_dig (by omega), show (dig 4294967296 m).length = 0 from HN.out.symm]; have hra := HRA.out.below' hb1; obtain ⟨r0, r1, f0, f1⟩ := hra.c2)
  refine bodyPost_ret (v := .tuple #[.agg #[.bool false, .slice none 0 0], .int .i64 0]) (by simp [results, Tryz.results191, go_sem, r0, r1]) rfl ⟨_, 0, rfl, NIntV.zero _ _, ?_, by omega, by rw [HM.out]; omega⟩
  exact ((HBW.out.trans (hb1.mono HBW.out.size)).setCell (p := ⟨R, 0, none⟩) hwR _).setCell (p := ⟨R, 1, none⟩) hwR _
 ·have hn0 : 0 < n := by
   rw [HN.out]
   rcases Nat.eq_zero_or_pos (wl m) with e | e
   ·exact absurd ((dig_eq_nil (b := 4294967296) (by omega)).1 (List.eq_nil_of_length_eq_zero e)) (by omega)
   ·exact e
  have HM := Lib.hid h0
  clear h0
  go_enter Tryz.func191, Tryz.ntmps191
  go_upto_region 1 with (fail)
  rw [← HWW.out, ← HRR.out, ← HPP.out]
  go_upto_region 6 with (go_at_call 165; go_must (refine HS.out.mono ?_); rintro e w1 ⟨rfl, hb1⟩; rw [trim_dig (by omega), show (dig 4294967296 m).length = n from HN.out.symm]; have hpa := HPA.out.below' hb1; obtain ⟨q0, q1, _, _⟩ := hpa.c2)
  obtain ⟨N, hNN⟩ : ∃ N, N = n / 2 + 1 := ⟨_, rfl⟩
  obtain ⟨M, hMN⟩ : ∃ M, M = N + 1 := ⟨_, rfl⟩
  have hq1 : (n : Int) / 2 + 2 = (M : Int) := by omega
  have hN9 : N ≤ 450000000 + 1 := by omega
  have hM9 : M ≤ 450000000 + 2 := by omega
  have HQ1 := Lib.hid hq1
  have HNN := Lib.hid hNN
  have HMN := Lib.hid hMN
  clear hq1 hNN hMN
  go_upto_region 7 with (at_make; rw [HQ1.out]; go_must (refine wpList_make_arr _ rfl _ _ _ rfl 190 (.int .u32 0) 1 4 Tryz.underlying182 info_u32 _ _ _ _ M rfl rfl (by omega) (by omega) (by omega) (by omega) ?_); intro w2 ha hb hz)
  obtain ⟨G, hG⟩ : ∃ G, G = w1.heap.size := ⟨_, rfl⟩
  rw [← hG] at ha ⊢
  have a3 : (M : Int) - 1 = (N : Int) := by have := HMN.out; omega
  have a0 : (1 : Int) ≤ (M : Int) := by have := HMN.out; omega
  have a1 : (0 : Int) ≤ (N : Int) := by omega
  have a2 : (N : Int) < (M : Int) := by have := HMN.out; omega
  have ha2 := WArr.made ha
  have hlN : N < (List.replicate M 0).length := by rw [List.length_replicate]; have := HMN.out; omega
  have z0 := ha2.cell hlN
  have z1 := ha2.frozen N
  have hNM : N = M - 1 := by have := HMN.out; omega
  rw [hNM] at z0 z1
  have hRG : R < G := by rw [hG]; have := hb1.size; omega
  have ha3 := ha2.set_ N 1
  have hset : (List.replicate M 0).set N 1 = dig 4294967296 (4294967296 ^ N) := by rw [← rt0_dig N, HMN.out]; rfl
  rw [hset] at ha3
  have hlen : (dig 4294967296 (4294967296 ^ N)).length = M := by rw [← hset, List.length_set, List.length_replicate]
  have hws := ha3.wd (D := fun _ => True) (dig_lt (by omega) _) (by rw [hlen]; unfold maxLen; omega) trivial
  obtain ⟨w3, hw3⟩ : ∃ V, V = w2.setCell ⟨G, M - 1, none⟩ (.int .u32 1) := ⟨_, rfl⟩
  have hw3' : w3 = w2.setCell ⟨G, N, none⟩ (.int .u32 ((1 : Nat) : Int)) := by rw [hNM]; exact hw3
  rw [← hw3'] at hws ha3
  have hb03 : Below w1.heap.size w1 w3 := by rw [hw3]; exact hb.setCell (p := ⟨G, M - 1, none⟩) (by show w1.heap.size ≤ G; omega) _
  have HW3 := Lib.hid hw3
  have HB03 := Lib.hid hb03
  have HLEN := Lib.hid hlen
  have HWS := Lib.hid hws
  clear hNM hw3 hw3' hb03 hlen hws ha3 hset hlN ha2 ha hb hz hG
  have hr0 : 0 < 4294967296 ^ N := Nat.pow_pos (by omega)
  have HR0 := Lib.hid (show m < (4294967296 ^ N + 1) * (4294967296 ^ N + 1) by rw [HNN.out, HN.out]; exact root_start)
  generalize 4294967296 ^ N = q at *
  have hBW3 : Below W.heap.size W w3 := hb1.trans (HB03.out.mono hb1.size)
  have hD3 := hd.out.below hBW3
  have HD3 := Lib.hid hD3
  have HBW3 := Lib.hid hBW3
  have hW3s := hBW3.size
  clear hb1 hBW3 hD3 a1 a2 a3 hpa q0 q1
  go_upto_block 0 with (fail)
  rw [← HW3.out]
  clear z0 z1 a0
  rw [← HLEN.out]
  go_wp2_with fail
  go_loopg [5] q (fun r p wr => ∃ (A3 : Option Addr) (c3 : Nat), p = .slice A3 (dig 4294967296 r).length c3 ∧ Wd wr (fun _ => True) A3 (dig 4294967296 r).length c3 (dig 4294967296 r) ∧ Hid (m < (r + 1) * (r + 1)) ∧ 0 < r ∧ (dig 4294967296 r).length ≤ M ∧ Below w3.heap.size w3 wr)
  case atStart => exact ⟨_, _, rfl, HWS.out, HR0.out, hr0, by rw [HLEN.out]; omega, Below.refl _ _⟩
  case round =>
   obtain ⟨A3, c3, rfl, hx, hinv, hpos, hlen, hbr⟩ := hrel
   have ha := HD3.out.below hbr
   have hv : Hid (val 4294967296 (dig 4294967296 m) = m) := Lib.hid (val_dig (by omega) m)
   have ht : Hid (trim (dig 4294967296 m) = dig 4294967296 m) := Lib.hid (trim_dig (by omega) m)
   have hln : Hid ((dig 4294967296 m).length = n) := Lib.hid HN.out.symm
   have hl1 : (dig 4294967296 (m / gk)).length ≤ n := by have := dlw_le (Nat.div_le_self m gk); rw [hln.out] at this; exact this
   have hl2 := dlw_add gk (m / gk)
   have hl3 : (dig 4294967296 (gk + m / gk)).length ≤ 900000100 := by omega
   have hl4 : (dig 4294967296 ((gk + m / gk) / 2)).length ≤ 900000100 := Nat.le_trans (dlw_le (Nat.div_le_self _ _)) hl3
   have HPOS := Lib.hid hpos
   have hra := HRA.out.below' (HBW3.out.trans (hbr.mono HBW3.out.size))
   have hRl2 : R < wr.heap.size := hra.lt
   have HRA2 := Lib.hid hra
   have HBR := Lib.hid hbr
   have HWR := Lib.hid (HBW.out.trans ((HBW3.out.trans (hbr.mono HBW3.out.size)).mono HBW.out.size))
   clear hra hpos hl2 hbr
   go_upto_region 9 with (go_at_call 210; go_must (with_reducible refine (divide_any (ha.mono (D' := fun _ => True) fun _ _ _ => trivial) hx ht.out (trim_dig (by omega) _) (by rw [val_dig_w]; exact HPOS.out) (by omega)).mono ?_); rintro e w4 ⟨v4, v5, rfl, ⟨A5, k5, rfl, hd5⟩, ⟨A6, k6, rfl, hd6⟩, hb4⟩; simp only [val_dig_w] at hd5 hd6 ⊢)
   have hx4 := hx.below hb4
   generalize hs : (gk + m / gk) / 2 = s at *
   have HSS := Lib.hid hs
   clear hs
   go_upto_region 10 with (first | (go_at_call 211; go_must (with_reducible refine (plus_any hx4 hd5 (by omega) (by omega)).mono ?_); rintro e w6 ⟨v6, rfl, ⟨A7, k7, rfl, hd7⟩, hb6⟩; simp only [val_dig_w] at hd7 ⊢) | (go_at_call 236; go_must (with_reducible refine (short2_any hd7 (by omega)).mono ?_); rintro e w8 ⟨A9, k9, rfl, hd9, hb8⟩; simp only [val_dig_w] at hd9 ⊢; simp only [HSS.out] at hd9 ⊢))
   have hx8 := (hx4.below hb6).below hb8
   have hd98 := hd9.mono (D' := fun _ => True) fun _ _ _ => trivial
   have hbr8 := ((hb4.trans (hb6.mono hb4.size)).trans (hb8.mono (by have := hb4.size; have := hb6.size; omega)))
   have HB8 := Lib.hid hbr8
   clear hx4 hd5 hd6 hd7 hb4 hb6 hb8 hd9 ha hx
   rcases Nat.lt_or_ge s gk with hlt | hge
   ·have hc : cmpN s gk = -1 := by unfold cmpN; simp [hlt]
    go_wp2_with (go_at_call 217; go_must (with_reducible refine (compare_any hd98 hx8 (trim_dig (by omega) _) (trim_dig (by omega) _)).mono ?_); rintro e w9 ⟨rfl, m9, rfl⟩; simp only [val_dig_w]; rw [hc])
    go_roundg s
    case measure => exact hlt
    case rel =>
     have hst := newton_step (m := m) HPOS.out
     rw [HSS.out] at hst
     have hM := HM.out
     refine ⟨A9, k9, rfl, hd98.drewN _, hst, ?_, Nat.le_trans (dlw_le (Nat.le_of_lt hlt)) hlen, below_drewN' (HBR.out.trans (HB8.out.mono HBR.out.size)) _⟩
     rcases Nat.eq_zero_or_pos s with e | e
     ·subst e; omega
     ·exact e
   ·have hc : ∃ x, cmpN s gk = x ∧ 0 ≤ x := ⟨_, rfl, by unfold cmpN; split <;> (try split) <;> omega⟩
    obtain ⟨x, hx, hx0⟩ := hc
    have HA := Lib.hid (fun w' (hb : Below w8.heap.size w8 w') => (made0_any (hx8.below hb) (by omega)))
    have HRA8 := Lib.hid (HRA2.out.below' HB8.out)
    go_wp2_with (first | (go_at_call 217; go_must (with_reducible refine (compare_any hd98 hx8 (trim_dig (by omega) _) (trim_dig (by omega) _)).mono ?_); rintro e w9 ⟨rfl, m9, rfl⟩; simp only [val_dig_w]; rw [hx]) | (go_at_call 146; go_must (refine (HA.out _ (below_drewN' (Below.refl _ _) _)).mono ?_); rintro e w10 ⟨A10, c10, rfl, hw10, hb10⟩; have hb8 := (below_drewN' (Below.refl w8.heap.size w8) m9).trans (hb10.mono (Nat.le_refl _)); have hra := HRA8.out.below' hb8; obtain ⟨r0, r1, f0, f1⟩ := hra.c2))
    refine bodyPost_ret (v := .tuple #[.agg #[.bool false, .slice A10 (wl gk) c10], .int .i64 0]) (by simp [results, Tryz.results191, go_sem, r0, r1]) rfl ⟨_, gk, rfl, ?_, ?_, newton_end HPOS.out (by rw [HSS.out]; exact hge), hinv.out⟩
    ·have hsz := hb8.size
     have hn : NIntV w10 (w8.heap.size ≤ ·) (.agg #[.bool false, .slice A10 (wl gk) c10]) (gk : Int) := ⟨A10, c10, by simp, by rw [Int.natAbs_natCast]; exact hw10⟩
     have hR8 : ¬ w8.heap.size ≤ R := by have := HB8.out.size; omega
     refine NIntV.mono (NIntV.setCell (p := ⟨R, 1, none⟩) (NIntV.setCell (p := ⟨R, 0, none⟩) hn hR8 _) hR8 _) fun b (h1 : w8.heap.size ≤ b) _ => ?_
     show w.heap.size ≤ b
     have := HB8.out.size; omega
    ·exact ((HWR.out.trans ((HB8.out.trans (hb8.mono HB8.out.size)).mono HWR.out.size)).setCell (p := ⟨R, 0, none⟩) hwR _).setCell (p := ⟨R, 1, none⟩) hwR _
end Go.Proofs.YtdjpeimecfhdjaaGreat
