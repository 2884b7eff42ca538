/- graph.search over lists whose memory is told by blocks. -/
import Derived.Test.YtpkjdnplmgfbbaaDoorMx
namespace Go.Proofs.YtpkjdnplmgfbbaaDoor
open Go.RowKit

/-- All elements. -/
theorem RowsD.all {α : Type} {R : World → (Nat → Prop) → Value → α → Prop} {w : World} {D : Nat → Prop} {A : Option Addr} {n c : Nat} {L : List α} (h : RowsD R w D (.slice A n c) L) (hn : 0 < L.length) :
    ∃ b off, A = some ⟨b, off, none⟩ ∧ D b ∧ ∀ (i : Nat) x, L[i]? = some x → ∃ u, w.cell? ⟨b, off + i, none⟩ = some u ∧ R w D u x := by
  obtain ⟨A', c', vs, e, h1, h2, h3, h4, h5⟩ := h
  injection e with e1 e2 e3
  subst e1
  obtain ⟨b, off, e2, hd, hc⟩ := h4 hn
  refine ⟨b, off, e2, hd, fun i x hx => ?_⟩
  have hil := lt_of_some hx
  obtain ⟨u, hu⟩ : ∃ u, vs[i]? = some u := ⟨_, List.getElem?_eq_getElem (by omega)⟩
  exact ⟨u, hc i u hu, h5 i u x hu hx⟩

set_option maxHeartbeats 2000000 in
set_option maxRecDepth 100000 in
theorem search2_any {E : List (List Nat)} (hE : Valid E) (hEn : E.length ≤ 2500) {a : Nat} (ha : a < E.length) {O : Nat → Prop} {V : List (Nat × Nat) → World → Prop} {Stop : World → Prop} {D : Nat → Prop} {w : World} {f : FuncId} {lb : Array Value}
    (hV : Visits E a O V Stop w f lb) (hOb : ∀ b, O b → b < w.heap.size) (hDO : ∀ b, D b → ¬ O b) (hVs : ∀ done W W', V done W → Below w.heap.size W W' → V done W') (hSs : ∀ W W', Stop W → Below w.heap.size W W' → Stop W')
    {A : Option Addr} {c : Nat} (hG : RowsD IlD w D (.slice A E.length c) (toI E)) (h0 : V [] w)
    (eg : ∀ args w, (callFunc f args).run Tryd.prog w = .ok (.enter f args) w) :
    Calls Tryd.prog 79 #[.slice A E.length c, .int .i64 (a : Nat), .func (.func f) #[] lb] w (SrchR E a O V Stop w) := by
  have hr := hG.room.2
  unfold maxLen at hr
  have hal : (a : Int) < (E.length : Int) := by omega
  have EG := Lib.hid eg
  clear eg
  have hVV := Lib.hid hV
  clear hV
  obtain ⟨b0, o0, rfl, hb0D, hcell⟩ := hG.all (by rw [toI_length]; omega)
  have HC := Lib.hid hcell
  have HDO := Lib.hid hDO
  have HB0 := Lib.hid (hDO _ hb0D)
  clear hcell hG hb0D hDO
  go_enter Tryd.func79, Tryd.ntmps79
  go_wp2_with (refine wpList_make_arr _ rfl _ _ 141 rfl 4 (.bool false) 1 1 Tryd.underlying141 (by kernel_rfl) _ _ _ _ E.length rfl rfl rfl rfl (by omega) (by omega) ?_; intro w1 har hb1 hs1; have hba := BArr.made har; have cA := hba.cell (i := a) (by simpa using ha); have fA := hba.frozen a; have HBA := Lib.hid hba; have HS1 := Lib.hid hs1; clear hba har hs1)
  obtain ⟨W, S, Q, hW, hS, hQ, hBA, hQ0, hbW, hwS, hSW⟩ := srch_start HBA.out hb1 HS1.out
  rw [← hW, ← hS, ← hQ]
  clear hW hS hQ HBA HS1 hb1 cA fA w1
  have hwO : ∀ b, S ≤ b → ¬ O b := fun b hb ho => by have := hOb b ho; omega
  have HWO := Lib.hid hwO
  have HVS := Lib.hid hVs
  have HSS := Lib.hid hSs
  have HE := Lib.hid hE
  have hV0 : V [] W := hVs _ _ _ h0 hbW
  clear hwO hOb hVs hSs hE h0
  go_loopg [7] E.length (fun g q wr => ∃ k, k + g = E.length ∧ (∀ i, i < k → ∃ p, (bs E a i).q[i]? = some p) ∧ k ≤ (bs E a k).q.length ∧ Que wr (S + 1) q ((bs E a k).q.drop k) ∧ BArr wr S (bs E a k).seen ∧ V ((bs E a k).q.take k) wr ∧ Fr O w wr ∧ S < wr.heap.size)
  case atStart => exact ⟨0, by omega, fun i hi => by omega, Nat.zero_le _, hQ0, hBA, hV0, Fr.of_below' hbW, hSW⟩
  case round =>
    obtain ⟨k, hkg, hpr, hkl, hq, hba, hv, hfr, hSr⟩ := hrel
    have HPR := Lib.hid hpr
    clear hpr
    obtain ⟨dep, hsr⟩ := bs_inv HE.out ha k HPR.out
    have hql := hsr.qlen
    rcases Nat.lt_or_ge k (bs E a k).q.length with hlt | hge
    · obtain ⟨p, hp⟩ : ∃ p, (bs E a k).q[k]? = some p := ⟨_, List.getElem?_eq_getElem hlt⟩
      obtain ⟨r, hr1, _⟩ := drop_head hp
      have hq' := hq.cast hr1
      obtain ⟨g, off, cq, rfl, hq1, hq2, hq3, hq4, hq5, hq6, hq7⟩ := hq'.head
      have hq2' := hq2
      unfold maxLen at hq2'
      have hz : (0 : Int) < ((r.length + 1 : Nat) : Int) := by omega
      have HP := Lib.hid hp
      have HR1 := Lib.hid hr1
      have HSR := Lib.hid hsr
      clear hp hr1 hsr
      go_wp2_with fail
      go_still_tail 9, (by kernel_rfl)
      have hfr2 : Fr O w wr.drew := hfr.drew
      have hv2 : V ((bs E a k).q.take k) wr.drew := HVS.out _ _ _ hv ((Below.refl _ _).drew)
      have hq8 : Que wr.drew (S + 1) _ (p :: r) := hq'
      have hba8 : BArr wr.drew S _ := hba
      have hSr8 : S < wr.drew.heap.size := hSr
      have hc5 : wr.drew.cell? ⟨g, off, none⟩ = _ := hq5
      have hc6 : wr.drew.cell? ⟨g, off + 1, none⟩ = _ := hq6
      have hg8 : g < wr.drew.heap.size := hq4
      change wpList _ _ _ _ _ wr.drew
      clear hfr hv hq hq' hba hSr hq4 hq5 hq6
      generalize wr.drew = w2 at *
      have eg := EG.out
      go_wp2_with fail
      refine (hVV.out k p _ HPR.out HP.out hv2 hfr2).mono ?_
      rintro e w3 ⟨⟨rfl, hv3⟩ | ⟨rfl, hst⟩, hfr3⟩
      · clear eg
        have hfw3 := hfr2.trans hfr3
        have hq9 := hq8.keep (w' := w3) (fun g' _ h1 h2 => hfr3.block g' h2 (HWO.out g' (by omega)))
        have hba9 : BArr w3 S (bs E a k).seen := hfr3.arr hba8 (HWO.out S (Nat.le_refl _))
        have hS9 : S < w3.heap.size := Nat.lt_of_lt_of_le hSr8 hfr3.size
        have hd5 := (hfr3.cell (o := off) hg8 (HWO.out g (by omega))).trans hc5
        have hd6 := (hfr3.cell (o := off + 1) hg8 (HWO.out g (by omega))).trans hc6
        have hvl : p.2 < E.length := HSR.out.small k p HP.out
        have hvl' : (p.2 : Int) < (E.length : Int) := by omega
        obtain ⟨u, hrow, A', c', rfl, hil0, hild⟩ := HC.out p.2 _ (toI_get hvl)
        have hil : IlD w D (.slice A' (gr E p.2).length c') ((gr E p.2).map fun x : Nat => (x : Int)) := ⟨A', c', by rw [List.length_map], hil0, hild⟩
        rw [List.length_map] at hrow hil0
        have hrm := hil0.room
        unfold maxLen at hrm
        have hrow3 := (hfw3.cell (cell_some_lt hrow) HB0.out).trans hrow
        have HIL := Lib.hid hil
        clear hil hil0 hild hrow hfr2 hv2 hq8 hba8 hSr8 hc5 hc6 hg8 hfr3 w2
        go_wp2_with fail
        go_loopw [7, 44] (fun q i wr => ∃ t : Nat, t ≤ (gr E p.2).length ∧ i = .int .i64 (t : Nat) ∧ Que wr (S + 1) q ((addAll p.2 (bs E a k) ((gr E p.2).take t)).q.drop k) ∧ BArr wr S (addAll p.2 (bs E a k) ((gr E p.2).take t)).seen ∧ V ((bs E a k).q.take k ++ [p]) wr ∧ Fr O w wr ∧ S < wr.heap.size) (fun _ i _ => (gr E p.2).length - (intOf i).toNat)
        case atStart => exact ⟨0, Nat.zero_le _, rfl, hq9.cast HR1.out.symm, hba9, hv3, hfw3, hS9⟩
        case round =>
          obtain ⟨t, ht, rfl, hq, hba, hv, hfr, hSr⟩ := hrel
          obtain ⟨dep', hs', hp'⟩ := HSR.out.all HP.out ((gr E p.2).take t) (fun x hx => List.mem_of_mem_take hx) (fun x hx => HE.out _ hvl x (List.mem_of_mem_take hx))
          have hq10 := hs'.qlen
          obtain ⟨r2, hr2, hr3⟩ := drop_head hp'
          have hqq := hq.cast hr2
          obtain ⟨g2, off2, cq2, rfl, hm1, hm2, hm3, hm4, hm5, hm6, hm7⟩ := hqq.head
          have hm2' := hm2
          unfold maxLen at hm2'
          have hz2 : (0 : Int) < ((r2.length + 1 : Nat) : Int) := by omega
          have HR2 := Lib.hid hr2
          have HP2 := Lib.hid hp'
          have HS2 := Lib.hid hs'
          clear hr2 hp' hs' hq
          by_cases htl : t < (gr E p.2).length
          · obtain ⟨x, hx⟩ : ∃ x, (gr E p.2)[t]? = some x := ⟨_, List.getElem?_eq_getElem htl⟩
            have hxl : x < E.length := HE.out _ hvl x (List.mem_of_getElem? hx)
            have hilw := Foot.keep HIL.out (fun b hd hl => hfr.block b hl (HDO.out b hd))
            obtain ⟨A9, c9, hA9, hil9, hx9⟩ := hilw
            injection hA9 with hA9 hx1 hx2
            subst hA9
            obtain ⟨b3, o3, rfl, hcx⟩ := hil9.cell (by rw [List.length_map]; omega)
            clear hx1 hx2 hx9 hil9
            have hcx' := hcx t x (by rw [List.getElem?_map, hx]; rfl)
            have hcs := hba.cell (i := x) (by rw [HS2.out.len]; exact hxl)
            have hfz := hba.frozen x
            have hxl' : (x : Int) < (E.length : Int) := by omega
            have et : (gr E p.2).take (t + 1) = (gr E p.2).take t ++ [x] := by rw [List.take_add_one, hx]; rfl
            have HT := Lib.hid et
            clear hcx et
            cases hsn : (addAll p.2 (bs E a k) ((gr E p.2).take t)).seen.getD x false
            · rw [hsn] at hcs
              have HN := Lib.hid hsn
              clear hsn
              have hgS : g2 ≠ S := by omega
              have hn6 : (wr.setCell ⟨S, x, none⟩ (.bool true)).cell? ⟨g2, off2 + 1, none⟩ = some (.int .i64 (p.2 : Nat)) := by
                rw [← hm6]; exact World.cell?_of_block (Below.heap_setCell _ _ _ _ (fun e => hgS e))
              have hq5 : Que (wr.setCell ⟨S, x, none⟩ (.bool true)) (S + 1) (.slice (some ⟨g2, off2, none⟩) (r2.length + 1) cq2) (p :: r2) := hqq.keep fun g' _ h1 _ => Below.heap_setCell _ _ _ _ (fun e => by have e' : g' = S := e; omega)
              have hba5 := hba.set_ x true
              have hS5 : S < (wr.setCell ⟨S, x, none⟩ (.bool true)).heap.size := by simpa [World.setCell] using hSr
              have hv5 : V ((bs E a k).q.take k ++ [p]) (wr.setCell ⟨S, x, none⟩ (.bool true)) := HVS.out _ _ _ hv ((Below.refl _ _).setCell (p := ⟨S, x, none⟩) hwS _)
              have hfr5 : Fr O w (wr.setCell ⟨S, x, none⟩ (.bool true)) := hfr.over ((Below.refl _ _).setCell (p := ⟨S, x, none⟩) hwS _)
              have hsz : (wr.setCell ⟨S, x, none⟩ (.bool true)).heap.size = wr.heap.size := by simp [World.setCell]
              clear hm6 hqq hba hSr hv hfr
              go_wp2_with (at_builtin; (refine wpList_pushQ (wr.setCell ⟨S, x, none⟩ (.bool true)) (by rfl) _ _ (by rfl) (S + 1) (.slice (some ⟨g2, off2, none⟩) (r2.length + 1) cq2) p r2 (by rfl) hq5 _ _ (p.2, x) (by rfl) (by rfl) (by rw [hsz]; rfl) (by omega) ?_); intro v' w6 hq6 hfr6 hqb6)
              have hb6 : Below w.heap.size (wr.setCell ⟨S, x, none⟩ (.bool true)) w6 := hfr6.below hfr5.size (fun b hb => by rw [hm7] at hb; cases hb; omega)
              go_roundw
              case rel =>
                refine ⟨t + 1, by omega, by go_num, ?_, ?_, HVS.out _ _ _ hv5 hb6, hfr5.over hb6, Nat.lt_of_lt_of_le hS5 hfr6.size⟩
                · obtain ⟨e1, e2⟩ := addOne_q (v := p.2) (k := k) HN.out (by omega)
                  rw [HT.out, addAll_snoc, e1, HR2.out]; exact hq6
                · obtain ⟨e1, e2⟩ := addOne_q (v := p.2) (k := k) HN.out (by omega)
                  rw [HT.out, addAll_snoc, e2]
                  exact hfr6.arr hba5 (by rw [hm7]; intro e; cases e; omega)
              case measure => simp [intOf]; omega
            · rw [hsn] at hcs
              have HN := Lib.hid hsn
              clear hsn
              go_wp2_with fail
              go_roundw
              case rel =>
                refine ⟨t + 1, by omega, by go_num, ?_, ?_, hv, hfr, hSr⟩
                · rw [HT.out, addAll_snoc, addOne_seen HN.out]; exact hqq.cast HR2.out.symm
                · rw [HT.out, addAll_snoc, addOne_seen HN.out]; exact hba
              case measure => simp [intOf]; omega
          · obtain rfl : t = (gr E p.2).length := by omega
            rw [List.take_length] at *
            obtain ⟨n1, n2⟩ := bs_take HP.out
            have n3 := bs_succ HP.out
            have N1 := Lib.hid n1
            have N3 := Lib.hid n3
            clear n1 n3
            by_cases hc1 : cq2 = 1
            · subst hc1
              go_wp2_with fail
              go_roundg (gk - 1)
              case rel =>
                refine ⟨k + 1, by omega, fun i hi => ?_, n2, ?_, ?_, ?_, hfr, hSr⟩
                · rcases Nat.lt_or_ge i k with h1 | h1
                  · exact HPR.out i h1
                  · obtain rfl : i = k := by omega
                    exact ⟨p, HP.out⟩
                · rw [N3.out]
                  have e : (addAll p.2 (bs E a k) (gr E p.2)).q.drop (k + 1) = r2 := by rw [← List.drop_drop, HR2.out]; rfl
                  rw [e]
                  have e0 : r2.length = 0 := by omega
                  have hpp := hqq.pop (some ⟨g2, off2, none⟩) (fun h => absurd rfl h)
                  rw [e0] at hpp; exact hpp
                · rw [N3.out]; exact hba
                · rw [N1.out]; exact hv
              case measure => omega
            · go_wp2_with fail
              go_roundg (gk - 1)
              case rel =>
                refine ⟨k + 1, by omega, fun i hi => ?_, n2, ?_, ?_, ?_, hfr, hSr⟩
                · rcases Nat.lt_or_ge i k with h1 | h1
                  · exact HPR.out i h1
                  · obtain rfl : i = k := by omega
                    exact ⟨p, HP.out⟩
                · rw [N3.out]
                  have e : (addAll p.2 (bs E a k) (gr E p.2)).q.drop (k + 1) = r2 := by rw [← List.drop_drop, HR2.out]; rfl
                  rw [e]
                  exact hqq.pop _ (fun h => rfl)
                · rw [N3.out]; exact hba
                · rw [N1.out]; exact hv
              case measure => omega
      · clear eg
        have hfw3 := hfr2.trans hfr3
        go_wp2_with fail
        go_end0
        exact ⟨rfl, hfw3, .inr hst⟩
    · have hk : (bs E a k).q.length = k := by omega
      have hq' := hq.cast (List.drop_eq_nil_of_le (by omega))
      obtain ⟨A2, c2, rfl, _, hm2, _⟩ := hq'
      unfold maxLen at hm2
      have ht : (bs E a k).q.take k = (bs E a k).q := List.take_of_length_le (by omega)
      rw [ht] at hv
      have HK := Lib.hid hk
      clear hk ht hq
      go_wp2_with fail
      go_end0
      exact ⟨rfl, hfr, .inl ⟨k, HK.out, HPR.out, hv⟩⟩
end Go.Proofs.YtpkjdnplmgfbbaaDoor
