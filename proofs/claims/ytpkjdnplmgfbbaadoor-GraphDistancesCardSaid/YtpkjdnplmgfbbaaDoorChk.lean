/- graph.Check. -/
import Derived.Test.YtpkjdnplmgfbbaaDoorCad
import Derived.Maps.OwnOps
import Derived.Maps.Views
namespace Go.Proofs.YtpkjdnplmgfbbaaDoor
open Go.RowKit Go.Maps

set_option maxHeartbeats 1000000 in
theorem checkNeighbours_any {w : World} {v : Value} {names : List ByteArray} {E : List (List Int)} (h : GrV w v names E) {A : Option Addr} {c : Nat} {l : List Int} (hl : Il w A l.length c l) :
    Calls Tryd.prog 76 #[v, .slice A l.length c] w (ChkR w (rowC names.length l)) := by
  obtain ⟨B, d, B', d', rfl, hs, hg⟩ := h
  obtain ⟨hr1, hr2⟩ := hs.room
  obtain ⟨hr3, hr4⟩ := hg.room
  obtain ⟨hr5, hr6⟩ := hl.room
  unfold maxLen at hr2 hr4 hr6
  by_cases h400 : 400 < l.length
  · have e : rowC names.length l = 8 := by unfold rowC; rw [if_pos h400]
    rw [e]
    clear e
    go_enter Tryd.func76, Tryd.ntmps76
    go_wp2
    go_ret
    exact chkR_of rfl ((Below.refl _ _).alloc (Nat.le_refl _) _)
  · obtain ⟨W, G, hW, hG, hbW, c0, c1, hGl, hwG⟩ := gbox w (.slice B names.length d) (.slice B' E.length d')
    have HW := Lib.hid hW
    have HG := Lib.hid hG
    clear hW hG
    replace hs := hs.below hbW
    replace hg := hg.below hbW
    replace hl := hl.below hbW
    have hgv : GrV W (.agg #[.slice B names.length d, .slice B' E.length d']) names E := ⟨_, _, _, _, rfl, hs, hg⟩
    go_enter Tryd.func76, Tryd.ntmps76
    go_wp2
    rw [← HW.out, ← HG.out]
    go_loopw [12] (fun i wr => ∃ t : Nat, t ≤ l.length ∧ i = .int .i64 t ∧ (∀ j, j < t → rowAt names.length l j = 0) ∧ Below W.heap.size W wr) (fun i _ => l.length - (intOf i).toNat)
    case atStart => exact ⟨0, Nat.zero_le _, rfl, fun j hj => by omega, Below.refl _ _⟩
    case round =>
      obtain ⟨t, ht, rfl, hnt, hbt⟩ := hrel
      have HT := Lib.hid hnt; clear hnt
      obtain ⟨hc, hf⟩ := bcell hbt
      have e0 := (hc _ 0 hGl).trans c0
      have e1 := (hc _ 1 hGl).trans c1
      clear hc hf
      by_cases htl : t < l.length
      · obtain ⟨b3, off3, rfl, hcell3⟩ := (hl.below hbt).cell (by omega)
        obtain ⟨y, hy⟩ : ∃ y, l[t]? = some y := ⟨_, List.getElem?_eq_getElem htl⟩
        have hcy := hcell3 t y hy
        have HC3 := Lib.hid hcell3
        have HY := Lib.hid hy
        have hyr := hl.2 y (List.mem_of_getElem? hy)
        have hgv2 := hgv.below hbt
        clear hcell3 hy
        cases hh : hasB names.length y
        · have HH := Lib.hid hh; clear hh
          go_wp2_with (go_at_call 57; refine (has_any hgv2 y).mono ?_; rintro e w4 ⟨rfl, hb4⟩; rw [HH.out])
          go_ret
          have er : rowAt names.length l t = 6 := by unfold rowAt; rw [getD_some HY.out, if_pos (by have := HH.out; unfold hasB at this; simpa using this)]
          exact chkR_of (by rw [rowC_hit (by omega) htl HT.out (by rw [er]; decide), er]) (hbW.trans ((hbt.trans (hb4.mono hbt.size)).mono hbW.size))
        · have HH := Lib.hid hh; clear hh
          have hyn : 0 ≤ y ∧ y < names.length := by have := HH.out; unfold hasB at this; simpa using this
          by_cases ht0 : t = 0
          · have hd0 : decide (0 < t) = false := by simp; omega
            have HT0 := Lib.hid ht0; clear ht0
            go_wp2_with (go_at_call 57; refine (has_any hgv2 y).mono ?_; rintro e w4 ⟨rfl, hb4⟩; rw [HH.out])
            go_roundw
            case rel =>
              refine ⟨t + 1, by omega, by go_num, fun j hj => ?_, hbt.trans (hb4.mono hbt.size)⟩
              rcases Nat.lt_or_ge j t with h2 | h2
              · exact HT.out j h2
              · obtain rfl : j = t := by omega
                unfold rowAt; rw [getD_some HY.out, if_neg (by simpa using hyn), if_neg (by have := HT0.out; omega)]
            case measure => simp [intOf]; omega
          · obtain ⟨z, hz⟩ : ∃ z, l[t - 1]? = some z := ⟨_, List.getElem?_eq_getElem (by omega)⟩
            have f1 := HC3.out _ _ hz
            have hzr := hl.2 z (List.mem_of_getElem? hz)
            have HZ := Lib.hid hz
            have ht1 : 0 < t := by omega
            clear ht0 hz
            go_wp2_with (go_at_call 57; refine (has_any hgv2 y).mono ?_; rintro e w4 ⟨rfl, hb4⟩; rw [HH.out]; obtain ⟨hc4, hf4⟩ := bcell hb4; have f2 := (hc4 _ _ (cell_some_lt f1)).trans f1; clear hc4 hf4)
            · go_ret
              have hyz : y < z := by assumption
              have er : rowAt names.length l t = 14 := by unfold rowAt; rw [getD_some HY.out, getD_some HZ.out, if_neg (by simpa using hyn), if_pos ⟨ht1, hyz⟩]
              exact chkR_of (by rw [rowC_hit (by omega) htl HT.out (by rw [er]; decide), er]) (hbW.trans ((hbt.trans (hb4.mono hbt.size)).mono hbW.size))
            · have hyz : ¬ y < z := by first | assumption | omega
              go_roundw
              case rel =>
                refine ⟨t + 1, by omega, by go_num, fun j hj => ?_, hbt.trans (hb4.mono hbt.size)⟩
                rcases Nat.lt_or_ge j t with h2 | h2
                · exact HT.out j h2
                · obtain rfl : j = t := by omega
                  unfold rowAt; rw [getD_some HY.out, getD_some HZ.out, if_neg (by simpa using hyn), if_neg (fun h => hyz h.2)]
              case measure => simp [intOf]; omega
      · obtain rfl : t = l.length := by omega
        go_wp2_with fail
        go_ret
        exact chkR_of (by rw [rowC_ok (by omega) HT.out]) (hbW.trans (hbt.mono hbW.size))

theorem plainElem_bool_inv {H : Type} {P : Program} {e : TypeId} (he : P.underlying e = some .bool) {v : Value} {z : DataW H × List MemPlace} (h : plainElem P e v = some z) : ∃ a, v = .bool a ∧ z = (.lit (.bool a), []) := by
  unfold plainElem at h
  rw [he] at h
  cases v <;> simp at h
  exact ⟨_, rfl, h.symm⟩

/-- m[k] in a map of bools of the call's own. -/
theorem wpList_lookup_own_bool {H : Type} {P : Program} (w : World) {ops : Array Oper} {rest : List Oper} {o : Oper} {a : Act} {Q : Exit → Act → World → Prop}
    (hg : o.guard = none) (m x : Operand) (t : TypeId) (hop : o.op = Op.lookup t m x false)
    (k e : TypeId) (K : Keyed P k) (ht : P.underlying t = some (.map k e)) (he : P.underlying e = some .bool) (hz : (zeroValue e).run P w = .ok (.bool false) w) (b n : Nat) (D : DataW H)
    (hm : a.eval m = .map (some b)) (hown : w.ownsMap P k (plainElem P e) b n D) (key : Value) (kl : Lit) (hx : a.eval x = key) (hkey : keyOf P k key = some kl) (r : Bool)
    (hat : D.atKey kl (.lit (.bool false)) = .lit (.bool r))
    (hK : wpList P ops Q rest (a.put o.dst (.bool r)) w) :
    wpList P ops Q (o :: rest) a w := by
  refine wpList_plain hg fun K' hK' => ?_
  obtain ⟨v, ps, hrun, hv⟩ := hown.lookup K ht hz (plainElem_bool he false) hkey
  obtain ⟨c, rfl, hc⟩ := plainElem_bool_inv he hv
  simp only [Prod.mk.injEq] at hc
  have hcr : c = r := by
    have := hc.1.symm.trans hat
    injection this with this
    injection this
  subst hcr
  unfold Oper.wp
  simp [execOp, hop, hm, hx, hrun, Result.andThen]
  exact hK' _ _ hK

theorem bytes_inj {a b : ByteArray} (h : a.data.toList = b.data.toList) : a = b := by
  cases a; cases b
  congr
  exact Array.toList_inj.1 h

theorem str_keyed : Keyed Tryd.prog 9 := string_keyed Tryd.underlying9
theorem zero_bool (w : World) : (zeroValue 4).run Tryd.prog w = .ok (.bool false) w := by kernel_rfl

theorem ownsMap_below {H : Type} {P : Program} {k : TypeId} {R : Value → Option (DataW H × List MemPlace)} {b n : Nat} {D : DataW H} {w w' : World} (h : w.ownsMap P k R b n D) (hb : Below w.heap.size w w') : w'.ownsMap P k R b n D := by
  obtain ⟨es, clock, h1, r⟩ := h
  exact ⟨es, clock, (hb.block b (Array.getElem?_eq_some_iff.1 h1).1).trans h1, r⟩

open Classical in
/-- The map holds just the names so far. -/
def NamesIn (names : List ByteArray) (k : Nat) (D : DataW Unit) : Prop := ∀ s : ByteArray, D.atKey (.string s.data.toList) (.lit (.bool false)) = .lit (.bool (decide (s ∈ names.take k)))

open Classical in
theorem NamesIn.add {names : List ByteArray} {k : Nat} {D : DataW Unit} {x : ByteArray} (hD : IsMap D) (h : NamesIn names k D) (hx : names[k]? = some x) : NamesIn names (k + 1) (D.put (.string x.data.toList) (.lit (.bool true))) := by
  intro s
  by_cases hs : s = x
  · subst hs
    rw [atKey_put_same hD (show WideAt.IsKeyLit (.string s.data.toList) from trivial)]
    have : s ∈ names.take (k + 1) := mem_take.2 ⟨k, by omega, hx⟩
    simp [this]
  · rw [atKey_put_other (fun e => hs (bytes_inj (by injection e)))]
    rw [h s]
    have : (s ∈ names.take (k + 1)) ↔ s ∈ names.take k := by
      constructor
      · intro hm
        obtain ⟨j, hj, hj2⟩ := mem_take.1 hm
        refine mem_take.2 ⟨j, ?_, hj2⟩
        rcases Nat.lt_or_ge j k with h1 | h1
        · exact h1
        · obtain rfl : j = k := by omega
          rw [hx] at hj2
          injection hj2 with hj2
          exact absurd hj2.symm hs
      · intro hm
        obtain ⟨j, hj, hj2⟩ := mem_take.1 hm
        exact mem_take.2 ⟨j, by omega, hj2⟩
    simp only [this]

theorem nameB_iff {x : ByteArray} (h0 : x.size ≠ 0) (h1 : x.size ≤ 40) : nameB x = !(blB x) := by
  cases hb : blB x
  · refine nameB_true.2 ⟨h0, h1, fun b hb2 => ⟨fun e => blB_false.1 hb ⟨b, hb2, .inl e⟩, fun e => blB_false.1 hb ⟨b, hb2, .inr e⟩⟩⟩
  · refine nameB_false.2 fun h => ?_
    obtain ⟨b, hb2, hb3⟩ := blB_true.1 hb
    rcases hb3 with e | e
    · exact (h.2.2 b hb2).1 e
    · exact (h.2.2 b hb2).2 e

set_option maxHeartbeats 2000000 in
set_option maxRecDepth 100000 in
theorem Check_any {w : World} {v : Value} {names : List ByteArray} {E : List (List Int)} (h : GrV w v names E) :
    Calls Tryd.prog 34 #[v] w (ChkR w (chk names E)) := by
  obtain ⟨A, c, A', c', rfl, hs, hg⟩ := h
  obtain ⟨hr1, hr2⟩ := hs.room
  obtain ⟨hr3, hr4⟩ := hg.room
  unfold maxLen at hr2 hr4
  by_cases hne : names.length = E.length
  · by_cases hlg : 2500 < names.length
    · have e : chk names E = 8 := by unfold chk; rw [if_neg (by omega), if_pos hlg]
      rw [e]
      have hb : ((names.length : Int) != (E.length : Int)) = false := by simp [hne]
      clear hne e
      go_enter Tryd.func34, Tryd.ntmps34
      go_wp2
      go_ret
      exact chkR_of rfl ((Below.refl _ _).alloc (Nat.le_refl _) _)
    · have hb : ((names.length : Int) != (E.length : Int)) = false := by simp [hne]
      have HNE := Lib.hid hne
      clear hne
      obtain ⟨W, G, hW, hG, hbW, c0, c1, hGl, hwG⟩ := gbox w (.slice A names.length c) (.slice A' E.length c')
      have HW := Lib.hid hW
      have HG := Lib.hid hG
      clear hW hG
      replace hs := hs.below hbW
      replace hg := hg.below hbW
      have hmm := @run_makeMap Tryd.prog
      go_enter Tryd.func34, Tryd.ntmps34
      go_wp2
      rw [← HW.out, ← HG.out]
      clear hb
      obtain ⟨M, hM⟩ : ∃ M, M = G + 1 := ⟨_, rfl⟩
      have hWs : W.heap.size = M := by rw [hM, HW.out, HG.out]; simp
      have hbM : Below W.heap.size W (W.alloc (.map #[] 0)) := (Below.refl _ _).alloc (Nat.le_refl _) _
      have how : (W.alloc (.map #[] 0)).ownsMap Tryd.prog 9 (plainElem (H := Unit) Tryd.prog 4) M 0 (.map []) := by rw [← hWs]; exact World.ownsMap_made _ _ _ _
      rw [← hM]
      have hWM : W.heap.size ≤ M := by omega
      clear hM hmm
      have HWS := Lib.hid hWs; clear hWs
      generalize W.alloc (.map #[] 0) = W1 at *
      go_loopw [22] (fun i wr => ∃ k D, k ≤ names.length ∧ i = .int .i64 (k : Nat) ∧ (∀ j, j < k → atC names E j = 0) ∧ Below W.heap.size W wr ∧ wr.ownsMap Tryd.prog 9 (plainElem (H := Unit) Tryd.prog 4) M k D ∧ NamesIn names k D) (fun i _ => names.length - (intOf i).toNat)
      case atStart => exact ⟨0, _, Nat.zero_le _, rfl, fun j hj => by omega, hbM, how, fun s => by simp [DataW.atKey]⟩
      case round =>
        obtain ⟨k, D, hk, rfl, hno, hbr, hown, hin⟩ := hrel
        have HN := Lib.hid hno; clear hno
        have HIN := Lib.hid hin; clear hin
        have hbw := hbW.trans (hbr.mono hbW.size)
        by_cases hlt : k < names.length
        · have hs2 := hs.below hbr
          have hg2 := hg.below hbr
          have hGr : G < wr.heap.size := Nat.lt_of_lt_of_le hGl hbr.size
          have d0 := ((bcell hbr).1 _ 0 hGl).trans c0
          have d1 := ((bcell hbr).1 _ 1 hGl).trans c1
          obtain ⟨b, off, rfl, hcell⟩ := hs2.cell (by omega)
          obtain ⟨x, hx⟩ : ∃ x, names[k]? = some x := ⟨_, List.getElem?_eq_getElem hlt⟩
          have hcx := hcell k x hx
          have hxm := hs.2 x (List.mem_of_getElem? hx)
          have HX := Lib.hid hx
          clear hx hcell
          have hxm2 := hxm
          unfold maxLen at hxm2
          by_cases hx0 : x.size = 0
          · have hz : x.toList.isEmpty = true := by rw [Lib.toList_data, List.isEmpty_iff]; exact List.length_eq_zero_iff.1 (by rw [← Lib.size_eq]; exact hx0)
            have hnb : nameB x = false := nameB_false.2 fun h => h.1 hx0
            have HB := Lib.hid hnb; clear hnb hx0
            go_wp2_with fail
            go_ret
            exact chkR_of (by rw [chk_hit HNE.out (by omega) hlt HN.out (by rw [atC_name HX.out HB.out]; decide), atC_name HX.out HB.out]) hbw
          · have hz : x.toList.isEmpty = false := by
              rw [Lib.toList_data]
              cases hl : x.data.toList with
              | nil => exact absurd (by rw [Lib.size_eq, hl]; rfl) hx0
              | cons a t => rfl
            by_cases hx40 : 40 < x.size
            · have hnb : nameB x = false := nameB_false.2 fun h => by have := h.2.1; omega
              have HB := Lib.hid hnb; clear hnb hx0
              go_wp2_with fail
              go_ret
              exact chkR_of (by rw [chk_hit HNE.out (by omega) hlt HN.out (by rw [atC_name HX.out HB.out]; decide), atC_name HX.out HB.out]) hbw
            · have hnb := nameB_iff hx0 (by omega)
              have hd40 : decide (40 < x.size) = false := by simp; omega
              clear hx0
              cases hbl : blB x
              · rw [hbl] at hnb
                have HB := Lib.hid hnb; clear hnb
                have HBL := Lib.hid hbl; clear hbl
                cases hmem : @decide (x ∈ names.take k) (Classical.propDecidable _)
                · have hnm : ¬ x ∈ names.take k := @of_decide_eq_false _ (Classical.propDecidable _) hmem
                  have hat := HIN.out x
                  rw [show (@decide (x ∈ names.take k) (Classical.propDecidable _)) = false from hmem] at hat
                  have HAT := Lib.hid hat
                  have HNM := Lib.hid hnm
                  clear hmem hat hnm
                  go_wp2_with (first
                    | (go_at_call 75; refine (ContainsAny_bl x _ (by omega)).mono ?_; rintro e w1 ⟨rfl, hb1⟩; rw [HBL.out]; have hown1 := ownsMap_below hown hb1; have hbr1 := hbr.trans (hb1.mono hbr.size))
                    | (at_lookup; go_must (refine wpList_lookup_own_bool _ rfl _ _ 102 rfl 9 4 str_keyed Tryd.underlying102 Tryd.underlying4 (zero_bool _) M k D rfl hown1 _ _ rfl (WideMaps.keyOf_string_mk Tryd.underlying9 hxm) false HAT.out ?_))
                    | (at_mapUpdate; go_must (refine wpList_mapUpdate_own _ rfl _ _ _ 102 rfl 9 4 str_keyed Tryd.underlying102 _ M k _ rfl hown1 (by unfold maxLen; omega) _ _ _ rfl rfl (WideMaps.keyOf_string_mk Tryd.underlying9 hxm) _ [] (plainElem_bool Tryd.underlying4 true) ?_); intro w2 hown2 hgrow2))
                  have hbr2 : Below W.heap.size W w2 := hbr1.grown hgrow2 hbr1.size (fun j hj => by injection hj with hj; omega)
                  go_frame
                  have hkE : k < E.length := by have := HNE.out; omega
                  obtain ⟨b2, off2, rfl, hcell2⟩ := (hg.below hbr2).cell (by omega)
                  obtain ⟨l, hl⟩ : ∃ l, E[k]? = some l := ⟨_, List.getElem?_eq_getElem hkE⟩
                  obtain ⟨B, d, hcl, hil⟩ := hcell2 k l hl
                  have hrow := atC_row (E := E) HX.out HB.out hl (fun j hj hj2 => HNM.out (mem_take.2 ⟨j, hj, hj2⟩))
                  have HROW := Lib.hid hrow
                  have hgv : GrV w2 (.agg #[.slice (some ⟨b, off, none⟩) names.length c, .slice (some ⟨b2, off2, none⟩) E.length c']) names E := ⟨_, _, _, _, rfl, hs.below hbr2, hg.below hbr2⟩
                  have hnin := NamesIn.add (hown.isMap) HIN.out HX.out
                  have HNIN := Lib.hid hnin
                  have f0 := ((bcell hbr2).1 _ 0 hGl).trans c0
                  have f1 := ((bcell hbr2).1 _ 1 hGl).trans c1
                  have i1 : (k : Int) < (E.length : Int) := by omega
                  have i2 : 0 ≤ (k : Int) := by omega
                  clear hl hcell2 hrow hnin d0 d1 hcx
                  go_still_tail 6, (by kernel_rfl)
                  have hb5 : Below w2.heap.size w2 w2.drew := (Below.refl _ _).drew
                  have hgv5 := hgv.below hb5
                  have hil5 := hil.below hb5
                  have hown5 := ownsMap_below hown2 hb5
                  have hbr5 := hbr2.trans (hb5.mono hbr2.size)
                  change wpList _ _ _ _ _ w2.drew
                  clear hgv hil hown2 hb5 hbr2 f0 f1 hcl
                  generalize w2.drew = w5 at *
                  by_cases hz0 : rowC names.length l = 0
                  · have hzb : (((rowC names.length l : Nat) : Int) != 0) = false := by simp [hz0]
                    have ea : atC names E k = 0 := by rw [HROW.out, hz0]
                    have HEA := Lib.hid ea; clear ea hz0
                    go_wp2_with (go_at_call 76; refine (checkNeighbours_any hgv5 hil5).mono ?_; rintro e w6 ⟨rfl, hb6⟩)
                    have hown6 := ownsMap_below hown5 hb6
                    have hbr6 := hbr5.trans (hb6.mono hbr5.size)
                    go_roundw
                    case rel =>
                      refine ⟨k + 1, _, by omega, by go_num, fun j hj => ?_, hbr6, hown6, HNIN.out⟩
                      rcases Nat.lt_or_ge j k with h2 | h2
                      · exact HN.out j h2
                      · obtain rfl : j = k := by omega
                        exact HEA.out
                    case measure => simp [intOf]; omega
                  · have hzb : (((rowC names.length l : Nat) : Int) != 0) = true := by simp [hz0]
                    have ea : chk names E = rowC names.length l := by rw [chk_hit HNE.out (by omega) hlt HN.out (by rw [HROW.out]; exact hz0), HROW.out]
                    have HEA := Lib.hid ea; clear ea hz0
                    go_wp2_with (go_at_call 76; refine (checkNeighbours_any hgv5 hil5).mono ?_; rintro e w6 ⟨rfl, hb6⟩)
                    have hbr6 := hbr5.trans (hb6.mono hbr5.size)
                    go_ret
                    exact chkR_of HEA.out.symm (hbW.trans (hbr6.mono hbW.size))
                · have hnm : x ∈ names.take k := @of_decide_eq_true _ (Classical.propDecidable _) hmem
                  have hat := HIN.out x
                  rw [show (@decide (x ∈ names.take k) (Classical.propDecidable _)) = true from hmem] at hat
                  have HAT := Lib.hid hat
                  obtain ⟨j, hj, hj2⟩ := mem_take.1 hnm
                  have ea := atC_exists (E := E) HX.out HB.out hj hj2
                  have HEA := Lib.hid ea
                  clear hmem hat hnm ea hj hj2 j
                  go_wp2_with (first
                    | (go_at_call 75; refine (ContainsAny_bl x _ (by omega)).mono ?_; rintro e w1 ⟨rfl, hb1⟩; rw [HBL.out]; have hown1 := ownsMap_below hown hb1; have hbr1 := hbr.trans (hb1.mono hbr.size))
                    | (at_lookup; go_must (refine wpList_lookup_own_bool _ rfl _ _ 102 rfl 9 4 str_keyed Tryd.underlying102 Tryd.underlying4 (zero_bool _) M k D rfl hown1 _ _ rfl (WideMaps.keyOf_string_mk Tryd.underlying9 hxm) true HAT.out ?_)))
                  go_ret
                  exact chkR_of (by rw [chk_hit HNE.out (by omega) hlt HN.out (by rw [HEA.out]; decide), HEA.out]) (hbW.trans (hbr1.mono hbW.size))
              · rw [hbl] at hnb
                have HB := Lib.hid hnb; clear hnb
                have HBL := Lib.hid hbl; clear hbl
                go_wp2_with (go_at_call 75; refine (ContainsAny_bl x _ (by omega)).mono ?_; rintro e w1 ⟨rfl, hb1⟩; rw [HBL.out])
                go_ret
                exact chkR_of (by rw [chk_hit HNE.out (by omega) hlt HN.out (by rw [atC_name HX.out HB.out]; decide), atC_name HX.out HB.out]) (hbw.trans (hb1.mono hbw.size))
        · go_wp2_with fail
          go_ret
          exact chkR_of (by rw [chk_ok HNE.out (by omega) (fun i hi => HN.out i (by omega))]) hbw
  · have e : chk names E = 9 := by unfold chk; rw [if_pos hne]
    rw [e]
    have hb : ((names.length : Int) != (E.length : Int)) = true := by simp; omega
    clear hne e
    go_enter Tryd.func34, Tryd.ntmps34
    go_wp2
    go_ret
    exact chkR_of rfl ((Below.refl _ _).alloc (Nat.le_refl _) _)
end Go.Proofs.YtpkjdnplmgfbbaaDoor
