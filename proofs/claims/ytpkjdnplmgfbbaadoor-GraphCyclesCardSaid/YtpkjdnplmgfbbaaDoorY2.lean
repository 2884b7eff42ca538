/- The reference's IsCycle. The reference's CheckCycle. -/
import Derived.Test.YtpkjdnplmgfbbaaDoorY1
import Derived.Test.YtpkjdnplmgfbbaaDoorCkp
import Derived.Test.YtpkjdnplmgfbbaaDoorRtn
import Derived.Test.YtpkjdnplmgfbbaaDoorLawC
namespace Go.Proofs.YtpkjdnplmgfbbaaDoor
open Go.RowKit

theorem gi_cntC {E : List (List Nat)} {u v : Nat} : (gi E u).count (v : Int) = (gr E u).count v := by
  unfold gi
  induction gr E u with
  | nil => rfl
  | cons x r ih =>
    rw [List.map_cons, List.count_cons, List.count_cons, ih]
    by_cases e : x = v
    · subst e; simp
    · have : ¬ (x : Int) = (v : Int) := by omega
      simp [e, this]
open Classical in
noncomputable def cycB (E : List (List Nat)) (l : List Nat) : Bool := decide (IsCyc E l)
theorem cycB_true {E : List (List Nat)} {l : List Nat} (h : IsCyc E l) : true = cycB E l := by simp [cycB, h]
theorem cycB_false {E : List (List Nat)} {l : List Nat} (h : ¬ IsCyc E l) : false = cycB E l := by simp [cycB, h]
def CyR (w : World) (b : Bool) (e : Ending) (w' : World) : Prop := e = .returned (.bool b) ∧ Below w.heap.size w w'
theorem cyR_of {w w' : World} {b c : Bool} (h : b = c) (hb : Below w.heap.size w w') : CyR w c (.returned (.bool b)) w' := ⟨by rw [h], hb⟩
/-- No vertex twice among the first k. -/
def Dst (l : List Nat) (k : Nat) : Prop := ∀ a, a < k → ∀ b, b < a → l.getD a 0 ≠ l.getD b 0
theorem dst_nodup {l : List Nat} (h : Dst l l.length) (i j x : Nat) (hi : l[i]? = some x) (hj : l[j]? = some x) : i = j := by
  have h1 := lt_of_some hi
  have h2 := lt_of_some hj
  rcases Nat.lt_trichotomy i j with h3 | h3 | h3
  · exact absurd ((getD_some hj).trans (getD_some hi).symm) (h j h2 i h3)
  · exact h3
  · exact absurd ((getD_some hi).trans (getD_some hj).symm) (h i h1 j h3)
theorem isCyc_two {E : List (List Nat)} {l : List Nat} (h : Dst l l.length) (h2 : l.length = 2) {x y : Nat} (hx : l[0]? = some x) (hy : l[1]? = some y) : decide (2 ≤ (gr E x).count y) = cycB E l := by
  by_cases hc : 2 ≤ (gr E x).count y
  · rw [decide_eq_true hc]
    refine cycB_true ⟨by omega, dst_nodup h, fun _ x' y' hx' hy' => ?_, fun hn => absurd h2 hn⟩
    rw [hx] at hx'; rw [hy] at hy'
    injection hx' with hx'; injection hy' with hy'
    subst hx' hy'
    exact hc
  · rw [decide_eq_false hc]
    exact cycB_false fun hcy => hc (hcy.two h2 x y hx hy)
theorem isCyc_more {E : List (List Nat)} {l : List Nat} (h0 : 0 < l.length) (h : Dst l l.length) (h2 : l.length ≠ 2) (ha : ∀ i x y : Nat, i < l.length → l[i]? = some x → l[(i + 1) % l.length]? = some y → 0 < (gr E x).count y) : true = cycB E l :=
  cycB_true ⟨h0, dst_nodup h, fun hn => absurd hn h2, fun _ i x y hx hy => List.count_pos_iff.1 (ha i x y (lt_of_some hx) hx hy)⟩
theorem wlk_get {l : List Nat} {j x : Nat} (h : l[j]? = some x) : (wlkI l)[j]? = some (x : Int) := by unfold wlkI; rw [List.getElem?_map, h]; rfl

set_option maxHeartbeats 2000000 in
set_option maxRecDepth 100000 in
theorem rIsCycle_ok {w : World} {v : Value} {names : List ByteArray} {E : List (List Nat)} (h : GrV w v names (toI E)) {A : Option Addr} {n c : Nat} {l : List Nat} (hl : Il w A n c (wlkI l)) (h0 : 0 < n) (hv : ∀ x ∈ l, x < E.length) :
    Calls Tryd.prog 97 #[v, .slice A n c] w (CyR w (cycB E l)) := by
  have HCNT := Lib.hid (fun w' (hb : Below w.heap.size w w') u (hu : u < E.length) (y : Nat) => gi_cntC ▸ rcount_any (h.at w' hb) hu (y : Int))
  have hln : l.length = n := by have := hl.len; unfold wlkI at this; rwa [List.length_map] at this
  have hr := hl.room
  unfold maxLen at hr
  obtain ⟨A1, c1, A', c', hvv, hs, hg⟩ := h
  rw [toI_length] at hvv hg
  subst hvv
  obtain ⟨W, G, hW, hG, hbW, g0, g1, hGl, hwG⟩ := gbox w (.slice A1 names.length c1) (.slice A' E.length c')
  replace hl := hl.below hbW
  have HW := Lib.hid hW
  have HG := Lib.hid hG
  have HLN := Lib.hid hln
  have HV := Lib.hid hv
  clear hW hG hs hln hg hv
  obtain ⟨b, off, rfl, hcl⟩ := hl.cell h0
  have HCELL := Lib.hid (fun w' (hb : Below W.heap.size W w') j (x : Nat) (hx : l[j]? = some x) => ((bcell hb).1 _ _ (cell_some_lt (hcl j x (wlk_get hx)))).trans (hcl j x (wlk_get hx)))
  clear hcl hl
  go_enter Tryd.func97, Tryd.ntmps97
  go_wp2_with fail
  rw [← HW.out, ← HG.out]
  go_loopw [5] (fun i wr => ∃ k : Nat, k ≤ n ∧ i = .int .i64 (k : Nat) ∧ Hid (Dst l k) ∧ Below W.heap.size W wr) (fun i _ => n - (intOf i).toNat)
  case atStart => exact ⟨0, Nat.zero_le _, rfl, Lib.hid (fun a ha => by omega), Below.refl _ _⟩
  case round =>
    obtain ⟨k, hkl, rfl, HD, hbr⟩ := hrel
    obtain ⟨d0, d1⟩ := keep2 hbr g0 g1
    by_cases hlt : k < n
    · obtain ⟨x, hx⟩ : ∃ x, l[k]? = some x := ⟨_, List.getElem?_eq_getElem (by rw [HLN.out]; exact hlt)⟩
      have HX := Lib.hid hx
      clear hx
      go_wp2_with fail
      clear d0 d1
      go_loopw [6] (fun i wr => ∃ t : Nat, t ≤ k ∧ i = .int .i64 (t : Nat) ∧ Hid (∀ b, b < t → l.getD k 0 ≠ l.getD b 0) ∧ Below W.heap.size W wr) (fun i _ => k - (intOf i).toNat)
      case atStart => exact ⟨0, Nat.zero_le _, rfl, Lib.hid (fun b hb => by omega), hbr⟩
      case round =>
        clear hbr
        obtain ⟨t, htl, rfl, HT, hbr⟩ := hrel
        by_cases htk : t < k
        · obtain ⟨y, hy⟩ : ∃ y, l[t]? = some y := ⟨_, List.getElem?_eq_getElem (by rw [HLN.out]; omega)⟩
          have cx := HCELL.out _ hbr k x HX.out
          have cy := HCELL.out _ hbr t y hy
          have HY := Lib.hid hy
          clear hy
          have hki : (k : Int) < (n : Int) := by omega
          have hti : (t : Int) < (n : Int) := by omega
          have hk0 : (0 : Int) ≤ (k : Int) := by omega
          have ht0 : (0 : Int) ≤ (t : Int) := by omega
          by_cases he : x = y
          · have hz : ((x : Int) == (y : Int)) = true := by simp [he]
            have HE := Lib.hid (show false = cycB E l from cycB_false fun hc => by
              have := hc.nodup k t x HX.out (by rw [HY.out, he])
              omega)
            clear he
            go_wp2_with fail
            go_region
            go_wp2_with fail
            go_ret
            exact cyR_of HE.out ((hbW.trans (hbr.mono hbW.size)).drew)
          · have hz : ((x : Int) == (y : Int)) = false := beq_eq_false_iff_ne.2 (by omega)
            have HE := Lib.hid he
            clear he
            go_wp2_with fail
            go_region
            go_wp2_with fail
            go_roundw
            case rel =>
              refine ⟨t + 1, by omega, by go_num, Lib.hid fun b hb => ?_, hbr.drew⟩
              rcases Nat.lt_or_ge b t with h1 | h1
              · exact HT.out b h1
              · obtain rfl : b = t := by omega
                rw [getD_some HX.out, getD_some HY.out]
                exact HE.out
            case measure => simp [intOf]; omega
        · obtain rfl : t = k := by omega
          go_wp2_with fail
          go_roundw
          case rel =>
            refine ⟨t + 1, by omega, by go_num, Lib.hid fun a ha => ?_, hbr⟩
            rcases Nat.lt_or_ge a t with h1 | h1
            · exact HD.out a h1
            · obtain rfl : a = t := by omega
              exact HT.out
          case measure => simp [intOf]; omega
    · obtain rfl : k = n := by omega
      have HDL := Lib.hid (show Dst l l.length by rw [HLN.out]; exact HD.out)
      have hb3 := hbW.trans (hbr.mono hbW.size)
      have hdr : Below wr.heap.size wr wr.drew := (Below.refl _ _).drew
      by_cases h2 : k = 2
      · subst h2
        obtain ⟨x, hx⟩ : ∃ x, l[0]? = some x := ⟨_, List.getElem?_eq_getElem (by rw [HLN.out]; omega)⟩
        obtain ⟨y, hy⟩ : ∃ y, l[1]? = some y := ⟨_, List.getElem?_eq_getElem (by rw [HLN.out]; omega)⟩
        have cx := HCELL.out _ hbr 0 x hx
        have cy := HCELL.out _ hbr 1 y hy
        have hxE : x < E.length := HV.out x (List.mem_of_getElem? hx)
        have HE := Lib.hid (isCyc_two (E := E) HDL.out HLN.out hx hy)
        clear hx hy
        go_wp2_with fail
        have cx0 : wr.cell? ⟨b, off, none⟩ = some (.int .i64 (x : Nat)) := cx
        go_still_tail 7, (by kernel_rfl)
        change wpList _ _ _ _ _ wr.drew
        have hb5 := hb3.drew
        clear cx cy cx0 d0 d1
        generalize wr.drew = w5 at *
        by_cases hc : 2 ≤ (gr E x).count y
        all_goals
          have hz : decide ((2 : Int) ≤ ((gr E x).count y : Nat)) = decide (2 ≤ (gr E x).count y) := by
            by_cases h9 : 2 ≤ (gr E x).count y
            · rw [decide_eq_true h9]; exact decide_eq_true (by omega)
            · rw [decide_eq_false h9]; exact decide_eq_false (by omega)
          rw [hz.symm] at HE
          clear hz
          first
            | rw [decide_eq_true (show (2 : Int) ≤ ((gr E x).count y : Nat) by omega)] at HE
              have hz2 : decide ((2 : Int) ≤ ((gr E x).count y : Nat)) = true := decide_eq_true (by omega)
            | rw [decide_eq_false (show ¬ (2 : Int) ≤ ((gr E x).count y : Nat) by omega)] at HE
              have hz2 : decide ((2 : Int) ≤ ((gr E x).count y : Nat)) = false := decide_eq_false (by omega)
          clear hc
          go_wp2_with (go_at_call 71; refine (HCNT.out _ hb5 x hxE y).mono ?_; rintro e w6 ⟨rfl, hb6⟩)
          go_ret
          exact cyR_of HE.out (hb5.trans (hb6.mono hb5.size))
      · have hz : ((k : Int) == 2) = false := beq_eq_false_iff_ne.2 (by omega)
        have HNE := Lib.hid h2
        clear h2
        go_wp2_with fail
        obtain ⟨wo, hwo⟩ : ∃ wo : World, wo = wr := ⟨_, rfl⟩
        rw [← hwo] at hbr ⊢
        clear hwo hz hb3 hdr d0 d1 wr
        go_loopw [7] (fun i wr => ∃ t : Nat, t ≤ k ∧ i = .int .i64 (t : Nat) ∧ Hid (∀ i x y : Nat, i < t → l[i]? = some x → l[(i + 1) % l.length]? = some y → 0 < (gr E x).count y) ∧ Below W.heap.size W wr) (fun i _ => k - (intOf i).toNat)
        case atStart => exact ⟨0, Nat.zero_le _, rfl, Lib.hid (fun i x y hi => by omega), hbr⟩
        case round =>
          clear hbr
          obtain ⟨t, htl, rfl, HT, hbr⟩ := hrel
          have hb3 := hbW.trans (hbr.mono hbW.size)
          obtain ⟨d0, d1⟩ := keep2 hbr g0 g1
          by_cases htk : t < k
          · obtain ⟨x, hx⟩ : ∃ x, l[t]? = some x := ⟨_, List.getElem?_eq_getElem (by rw [HLN.out]; omega)⟩
            obtain ⟨m, hm⟩ : ∃ m, m = (t + 1) % k := ⟨_, rfl⟩
            have hmk : m < k := by rw [hm]; exact Nat.mod_lt _ h0
            obtain ⟨y, hy⟩ : ∃ y, l[m]? = some y := ⟨_, List.getElem?_eq_getElem (by rw [HLN.out]; omega)⟩
            have cx := HCELL.out _ hbr t x hx
            have cy := HCELL.out _ hbr m y hy
            have hxE : x < E.length := HV.out x (List.mem_of_getElem? hx)
            have HX := Lib.hid hx
            have HY := Lib.hid (show l[(t + 1) % l.length]? = some y by rw [HLN.out, ← hm]; exact hy)
            have hti : (t : Int) < (k : Int) := by omega
            have ht0 : (0 : Int) ≤ (t : Int) := by omega
            have hmi : (m : Int) < (k : Int) := by omega
            have hm0 : (0 : Int) ≤ (m : Int) := by omega
            have hk9 : ((k : Int) == 0) = false := beq_eq_false_iff_ne.2 (by omega)
            have hmod : ((t : Int) + 1).tmod (k : Int) = (m : Int) := by rw [hm]; rfl
            have hmw : (IntKind.i64.wrap ((t : Int) + 1)).tmod (k : Int) = (m : Int) := by rw [IntWalk.i64_in _ (by omega)]; exact hmod
            have hk8 : ¬ ((k : Int) = 0) := by omega
            have hk7 : ¬ (k = 0) := by omega
            clear hm hx hy
            go_wp2_with fail
            go_still_tail 13, (by kernel_rfl)
            change wpList _ _ _ _ _ wr.drew
            have hb4 : Below W.heap.size W wr.drew := hbr.drew
            have hb5 : Below w.heap.size w wr.drew := hb3.drew
            clear hbr hb3 cx cy d0 d1 hmw hmod
            generalize wr.drew = w5 at *
            by_cases hct : (gr E x).count y = 0
            · have hz : (((gr E x).count y : Int) == 0) = true := by simp [hct]
              have HE := Lib.hid (show false = cycB E l from cycB_false fun hc => by
                have h5 := hc.adj (by rw [HLN.out]; exact HNE.out) t x y HX.out HY.out
                have := List.count_pos_iff.2 h5
                omega)
              clear hct
              go_wp2_with (go_at_call 71; refine (HCNT.out _ hb5 x hxE y).mono ?_; rintro e w6 ⟨rfl, hb6⟩)
              go_ret
              exact cyR_of HE.out (hb5.trans (hb6.mono hb5.size))
            · have hz : (((gr E x).count y : Int) == 0) = false := beq_eq_false_iff_ne.2 (by omega)
              have HE := Lib.hid hct
              clear hct
              go_wp2_with (go_at_call 71; refine (HCNT.out _ hb5 x hxE y).mono ?_; rintro e w6 ⟨rfl, hb6⟩)
              go_roundw
              case rel =>
                refine ⟨t + 1, by omega, by go_num, Lib.hid fun i x' y' hi hx' hy' => ?_, hb4.trans (hb6.mono hb4.size)⟩
                rcases Nat.lt_or_ge i t with h1 | h1
                · exact HT.out i x' y' h1 hx' hy'
                · obtain rfl : i = t := by omega
                  rw [HX.out] at hx'; rw [HY.out] at hy'
                  injection hx' with hx'; injection hy' with hy'
                  subst hx' hy'
                  have := HE.out
                  omega
              case measure => simp [intOf]; omega
          · obtain rfl : t = k := by omega
            have HE := Lib.hid (isCyc_more (E := E) (by rw [HLN.out]; exact h0) HDL.out (by rw [HLN.out]; exact HNE.out) (fun i x y hi => HT.out i x y (by rw [HLN.out] at hi; exact hi)))
            go_wp2_with fail
            go_ret
            exact cyR_of HE.out hb3
end Go.Proofs.YtpkjdnplmgfbbaaDoor

namespace Go.Proofs.YtpkjdnplmgfbbaaDoor
open Go.RowKit

theorem lstC_sixC {n k : Nat} {l : List Int} {x : Int} (hx : l[k]? = some x) (hh : hasB n x = false) : lstC n l = 6 := by
  have := lt_of_some hx
  unfold lstC
  rw [if_neg (by omega), if_pos]
  exact List.any_eq_true.2 ⟨x, List.mem_of_getElem? hx, by rw [hh]; rfl⟩
theorem lstC_okC {n : Nat} {l : List Int} (h0 : 0 < l.length) (h : ∀ j x, j < l.length → l[j]? = some x → hasB n x = true) : lstC n l = 0 := by
  unfold lstC
  rw [if_neg (by omega), if_neg]
  intro ha
  obtain ⟨x, hx, h2⟩ := List.any_eq_true.1 ha
  obtain ⟨j, hj, hj2⟩ := mem_getElem hx
  rw [h j x hj hj2] at h2
  cases h2
/-- A list of numbers that are all of the graph, as numbers from nought. -/
theorem wlkI_nat {n : Nat} {l : List Int} (h : lstC n l = 0) : wlkI (l.map Int.toNat) = l ∧ ∀ x ∈ l.map Int.toNat, x < n := by
  obtain ⟨_, h2⟩ := lstC_zero h
  constructor
  · unfold wlkI
    rw [List.map_map]
    conv => rhs; rw [← List.map_id l]
    refine List.map_congr_left fun x hx => ?_
    have := h2 x hx
    simp only [Function.comp_apply, id_eq]
    omega
  · intro x hx
    obtain ⟨y, hy, rfl⟩ := List.mem_map.1 hx
    have := h2 y hy
    omega
/-- The error of a cycle. -/
noncomputable def cyC (E : List (List Nat)) (l : List Int) : Nat := if undB E = false then 3 else if lstC E.length l ≠ 0 then lstC E.length l else if cycB E (l.map Int.toNat) = true then 0 else 18
theorem cyC_und {E : List (List Nat)} {l : List Int} (h : undB E = false) : 3 = cyC E l := by unfold cyC; rw [if_pos h]
theorem cyC_list {E : List (List Nat)} {l : List Int} {c : Nat} (h : undB E = true) (hc : lstC E.length l = c) (h0 : c ≠ 0) : c = cyC E l := by unfold cyC; rw [if_neg (by rw [h]; simp), if_pos (by rw [hc]; exact h0), hc]
theorem cyC_end {E : List (List Nat)} {l : List Int} {b : Bool} (h : undB E = true) (hc : lstC E.length l = 0) (hb : cycB E (l.map Int.toNat) = b) : (if b = true then 0 else 18) = cyC E l := by
  have : cyC E l = if b = true then 0 else 18 := by unfold cyC; rw [if_neg (by rw [h]; simp), if_neg (by rw [hc]; simp), hb]
  exact this.symm

set_option maxHeartbeats 2000000 in
set_option maxRecDepth 100000 in
theorem rCheckCycle_ok {w : World} {v : Value} {names : List ByteArray} {E : List (List Nat)} (h : GrV w v names (toI E)) (hk : Ok names E) {A : Option Addr} {n c : Nat} {l : List Int} (hl : Il w A n c l) :
    Calls Tryd.prog 54 #[v, .slice A n c] w (ChkR w (cyC E l)) := by
  have HH := Lib.hid (fun w' (hb : Below w.heap.size w w') x {b : Bool} (hxb : hasB E.length x = b) => rHas_is (h.at w' hb) x (show hasB names.length x = b by rw [hk.len]; exact hxb))
  have HU := Lib.hid (fun w' (hb : Below w.heap.size w w') => rUndirected_ok (h.at w' hb) hk)
  have hln := hl.len
  have HCY := Lib.hid (fun w' (hb : Below w.heap.size w w') (h0 : 0 < n) (hz : lstC E.length l = 0) =>
    rIsCycle_ok (h.at w' hb) (A := A) (n := n) (c := c) (l := l.map Int.toNat) (by rw [(wlkI_nat hz).1]; exact hl.below hb) h0 (wlkI_nat hz).2)
  have hr := hl.room
  unfold maxLen at hr
  obtain ⟨A1, c1, A', c', hvv, hs, hg⟩ := h
  rw [toI_length] at hvv hg
  subst hvv
  obtain ⟨W, G, hW, hG, hbW, g0, g1, hGl, hwG⟩ := gbox w (.slice A1 names.length c1) (.slice A' E.length c')
  replace hl := hl.below hbW
  have HW := Lib.hid hW
  have HG := Lib.hid hG
  have HK := Lib.hid hk
  have HLN := Lib.hid hln
  clear hW hG hs hk hln hg
  cases hu : undB E with
  | false =>
    have HE := Lib.hid (cyC_und (l := l) hu)
    have HUB := Lib.hid hu
    clear hu
    go_enter Tryd.func54, Tryd.ntmps54
    go_wp2_with (go_at_call 36; rw [← HW.out, ← HG.out]; refine (HU.out _ hbW).mono ?_; rintro e w5 ⟨rfl, hb5⟩; rw [HUB.out])
    go_ret
    exact chkR_of HE.out (hbW.trans (hb5.mono hbW.size))
  | true =>
    have HUB := Lib.hid hu
    clear hu
    by_cases h0 : n = 0
    · have hz : ((n : Int) == 0) = true := by simp [h0]
      have HE := Lib.hid (cyC_list (l := l) (c := 9) HUB.out (by unfold lstC; rw [if_pos (by have := HLN.out; omega)]) (by omega))
      clear h0
      go_enter Tryd.func54, Tryd.ntmps54
      go_wp2_with (go_at_call 36; rw [← HW.out, ← HG.out]; refine (HU.out _ hbW).mono ?_; rintro e w5 ⟨rfl, hb5⟩; rw [HUB.out])
      go_ret
      exact chkR_of HE.out (hbW.trans (hb5.mono hbW.size))
    · have hz : ((n : Int) == 0) = false := beq_eq_false_iff_ne.2 (by omega)
      obtain ⟨b, off, rfl, hcl⟩ := hl.cell (by omega)
      have HCELL := Lib.hid (fun w' (hb : Below W.heap.size W w') j x hx => ((bcell hb).1 _ _ (cell_some_lt (hcl j x hx))).trans (hcl j x hx))
      clear hcl hl
      go_enter Tryd.func54, Tryd.ntmps54
      go_wp2_with (go_at_call 36; rw [← HW.out, ← HG.out]; refine (HU.out _ hbW).mono ?_; rintro e w5 ⟨rfl, hb5⟩; rw [HUB.out])
      clear hz
      go_loopw [5] (fun i wr => ∃ k : Nat, k ≤ n ∧ i = .int .i64 (k : Nat) ∧ Hid (∀ j x, j < k → l[j]? = some x → hasB E.length x = true) ∧ Below W.heap.size W wr) (fun i _ => n - (intOf i).toNat)
      case atStart => exact ⟨0, Nat.zero_le _, rfl, Lib.hid (fun j x hj => by omega), hb5⟩
      case round =>
        clear hb5
        obtain ⟨k, hkl, rfl, HHAS, hbr⟩ := hrel
        have hb3 := hbW.trans (hbr.mono hbW.size)
        obtain ⟨d0, d1⟩ := keep2 hbr g0 g1
        by_cases hlt : k < n
        · obtain ⟨x, hx⟩ : ∃ x, l[k]? = some x := ⟨_, List.getElem?_eq_getElem (by rw [HLN.out]; exact hlt)⟩
          have cx := HCELL.out _ hbr k x hx
          have HX := Lib.hid hx
          clear hx
          have hki : (k : Int) < (n : Int) := by omega
          have hk0 : (0 : Int) ≤ (k : Int) := by omega
          go_wp2_with fail
          go_still_tail 5, (by kernel_rfl)
          have hb4 : Below W.heap.size W wr.drew := hbr.drew
          have hb5 : Below w.heap.size w wr.drew := hb3.drew
          change wpList _ _ _ _ _ wr.drew
          clear hbr hb3 cx d0 d1
          generalize wr.drew = w5 at *
          cases hhx : hasB E.length x
          · have HHX := Lib.hid hhx
            clear hhx
            have HE := Lib.hid (cyC_list (l := l) (c := 6) HUB.out (lstC_sixC HX.out HHX.out) (by omega))
            go_wp2_with (go_at_call 18; refine (HH.out _ hb5 x HHX.out).mono ?_; rintro e w6 ⟨rfl, hb6⟩)
            go_ret
            exact chkR_of HE.out (hb5.trans (hb6.mono hb5.size))
          · have HHX := Lib.hid hhx
            clear hhx
            go_wp2_with (go_at_call 18; refine (HH.out _ hb5 x HHX.out).mono ?_; rintro e w6 ⟨rfl, hb6⟩)
            go_roundw
            case rel =>
              refine ⟨k + 1, by omega, by go_num, Lib.hid fun j y hj hy => ?_, hb4.trans (hb6.mono hb4.size)⟩
              rcases Nat.lt_or_ge j k with h1 | h1
              · exact HHAS.out j y h1 hy
              · obtain rfl : j = k := by omega
                have := HX.out.symm.trans hy
                cases this
                exact HHX.out
            case measure => simp [intOf]; omega
        · have hlc : lstC E.length l = 0 := lstC_okC (by rw [HLN.out]; omega) (fun j x hj hx => HHAS.out j x (by rw [HLN.out] at hj; omega) hx)
          have hnp : 0 < n := by omega
          have HLC := Lib.hid hlc
          clear hlc h0
          cases hcb : cycB E (l.map Int.toNat)
          all_goals
            have HE := Lib.hid (cyC_end HUB.out HLC.out hcb)
            have HCB := Lib.hid hcb
            clear hcb
            go_wp2_with (go_at_call 97; refine (HCY.out _ hb3 hnp HLC.out).mono ?_; rintro e w6 ⟨rfl, hb6⟩; rw [HCB.out])
            go_ret
            exact chkR_of HE.out (hb3.trans (hb6.mono hb3.size))
end Go.Proofs.YtpkjdnplmgfbbaaDoor
