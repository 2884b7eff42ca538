/- graph.isCycle, graph.CheckCycle. graph.CheckCycle. -/
import Derived.Test.YtpkjdnplmgfbbaaDoorY2
import Derived.Maps.Keyed
import Derived.Deep.QuietTactic
import Derived.BigQuiet
namespace Go.Proofs.YtpkjdnplmgfbbaaDoor
open Go.RowKit Go.Maps

theorem count_takeN {l : List Nat} {k y : Nat} (x : Nat) (h : l[k]? = some y) : (l.take (k + 1)).count x = (l.take k).count x + if y = x then 1 else 0 := by
  rw [List.take_add_one, h, List.count_append]
  by_cases e : y = x <;> simp [e]
set_option maxHeartbeats 1000000 in
theorem cyc1_any {W : World} {G : Nat} {A : Option Addr} {c : Nat} {E : List (List Nat)} (h1 : W.cell? ⟨G, 1, none⟩ = some (.slice A E.length c)) (hg : Gl W A E.length c (toI E)) (hd : ∀ v, (gr E v).length ≤ 400) {u : Nat} (hu : u < E.length) (x : Nat) :
    Calls Tryd.prog 126 #[.int .i64 (u : Nat), .int .i64 (x : Nat), .pointer (some ⟨G, 0, none⟩)] W fun e w' => e = .returned (.int .i64 (((gr E u).count x : Nat) : Int)) ∧ w' = W := by
  obtain ⟨b, off, A2, c2, rfl, hrow, hr1, hr2, hil⟩ := hg.row hu
  have hlen := hd u
  have HIL := Lib.hid hil
  have hui : (u : Int) < (E.length : Int) := by omega
  have hu0 : (0 : Int) ≤ (u : Int) := by omega
  clear hil hd hg
  go_enter Tryd.func126, Tryd.ntmps126
  go_wp2_with fail
  go_loop [6, 15] (fun n i => ∃ k : Nat, k ≤ (gr E u).length ∧ i = .int .i64 (k : Nat) ∧ n = .int .i64 ((((gr E u).take k).count x : Nat) : Int)) (fun _ i => (gr E u).length - (intOf i).toNat)
  case atStart => exact ⟨0, Nat.zero_le _, rfl, rfl⟩
  case round =>
    obtain ⟨k, hk, rfl, rfl⟩ := hrel
    by_cases hlt : k < (gr E u).length
    · obtain ⟨y, hy⟩ : ∃ y, (gr E u)[k]? = some y := ⟨_, List.getElem?_eq_getElem hlt⟩
      obtain ⟨b', off', rfl, cy⟩ := HIL.out.num hy
      have hcs : ((gr E u).take k).count x ≤ 400 := by have := List.count_le_length (a := x) (l := (gr E u).take k); rw [List.length_take] at this; omega
      have HC := Lib.hid (count_takeN x hy)
      have hki : (k : Int) < ((gr E u).length : Int) := by omega
      have hk0 : (0 : Int) ≤ (k : Int) := by omega
      clear hy
      by_cases he : y = x
      · have hz : ((y : Int) == (x : Int)) = true := by simp [he]
        have HE := Lib.hid he
        clear he
        go_wp2_with fail
        go_round
        case rel => exact ⟨k + 1, by omega, by go_num, by rw [HC.out, if_pos HE.out]; go_num⟩
        case measure => simp [intOf]; omega
      · have hz : ((y : Int) == (x : Int)) = false := beq_eq_false_iff_ne.2 (by omega)
        have HE := Lib.hid he
        clear he
        go_wp2_with fail
        go_round
        case rel => exact ⟨k + 1, by omega, by go_num, by rw [HC.out, if_neg HE.out]; go_num⟩
        case measure => simp [intOf]; omega
    · obtain rfl : k = (gr E u).length := by omega
      go_wp2_with fail
      go_ret
      exact ⟨rfl, rfl⟩

theorem ikey : Keyed Tryd.prog 3 := int_keyed Tryd.underlying3
/-- The map holds just the vertices so far. -/
def SeenIn (l : List Nat) (k : Nat) (D : DataW Unit) : Prop := ∀ x : Nat, D.atKey (.int .i64 (x : Int)) (.lit (.bool false)) = .lit (.bool (decide (x ∈ l.take k)))
theorem SeenIn.add {l : List Nat} {k x : Nat} {D : DataW Unit} (hD : IsMap D) (h : SeenIn l k D) (hx : l[k]? = some x) : SeenIn l (k + 1) (D.put (.int .i64 (x : Int)) (.lit (.bool true))) := by
  intro y
  have hm : (y ∈ l.take (k + 1)) ↔ y ∈ l.take k ∨ y = x := by rw [List.take_add_one, hx]; simp
  by_cases hy : y = x
  · subst hy
    rw [atKey_put_same hD (show WideAt.IsKeyLit (.int .i64 (y : Int)) from trivial)]
    simp [hm]
  · rw [atKey_put_other (fun e => hy (by injection e with _ e; omega)), h y]
    have : (y ∈ l.take (k + 1)) ↔ y ∈ l.take k := by rw [hm]; simp [hy]
    simp only [this]
theorem Dst.next {l : List Nat} {k x : Nat} (h : Dst l k) (hx : l[k]? = some x) (hn : x ∉ l.take k) : Dst l (k + 1) := fun a ha b hb => by
  rcases Nat.lt_or_ge a k with h1 | h1
  · exact h a h1 b hb
  · obtain rfl : a = k := by omega
    rw [getD_some hx]
    intro e
    have hbl : b < l.length := by have := lt_of_some hx; omega
    refine hn (List.mem_take_iff_getElem.2 ⟨b, by omega, ?_⟩)
    rw [e]; simp [List.getD, List.getElem?_eq_getElem hbl]
theorem cycB_seen {E : List (List Nat)} {l : List Nat} {k x : Nat} (hx : l[k]? = some x) (hm : x ∈ l.take k) : false = cycB E l := cycB_false fun h => by
  obtain ⟨j, hj, hj2⟩ := List.mem_take_iff_getElem.1 hm
  have := h.nodup j k x (by rw [← hj2]; exact List.getElem?_eq_getElem (by omega)) hx
  omega
theorem cycB_noadj {E : List (List Nat)} {l : List Nat} {k x y : Nat} (h2 : l.length ≠ 2) (hx : l[k]? = some x) (hy : l[(k + 1) % l.length]? = some y) (hc : (gr E x).count y = 0) : false = cycB E l := cycB_false fun h => by
  have := List.count_pos_iff.2 (h.adj h2 k x y hx hy)
  omega
theorem isCyc_oneI {E : List (List Nat)} {v : Nat} (h : v ∈ gr E v) : IsCyc E [v] := by
  refine ⟨by simp, fun i j x hi hj => ?_, fun h2 => by simp at h2, fun _ i x y hi hj => ?_⟩
  · have := lt_of_some hi; have := lt_of_some hj; simp at *; omega
  · have hi1 := lt_of_some hi
    simp at hi1
    subst hi1
    simp at hi hj
    subst hi hj
    exact h
theorem cycB_one {E : List (List Nat)} {l : List Nat} {x : Nat} (h1 : l.length = 1) (hx : l[0]? = some x) : decide (0 < (gr E x).count x) = cycB E l := by
  have hl : l = [x] := by
    match l, h1 with
    | [a], _ => simp at hx; rw [hx]
  subst hl
  by_cases h : 0 < (gr E x).count x
  · rw [decide_eq_true h]
    exact cycB_true (isCyc_oneI (List.count_pos_iff.1 h))
  · rw [decide_eq_false h]
    refine cycB_false fun hc => h (List.count_pos_iff.2 ?_)
    exact hc.adj (by simp) 0 x x rfl (by simp)
theorem cycB_two {E : List (List Nat)} {l : List Nat} {x y : Nat} (h2 : l.length = 2) (hx : l[0]? = some x) (hy : l[1]? = some y) : (decide (x ≠ y) && decide (2 ≤ (gr E x).count y)) = cycB E l := by
  have hl : l = [x, y] := by
    match l, h2 with
    | [a, b], _ => simp at hx hy; rw [hx, hy]
  subst hl
  by_cases hxy : x = y
  · subst hxy
    simp only [ne_eq, not_true_eq_false, decide_false, Bool.false_and]
    exact cycB_false fun h => by have := h.nodup 0 1 x rfl rfl; omega
  · rw [decide_eq_true hxy, Bool.true_and]
    refine isCyc_two (fun a ha b hb => ?_) rfl rfl rfl
    have : a = 1 := by simp at ha; omega
    subst this
    obtain rfl : b = 0 := by omega
    exact fun e => hxy e.symm
def AdjK (E : List (List Nat)) (l : List Nat) (t : Nat) : Prop := ∀ i x y : Nat, i < t → l[i]? = some x → l[(i + 1) % l.length]? = some y → 0 < (gr E x).count y

set_option maxHeartbeats 4000000 in
set_option maxRecDepth 100000 in
theorem isCycle_any {w : World} {v : Value} {names : List ByteArray} {E : List (List Nat)} (h : GrV w v names (toI E)) (hk : Ok names E) {A : Option Addr} {n c : Nat} {l : List Nat} (hl : Il w A n c (wlkI l)) (h0 : 0 < n) (hv : ∀ x ∈ l, x < E.length) :
    Calls Tryd.prog 95 #[v, .slice A n c] w (CyR w (cycB E l)) := by
  have hsm := hk.small
  have hln : l.length = n := by have := hl.len; unfold wlkI at this; rwa [List.length_map] at this
  have hr := hl.room
  unfold maxLen at hr
  obtain ⟨A1, c1, A', c', hvv, hs, hg⟩ := h
  rw [toI_length] at hvv hg
  subst hvv
  obtain ⟨W, G, hW, hG, hbW, g0, g1, hGl, hwG⟩ := gbox w (.slice A1 names.length c1) (.slice A' E.length c')
  replace hl := hl.below hbW
  replace hg := hg.below hbW
  have HW := Lib.hid hW
  have HG := Lib.hid hG
  have HV := Lib.hid hv
  have HLN := Lib.hid hln
  have HL := Lib.hid hl
  have HC1 := Lib.hid (fun (w' : World) (hb : Below W.heap.size W w') (u : Nat) (hu : u < E.length) (x : Nat) => cyc1_any ((keep2 hb g0 g1).2) (hg.below hb) hk.deg hu x)
  clear hW hG hs hg hv hln hl hk
  by_cases hn1 : n = 1
  · subst hn1
    obtain ⟨x, hx⟩ : ∃ x, l[0]? = some x := ⟨_, List.getElem?_eq_getElem (by rw [HLN.out]; omega)⟩
    have hxE : x < E.length := HV.out x (List.mem_of_getElem? hx)
    obtain ⟨b, off, rfl, cx⟩ := HL.out.num hx
    rw [Nat.add_zero] at cx
    have HR := Lib.hid (cycB_one (E := E) HLN.out hx)
    obtain ⟨m, hm⟩ : ∃ m, m = (gr E x).count x := ⟨_, rfl⟩
    have HC2 := Lib.hid (fun (j : Nat) => hm ▸ HC1.out (W.drewN j) (below_drewN' (Below.refl _ _) j) x hxE x)
    rw [← hm] at HR
    clear hm hx
    go_enter Tryd.func95, Tryd.ntmps95
    go_wp2_with fail
    rw [← HW.out, ← HG.out]
    go_quiet ((go_at_call 126; exact Calls.quiet_of_same (HC2.out _)))
    go_wp2_with fail
    go_ret
    exact cyR_of HR.out (below_drewN' hbW _)
  · have hz1 : ((n : Int) == 1) = false := beq_eq_false_iff_ne.2 (by omega)
    by_cases hn2 : n = 2
    · subst hn2
      obtain ⟨x, hx⟩ : ∃ x, l[0]? = some x := ⟨_, List.getElem?_eq_getElem (by rw [HLN.out]; omega)⟩
      obtain ⟨y, hy⟩ : ∃ y, l[1]? = some y := ⟨_, List.getElem?_eq_getElem (by rw [HLN.out]; omega)⟩
      have hxE : x < E.length := HV.out x (List.mem_of_getElem? hx)
      obtain ⟨b, off, rfl, cx⟩ := HL.out.num hx
      obtain ⟨b', off', e, cy⟩ := HL.out.num hy
      cases e
      rw [Nat.add_zero] at cx
      have HR := Lib.hid (cycB_two (E := E) HLN.out hx hy)
      obtain ⟨m, hm⟩ : ∃ m, m = (gr E x).count y := ⟨_, rfl⟩
      have HC2 := Lib.hid (fun (j : Nat) => hm ▸ HC1.out (W.drewN j) (below_drewN' (Below.refl _ _) j) x hxE y)
      rw [← hm] at HR
      clear hm hx hy hz1
      have key : ((x : Int) != (y : Int)) = false ∧ false = cycB E l ∨ ((x : Int) != (y : Int)) = true ∧ (decide ((1 : Int) < (m : Int)) = true ∧ true = cycB E l ∨ decide ((1 : Int) < (m : Int)) = false ∧ false = cycB E l) := by
        by_cases hxy : x = y
        · exact .inl ⟨by simp [hxy], by rw [← HR.out]; simp [hxy]⟩
        · refine .inr ⟨by rw [bne_iff_ne]; omega, ?_⟩
          by_cases hm2 : 2 ≤ m
          · exact .inl ⟨decide_eq_true (by omega), by rw [← HR.out]; simp [hxy, hm2]⟩
          · exact .inr ⟨decide_eq_false (by omega), by rw [← HR.out]; simp [hm2]⟩
      go_enter Tryd.func95, Tryd.ntmps95
      go_wp2_with fail
      rw [← HW.out, ← HG.out]
      rcases key with ⟨hz, hE⟩ | ⟨hz, ⟨hz2, hE⟩ | ⟨hz2, hE⟩⟩
      all_goals
        have HE := Lib.hid hE
        clear hE
        go_wp2_with fail
        go_quiet ((go_at_call 126; exact Calls.quiet_of_same (HC2.out _)))
        go_wp2_with fail
        go_ret
        exact cyR_of HE.out (below_drewN' hbW _)
    · have hz2 : ((n : Int) == 2) = false := beq_eq_false_iff_ne.2 (by omega)
      have HN2 := Lib.hid hn2
      have hmm := @run_makeMap Tryd.prog
      clear hn1 hn2
      go_enter Tryd.func95, Tryd.ntmps95
      go_wp2
      rw [← HW.out, ← HG.out]
      clear hz1 hz2
      obtain ⟨M, hM⟩ : ∃ M, M = G + 1 := ⟨_, rfl⟩
      have hWs : W.heap.size = M := by rw [hM, HW.out, HG.out]; simp
      have hbM : Below W.heap.size W (W.alloc (.map #[] 0)) := (Below.refl _ _).alloc (Nat.le_refl _) _
      have how : (W.alloc (.map #[] 0)).ownsMap Tryd.prog 3 (plainElem (H := Unit) Tryd.prog 4) M 0 (.map []) := by rw [← hWs]; exact World.ownsMap_made _ _ _ _
      rw [← hM]
      have hWM : W.heap.size ≤ M := by omega
      clear hM hmm
      have HWS := Lib.hid hWs; clear hWs
      generalize W.alloc (.map #[] 0) = W1 at *
      go_loopw [46] (fun i wr => ∃ k D, k ≤ n ∧ i = .int .i64 (k : Nat) ∧ Hid (Dst l k) ∧ Hid (AdjK E l k) ∧ Below W.heap.size W wr ∧ wr.ownsMap Tryd.prog 3 (plainElem (H := Unit) Tryd.prog 4) M k D ∧ Hid (SeenIn l k D)) (fun i _ => n - (intOf i).toNat)
      case atStart => exact ⟨0, _, Nat.zero_le _, rfl, Lib.hid (fun a ha => by omega), Lib.hid (fun i x y hi => by omega), hbM, how, Lib.hid (fun x => by simp [DataW.atKey])⟩
      case round =>
        clear hbM how
        obtain ⟨t, D, htl, rfl, HD, HT, hbr, hown, HS⟩ := hrel
        obtain ⟨d0, d1⟩ := keep2 hbr g0 g1
        by_cases htk : t < n
        · obtain ⟨x, hx⟩ : ∃ x, l[t]? = some x := ⟨_, List.getElem?_eq_getElem (by rw [HLN.out]; omega)⟩
          obtain ⟨m, hm⟩ : ∃ m, m = (t + 1) % n := ⟨_, rfl⟩
          have hmk : m < n := by rw [hm]; exact Nat.mod_lt _ h0
          obtain ⟨y, hy⟩ : ∃ y, l[m]? = some y := ⟨_, List.getElem?_eq_getElem (by rw [HLN.out]; omega)⟩
          obtain ⟨b, off, rfl, cx⟩ := (HL.out.below hbr).num hx
          obtain ⟨b', off', e, cy⟩ := (HL.out.below hbr).num hy
          cases e
          have hxE : x < E.length := HV.out x (List.mem_of_getElem? hx)
          have HX := Lib.hid hx
          have HY := Lib.hid (show l[(t + 1) % l.length]? = some y by rw [HLN.out, ← hm]; exact hy)
          have hti : (t : Int) < (n : Int) := by omega
          have ht0 : (0 : Int) ≤ (t : Int) := by omega
          have hmi : (m : Int) < (n : Int) := by omega
          have hm0 : (0 : Int) ≤ (m : Int) := by omega
          have hk9 : ((n : Int) == 0) = false := beq_eq_false_iff_ne.2 (by omega)
          have hmod : ((t : Int) + 1).tmod (n : Int) = (m : Int) := by rw [hm]; rfl
          have hmw : (IntKind.i64.wrap ((t : Int) + 1)).tmod (n : Int) = (m : Int) := by rw [IntWalk.i64_in _ (by omega)]; exact hmod
          have hk8 : ¬ ((n : Int) = 0) := by omega
          have hk7 : ¬ (n = 0) := by omega
          have hwf : (Lit.int .i64 (x : Int)).wf = true := wf_int (by omega)
          have HKEY := Lib.hid (keyOf_int_mk Tryd.underlying3 hwf)
          clear hm hx hy hwf
          by_cases hin : x ∈ l.take t
          · have HAT := Lib.hid (show D.atKey (.int .i64 (x : Int)) (.lit (.bool false)) = .lit (.bool true) by rw [HS.out x]; simp [hin])
            have HE := Lib.hid (cycB_seen (E := E) HX.out hin)
            clear hin
            go_wp2_with (at_lookup; (refine wpList_lookup_own_bool _ rfl _ _ 149 rfl 3 4 ikey Tryd.underlying149 Tryd.underlying4 (zero_bool _) M t D rfl hown _ _ rfl HKEY.out true HAT.out ?_))
            go_ret
            exact cyR_of HE.out (hbW.trans (hbr.mono hbW.size))
          · have HAT := Lib.hid (show D.atKey (.int .i64 (x : Int)) (.lit (.bool false)) = .lit (.bool false) by rw [HS.out x]; simp [hin])
            have HC2 := Lib.hid (HC1.out wr hbr x hxE y)
            obtain ⟨q, hq⟩ : ∃ q, q = (gr E x).count y := ⟨_, rfl⟩
            rw [← hq] at HC2
            have HQ := Lib.hid hq
            have HIN := Lib.hid hin
            clear hq hin
            by_cases hct : q = 0
            · have hz : ((q : Int) == 0) = true := by simp [hct]
              have HE := Lib.hid (cycB_noadj (E := E) (by rw [HLN.out]; exact HN2.out) HX.out HY.out (by rw [← HQ.out]; exact hct))
              clear hct
              go_wp2_with (first
                | (at_lookup; (refine wpList_lookup_own_bool _ rfl _ _ 149 rfl 3 4 ikey Tryd.underlying149 Tryd.underlying4 (zero_bool _) M t D rfl hown _ _ rfl HKEY.out false HAT.out ?_))
                | (go_at_call 126; refine (HC2.out).mono ?_; rintro e w6 ⟨rfl, rfl⟩))
              go_ret
              exact cyR_of HE.out (hbW.trans (hbr.mono hbW.size))
            · have hz : ((q : Int) == 0) = false := beq_eq_false_iff_ne.2 (by omega)
              have HE := Lib.hid hct
              clear hct
              go_wp2_with (first
                | (at_lookup; (refine wpList_lookup_own_bool _ rfl _ _ 149 rfl 3 4 ikey Tryd.underlying149 Tryd.underlying4 (zero_bool _) M t D rfl hown _ _ rfl HKEY.out false HAT.out ?_))
                | (go_at_call 126; refine (HC2.out).mono ?_; rintro e w6 ⟨rfl, rfl⟩)
                | (at_mapUpdate; (refine wpList_mapUpdate_own _ rfl _ _ _ 149 rfl 3 4 ikey Tryd.underlying149 _ M t _ rfl hown (by unfold maxLen; omega) _ _ _ rfl rfl HKEY.out _ [] (plainElem_bool Tryd.underlying4 true) ?_); intro w2 hown2 hgrow2))
              have hbr2 : Below W.heap.size W w2 := hbr.grown hgrow2 hbr.size (fun j hj => by injection hj with hj; omega)
              go_roundw
              case rel =>
                refine ⟨t + 1, _, by omega, by go_num, Lib.hid (HD.out.next HX.out HIN.out), Lib.hid (fun i x' y' hi hx' hy' => ?_), hbr2, hown2, Lib.hid (SeenIn.add hown.isMap HS.out HX.out)⟩
                rcases Nat.lt_or_ge i t with h1 | h1
                · exact HT.out i x' y' h1 hx' hy'
                · obtain rfl : i = t := by omega
                  rw [HX.out] at hx'; rw [HY.out] at hy'
                  injection hx' with hx'; injection hy' with hy'
                  subst hx' hy'
                  have := HE.out
                  have := HQ.out
                  omega
              case measure => simp [intOf]; omega
        · obtain rfl : t = n := by omega
          have HE := Lib.hid (isCyc_more (E := E) (by rw [HLN.out]; exact h0) (by rw [HLN.out]; exact HD.out) (by rw [HLN.out]; exact HN2.out) (fun i x y hi => HT.out i x y (by rw [HLN.out] at hi; exact hi)))
          go_wp2_with fail
          go_ret
          exact cyR_of HE.out (hbW.trans (hbr.mono hbW.size))
end Go.Proofs.YtpkjdnplmgfbbaaDoor

namespace Go.Proofs.YtpkjdnplmgfbbaaDoor
open Go.RowKit

set_option maxHeartbeats 1000000 in
theorem CheckCycle_bad {w : World} {v : Value} {names : List ByteArray} {E : List (List Int)} (h : GrV w v names E) {A : Option Addr} {n c : Nat} (hc : chk names E ≠ 0) :
    Calls Tryd.prog 52 #[v, .slice A n c] w (ChkR w (chk names E)) := by
  have HC := Lib.hid (fun w' hb => Check_any (h.at w' hb))
  generalize chk names E = q at *
  have hz : (((q : Nat) : Int) != 0) = true := by simp [hc]
  clear hc
  obtain ⟨A1, c1, A', c', rfl, hs, hg⟩ := h
  obtain ⟨W, G, hW, hG, hbW, c0, c1', hGl, hwG⟩ := gbox w (.slice A1 names.length c1) (.slice A' E.length c')
  have HW := Lib.hid hW
  have HG := Lib.hid hG
  clear hW hG
  go_enter Tryd.func52, Tryd.ntmps52
  go_wp2_with (go_at_call 34; rw [← HW.out]; refine (HC.out _ hbW).mono ?_; rintro e w1 ⟨rfl, hb1⟩)
  go_ret
  exact chkR_of rfl (hbW.trans (hb1.mono hbW.size))

set_option maxHeartbeats 4000000 in
set_option maxRecDepth 100000 in
theorem CheckCycle_ok {w : World} {v : Value} {names : List ByteArray} {E : List (List Nat)} (h : GrV w v names (toI E)) (hc : chk names (toI E) = 0) (hk : Ok names E) {A : Option Addr} {n c : Nat} {l : List Int} (hl : Il w A n c l) :
    Calls Tryd.prog 52 #[v, .slice A n c] w (ChkR w (cyC E l)) := by
  have HC := Lib.hid (fun w' hb => Check_any (h.at w' hb))
  rw [hc] at HC
  have HU := Lib.hid (fun w' (hb : Below w.heap.size w w') => undirected_any (h.at w' hb) hk)
  have HCL := Lib.hid (fun w' (hb : Below w.heap.size w w') => checkList_any (h.at w' hb) (hl.below hb))
  rw [hk.len] at HCL
  have hln := hl.len
  have HCY := Lib.hid (fun w' (hb : Below w.heap.size w w') (h0 : 0 < n) (hz : lstC E.length l = 0) =>
    isCycle_any (h.at w' hb) hk (A := A) (n := n) (c := c) (l := l.map Int.toNat) (by rw [(wlkI_nat hz).1]; exact hl.below hb) h0 (wlkI_nat hz).2)
  obtain ⟨A1, c1, A', c', hvv, hs, hg⟩ := h
  rw [toI_length] at hvv hg
  subst hvv
  obtain ⟨W, G, hW, hG, hbW, g0, g1, hGl, hwG⟩ := gbox w (.slice A1 names.length c1) (.slice A' E.length c')
  have HW := Lib.hid hW
  have HG := Lib.hid hG
  have HLN := Lib.hid hln
  clear hW hG hs hk hc hg hl hln
  obtain ⟨q, hq⟩ : ∃ q, q = lstC E.length l := ⟨_, rfl⟩
  rw [← hq] at HCL
  cases hu : undB E with
  | false =>
    have HE := Lib.hid (cyC_und (l := l) hu)
    have HUB := Lib.hid hu
    clear hu hq
    go_enter Tryd.func52, Tryd.ntmps52
    go_wp2_with (first
      | (go_at_call 34; rw [← HW.out, ← HG.out]; refine (HC.out _ hbW).mono ?_; rintro e w1 ⟨rfl, hb1⟩; have hb2 := hbW.trans (hb1.mono hbW.size); obtain ⟨d0, d1⟩ := keep2 hb1 g0 g1)
      | (go_at_call 72; refine (HU.out _ hb2).mono ?_; rintro e w3 ⟨rfl, hb3⟩; rw [HUB.out]; have hb4 := hb2.trans (hb3.mono hb2.size)))
    go_ret
    exact chkR_of HE.out hb4
  | true =>
    have HUB := Lib.hid hu
    clear hu
    by_cases hq0 : q = 0
    · have hz : ((q : Int) != 0) = false := by simp [hq0]
      have hzn : lstC E.length l = 0 := by rw [← hq]; exact hq0
      have hn0 : 0 < n := by rw [← HLN.out]; exact (lstC_zero hzn).1
      have HCZ := Lib.hid (fun w' hb => HCY.out w' hb hn0 hzn)
      cases hcy : cycB E (l.map Int.toNat)
      · have HE := Lib.hid (show 18 = cyC E l from cyC_end HUB.out hzn hcy)
        rw [hcy] at HCZ
        clear hq hq0 hzn hcy HCY
        go_enter Tryd.func52, Tryd.ntmps52
        go_wp2_with (first
          | (go_at_call 34; rw [← HW.out, ← HG.out]; refine (HC.out _ hbW).mono ?_; rintro e w1 ⟨rfl, hb1⟩; have hb2 := hbW.trans (hb1.mono hbW.size); obtain ⟨d0, d1⟩ := keep2 hb1 g0 g1)
          | (go_at_call 72; refine (HU.out _ hb2).mono ?_; rintro e w3 ⟨rfl, hb3⟩; rw [HUB.out]; obtain ⟨e0, e1⟩ := keep2 hb3 d0 d1; have hb4 := hb2.trans (hb3.mono hb2.size))
          | (go_at_call 69; refine (HCL.out _ hb4).mono ?_; rintro e w5 ⟨rfl, hb5⟩; obtain ⟨f0, f1⟩ := keep2 hb5 e0 e1; have hb6 := hb4.trans (hb5.mono hb4.size))
          | (go_at_call 95; refine (HCZ.out _ hb6).mono ?_; rintro e w7 ⟨rfl, hb7⟩; have hb8 := hb6.trans (hb7.mono hb6.size)))
        go_ret
        exact chkR_of HE.out hb8
      · have HE := Lib.hid (show 0 = cyC E l from cyC_end HUB.out hzn hcy)
        rw [hcy] at HCZ
        clear hq hq0 hzn hcy HCY
        go_enter Tryd.func52, Tryd.ntmps52
        go_wp2_with (first
          | (go_at_call 34; rw [← HW.out, ← HG.out]; refine (HC.out _ hbW).mono ?_; rintro e w1 ⟨rfl, hb1⟩; have hb2 := hbW.trans (hb1.mono hbW.size); obtain ⟨d0, d1⟩ := keep2 hb1 g0 g1)
          | (go_at_call 72; refine (HU.out _ hb2).mono ?_; rintro e w3 ⟨rfl, hb3⟩; rw [HUB.out]; obtain ⟨e0, e1⟩ := keep2 hb3 d0 d1; have hb4 := hb2.trans (hb3.mono hb2.size))
          | (go_at_call 69; refine (HCL.out _ hb4).mono ?_; rintro e w5 ⟨rfl, hb5⟩; obtain ⟨f0, f1⟩ := keep2 hb5 e0 e1; have hb6 := hb4.trans (hb5.mono hb4.size))
          | (go_at_call 95; refine (HCZ.out _ hb6).mono ?_; rintro e w7 ⟨rfl, hb7⟩; have hb8 := hb6.trans (hb7.mono hb6.size)))
        go_ret
        exact chkR_of HE.out hb8
    · have hz : ((q : Int) != 0) = true := by simp [hq0]
      have HE := Lib.hid (show q = cyC E l from cyC_list HUB.out hq.symm hq0)
      clear hq hq0 HCY
      go_enter Tryd.func52, Tryd.ntmps52
      go_wp2_with (first
        | (go_at_call 34; rw [← HW.out, ← HG.out]; refine (HC.out _ hbW).mono ?_; rintro e w1 ⟨rfl, hb1⟩; have hb2 := hbW.trans (hb1.mono hbW.size); obtain ⟨d0, d1⟩ := keep2 hb1 g0 g1)
        | (go_at_call 72; refine (HU.out _ hb2).mono ?_; rintro e w3 ⟨rfl, hb3⟩; rw [HUB.out]; obtain ⟨e0, e1⟩ := keep2 hb3 d0 d1; have hb4 := hb2.trans (hb3.mono hb2.size))
        | (go_at_call 69; refine (HCL.out _ hb4).mono ?_; rintro e w5 ⟨rfl, hb5⟩; obtain ⟨f0, f1⟩ := keep2 hb5 e0 e1; have hb6 := hb4.trans (hb5.mono hb4.size)))
      go_ret
      exact chkR_of HE.out hb6
end Go.Proofs.YtpkjdnplmgfbbaaDoor
