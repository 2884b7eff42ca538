/- graph.girth, graph.Girth. graph.Girth. The law GraphCycles: its walk. -/
import Derived.Test.YtpkjdnplmgfbbaaDoorCyw
import Derived.Test.YtpkjdnplmgfbbaaDoorY3
import Derived.Test.YtpkjdnplmgfbbaaDoorEdw
import Derived.Test.YtpkjdnplmgfbbaaDoorY5
import Derived.Test.YtpkjdnplmgfbbaaDoorLawD
namespace Go.Proofs.YtpkjdnplmgfbbaaDoor
open Go.RowKit

theorem own_pair (X : World) (u v : Nat) : OwnN (X.alloc (.cells #[.int .i64 (u : Nat), .int .i64 (v : Nat)] 3)) X.heap.size (.slice (some ⟨X.heap.size, 0, none⟩) 2 2) [u, v] :=
  ⟨rfl, .inr ⟨_, 2, #[.int .i64 (u : Nat), .int .i64 (v : Nat)], rfl, Nat.le_refl _, heap_alloc_new X _, Nat.le_refl _, by unfold maxLen; omega, rfl, rfl⟩⟩
/-- No loop among the first neighbours. -/
def NoL (E : List (List Nat)) (k t : Nat) : Prop := (∀ i, i < k → i ∉ gr E i) ∧ ∀ j x : Nat, j < t → (gr E k)[j]? = some x → x ≠ k
/-- The first repeated edge, or none. -/
def TwI (E : List (List Nat)) (k t : Nat) : Option (List Nat) → Prop
  | none => (∀ i, i < k → ∀ v, (gr E i).count v ≤ 1) ∧ ∀ j x : Nat, j < t → (gr E k)[j]? = some x → (gr E k).count x ≤ 1
  | some l => ∃ u v, l = [u, v] ∧ 2 ≤ (gr E u).count v
theorem NoL.step {E : List (List Nat)} {k t x : Nat} (h : NoL E k t) (hx : (gr E k)[t]? = some x) (hne : x ≠ k) : NoL E k (t + 1) := ⟨h.1, fun j y hj hy => by
  rcases Nat.lt_or_ge j t with h1 | h1
  · exact h.2 j y h1 hy
  · obtain rfl : j = t := by omega
    rw [hx] at hy; injection hy with hy; rw [← hy]; exact hne⟩
theorem NoL.next {E : List (List Nat)} {k : Nat} (h : NoL E k (gr E k).length) : NoL E (k + 1) 0 := ⟨fun i hi => by
  rcases Nat.lt_or_ge i k with h1 | h1
  · exact h.1 i h1
  · obtain rfl : i = k := by omega
    intro hm
    obtain ⟨j, hj⟩ := List.mem_iff_getElem?.1 hm
    exact h.2 j i (some_lt hj) hj rfl, fun j x hj => by omega⟩
theorem TwI.step {E : List (List Nat)} {k t x : Nat} {b : Option (List Nat)} (h : TwI E k t b) (hx : (gr E k)[t]? = some x) (hc : b = none → (gr E k).count x ≤ 1) : TwI E k (t + 1) b := by
  cases b with
  | some l => exact h
  | none =>
    refine ⟨h.1, fun j y hj hy => ?_⟩
    rcases Nat.lt_or_ge j t with h1 | h1
    · exact h.2 j y h1 hy
    · obtain rfl : j = t := by omega
      rw [hx] at hy; injection hy with hy; rw [← hy]; exact hc rfl
theorem TwI.next {E : List (List Nat)} {k : Nat} {b : Option (List Nat)} (h : TwI E k (gr E k).length b) : TwI E (k + 1) 0 b := by
  cases b with
  | some l => exact h
  | none =>
    refine ⟨fun i hi v => ?_, fun j x hj => by omega⟩
    rcases Nat.lt_or_ge i k with h1 | h1
    · exact h.1 i h1 v
    · obtain rfl : i = k := by omega
      by_cases hm : v ∈ gr E i
      · obtain ⟨j, hj⟩ := List.mem_iff_getElem?.1 hm
        exact h.2 j v (some_lt hj) hj
      · rw [List.count_eq_zero.2 hm]; omega
theorem NoL.all {E : List (List Nat)} (h : NoL E E.length 0) : ∀ v, v ∉ gr E v := fun v hv => h.1 v (gr_mem hv) hv
theorem smp_of {E : List (List Nat)} (h : NoL E E.length 0) (h2 : TwI E E.length 0 none) : Smp E := ⟨h.all, fun u v => by
  rcases Nat.lt_or_ge u E.length with h1 | h1
  · exact h2.1 u h1 v
  · rw [gr_ge h1]; simp⟩
/-- The cycles through the first vertices. -/
def Thru (E : List (List Nat)) (k m : Nat) : Prop := ∀ a, a < k → ∀ l, IsCyc E l → 3 ≤ l.length → a ∈ l → m ≤ l.length
theorem Thru.next {E : List (List Nat)} {k m m' : Nat} (h : Thru E k m) (hm : m' ≤ m) (h2 : ∀ l, IsCyc E l → 3 ≤ l.length → k ∈ l → m' ≤ l.length) : Thru E (k + 1) m' := fun a ha l hl h3 hal => by
  rcases Nat.lt_or_ge a k with h1 | h1
  · exact Nat.le_trans hm (h a h1 l hl h3 hal)
  · obtain rfl : a = k := by omega
    exact h2 l hl h3 hal
def GirV (w : World) (E : List (List Nat)) (e : Ending) (w' : World) : Prop := ∃ b bv tb, e = .returned bv ∧ BestV w' w.heap.size tb bv b ∧ GirS E b ∧ Below w.heap.size w w'
theorem BestV.below {W W' : World} {base : Nat} {tb : Option Nat} {bv : Value} {b : Option (List Nat)} (h : BestV W base tb bv b) (hb : Below W.heap.size W W') : BestV W' base tb bv b := h.keep hb.size fun g _ _ hg => hb.block g hg
theorem best_lit {w X : World} (u : Nat) (hb : w.heap.size ≤ X.heap.size) : BestV (X.alloc (.cells #[.int .i64 (u : Nat)] 3)) w.heap.size (some X.heap.size) (.slice (some ⟨X.heap.size, 0, none⟩) 1 1) (some [u]) := ⟨_, 1, rfl, rfl, own_base (own_lit X u) hb, by simp⟩
theorem best_pair {w X : World} (u v : Nat) (hb : w.heap.size ≤ X.heap.size) : BestV (X.alloc (.cells #[.int .i64 (u : Nat), .int .i64 (v : Nat)] 3)) w.heap.size (some X.heap.size) (.slice (some ⟨X.heap.size, 0, none⟩) 2 2) (some [u, v]) := ⟨_, 2, rfl, rfl, own_base (own_pair X u v) hb, by simp⟩

set_option maxHeartbeats 16000000 in
set_option maxRecDepth 100000 in
theorem girth_any {w : World} {v : Value} {names : List ByteArray} {E : List (List Nat)} (h : GrV w v names (toI E)) (hk : Ok names E) (hS : Sym E) :
    Calls Tryd.prog 94 #[v] w (GirV w E) := by
  have hsm := hk.small
  have HED := Lib.hid (fun w' (hb : Below w.heap.size w w') => edges_any (h.at w' hb) hk)
  have HCT := Lib.hid (fun w' (hb : Below w.heap.size w w') (hs : Smp E) (a m : Nat) (ha : a < E.length) (hm : m ≤ 2501) => cycleThrough_any (h.at w' hb) hk hS hs ha hm)
  have HE := Lib.hid hk.valid
  obtain ⟨A1, c1, A', c', hv, hs, hg⟩ := h
  rw [toI_length] at hv hg
  subst hv
  have hr := hg.room
  unfold maxLen at hr
  obtain ⟨W, G, hW, hG, hbW, c0, c1', hGl, hwG⟩ := gbox w (.slice A1 names.length c1) (.slice A' E.length c')
  have HW := Lib.hid hW
  have HG := Lib.hid hG
  have HGL := Lib.hid hg
  clear hW hG hs hg hk hS
  go_enter Tryd.func94, Tryd.ntmps94
  go_wp2_with fail
  rw [← HW.out, ← HG.out]
  refine (HED.out _ hbW).mono ?_
  rintro e w1 ⟨M, mm, D, rfl, hown, hin, hM, hb1⟩
  obtain ⟨d0, d1⟩ := keep2 hb1 c0 c1'
  have hbw1 := hbW.trans (hb1.mono hbW.size)
  have HIN := Lib.hid hin
  have HOWN := Lib.hid hown
  clear c0 c1' hin hown hM hb1 HED
  go_wp2_with fail
  go_loopw [4, 18] (fun tv i wr => ∃ (k : Nat) (tb : Option Nat) (b : Option (List Nat)), k ≤ E.length ∧ i = .int .i64 (k : Nat) ∧ Hid (BestV wr w.heap.size tb tv b) ∧ Hid (NoL E k 0) ∧ Hid (TwI E k 0 b) ∧ Below w1.heap.size w1 wr) (fun _ i _ => E.length - (intOf i).toNat)
  case atStart => exact ⟨0, none, none, Nat.zero_le _, rfl, Lib.hid ⟨rfl, rfl⟩, Lib.hid ⟨fun i hi => by omega, fun j x hj => by omega⟩, Lib.hid ⟨fun i hi => by omega, fun j x hj => by omega⟩, Below.refl _ _⟩
  case round =>
    obtain ⟨k, tb, b, hkl, rfl, HB, HN, HT, hbr⟩ := hrel
    obtain ⟨e0, e1⟩ := keep2 hbr d0 d1
    have hbw := hbw1.trans (hbr.mono hbw1.size)
    by_cases hlt : k < E.length
    · obtain ⟨b7, o7, A7, c7, rfl, hrow0, hr1, hr2, hil0⟩ := HGL.out.row hlt
      have hrow := cells_at hbw hrow0
      have hki : (k : Int) < (E.length : Int) := by omega
      have hk0 : (0 : Int) ≤ (k : Int) := by omega
      have HIL := Lib.hid hil0
      have hwk := wf_int (a := (k : Int)) (by omega)
      have HWK := Lib.hid hwk
      clear hil0 hrow0 hwk
      go_wp2_with fail
      clear e0 e1 hrow
      go_loopw [4, 25] (fun tv i wr => ∃ (t : Nat) (tb : Option Nat) (b : Option (List Nat)), t ≤ (gr E k).length ∧ i = .int .i64 (t : Nat) ∧ Hid (BestV wr w.heap.size tb tv b) ∧ Hid (NoL E k t) ∧ Hid (TwI E k t b) ∧ Below w1.heap.size w1 wr) (fun _ i _ => (gr E k).length - (intOf i).toNat)
      case atStart => exact ⟨0, tb, b, Nat.zero_le _, rfl, HB, HN, HT, hbr⟩
      case round =>
        clear hbw hbr HB HN HT b tb
        obtain ⟨t, tb, b, htl, rfl, HB, HN, HT, hbr⟩ := hrel
        have hbw := hbw1.trans (hbr.mono hbw1.size)
        by_cases htt : t < (gr E k).length
        · obtain ⟨x, hx⟩ : ∃ x, (gr E k)[t]? = some x := ⟨_, List.getElem?_eq_getElem htt⟩
          have hxE : x < E.length := HE.out k hlt x (List.mem_of_getElem? hx)
          obtain ⟨b8, o8, rfl, cx⟩ := (HIL.out.below hbw).num hx
          have HX := Lib.hid hx
          have hti : (t : Int) < ((gr E k).length : Int) := by omega
          have ht0 : (0 : Int) ≤ (t : Int) := by omega
          clear hx
          by_cases hxk : x = k
          · have hz : ((x : Int) == (k : Int)) = true := by simp [hxk]
            have HM := Lib.hid (show k ∈ gr E k from by have h9 := List.mem_of_getElem? HX.out; rw [hxk] at h9; exact h9)
            clear hxk
            have hbs := hbw.size
            go_wp2_with fail
            go_ret
            exact ⟨some [k], _, some wr.heap.size, rfl, best_lit k hbs, girS_one HM.out, below_allocR hbw _⟩
          · have hz : ((x : Int) == (k : Int)) = false := beq_eq_false_iff_ne.2 (by omega)
            have HN' := Lib.hid (HN.out.step HX.out hxk)
            clear hxk
            cases b with
            | some l =>
              obtain ⟨g, cg, _, rfl, _, _⟩ := HB.out
              have HT' := Lib.hid (HT.out.step HX.out (fun h => by cases h))
              go_wp2_with fail
              rename_i hK9
              refine hK9 _ _ ?_
              go_wp2_with fail
              go_roundw
              case rel => exact ⟨t + 1, tb, some l, by omega, by go_num, HB, HN', HT', hbr⟩
              case measure => simp [intOf]; omega
            | none =>
              obtain ⟨rfl, rfl⟩ := HB.out
              have hwx := wf_int (a := (x : Int)) (by omega)
              have HAT := Lib.hid (HIN.out (k : Int) (x : Int) HWK.out hwx)
              have HKEY := Lib.hid (keyOf_edge HWK.out hwx)
              have how := ownsMap_below HOWN.out hbr
              obtain ⟨q, hq⟩ : ∃ q, q = (gr E k).count x := ⟨_, rfl⟩
              have HQ := Lib.hid hq
              have HCI := Lib.hid (show cI E E.length 0 (k : Int) (x : Int) = (q : Nat) by rw [hq, cI_nat, cnt_all])
              obtain ⟨cc, hrun, hat2, hwc2⟩ := how.lookup_int edge_keyed edges_under Tryd.underlying3 (zero_intE wr) HKEY.out
              obtain rfl : cc = (q : Int) := (by have h9 := hat2.symm.trans HAT.out; injection h9 with h9; injection h9 with _ h9; rw [h9, HCI.out])
              clear hq hwx hat2 hwc2
              by_cases hq2 : 2 ≤ q
              · have hz2 : decide ((1 : Int) < (q : Int)) = true := decide_eq_true (by omega)
                have HTW := Lib.hid (show TwI E k (t + 1) (some [k, x]) from ⟨k, x, rfl, by rw [← HQ.out]; exact hq2⟩)
                clear hq2
                have hbs := hbw.size
                go_wp2_with fail
                rename_i hK9
                refine hK9 _ _ ?_
                go_wp2_with fail
                go_roundw
                case rel => exact ⟨t + 1, some wr.heap.size, some [k, x], by omega, by go_num, Lib.hid (best_pair k x hbs), HN', HTW, below_allocR hbr _⟩
                case measure => simp [intOf]; omega
              · have hz2 : decide ((1 : Int) < (q : Int)) = false := decide_eq_false (by omega)
                have HT' := Lib.hid (HT.out.step HX.out (fun _ => by rw [← HQ.out]; omega))
                clear hq2
                go_wp2_with fail
                rename_i hK9
                refine hK9 _ _ ?_
                go_wp2_with fail
                go_roundw
                case rel => exact ⟨t + 1, none, none, by omega, by go_num, HB, HN', HT', hbr⟩
                case measure => simp [intOf]; omega
        · obtain rfl : t = (gr E k).length := by omega
          go_wp2_with fail
          go_roundw
          case rel => exact ⟨k + 1, tb, b, by omega, by go_num, HB, Lib.hid HN.out.next, Lib.hid HT.out.next, hbr⟩
          case measure => simp [intOf]; omega
    · obtain rfl : k = E.length := by omega
      cases b with
      | some l =>
        obtain ⟨g, cg, _, rfl, _, _⟩ := HB.out
        have HG2 := Lib.hid (show GirS E (some l) by
          obtain ⟨u, v, rfl, h2⟩ := HT.out
          exact girS_pair HN.out.all h2)
        go_wp2_with fail
        go_ret
        exact ⟨some l, _, tb, rfl, HB.out, HG2.out, hbw⟩
      | none =>
        obtain ⟨rfl, rfl⟩ := HB.out
        have HSM := Lib.hid (smp_of HN.out HT.out)
        clear HB HN HT
        have hni : (E.length : Int) ≤ 2500 := by omega
        go_wp2_with fail
        go_loopw [9, 10, 59] (fun mo be i wx => ∃ (k m : Nat) (tb : Option Nat) (b : Option (List Nat)), k ≤ E.length ∧ i = .int .i64 (k : Nat) ∧ mo = .int .i64 (m : Nat) ∧ Hid (BestV wx w.heap.size tb be b) ∧ Hid (Bst E (E.length + 1) b m) ∧ Hid (Thru E k m) ∧ Below w1.heap.size w1 wx) (fun _ _ i _ => E.length - (intOf i).toNat)
        case atStart => exact ⟨0, E.length + 1, none, none, Nat.zero_le _, rfl, by go_num, Lib.hid ⟨rfl, rfl⟩, Lib.hid rfl, Lib.hid (fun a ha => by omega), hbr⟩
        case round =>
          clear hbr hbw e0 e1
          obtain ⟨k, m, tb, b, hkl, rfl, rfl, HB, HBS, HTH, hbr⟩ := hrel
          obtain ⟨e0, e1⟩ := keep2 hbr d0 d1
          have hbw := hbw1.trans (hbr.mono hbw1.size)
          by_cases hlk : k < E.length
          · have hm := HBS.out.less
            have hki : (k : Int) < (E.length : Int) := by omega
            have hk0 : (0 : Int) ≤ (k : Int) := by omega
            go_wp2_with fail
            refine (HCT.out _ hbw HSM.out k m hlk (by omega)).mono ?_
            rintro e w5 ⟨m', b', bv', tb', rfl, hbv, hbst, hall, hb5⟩
            have HTN := Lib.hid (HTH.out.next hbst.less hall)
            have HBN := Lib.hid (HBS.out.trans hbst)
            have hbr5 := hbr.trans (hb5.mono hbr.size)
            cases b' with
            | none =>
              obtain ⟨rfl, rfl⟩ := hbv
              have em : m' = m := hbst
              have HB5 := Lib.hid (HB.out.below hb5)
              have HEM := Lib.hid em
              clear em hbst hall
              go_wp2_with fail
              go_roundw
              case rel => exact ⟨k + 1, m, tb, b, by omega, by go_num, rfl, HB5, by have := HBN.out; rw [HEM.out] at this; exact Lib.hid this, by have := HTN.out; rw [HEM.out] at this; exact Lib.hid this, hbr5⟩
              case measure => simp [intOf]; omega
            | some l =>
              have HB5 := Lib.hid (hbv.base hbw.size)
              obtain ⟨g, cg, _, rfl, _, _⟩ := hbv
              have HLM := Lib.hid hbst.2.2.1
              clear hbst hall
              go_wp2_with fail
              go_roundw
              case rel => exact ⟨k + 1, m', tb', some l, by omega, by go_num, by rw [HLM.out], HB5, HBN, HTN, hbr5⟩
              case measure => simp [intOf]; omega
          · obtain rfl : k = E.length := by omega
            have HG2 := Lib.hid (girS_all HE.out HSM.out HBS.out HTH.out)
            go_wp2_with fail
            go_ret
            exact ⟨b, _, tb, rfl, HB.out, HG2.out, hbw⟩
end Go.Proofs.YtpkjdnplmgfbbaaDoor

namespace Go.Proofs.YtpkjdnplmgfbbaaDoor
open Go.RowKit

set_option maxHeartbeats 1000000 in
theorem Girth_bad {w : World} {v : Value} {names : List ByteArray} {E : List (List Int)} (h : GrV w v names E) (hc : chk names E ≠ 0) :
    Calls Tryd.prog 51 #[v] w fun e w' => e = .returned (.tuple #[.int .i64 0, .slice none 0 0, .int .i64 (chk names E : Nat)]) ∧ Below w.heap.size w w' := by
  have HC := Lib.hid (fun w' hb => Check_any (h.at w' hb))
  generalize chk names E = q at *
  have hz : (((q : Nat) : Int) != 0) = true := by simp [hc]
  clear hc
  obtain ⟨A1, c1, A', c', rfl, hs, hg⟩ := h
  obtain ⟨W, G, hW, hG, hbW, c0, c1', hGl, hwG⟩ := gbox w (.slice A1 names.length c1) (.slice A' E.length c')
  have HW := Lib.hid hW
  have HG := Lib.hid hG
  clear hW hG
  go_enter Tryd.func51, Tryd.ntmps51
  go_wp2_with (go_at_call 34; rw [← HW.out]; refine (HC.out _ hbW).mono ?_; rintro e w1 ⟨rfl, hb1⟩)
  exact bodyPost_ret (v := .tuple #[.int .i64 0, .slice none 0 0, .int .i64 (q : Nat)]) (by simp [results, Tryd.results51, go_sem]) rfl ⟨rfl, hbW.trans (hb1.mono hbW.size)⟩

/-- What Girth returns for a graph that Check accepts. -/
def GrtR (w : World) (E : List (List Nat)) (e : Ending) (w' : World) : Prop := ∃ (n : Nat) (bv : Value) (err : Nat), e = .returned (.tuple #[.int .i64 (n : Nat), bv, .int .i64 (err : Nat)]) ∧ Below w.heap.size w w' ∧
  ((undB E = false ∧ n = 0 ∧ bv = .slice none 0 0 ∧ err = 3) ∨ (undB E = true ∧ GirS E none ∧ n = 0 ∧ bv = .slice none 0 0 ∧ err = 12) ∨ (undB E = true ∧ err = 0 ∧ ∃ l g c, GirS E (some l) ∧ n = l.length ∧ bv = .slice (some ⟨g, 0, none⟩) l.length c ∧ Il w' (some ⟨g, 0, none⟩) l.length c (wlkI l)))
theorem grtR_und {w w' : World} {E : List (List Nat)} (hu : undB E = false) (hb : Below w.heap.size w w') : GrtR w E (.returned (.tuple #[.int .i64 0, .slice none 0 0, .int .i64 3])) w' := ⟨0, _, 3, rfl, hb, .inl ⟨hu, rfl, rfl, rfl⟩⟩
theorem grtR_none {w w' : World} {E : List (List Nat)} (hu : undB E = true) (hg : GirS E none) (hb : Below w.heap.size w w') : GrtR w E (.returned (.tuple #[.int .i64 0, .slice none 0 0, .int .i64 12])) w' := ⟨0, _, 12, rfl, hb, .inr (.inl ⟨hu, hg, rfl, rfl, rfl⟩)⟩
theorem grtR_some {w w' : World} {E : List (List Nat)} (hE : Valid E) (hn : E.length ≤ 2500) {l : List Nat} {tb : Option Nat} {base g c : Nat} (hu : undB E = true) (hg : GirS E (some l)) (hb : Below w.heap.size w w') (hv : BestV w' base tb (.slice (some ⟨g, 0, none⟩) l.length c) (some l)) : GrtR w E (.returned (.tuple #[.int .i64 (l.length : Nat), .slice (some ⟨g, 0, none⟩) l.length c, .int .i64 0])) w' := by
  refine ⟨l.length, _, 0, rfl, hb, .inr (.inr ⟨hu, rfl, l, g, c, hg, rfl, rfl, ?_⟩)⟩
  obtain ⟨_, _, _, _, ho, _⟩ := hv
  obtain ⟨A, c2, e, hi⟩ := ho.il (fun x hx => by have := hg.1.lt hE x hx; omega)
  injection e with e1 e2 e3
  subst e1 e3
  exact hi

set_option maxHeartbeats 4000000 in
set_option maxRecDepth 100000 in
theorem Girth_ok {w : World} {v : Value} {names : List ByteArray} {E : List (List Nat)} (h : GrV w v names (toI E)) (hc : chk names (toI E) = 0) (hk : Ok names E) :
    Calls Tryd.prog 51 #[v] w (GrtR w E) := by
  have hsm := hk.small
  have HC := Lib.hid (fun w' hb => Check_any (h.at w' hb))
  rw [hc] at HC
  have HU := Lib.hid (fun w' (hb : Below w.heap.size w w') => undirected_any (h.at w' hb) hk)
  have HGI := Lib.hid (fun w' (hb : Below w.heap.size w w') (hu : undB E = true) => girth_any (h.at w' hb) hk ((undB_true.1 hu).sym hk.valid))
  have HE := Lib.hid hk.valid
  obtain ⟨A1, c1, A', c', hvv, hs, hg⟩ := h
  rw [toI_length] at hvv hg
  subst hvv
  obtain ⟨W, G, hW, hG, hbW, g0, g1, hGl, hwG⟩ := gbox w (.slice A1 names.length c1) (.slice A' E.length c')
  have HW := Lib.hid hW
  have HG := Lib.hid hG
  clear hW hG hs hk hc hg
  cases hu : undB E with
  | false =>
    have HUB := Lib.hid hu
    clear hu
    go_enter Tryd.func51, Tryd.ntmps51
    go_wp2_with (first
      | (go_at_call 34; rw [← HW.out, ← HG.out]; refine (HC.out _ hbW).mono ?_; rintro e w1 ⟨rfl, hb1⟩; have hb2 := hbW.trans (hb1.mono hbW.size); obtain ⟨d0, d1⟩ := keep2 hb1 g0 g1)
      | (go_at_call 72; refine (HU.out _ hb2).mono ?_; rintro e w3 ⟨rfl, hb3⟩; rw [HUB.out]; have hb4 := hb2.trans (hb3.mono hb2.size)))
    exact bodyPost_ret (v := .tuple #[.int .i64 0, .slice none 0 0, .int .i64 3]) (by simp [results, Tryd.results51, go_sem]) rfl (grtR_und HUB.out hb4)
  | true =>
    have HUB := Lib.hid hu
    clear hu
    go_enter Tryd.func51, Tryd.ntmps51
    go_upto_region 6 with (first
      | (go_at_call 34; rw [← HW.out, ← HG.out]; refine (HC.out _ hbW).mono ?_; rintro e w1 ⟨rfl, hb1⟩; have hb2 := hbW.trans (hb1.mono hbW.size); obtain ⟨d0, d1⟩ := keep2 hb1 g0 g1)
      | (go_at_call 72; refine (HU.out _ hb2).mono ?_; rintro e w3 ⟨rfl, hb3⟩; rw [HUB.out]; obtain ⟨e0, e1⟩ := keep2 hb3 d0 d1; have hb4 := hb2.trans (hb3.mono hb2.size)))
    go_wp2_with fail
    refine (HGI.out _ hb4 HUB.out).mono ?_
    rintro e w5 ⟨b, bv, tb, rfl, hbv, hgs, hb5⟩
    have hb6 := hb4.trans (hb5.mono hb4.size)
    cases b with
    | none =>
      obtain ⟨rfl, rfl⟩ := hbv
      have HGS := Lib.hid hgs
      clear hgs
      go_wp2_with fail
      rename_i hK9
      refine hK9 _ _ ?_
      go_wp2_with fail
      exact bodyPost_ret (v := .tuple #[.int .i64 0, .slice none 0 0, .int .i64 12]) (by simp [results, Tryd.results51, go_sem]) rfl (grtR_none HUB.out HGS.out hb6)
    | some l =>
      have HBV := Lib.hid hbv
      obtain ⟨g, c, _, rfl, _, _⟩ := hbv
      have HGS := Lib.hid hgs
      clear hgs
      go_wp2_with fail
      rename_i hK9
      refine hK9 _ _ ?_
      go_wp2_with fail
      exact bodyPost_ret (v := .tuple #[.int .i64 (l.length : Nat), .slice (some ⟨g, 0, none⟩) l.length c, .int .i64 0]) (by simp [results, Tryd.results51, go_sem]) rfl (grtR_some HE.out hsm HUB.out HGS.out hb6 HBV.out)
end Go.Proofs.YtpkjdnplmgfbbaaDoor

namespace Go.Proofs.YtpkjdnplmgfbbaaDoor
open Go.RowKit

/-- The error of a shortest cycle is none. -/
theorem cyC_found {E : List (List Nat)} (hE : Valid E) {l : List Nat} (hu : undB E = true) (h : IsCyc E l) : cyC E (wlkI l) = 0 := by
  have hl : (wlkI l).map Int.toNat = l := by
    unfold wlkI
    rw [List.map_map]
    conv => rhs; rw [← List.map_id l]
    exact List.map_congr_left fun x _ => by simp
  have h0 : lstC E.length (wlkI l) = 0 := lstC_okC (by unfold wlkI; rw [List.length_map]; exact h.pos) (fun j x _ hx => by
    unfold wlkI at hx
    rw [List.getElem?_map] at hx
    cases hy : l[j]? with
    | none => rw [hy] at hx; cases hx
    | some y =>
      rw [hy] at hx
      injection hx with hx
      subst hx
      have := h.lt hE y (List.mem_of_getElem? hy)
      unfold hasB
      simp only [decide_eq_true_eq]
      omega)
  have hb : cycB E ((wlkI l).map Int.toNat) = true := by rw [hl]; exact (cycB_true h).symm
  exact (cyC_end hu h0 hb).symm
/-- What Girth and the reference's Girth say together. -/
theorem both_gir {w' : World} {E : List (List Nat)} (hE : Valid E) {n : Nat} {bv : Value} {err m h : Nat}
    (h1 : (undB E = false ∧ n = 0 ∧ bv = .slice none 0 0 ∧ err = 3) ∨ (undB E = true ∧ GirS E none ∧ n = 0 ∧ bv = .slice none 0 0 ∧ err = 12) ∨ (undB E = true ∧ err = 0 ∧ ∃ l g c, GirS E (some l) ∧ n = l.length ∧ bv = .slice (some ⟨g, 0, none⟩) l.length c ∧ Il w' (some ⟨g, 0, none⟩) l.length c (wlkI l)))
    (h2 : (undB E = false ∧ m = 0 ∧ h = 3) ∨ (undB E = true ∧ GirN E m h)) :
    (n = 0 ∧ bv = .slice none 0 0 ∧ err = h ∧ m = 0 ∧ (h = 3 ∨ h = 12)) ∨ (err = 0 ∧ h = 0 ∧ m = n ∧ ∃ l g c, bv = .slice (some ⟨g, 0, none⟩) n c ∧ Il w' (some ⟨g, 0, none⟩) n c (wlkI l) ∧ cyC E (wlkI l) = 0) := by
  rcases h1 with ⟨u, rfl, rfl, rfl⟩ | ⟨u, hg, rfl, rfl, rfl⟩ | ⟨u, rfl, l, g, c, hg, rfl, rfl, hi⟩
  · rcases h2 with ⟨_, rfl, rfl⟩ | ⟨u2, _⟩
    · exact .inl ⟨rfl, rfl, rfl, rfl, .inl rfl⟩
    · rw [u] at u2; cases u2
  · rcases h2 with ⟨u2, _, _⟩ | ⟨_, hn⟩
    · rw [u] at u2; cases u2
    · obtain ⟨rfl, rfl⟩ := hn.none hg
      exact .inl ⟨rfl, rfl, rfl, rfl, .inr rfl⟩
  · rcases h2 with ⟨u2, _, _⟩ | ⟨_, hn⟩
    · rw [u] at u2; cases u2
    · obtain ⟨rfl, rfl⟩ := hn.some hg
      exact .inr ⟨rfl, rfl, rfl, l, g, c, rfl, hi, cyC_found hE u hg.1⟩

set_option maxHeartbeats 8000000 in
set_option maxRecDepth 100000 in
theorem lawY_bad {w : World} {v : Value} {names : List ByteArray} {E : List (List Int)} (h : GrV w v names E) {A3 : Option Addr} {n3 c3 : Nat} {l : List Int} (hl : Il w A3 n3 c3 l) (hc : chk names E ≠ 0) : Calls Tryd.prog 11 #[v, .slice A3 n3 c3] w (TrueR w) := by
  have H := Lib.hid (fun w' hb => h.at w' hb)
  have hz : (((chk names E : Nat) : Int) != 0) = true := by simp [hc]
  have hz2 : (((chk names E : Nat) : Int) == ((chk names E : Nat) : Int)) = true := by simp
  have hz3 : (((chk names E : Nat) : Int) == 0) = false := by simp [hc]
  have HD := Lib.hid (fun w' hb => Girth_bad (h.at w' hb) hc)
  have HM := Lib.hid (fun w' hb => CheckCycle_bad (h.at w' hb) (A := A3) (n := n3) (c := c3) hc)
  have HR := Lib.hid (fun w' hb => rCheck_any (h.at w' hb))
  have hr3 := hl.room
  unfold maxLen at hr3
  generalize chk names E = q at *
  clear hc hl
  obtain ⟨A, c, A', c', hv, hs, hg⟩ := h
  have hrs := hs.room
  unfold maxLen at hrs
  subst hv
  obtain ⟨W, G, hW, hG, hbW, c0, c1, hGl, hwG⟩ := gbox w (.slice A names.length c) (.slice A' E.length c')
  have HW := Lib.hid hW
  have HG := Lib.hid hG
  clear hW hG hs hg
  by_cases h7 : 7 < names.length
  · have hd7 : decide ((7 : Int) < (names.length : Int)) = true := decide_eq_true (by omega)
    by_cases h20 : 20 < n3
    · have hd20 : decide ((20 : Int) < (n3 : Int)) = true := decide_eq_true (by omega)
      go_enter Tryd.func11, Tryd.ntmps11
      go_wp2_with fail
      rw [← HW.out, ← HG.out]
      refine (Light_any (H.out _ hbW)).mono ?_
      rintro e w1 ⟨b, rfl, _, hb1⟩
      obtain ⟨d0, d1⟩ := keep2 hb1 c0 c1
      replace hb1 := hbW.trans (hb1.mono hbW.size)
      clear c0 c1
      cases b
      · go_wp2_with fail
        refine awake_any.mono ?_
        rintro e wz ⟨rfl, hbz⟩
        go_wp2_with fail
        go_ret
        exact ⟨rfl, hb1.trans (hbz.mono hb1.size)⟩
      · go_wp2_with fail
        refine (HR.out _ hb1).mono ?_
        rintro e w2 ⟨rfl, hb2⟩
        obtain ⟨x0, x1⟩ := keep2 hb2 d0 d1
        replace hb2 := hb1.trans (hb2.mono hb1.size)
        clear d0 d1
        have d0 := x0
        have d1 := x1
        clear x0 x1
        go_wp2_with fail
        refine awake_any.mono ?_
        rintro e wz ⟨rfl, hbz⟩
        go_wp2_with fail
        go_ret
        exact ⟨rfl, hb2.trans (hbz.mono hb2.size)⟩
    · have hd20 : decide ((20 : Int) < (n3 : Int)) = false := decide_eq_false (by omega)
      go_enter Tryd.func11, Tryd.ntmps11
      go_wp2_with fail
      rw [← HW.out, ← HG.out]
      refine (Light_any (H.out _ hbW)).mono ?_
      rintro e w1 ⟨b, rfl, _, hb1⟩
      obtain ⟨d0, d1⟩ := keep2 hb1 c0 c1
      replace hb1 := hbW.trans (hb1.mono hbW.size)
      clear c0 c1
      cases b
      · go_wp2_with fail
        refine awake_any.mono ?_
        rintro e wz ⟨rfl, hbz⟩
        go_wp2_with fail
        go_ret
        exact ⟨rfl, hb1.trans (hbz.mono hb1.size)⟩
      · go_wp2_with fail
        refine (HR.out _ hb1).mono ?_
        rintro e w2 ⟨rfl, hb2⟩
        obtain ⟨x0, x1⟩ := keep2 hb2 d0 d1
        replace hb2 := hb1.trans (hb2.mono hb1.size)
        clear d0 d1
        have d0 := x0
        have d1 := x1
        clear x0 x1
        go_wp2_with fail
        refine (HD.out _ hb2).mono ?_
        rintro e w3 ⟨rfl, hb3⟩
        obtain ⟨x0, x1⟩ := keep2 hb3 d0 d1
        replace hb3 := hb2.trans (hb3.mono hb2.size)
        clear d0 d1
        have d0 := x0
        have d1 := x1
        clear x0 x1
        go_wp2_with fail
        refine (HM.out _ hb3).mono ?_
        rintro e w4 ⟨rfl, hb4⟩
        obtain ⟨x0, x1⟩ := keep2 hb4 d0 d1
        replace hb4 := hb3.trans (hb4.mono hb3.size)
        clear d0 d1
        have d0 := x0
        have d1 := x1
        clear x0 x1
        go_wp2_with fail
        refine (HR.out _ hb4).mono ?_
        rintro e w5 ⟨rfl, hb5⟩
        obtain ⟨x0, x1⟩ := keep2 hb5 d0 d1
        replace hb5 := hb4.trans (hb5.mono hb4.size)
        clear d0 d1
        have d0 := x0
        have d1 := x1
        clear x0 x1
        go_wp2_with fail
        refine awake_any.mono ?_
        rintro e wz ⟨rfl, hbz⟩
        go_wp2_with fail
        go_ret
        exact ⟨rfl, hb5.trans (hbz.mono hb5.size)⟩
  · have hd7 : decide ((7 : Int) < (names.length : Int)) = false := decide_eq_false (by omega)
    by_cases h20 : 20 < n3
    · have hd20 : decide ((20 : Int) < (n3 : Int)) = true := decide_eq_true (by omega)
      go_enter Tryd.func11, Tryd.ntmps11
      go_wp2_with fail
      rw [← HW.out, ← HG.out]
      refine (Light_any (H.out _ hbW)).mono ?_
      rintro e w1 ⟨b, rfl, _, hb1⟩
      obtain ⟨d0, d1⟩ := keep2 hb1 c0 c1
      replace hb1 := hbW.trans (hb1.mono hbW.size)
      clear c0 c1
      cases b
      · go_wp2_with fail
        refine awake_any.mono ?_
        rintro e wz ⟨rfl, hbz⟩
        go_wp2_with fail
        go_ret
        exact ⟨rfl, hb1.trans (hbz.mono hb1.size)⟩
      · go_wp2_with fail
        refine awake_any.mono ?_
        rintro e wz ⟨rfl, hbz⟩
        go_wp2_with fail
        go_ret
        exact ⟨rfl, hb1.trans (hbz.mono hb1.size)⟩
    · have hd20 : decide ((20 : Int) < (n3 : Int)) = false := decide_eq_false (by omega)
      go_enter Tryd.func11, Tryd.ntmps11
      go_wp2_with fail
      rw [← HW.out, ← HG.out]
      refine (Light_any (H.out _ hbW)).mono ?_
      rintro e w1 ⟨b, rfl, _, hb1⟩
      obtain ⟨d0, d1⟩ := keep2 hb1 c0 c1
      replace hb1 := hbW.trans (hb1.mono hbW.size)
      clear c0 c1
      cases b
      · go_wp2_with fail
        refine awake_any.mono ?_
        rintro e wz ⟨rfl, hbz⟩
        go_wp2_with fail
        go_ret
        exact ⟨rfl, hb1.trans (hbz.mono hb1.size)⟩
      · go_wp2_with fail
        refine (HD.out _ hb1).mono ?_
        rintro e w2 ⟨rfl, hb2⟩
        obtain ⟨x0, x1⟩ := keep2 hb2 d0 d1
        replace hb2 := hb1.trans (hb2.mono hb1.size)
        clear d0 d1
        have d0 := x0
        have d1 := x1
        clear x0 x1
        go_wp2_with fail
        refine (HM.out _ hb2).mono ?_
        rintro e w3 ⟨rfl, hb3⟩
        obtain ⟨x0, x1⟩ := keep2 hb3 d0 d1
        replace hb3 := hb2.trans (hb3.mono hb2.size)
        clear d0 d1
        have d0 := x0
        have d1 := x1
        clear x0 x1
        go_wp2_with fail
        refine (HR.out _ hb3).mono ?_
        rintro e w4 ⟨rfl, hb4⟩
        obtain ⟨x0, x1⟩ := keep2 hb4 d0 d1
        replace hb4 := hb3.trans (hb4.mono hb3.size)
        clear d0 d1
        have d0 := x0
        have d1 := x1
        clear x0 x1
        go_wp2_with fail
        refine awake_any.mono ?_
        rintro e wz ⟨rfl, hbz⟩
        go_wp2_with fail
        go_ret
        exact ⟨rfl, hb4.trans (hbz.mono hb4.size)⟩

set_option maxHeartbeats 8000000 in
set_option maxRecDepth 100000 in
theorem lawY_ok {w : World} {v : Value} {names : List ByteArray} {E : List (List Nat)} (h : GrV w v names (toI E)) {A3 : Option Addr} {n3 c3 : Nat} {l : List Int} (hl : Il w A3 n3 c3 l) (hc : chk names (toI E) = 0) (hk : Ok names E) : Calls Tryd.prog 11 #[v, .slice A3 n3 c3] w (TrueR w) := by
  have H := Lib.hid (fun w' hb => h.at w' hb)
  have HD := Lib.hid (fun w' (hb : Below w.heap.size w w') => Girth_ok (h.at w' hb) hc hk)
  have HM := Lib.hid (fun w' (hb : Below w.heap.size w w') => CheckCycle_ok (h.at w' hb) hc hk (hl.below hb))
  have HRM := Lib.hid (fun w' (hb : Below w.heap.size w w') => rCheckCycle_ok (h.at w' hb) hk (hl.below hb))
  have HM2 := Lib.hid (fun w' (hb : Below w.heap.size w w') (A : Option Addr) (n c : Nat) (l : List Int) (hl : Il w' A n c l) => CheckCycle_ok (h.at w' hb) hc hk hl)
  have HRM2 := Lib.hid (fun w' (hb : Below w.heap.size w w') (A : Option Addr) (n c : Nat) (l : List Int) (hl : Il w' A n c l) => rCheckCycle_ok (h.at w' hb) hk hl)
  have HRG := Lib.hid (fun w' (hb : Below w.heap.size w w') => rGirth_ok (h.at w' hb) hk)
  have HR := Lib.hid (fun w' hb => rCheck_any (h.at w' hb))
  rw [hc] at HR
  have HE := Lib.hid hk.valid
  have hr3 := hl.room
  unfold maxLen at hr3
  obtain ⟨p, hp⟩ : ∃ p, p = cyC E l := ⟨_, rfl⟩
  rw [← hp] at HM HRM
  have hp1 : ((p : Int) != (p : Int)) = false := by simp
  clear hp hc hk hl
  obtain ⟨A, c, A', c', hv, hs, hg⟩ := h
  have hrs := hs.room
  unfold maxLen at hrs
  rw [toI_length] at hv
  subst hv
  obtain ⟨W, G, hW, hG, hbW, c0, c1, hGl, hwG⟩ := gbox w (.slice A names.length c) (.slice A' E.length c')
  have HW := Lib.hid hW
  have HG := Lib.hid hG
  clear hW hG hs hg
  by_cases h7 : 7 < names.length
  · have hd7 : decide ((7 : Int) < (names.length : Int)) = true := decide_eq_true (by omega)
    go_enter Tryd.func11, Tryd.ntmps11
    go_wp2_with fail
    rw [← HW.out, ← HG.out]
    refine (Light_any (H.out _ hbW)).mono ?_
    rintro e w1 ⟨b, rfl, _, hb1⟩
    obtain ⟨d0, d1⟩ := keep2 hb1 c0 c1
    replace hb1 := hbW.trans (hb1.mono hbW.size)
    clear c0 c1
    cases b
    · go_wp2_with fail
      refine awake_any.mono ?_
      rintro e wz ⟨rfl, hbz⟩
      go_wp2_with fail
      go_ret
      exact ⟨rfl, hb1.trans (hbz.mono hb1.size)⟩
    · go_wp2_with fail
      refine (HR.out _ hb1).mono ?_
      rintro e w2 ⟨rfl, hb2⟩
      obtain ⟨x0, x1⟩ := keep2 hb2 d0 d1
      replace hb2 := hb1.trans (hb2.mono hb1.size)
      clear d0 d1
      have d0 := x0
      have d1 := x1
      clear x0 x1
      go_wp2_with fail
      refine awake_any.mono ?_
      rintro e wz ⟨rfl, hbz⟩
      go_wp2_with fail
      go_ret
      exact ⟨rfl, hb2.trans (hbz.mono hb2.size)⟩
  · have hd7 : decide ((7 : Int) < (names.length : Int)) = false := decide_eq_false (by omega)
    by_cases h20 : 20 < n3
    · have hd20 : decide ((20 : Int) < (n3 : Int)) = true := decide_eq_true (by omega)
      go_enter Tryd.func11, Tryd.ntmps11
      go_wp2_with fail
      rw [← HW.out, ← HG.out]
      refine (Light_any (H.out _ hbW)).mono ?_
      rintro e w1 ⟨b, rfl, _, hb1⟩
      obtain ⟨d0, d1⟩ := keep2 hb1 c0 c1
      replace hb1 := hbW.trans (hb1.mono hbW.size)
      clear c0 c1
      cases b
      · go_wp2_with fail
        refine awake_any.mono ?_
        rintro e wz ⟨rfl, hbz⟩
        go_wp2_with fail
        go_ret
        exact ⟨rfl, hb1.trans (hbz.mono hb1.size)⟩
      · go_wp2_with fail
        refine awake_any.mono ?_
        rintro e wz ⟨rfl, hbz⟩
        go_wp2_with fail
        go_ret
        exact ⟨rfl, hb1.trans (hbz.mono hb1.size)⟩
    · have hd20 : decide ((20 : Int) < (n3 : Int)) = false := decide_eq_false (by omega)
      go_enter Tryd.func11, Tryd.ntmps11
      go_wp2_with fail
      rw [← HW.out, ← HG.out]
      refine (Light_any (H.out _ hbW)).mono ?_
      rintro e w1 ⟨b, rfl, _, hb1⟩
      obtain ⟨d0, d1⟩ := keep2 hb1 c0 c1
      replace hb1 := hbW.trans (hb1.mono hbW.size)
      clear c0 c1
      cases b
      · go_wp2_with fail
        refine awake_any.mono ?_
        rintro e wz ⟨rfl, hbz⟩
        go_wp2_with fail
        go_ret
        exact ⟨rfl, hb1.trans (hbz.mono hb1.size)⟩
      · go_wp2_with fail
        refine (HD.out _ hb1).mono ?_
        rintro e w2 ⟨n, bv, err, rfl, hb2, hgr⟩
        obtain ⟨x0, x1⟩ := keep2 hb2 d0 d1
        have hB2 := hb1.trans (hb2.mono hb1.size)
        clear d0 d1 hb2
        have d0 := x0
        have d1 := x1
        clear x0 x1
        have hb2 := hB2
        have hk2 : Below w2.heap.size w2 w2 := Below.refl _ _
        have HGR := Lib.hid hgr
        clear hgr
        go_wp2_with fail
        refine (HM.out _ hb2).mono ?_
        rintro e w3 ⟨rfl, hb3⟩
        obtain ⟨x0, x1⟩ := keep2 hb3 d0 d1
        have hk3 := hk2.trans (hb3.mono hk2.size)
        replace hb3 := hb2.trans (hb3.mono hb2.size)
        clear d0 d1
        have d0 := x0
        have d1 := x1
        clear x0 x1
        go_wp2_with fail
        refine (HR.out _ hb3).mono ?_
        rintro e w4 ⟨rfl, hb4⟩
        obtain ⟨x0, x1⟩ := keep2 hb4 d0 d1
        have hk4 := hk3.trans (hb4.mono hk3.size)
        replace hb4 := hb3.trans (hb4.mono hb3.size)
        clear d0 d1
        have d0 := x0
        have d1 := x1
        clear x0 x1
        go_wp2_with fail
        refine (HRG.out _ hb4).mono ?_
        rintro e w5 ⟨m, h, rfl, hgn, hb5⟩
        obtain ⟨x0, x1⟩ := keep2 hb5 d0 d1
        have hk5 := hk4.trans (hb5.mono hk4.size)
        replace hb5 := hb4.trans (hb5.mono hb4.size)
        clear d0 d1
        have d0 := x0
        have d1 := x1
        clear x0 x1
        rcases both_gir HE.out HGR.out hgn with ⟨rfl, rfl, rfl, rfl, hh⟩ | ⟨rfl, rfl, rfl, l0, g, cg, rfl, hi, hcy⟩
        · clear hgn HGR
          rcases hh with rfl | rfl
          all_goals
            go_wp2_with fail
            refine (HRM.out _ hb5).mono ?_
            rintro e w6 ⟨rfl, hb6⟩
            obtain ⟨x0, x1⟩ := keep2 hb6 d0 d1
            replace hb6 := hb5.trans (hb6.mono hb5.size)
            clear d0 d1
            have d0 := x0
            have d1 := x1
            clear x0 x1
            go_wp2_with fail
            refine awake_any.mono ?_
            rintro e wz ⟨rfl, hbz⟩
            go_wp2_with fail
            go_ret
            exact ⟨rfl, hb6.trans (hbz.mono hb6.size)⟩
        · clear hgn HGR
          have hn1 : ((m : Int) != (m : Int)) = false := by simp
          have hn2 : ((m : Int) == (m : Int)) = true := by simp
          have HI := Lib.hid hi
          have HCY := Lib.hid hcy
          clear hi hcy
          go_wp2_with fail
          refine (HRM.out _ hb5).mono ?_
          rintro e w6 ⟨rfl, hb6⟩
          obtain ⟨x0, x1⟩ := keep2 hb6 d0 d1
          have hk6 := hk5.trans (hb6.mono hk5.size)
          replace hb6 := hb5.trans (hb6.mono hb5.size)
          clear d0 d1
          have d0 := x0
          have d1 := x1
          clear x0 x1
          have hi6 := HI.out.below hk6
          go_wp2_with fail
          refine (HM2.out _ hb6 _ _ _ _ hi6).mono ?_
          rintro e w7 ⟨rfl, hb7⟩
          rw [HCY.out]
          obtain ⟨x0, x1⟩ := keep2 hb7 d0 d1
          have hi7 := hi6.below hb7
          replace hb7 := hb6.trans (hb7.mono hb6.size)
          clear d0 d1
          have d0 := x0
          have d1 := x1
          clear x0 x1
          go_wp2_with fail
          refine (HRM2.out _ hb7 _ _ _ _ hi7).mono ?_
          rintro e w8 ⟨rfl, hb8⟩
          rw [HCY.out]
          replace hb8 := hb7.trans (hb8.mono hb7.size)
          go_wp2_with fail
          refine awake_any.mono ?_
          rintro e wz ⟨rfl, hbz⟩
          go_wp2_with fail
          go_ret
          exact ⟨rfl, hb8.trans (hbz.mono hb8.size)⟩

/-- GraphCycles returns true, whatever the graph and the list. -/
theorem GraphCycles_true {w : World} {v : Value} {names : List ByteArray} {E : List (List Int)} (h : GrV w v names E) {A3 : Option Addr} {n3 c3 : Nat} {l : List Int} (hl : Il w A3 n3 c3 l) : Calls Tryd.prog 11 #[v, .slice A3 n3 c3] w (TrueR w) := by
  by_cases hc : chk names E = 0
  · obtain ⟨E', rfl, hk⟩ := ok_of_chk hc
    exact lawY_ok h hl hc hk
  · exact lawY_bad h hl hc
end Go.Proofs.YtpkjdnplmgfbbaaDoor
