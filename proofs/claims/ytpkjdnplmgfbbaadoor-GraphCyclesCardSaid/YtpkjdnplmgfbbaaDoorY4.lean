/- graph.way, graph.meeting. graph.search with a function that keeps a list in memory of its own. graph.cycleThrough: what its function does when it is told a vertex. -/
import Derived.Test.YtpkjdnplmgfbbaaDoorY1
import Derived.Test.YtpkjdnplmgfbbaaDoorZs
import Derived.Test.YtpkjdnplmgfbbaaDoorZv
import Derived.Test.YtpkjdnplmgfbbaaDoorRtn
import Derived.Deep.DeepCutAuto
import Derived.Deep.CutBlock
import Derived.Deep.QuietTactic
import Derived.BigQuiet
namespace Go.Proofs.YtpkjdnplmgfbbaaDoor
open Go.RowKit

/-- The way up, k steps. -/
def anL (par : Nat → Nat) (v k : Nat) : List Nat := (List.range (k + 1)).map (an par v)
theorem anL_length (par : Nat → Nat) (v k : Nat) : (anL par v k).length = k + 1 := by simp [anL]
theorem anL_zero (par : Nat → Nat) (v : Nat) : anL par v 0 = [v] := rfl
theorem anL_succ (par : Nat → Nat) (v k : Nat) : anL par v (k + 1) = anL par v k ++ [an par v (k + 1)] := by simp [anL, List.range_succ]
theorem anL_get (par : Nat → Nat) (v : Nat) {k i : Nat} (h : i ≤ k) : (anL par v k)[i]? = some (an par v i) := by
  unfold anL
  rw [List.getElem?_map, List.getElem?_range (by omega)]; rfl
theorem own_lit (X : World) (v : Nat) : OwnN (X.alloc (.cells #[.int .i64 (v : Nat)] 3)) X.heap.size (.slice (some ⟨X.heap.size, 0, none⟩) 1 1) [v] :=
  ⟨rfl, .inr ⟨_, 1, #[.int .i64 (v : Nat)], rfl, Nat.le_refl _, heap_alloc_new X _, Nat.le_refl _, by unfold maxLen; omega, rfl, rfl⟩⟩
def WayR (w : World) (par : Nat → Nat) (v f : Nat) (e : Ending) (w' : World) : Prop := ∃ A c, e = .returned (.slice A (f + 1) c) ∧ OwnN w' w.heap.size (.slice A (f + 1) c) (anL par v f) ∧ Below w.heap.size w w'

set_option maxHeartbeats 2000000 in
set_option maxRecDepth 100000 in
theorem way_any {w : World} {G n : Nat} {l : List Int} (hG : NArr w G l) (hl : l.length = n) {par : Nat → Nat} {v f : Nat} (hf : f ≤ 2500)
    (h1 : ∀ i, i ≤ f → an par v i < n ∧ l.getD (an par v i) 0 = (an par v (i + 1) : Nat)) (h2 : ∀ i, i < f → an par v (i + 1) ≠ an par v i) (h3 : an par v (f + 1) = an par v f) :
    Calls Tryd.prog 151 #[.slice (some ⟨G, 0, none⟩) n n, .int .i64 (v : Nat)] w (WayR w par v f) := by
  have hGl := hG.lt
  have HG := Lib.hid (fun i (hi : i ≤ f) w' (hb : Below w.heap.size w w') => show an par v i < n ∧ w'.cell? ⟨G, an par v i, none⟩ = some (.int .i64 (an par v (i + 1) : Nat)) from ⟨(h1 i hi).1, by
    have hx : an par v i < l.length := by rw [hl]; exact (h1 i hi).1
    rw [(hG.below hb).cell hx, (h1 i hi).2]⟩)
  have H2 := Lib.hid h2
  have H3 := Lib.hid h3
  clear hG hl h1 h2 h3
  obtain ⟨w1, hw1⟩ : ∃ w1, w1 = w.alloc (.cells #[.int .i64 (v : Nat)] 3) := ⟨_, rfl⟩
  have hb1 : Below w.heap.size w w1 := by rw [hw1]; exact below_allocR (Below.refl _ _) _
  have own1 : OwnN w1 w.heap.size (.slice (some ⟨w.heap.size, 0, none⟩) 1 1) (anL par v 0) := by
    rw [hw1, anL_zero]; exact own_lit w v
  have HW := Lib.hid hw1
  clear hw1
  go_enter Tryd.func151, Tryd.ntmps151
  go_wp2_with fail
  rw [← HW.out]
  go_loopg [1, 5] f (fun g v' o wr => ∃ k A c, k + g = f ∧ v' = .int .i64 (an par v k : Nat) ∧ o = .slice A (k + 1) c ∧ OwnN wr w.heap.size (.slice A (k + 1) c) (anL par v k) ∧ Below w.heap.size w wr)
  case atStart => exact ⟨0, _, _, by omega, rfl, rfl, own1, hb1⟩
  case round =>
    clear own1 hb1 HW w1
    obtain ⟨k, A, c, hk, rfl, rfl, hown, hbr⟩ := hrel
    obtain ⟨hxn, hcx⟩ := HG.out k (by omega) wr hbr
    have HE := Lib.hid (H2.out k)
    have HE3 := Lib.hid H3.out
    have HS := Lib.hid (anL_succ par v k)
    have HLN := Lib.hid (anL_length par v k)
    obtain ⟨x, hx⟩ : ∃ x, x = an par v k := ⟨_, rfl⟩
    obtain ⟨y, hy⟩ : ∃ y, y = an par v (k + 1) := ⟨_, rfl⟩
    rw [← hx] at hxn hcx HE ⊢
    rw [← hy] at hcx HE HS
    have HY := Lib.hid hy
    have HX := Lib.hid hx
    clear hx hy
    have hxi : (x : Int) < (n : Int) := by omega
    have hx0 : (0 : Int) ≤ (x : Int) := by omega
    by_cases hlt : k < f
    · have hne := HE.out hlt
      have hz : ((y : Int) != (x : Int)) = true := by rw [bne_iff_ne]; omega
      clear hne
      have hbs := hbr.size
      go_wp2_with (at_builtin; (refine wpList_pushN wr (by rfl) _ _ (by rfl) w.heap.size _ (anL par v k) (by rfl) hown y _ (by rfl) (by rfl) (by rw [HLN.out]; omega) hbs ?_); intro A5 c5 w6 hown6 hg6 hob6)
      go_roundg (gk - 1)
      case rel => exact ⟨k + 1, A5, c5, by omega, by rw [HY.out], by rw [HLN.out], by rw [HS.out, ← HLN.out]; exact hown6, hbr.grown hg6 hbs (fun q hq => (hown.lt q hq).1)⟩
      case measure => omega
    · obtain rfl : k = f := by omega
      have hz : ((y : Int) != (x : Int)) = false := by rw [HY.out, HX.out, H3.out]; simp
      go_wp2_with fail
      go_ret
      exact ⟨A, c, rfl, hown, hbr⟩

theorem own_cut {w : World} {base n c : Nat} {A : Option Addr} {l : List Nat} {x : Nat} (h : OwnN w base (.slice A (n + 1) c) (l ++ [x])) (hl : l.length = n) : OwnN w base (.slice A n c) l := by
  obtain ⟨_, h2⟩ := h
  rcases h2 with ⟨h2, _⟩ | ⟨g, cap, cur, h3, h4, h5, h6, h7, h8, h9⟩
  · cases h2
  · injection h3 with e1 e2 e3
    subst e1 e3
    rw [List.length_append] at h6
    simp only [List.length_cons, List.length_nil] at h6
    refine ⟨by rw [nc_length, Nat.mul_one], .inr ⟨g, c, cur, by rw [hl], h4, h5, by omega, h7, h8, ?_⟩⟩
    have e := congrArg (List.take (l.length * 1)) h9
    rw [List.take_take, nc_snoc, List.take_append_of_le_length (by rw [nc_length]; omega), List.take_of_length_le (l := nc l) (by rw [nc_length]; omega)] at e
    rw [← e]
    congr 1
    rw [List.length_append]
    simp
theorem own_at {w : World} {base n c : Nat} {A : Option Addr} {l : List Nat} (h : OwnN w base (.slice A n c) l) (hl : l.length = n) (hn : 0 < n) : ∃ g, A = some ⟨g, 0, none⟩ ∧ base ≤ g ∧ n ≤ c ∧ c ≤ maxLen ∧ (∀ i, w.frozen? ⟨g, i, none⟩ = false) ∧ ∀ j x, l[j]? = some x → w.cell? ⟨g, j, none⟩ = some (.int .i64 (x : Nat)) := by
  subst hl
  obtain ⟨g, cap, e, h1, h2, h3, h4, h5⟩ := own_cells h hn
  injection e with e1 e2 e3
  subst e1 e3
  refine ⟨g, rfl, h1, h2, h3, h4, fun j x hx => h5 j _ ?_⟩
  unfold nc
  rw [List.getElem?_map, hx]; rfl

theorem own_g {w : World} {base n c : Nat} {A : Option Addr} {l : List Nat} (h : OwnN w base (.slice A n c) l) (hl : l.length = n) (hn : 0 < n) : ∃ g, A = some ⟨g, 0, none⟩ ∧ base ≤ g := by
  obtain ⟨g, h1, h2, _⟩ := own_at h hl hn
  exact ⟨g, h1, h2⟩

theorem ownBlock_pos {g n c : Nat} (hn : 0 < n) : (Value.slice (some ⟨g, 0, none⟩) n c).ownBlock = some g := by
  cases n with
  | zero => omega
  | succ n => rfl
theorem Rev_any {w : World} {base g n c : Nat} {l : List Nat} (h : OwnN w base (.slice (some ⟨g, 0, none⟩) n c) l) (hl : l.length = n) (hn : 0 < n) (hs : n ≤ 1000000) :
    Calls Tryd.prog 152 #[.slice (some ⟨g, 0, none⟩) n c] w fun e w' => e = .returned (.tuple #[]) ∧ Fr (· = g) w w' ∧ ∀ j x, l.reverse[j]? = some x → w'.cell? ⟨g, j, none⟩ = some (.int .i64 (x : Nat)) := by
  obtain ⟨g', e, _, _, _, hfz, hcl⟩ := own_at h hl hn
  cases e
  have hH : Sort.Holds (Value.int .i64) w g 0 ((l.map fun x : Nat => (x : Int)).toArray) := fun j hj => by
    have hj' : j < l.length := by simpa using hj
    rw [Nat.zero_add]
    refine ⟨?_, hfz j⟩
    rw [hcl j _ (List.getElem?_eq_getElem hj')]
    simp [hj']
  have hsz : ((l.map fun x : Nat => (x : Int)).length : Nat) = n := by rw [List.length_map, hl]
  have key := Tryd.slices_Reverse_int g 0 c (l.map fun x : Nat => (x : Int)) w hH (by rw [hsz]; omega)
  rw [hsz] at key
  refine key.mono ?_
  rintro e w' ⟨rfl, m, rfl⟩
  refine ⟨rfl, ⟨rfl, rfl, rfl, ?_, fun b hb hne => ?_⟩, fun j x hx => ?_⟩
  · rw [Sort.size_putRow]; exact Nat.le_refl _
  · show ((w.heap.modify g _)[b]?) = _
    rw [Array.getElem?_modify, if_neg (fun e => hne e.symm)]
  · have hj : j < l.length := by have := lt_of_some hx; rwa [List.length_reverse] at this
    have := Sort.cell?_putRow (Value.int .i64) (Sort.ahead w m) g 0 _ (l.map fun x : Nat => (x : Int)).reverse.toArray hH (by simp) j (by simpa using hj)
    rw [Nat.zero_add] at this
    rw [this]
    have e : (l.map fun x : Nat => (x : Int)).reverse[j]? = some (x : Int) := by rw [← List.map_reverse, List.getElem?_map, hx]; rfl
    rw [getElem!_pos _ j (by simpa using hj)]
    have e2 := List.getElem?_eq_some_iff.1 e
    obtain ⟨h1, h2⟩ := e2
    simp only [List.getElem_toArray]
    rw [h2]

/-- What meeting returns: nil, or the cycle. -/
def Mc (par : Nat → Nat) (v x f1 f2 p q : Nat) : Prop := p ≤ f1 ∧ q ≤ f2 ∧ f1 + q = f2 + p ∧ an par v p = an par x q ∧ (p = 0 ∨ q = 0 ∨ an par v (p - 1) ≠ an par x (q - 1))
def MtR (w : World) (par : Nat → Nat) (v x p q : Nat) (e : Ending) (w' : World) : Prop :=
  Below w.heap.size w w' ∧ ((p + q + 1 < 3 ∧ e = .returned (.slice none 0 0)) ∨ (3 ≤ p + q + 1 ∧ ∃ A c, e = .returned (.slice A (p + q + 1) c) ∧ OwnN w' w.heap.size (.slice A (p + q + 1) c) (cyc par p q v x)))
def MtE (w : World) (par : Nat → Nat) (v x f1 f2 : Nat) (e : Ending) (w' : World) : Prop := ∃ p q, Mc par v x f1 f2 p q ∧ MtR w par v x p q e w'
/-- What is asked of the way up from a vertex. -/
def Upw (par : Nat → Nat) (l : List Int) (n v f : Nat) : Prop := (∀ i, i ≤ f → an par v i < n ∧ l.getD (an par v i) 0 = (an par v (i + 1) : Nat)) ∧ (∀ i, i < f → an par v (i + 1) ≠ an par v i) ∧ an par v (f + 1) = an par v f

set_option maxHeartbeats 4000000 in
set_option maxRecDepth 100000 in
theorem meeting_any {w : World} {G n : Nat} {l : List Int} (hG : NArr w G l) (hl : l.length = n) {par : Nat → Nat} {v x f1 f2 : Nat} (hf1 : f1 ≤ 2500) (hf2 : f2 ≤ 2500)
    (h1 : Upw par l n v f1) (h2 : Upw par l n x f2) (hr : an par v f1 = an par x f2) :
    Calls Tryd.prog 140 #[.slice (some ⟨G, 0, none⟩) n n, .int .i64 (v : Nat), .int .i64 (x : Nat)] w (MtE w par v x f1 f2) := by
  have HW1 := Lib.hid (way_any hG hl hf1 h1.1 h1.2.1 h1.2.2)
  have HW2 := Lib.hid (fun w' (hb : Below w.heap.size w w') => way_any (hG.below hb) hl hf2 h2.1 h2.2.1 h2.2.2)
  have HR := Lib.hid hr
  clear hG hl h1 h2 hr
  go_enter Tryd.func140, Tryd.ntmps140
  go_wp2_with fail
  refine (HW1.out).mono ?_
  rintro e w1 ⟨A1, c1, rfl, own1, hb1⟩
  go_wp2_with fail
  refine (HW2.out w1 hb1).mono ?_
  rintro e w2 ⟨A2, c2, rfl, own2, hb2⟩
  obtain ⟨g1, rfl, hg1⟩ := own_g own1 (anL_length _ _ _) (by omega)
  obtain ⟨g2, rfl, hg2⟩ := own_g own2 (anL_length _ _ _) (by omega)
  have hb12 := hb1.trans (hb2.mono hb1.size)
  have own1' := own1.below hb2
  have own2' : OwnN w2 w.heap.size (.slice (some ⟨g2, 0, none⟩) (f2 + 1) c2) (anL par x f2) := own_base own2 hb1.size
  have hne : g1 ≠ g2 := by have := (own1.lt g1 rfl).2; omega
  clear own1 own2 HW1 HW2 hb1 hb2 hg2
  go_wp2_with fail
  go_loopg [7, 8] f1 (fun g a b wr => ∃ p q ca cb, p = g ∧ p ≤ f1 ∧ q ≤ f2 ∧ f1 + q = f2 + p ∧ Hid (an par v p = an par x q) ∧ a = .slice (some ⟨g1, 0, none⟩) (p + 1) ca ∧ b = .slice (some ⟨g2, 0, none⟩) (q + 1) cb ∧
    OwnN wr w.heap.size (.slice (some ⟨g1, 0, none⟩) (p + 1) ca) (anL par v p) ∧ OwnN wr w.heap.size (.slice (some ⟨g2, 0, none⟩) (q + 1) cb) (anL par x q) ∧ Below w.heap.size w wr)
  case atStart => exact ⟨f1, f2, c1, c2, rfl, Nat.le_refl _, Nat.le_refl _, by omega, HR, rfl, rfl, own1', own2', hb12⟩
  case round =>
    clear own1' own2' hb12 HR w1 w2
    obtain ⟨p, q, ca, cb, rfl, hp, hq, hpq, HM, rfl, rfl, ho1, ho2, hbr⟩ := hrel
    obtain ⟨g1', e1, hx1, hc1, hm1, hx2, cl1⟩ := own_at ho1 (anL_length _ _ _) (by omega)
    obtain ⟨g2', e2, hx3, hc2, hm2, hx4, cl2⟩ := own_at ho2 (anL_length _ _ _) (by omega)
    cases e1
    cases e2
    clear hx1 hx2 hx3 hx4
    unfold maxLen at hm1 hm2
    obtain ⟨m1, hM1⟩ : ∃ m, m = p + 1 := ⟨_, rfl⟩
    obtain ⟨m2, hM2⟩ : ∃ m, m = q + 1 := ⟨_, rfl⟩
    rw [← hM1] at ho1 hc1 ⊢
    rw [← hM2] at ho2 hc2 ⊢
    have hb1 : (m1 : Int) ≤ 2501 ∧ (m2 : Int) ≤ 2501 := by omega
    by_cases hA : 0 < p ∧ 0 < q ∧ an par v (p - 1) = an par x (q - 1)
    · obtain ⟨hA1, hA2, hA3⟩ := hA
      obtain ⟨p', hp'⟩ : ∃ p', p = p' + 1 := ⟨p - 1, by omega⟩
      obtain ⟨q', hq'⟩ : ∃ q', q = q' + 1 := ⟨q - 1, by omega⟩
      have cp := cl1 p' _ (anL_get _ _ (by omega))
      have cq := cl2 q' _ (anL_get _ _ (by omega))
      have hE : an par v p' = an par x q' := by have e1 : p' = p - 1 := by omega
                                                have e2 : q' = q - 1 := by omega
                                                rw [e1, e2]; exact hA3
      have hz1 : decide ((1 : Int) < (m1 : Int)) = true := decide_eq_true (by omega)
      have hz2 : decide ((1 : Int) < (m2 : Int)) = true := decide_eq_true (by omega)
      have e1 : IntKind.i64.wrap ((m1 : Int) - 2) = (p' : Int) := by rw [IntWalk.i64_in _ (by omega)]; omega
      have e2 : IntKind.i64.wrap ((m2 : Int) - 2) = (q' : Int) := by rw [IntWalk.i64_in _ (by omega)]; omega
      have e3 : IntKind.i64.wrap ((m1 : Int) - 1) = (p : Int) := by rw [IntWalk.i64_in _ (by omega)]; omega
      have e4 : IntKind.i64.wrap ((m2 : Int) - 1) = (q : Int) := by rw [IntWalk.i64_in _ (by omega)]; omega
      have hp0 : (0 : Int) ≤ (p' : Int) ∧ (p' : Int) < (m1 : Int) := by omega
      have hq0 : (0 : Int) ≤ (q' : Int) ∧ (q' : Int) < (m2 : Int) := by omega
      have hk3 : (0 : Int) ≤ (p : Int) ∧ (p : Int) ≤ (m1 : Int) ∧ (p : Int) ≤ (ca : Int) := by omega
      have hk4 : (0 : Int) ≤ (q : Int) ∧ (q : Int) ≤ (m2 : Int) ∧ (q : Int) ≤ (cb : Int) := by omega
      have hE3 : ((an par v p' : Int) == (an par x q' : Int)) = true := by rw [hE]; simp
      have HM1 := Lib.hid hM1
      have HM2 := Lib.hid hM2
      have HE := Lib.hid hE
      have HP := Lib.hid hp'
      have HQ := Lib.hid hq'
      clear hM1 hM2 hA1 hA2 hA3 hE hp' hq' cl1 cl2
      obtain ⟨ya, hya⟩ : ∃ y, y = an par v p' := ⟨_, rfl⟩
      obtain ⟨yb, hyb⟩ : ∃ y, y = an par x q' := ⟨_, rfl⟩
      rw [← hya] at cp hE3
      rw [← hyb] at cq hE3
      clear hya hyb
      go_wp2_with fail
      go_quiet (fail)
      go_wp2_with fail
      go_quiet (fail)
      go_wp2_with fail
      go_roundg p'
      case rel =>
        obtain rfl := HP.out
        obtain rfl := HQ.out
        obtain rfl := HM1.out
        obtain rfl := HM2.out
        rw [anL_succ] at ho1 ho2
        exact ⟨p', q', ca, cb, rfl, by omega, by omega, by omega, HE, rfl, rfl, own_cut ho1 (anL_length _ _ _), own_cut ho2 (anL_length _ _ _), below_drewN' (below_drewN' hbr _) _⟩
      case measure => have := HP.out; omega
    · have HN := Lib.hid (show Mc par v x f1 f2 p q from ⟨hp, hq, hpq, HM.out, by
        by_cases h1 : p = 0
        · exact .inl h1
        · by_cases h2 : q = 0
          · exact .inr (.inl h2)
          · exact .inr (.inr fun h => hA ⟨by omega, by omega, h⟩)⟩)
      have key : decide ((1 : Int) < (m1 : Int)) = false ∨ (decide ((1 : Int) < (m1 : Int)) = true ∧ decide ((1 : Int) < (m2 : Int)) = false) ∨ (decide ((1 : Int) < (m1 : Int)) = true ∧ decide ((1 : Int) < (m2 : Int)) = true ∧
          ∃ p' q' ya yb : Nat, IntKind.i64.wrap ((m1 : Int) - 2) = (p' : Int) ∧ IntKind.i64.wrap ((m2 : Int) - 2) = (q' : Int) ∧ ((0 : Int) ≤ (p' : Int) ∧ (p' : Int) < (m1 : Int)) ∧ ((0 : Int) ≤ (q' : Int) ∧ (q' : Int) < (m2 : Int)) ∧
            wr.cell? ⟨g1, p', none⟩ = some (.int .i64 (ya : Nat)) ∧ wr.cell? ⟨g2, q', none⟩ = some (.int .i64 (yb : Nat)) ∧ ((ya : Int) == (yb : Int)) = false) := by
        by_cases h1 : p = 0
        · exact .inl (decide_eq_false (by omega))
        · by_cases h2 : q = 0
          · exact .inr (.inl ⟨decide_eq_true (by omega), decide_eq_false (by omega)⟩)
          · refine .inr (.inr ⟨decide_eq_true (by omega), decide_eq_true (by omega), p - 1, q - 1, _, _, by rw [IntWalk.i64_in _ (by omega)]; omega, by rw [IntWalk.i64_in _ (by omega)]; omega, by omega, by omega, cl1 (p - 1) _ (anL_get _ _ (by omega)), cl2 (q - 1) _ (anL_get _ _ (by omega)), beq_eq_false_iff_ne.2 fun e => hA ⟨by omega, by omega, by omega⟩⟩)
      have HM1 := Lib.hid hM1
      have HM2 := Lib.hid hM2
      have hm3 : (1 : Int) ≤ (m1 : Int) ∧ (1 : Int) ≤ (m2 : Int) ∧ (m2 : Int) ≤ (cb : Int) := by omega
      clear hM1 hM2 hA cl1 cl2 HM
      have hne2 := hne
      rcases key with hz1 | ⟨hz1, hz2⟩ | ⟨hz1, hz2, p', q', ya, yb, e1, e2, hp0, hq0, cp, cq, hz3⟩
      all_goals
        go_wp2_with fail
        go_quiet (fail)
        go_wp2_with fail
        · go_ret
          exact ⟨p, q, HN.out, below_drewN' hbr _, .inl ⟨by have := HM1.out; have := HM2.out; omega, rfl⟩⟩
        · have h3 : 3 ≤ p + q + 1 := by have := HM1.out; have := HM2.out; omega
          have hb2 := below_drewN' hbr nq
          have ho3 : OwnN (wr.drewN nq) w.heap.size (.slice (some ⟨g1, 0, none⟩) m1 ca) (anL par v p) := ho1
          have ho4 : OwnN (wr.drewN nq) w.heap.size (.slice (some ⟨g2, 0, none⟩) m2 cb) (anL par x q) := ho2
          refine (Rev_any ho4 (by rw [anL_length, HM2.out]) (by omega) (by omega)).mono ?_
          rintro e w3 ⟨rfl, hfr, hcl⟩
          have hg2l := ho4.lt g2 (ownBlock_pos (by omega))
          have hb3 : Below w.heap.size w w3 := hb2.trans (hfr.below hb2.size (fun b hb => by rw [hb]; exact hg2l.1))
          have ho5 : OwnN w3 w.heap.size (.slice (some ⟨g1, 0, none⟩) m1 ca) (anL par v p) := ho3.keep (fun g hg => hfr.block g (ho3.lt g hg).2 (fun e => by
            rw [ownBlock_pos (by omega)] at hg
            injection hg with hg
            exact hne2 (hg.trans e)))
          have hsrc : ∀ A : Option Addr, (0 < q → A = some ⟨g2, 1, none⟩) → Src w3 1 A q (nc ((List.range q).map (an par x)).reverse) := fun A hA => ⟨by rw [nc_length, List.length_reverse, List.length_map, List.length_range, Nat.mul_one], fun h0 => ⟨_, hA h0, fun j u hu => by
            unfold nc at hu
            rw [List.getElem?_map] at hu
            cases hj : ((List.range q).map (an par x)).reverse[j]? with
            | none => rw [hj] at hu; cases hu
            | some y =>
              rw [hj] at hu
              injection hu with hu
              subst hu
              have e : (anL par x q).reverse[1 + j]? = some y := by
                unfold anL
                rw [List.range_succ, List.map_append, List.reverse_append]
                rw [List.getElem?_append_right (by simp)]
                simpa using hj
              have := hcl (1 + j) y e
              rw [Addr.add_lit]
              exact this⟩⟩
          have HSRC := Lib.hid hsrc
          clear hsrc hcl hfr hb2 ho3 ho4 hg2l
          have HLC := Lib.hid (show (anL par v p ++ ((List.range q).map (an par x)).reverse) = cyc par p q v x from rfl)
          have HAL := Lib.hid (show (anL par v p).length = m1 by rw [anL_length, HM1.out])
          have HQL := Lib.hid (show (((List.range q).map (an par x)).reverse).length = q by simp)
          obtain rfl := HM2.out
          by_cases hcb : cb = 1
          · subst hcb
            obtain rfl : q = 0 := by omega
            go_wp2_with (at_builtin; refine wpList_appN (w0 := w3) (by rfl) _ _ (by rfl) w.heap.size _ (anL par v p) _ m1 0 HAL.out HQL.out (by rfl) ho5 _ _ (by rfl) (HSRC.out _ (fun h => absurd h (by omega))) (by omega) hb3.size (p + 0 + 1) (by have := HM1.out; omega) ?_; intro A5 c5 w5 own5 hg5 hb5)
            go_ret
            refine ⟨p, 0, HN.out, hb3.trans hb5, .inr ⟨h3, A5, c5, rfl, ?_⟩⟩
            rw [← HLC.out]; exact own5
          · go_wp2_with (at_builtin; refine wpList_appN (w0 := w3) (by rfl) _ _ (by rfl) w.heap.size _ (anL par v p) _ m1 q HAL.out HQL.out (by rfl) ho5 _ _ (by rfl) (HSRC.out _ (fun _ => rfl)) (by omega) hb3.size (p + q + 1) (by have := HM1.out; omega) ?_; intro A5 c5 w5 own5 hg5 hb5)
            go_ret
            refine ⟨p, q, HN.out, hb3.trans hb5, .inr ⟨h3, A5, c5, rfl, ?_⟩⟩
            rw [← HLC.out]; exact own5
end Go.Proofs.YtpkjdnplmgfbbaaDoor

namespace Go.Proofs.YtpkjdnplmgfbbaaDoor
open Go.RowKit

/-- What a search leaves: it went through all, or it was told to stop. -/
def SrchR3 (E : List (List Nat)) (a : Nat) (O : Nat → Prop) (V : List (Nat × Nat) → Option Nat → World → Prop) (Stop : World → Prop) (w : World) (e : Ending) (w' : World) : Prop :=
  e = .returned (.tuple #[]) ∧ Fr O w w' ∧ ((∃ k, (bs E a k).q.length = k ∧ (∀ i, i < k → ∃ p, (bs E a i).q[i]? = some p) ∧ ∃ tb, V (bs E a k).q tb w') ∨ Stop w')
/-- What is asked of the function that is told the vertices; tb is the block of its own. -/
def Visits3 (E : List (List Nat)) (a : Nat) (O : Nat → Prop) (V : List (Nat × Nat) → Option Nat → World → Prop) (Stop : World → Prop) (w : World) (f : FuncId) (lb : Array Value) : Prop :=
  ∀ k p tb W, (∀ i, i < k → ∃ p, (bs E a i).q[i]? = some p) → (bs E a k).q[k]? = some p → V ((bs E a k).q.take k) tb W → Fr O w W →
    Calls Tryd.prog f (#[.int .i64 (p.2 : Nat), .int .i64 (p.1 : Nat)] ++ lb) W fun e W' =>
      ((e = .returned (.bool true) ∧ ∃ tb', V ((bs E a k).q.take k ++ [p]) tb' W' ∧ (tb' = tb ∨ ∃ b, tb' = some b ∧ W.heap.size ≤ b) ∧ ∀ b, tb' = some b → b < W'.heap.size) ∨ (e = .returned (.bool false) ∧ Stop W')) ∧ Fr O W W'
def VT (V : List (Nat × Nat) → Option Nat → World → Prop) (done : List (Nat × Nat)) (S : Nat) (q : Value) (W : World) : Prop := ∃ tb, V done tb W ∧ ∀ b, tb = some b → b ≠ S ∧ qb q ≠ some b ∧ b < W.heap.size
theorem VT.fr {w W W' : World} {V : List (Nat × Nat) → Option Nat → World → Prop} {done : List (Nat × Nat)} {S : Nat} {q q' : Value} {O3 : Nat → Prop} (h : VT V done S q W)
    (hVs : ∀ done tb W W', V done tb W → Fr (fun b => w.heap.size ≤ b ∧ tb ≠ some b) W W' → V done tb W') (hf : Fr O3 W W') (ho : ∀ b, O3 b → w.heap.size ≤ b ∧ (b = S ∨ qb q = some b))
    (hq : qb q' = qb q ∨ qb q' = none ∨ ∃ b, qb q' = some b ∧ W.heap.size ≤ b) : VT V done S q' W' := by
  obtain ⟨tb, hv, ht⟩ := h
  refine ⟨tb, hVs _ _ _ _ hv (hf.mono fun b _ hb => ⟨(ho b hb).1, fun e => ?_⟩), fun b hb => ⟨(ht b hb).1, fun e => ?_, Nat.lt_of_lt_of_le (ht b hb).2.2 hf.size⟩⟩
  · rcases (ho b hb).2 with h1 | h1
    · exact (ht b e).1 h1
    · exact (ht b e).2.1 h1
  · rcases hq with h1 | h1 | ⟨b', h1, h2⟩
    · rw [h1] at e; exact (ht b hb).2.1 e
    · rw [h1] at e; cases e
    · rw [h1] at e; cases e; have := (ht _ hb).2.2; omega
theorem qb_pop (W : World) (g off off' n c c' : Nat) : qb (.slice (some ⟨g, off', none⟩) n c') = qb (.slice (some ⟨g, off, none⟩) (n + 1) c) ∨ qb (.slice (some ⟨g, off', none⟩) n c') = none ∨ ∃ b, qb (.slice (some ⟨g, off', none⟩) n c') = some b ∧ W.heap.size ≤ b := by
  cases n with
  | zero => exact .inr (.inl rfl)
  | succ n => exact .inl rfl

set_option maxHeartbeats 2000000 in
set_option maxRecDepth 100000 in
theorem search3_any {E : List (List Nat)} (hE : Valid E) (hEn : E.length ≤ 2500) {a : Nat} (ha : a < E.length) {O : Nat → Prop} {V : List (Nat × Nat) → Option Nat → World → Prop} {Stop : World → Prop} {w0 w : World} {f : FuncId} {lb : Array Value}
    (hV : Visits3 E a O V Stop w f lb) (hOb : ∀ b, O b → w0.heap.size ≤ b ∧ b < w.heap.size) (hVs : ∀ done tb W W', V done tb W → Fr (fun b => w.heap.size ≤ b ∧ tb ≠ some b) W W' → V done tb W')
    {A : Option Addr} {c : Nat} (hG : Gl w0 A E.length c (toI E)) (hb0 : Below w0.heap.size w0 w) (h0 : V [] none w)
    (eg : ∀ args w, (callFunc f args).run Tryd.prog w = .ok (.enter f args) w) :
    Calls Tryd.prog 79 #[.slice A E.length c, .int .i64 (a : Nat), .func (.func f) #[] lb] w (SrchR3 E a O V Stop w) := by
  have hr := hG.room
  unfold maxLen at hr
  have hal : (a : Int) < (E.length : Int) := by omega
  have EG := Lib.hid eg
  clear eg
  have hVV := Lib.hid hV
  clear hV
  obtain ⟨b0, o0, rfl, hcell⟩ := hG.cell (by omega)
  have HC := Lib.hid hcell
  clear hcell hG
  go_enter Tryd.func79, Tryd.ntmps79
  go_wp2_with (refine wpList_make_arr _ rfl _ _ 141 rfl 4 (.bool false) 1 1 Tryd.underlying141 (by kernel_rfl) _ _ _ _ E.length rfl rfl rfl rfl (by omega) (by omega) ?_; intro w1 har hb1 hs1; have hba := BArr.made har; have cA := hba.cell (i := a) (by simpa using ha); have fA := hba.frozen a; have HBA := Lib.hid hba; have HS1 := Lib.hid hs1; clear hba har hs1)
  obtain ⟨W, S, Q, hW, hS, hQ, hBA, hQ0, hbW, hwS, hSW⟩ := srch_start HBA.out hb1 HS1.out
  rw [← hW, ← hS, ← hQ]
  clear hW hS hQ HBA HS1 hb1 cA fA w1
  have hwO : ∀ b, S ≤ b → ¬ O b := fun b hb ho => by have := hOb b ho; omega
  have hFB : ∀ W, Fr O w W → Below w0.heap.size w0 W := fun W h => hb0.trans (h.below hb0.size fun b hb => (hOb b hb).1)
  have HFB := Lib.hid hFB
  have HWO := Lib.hid hwO
  have HVS := Lib.hid (fun done W W' (q q' : Value) (S : Nat) (O3 : Nat → Prop) (h : VT V done S q W) (hf : Fr O3 W W') ho hq => h.fr (q' := q') hVs hf ho hq)
  have HE := Lib.hid hE
  have hV0 : VT V [] S (.slice (some ⟨Q, 0, none⟩) 1 1) W := ⟨none, hVs _ _ _ _ h0 ((Fr.of_below hbW).mono fun b _ hb => ⟨hb, fun e => by cases e⟩), fun b hb => by cases hb⟩
  have hw0 := hb0.size
  clear hwO hOb hVs hE h0 hFB hb0
  go_loopg [7] E.length (fun g q wr => ∃ k, k + g = E.length ∧ (∀ i, i < k → ∃ p, (bs E a i).q[i]? = some p) ∧ k ≤ (bs E a k).q.length ∧ Que wr (S + 1) q ((bs E a k).q.drop k) ∧ BArr wr S (bs E a k).seen ∧ VT V ((bs E a k).q.take k) S q wr ∧ Fr O w wr ∧ S < wr.heap.size)
  case atStart => exact ⟨0, by omega, fun i hi => by omega, Nat.zero_le _, hQ0, hBA, hV0, Fr.of_below' hbW, hSW⟩
  case round =>
    obtain ⟨k, hkg, hpr, hkl, hq, hba, hv, hfr, hSr⟩ := hrel
    have HPR := Lib.hid hpr
    clear hpr
    obtain ⟨dep, hsr⟩ := bs_inv HE.out ha k HPR.out
    have hql := hsr.qlen
    rcases Nat.lt_or_ge k (bs E a k).q.length with hlt | hge
    · obtain ⟨p, hp⟩ : ∃ p, (bs E a k).q[k]? = some p := ⟨_, List.getElem?_eq_getElem hlt⟩
      obtain ⟨r, hr1, _⟩ := drop_head hp
      have hq' := hq.cast hr1
      obtain ⟨g, off, cq, rfl, hq1, hq2, hq3, hq4, hq5, hq6, hq7⟩ := hq'.head
      have hq2' := hq2
      unfold maxLen at hq2'
      have hz : (0 : Int) < ((r.length + 1 : Nat) : Int) := by omega
      have HP := Lib.hid hp
      have HR1 := Lib.hid hr1
      have HSR := Lib.hid hsr
      clear hp hr1 hsr
      go_wp2_with fail
      go_still_tail 9, (by kernel_rfl)
      have hfr2 : Fr O w wr.drew := hfr.drew
      have hv2 : VT V ((bs E a k).q.take k) S _ wr.drew := HVS.out _ _ _ _ _ _ (fun _ => False) hv ((Fr.refl _ _).drew) (fun b hb => hb.elim) (.inl rfl)
      have hq8 : Que wr.drew (S + 1) _ (p :: r) := hq'
      have hba8 : BArr wr.drew S _ := hba
      have hSr8 : S < wr.drew.heap.size := hSr
      have hc5 : wr.drew.cell? ⟨g, off, none⟩ = _ := hq5
      have hc6 : wr.drew.cell? ⟨g, off + 1, none⟩ = _ := hq6
      have hg8 : g < wr.drew.heap.size := hq4
      change wpList _ _ _ _ _ wr.drew
      clear hfr hv hq hq' hba hSr hq4 hq5 hq6
      generalize wr.drew = w2 at *
      have eg := EG.out
      go_wp2_with fail
      obtain ⟨tb, hv2, htb⟩ := hv2
      refine (hVV.out k p tb _ HPR.out HP.out hv2 hfr2).mono ?_
      rintro e w3 ⟨⟨rfl, tb3, hv3, htb3, htb4⟩ | ⟨rfl, hst⟩, hfr3⟩
      · clear eg
        have hfw3 := hfr2.trans hfr3
        have hv9 : VT V ((bs E a k).q.take k ++ [p]) S (.slice (some ⟨g, off, none⟩) (r.length + 1) cq) w3 := ⟨tb3, hv3, fun b hb => by
          refine ⟨?_, ?_, htb4 b hb⟩
          · rcases htb3 with h1 | ⟨b', h1, h2⟩
            · rw [h1] at hb; exact (htb b hb).1
            · rw [h1] at hb; cases hb; omega
          · rcases htb3 with h1 | ⟨b', h1, h2⟩
            · rw [h1] at hb; exact (htb b hb).2.1
            · rw [h1] at hb; cases hb; intro e; have e2 : g = _ := Option.some.inj e; omega⟩
        clear htb htb3 htb4 hv3
        have hq9 := hq8.keep (w' := w3) (fun g' _ h1 h2 => hfr3.block g' h2 (HWO.out g' (by omega)))
        have hba9 : BArr w3 S (bs E a k).seen := hfr3.arr hba8 (HWO.out S (Nat.le_refl _))
        have hS9 : S < w3.heap.size := Nat.lt_of_lt_of_le hSr8 hfr3.size
        have hd5 := (hfr3.cell (o := off) hg8 (HWO.out g (by omega))).trans hc5
        have hd6 := (hfr3.cell (o := off + 1) hg8 (HWO.out g (by omega))).trans hc6
        have hvl : p.2 < E.length := HSR.out.small k p HP.out
        have hvl' : (p.2 : Int) < (E.length : Int) := by omega
        obtain ⟨A', c', hrow, hil⟩ := HC.out p.2 _ (toI_get hvl)
        rw [List.length_map] at hrow hil
        have hrm := hil.room
        unfold maxLen at hrm
        have hrow3 := ((bcell (HFB.out _ hfw3)).1 _ _ (cell_some_lt hrow)).trans hrow
        have HIL := Lib.hid hil
        clear hil hrow hfr2 hv2 hq8 hba8 hSr8 hc5 hc6 hg8 hfr3 w2
        go_wp2_with fail
        go_loopw [7, 44] (fun q i wr => ∃ t : Nat, t ≤ (gr E p.2).length ∧ i = .int .i64 (t : Nat) ∧ Que wr (S + 1) q ((addAll p.2 (bs E a k) ((gr E p.2).take t)).q.drop k) ∧ BArr wr S (addAll p.2 (bs E a k) ((gr E p.2).take t)).seen ∧ VT V ((bs E a k).q.take k ++ [p]) S q wr ∧ Fr O w wr ∧ S < wr.heap.size) (fun _ i _ => (gr E p.2).length - (intOf i).toNat)
        case atStart => exact ⟨0, Nat.zero_le _, rfl, hq9.cast HR1.out.symm, hba9, hv9, hfw3, hS9⟩
        case round =>
          obtain ⟨t, ht, rfl, hq, hba, hv, hfr, hSr⟩ := hrel
          obtain ⟨dep', hs', hp'⟩ := HSR.out.all HP.out ((gr E p.2).take t) (fun x hx => List.mem_of_mem_take hx) (fun x hx => HE.out _ hvl x (List.mem_of_mem_take hx))
          have hq10 := hs'.qlen
          obtain ⟨r2, hr2, hr3⟩ := drop_head hp'
          have hqq := hq.cast hr2
          obtain ⟨g2, off2, cq2, rfl, hm1, hm2, hm3, hm4, hm5, hm6, hm7⟩ := hqq.head
          have hm2' := hm2
          unfold maxLen at hm2'
          have hz2 : (0 : Int) < ((r2.length + 1 : Nat) : Int) := by omega
          have HR2 := Lib.hid hr2
          have HP2 := Lib.hid hp'
          have HS2 := Lib.hid hs'
          clear hr2 hp' hs' hq
          by_cases htl : t < (gr E p.2).length
          · obtain ⟨x, hx⟩ : ∃ x, (gr E p.2)[t]? = some x := ⟨_, List.getElem?_eq_getElem htl⟩
            have hxl : x < E.length := HE.out _ hvl x (List.mem_of_getElem? hx)
            obtain ⟨b3, o3, rfl, hcx⟩ := (HIL.out.below (HFB.out _ hfr)).cell (by omega)
            have hcx' := hcx t x (by rw [List.getElem?_map, hx]; rfl)
            have hcs := hba.cell (i := x) (by rw [HS2.out.len]; exact hxl)
            have hfz := hba.frozen x
            have hxl' : (x : Int) < (E.length : Int) := by omega
            have et : (gr E p.2).take (t + 1) = (gr E p.2).take t ++ [x] := by rw [List.take_add_one, hx]; rfl
            have HT := Lib.hid et
            clear hcx et
            cases hsn : (addAll p.2 (bs E a k) ((gr E p.2).take t)).seen.getD x false
            · rw [hsn] at hcs
              have HN := Lib.hid hsn
              clear hsn
              have hgS : g2 ≠ S := by omega
              have hn6 : (wr.setCell ⟨S, x, none⟩ (.bool true)).cell? ⟨g2, off2 + 1, none⟩ = some (.int .i64 (p.2 : Nat)) := by
                rw [← hm6]; exact World.cell?_of_block (Below.heap_setCell _ _ _ _ (fun e => hgS e))
              have hq5 : Que (wr.setCell ⟨S, x, none⟩ (.bool true)) (S + 1) (.slice (some ⟨g2, off2, none⟩) (r2.length + 1) cq2) (p :: r2) := hqq.keep fun g' _ h1 _ => Below.heap_setCell _ _ _ _ (fun e => by have e' : g' = S := e; omega)
              have hba5 := hba.set_ x true
              have hS5 : S < (wr.setCell ⟨S, x, none⟩ (.bool true)).heap.size := by simpa [World.setCell] using hSr
              have hv5 : VT V ((bs E a k).q.take k ++ [p]) S _ (wr.setCell ⟨S, x, none⟩ (.bool true)) := HVS.out _ _ _ _ _ _ (· = S) hv (Fr.setCell (O := (· = S)) (p := ⟨S, x, none⟩) (fun _ => rfl) _) (fun b hb => ⟨by rw [hb]; exact hwS, .inl hb⟩) (.inl rfl)
              have hfr5 : Fr O w (wr.setCell ⟨S, x, none⟩ (.bool true)) := hfr.over ((Below.refl _ _).setCell (p := ⟨S, x, none⟩) hwS _)
              have hsz : (wr.setCell ⟨S, x, none⟩ (.bool true)).heap.size = wr.heap.size := by simp [World.setCell]
              clear hm6 hqq hba hSr hv hfr
              go_wp2_with (at_builtin; (refine wpList_pushQ (wr.setCell ⟨S, x, none⟩ (.bool true)) (by rfl) _ _ (by rfl) (S + 1) (.slice (some ⟨g2, off2, none⟩) (r2.length + 1) cq2) p r2 (by rfl) hq5 _ _ (p.2, x) (by rfl) (by rfl) (by rw [hsz]; rfl) (by omega) ?_); intro v' w6 hq6 hfr6 hqb6)
              have hb6 : Below w.heap.size (wr.setCell ⟨S, x, none⟩ (.bool true)) w6 := hfr6.below hfr5.size (fun b hb => by rw [hm7] at hb; cases hb; omega)
              go_roundw
              case rel =>
                refine ⟨t + 1, by omega, by go_num, ?_, ?_, HVS.out _ _ _ _ _ _ _ hv5 hfr6 (fun b hb => ⟨by rw [hm7] at hb; cases hb; omega, .inr hb⟩) (hqb6.elim .inl (fun h => .inr (.inr h))), hfr5.over hb6, Nat.lt_of_lt_of_le hS5 hfr6.size⟩
                · obtain ⟨e1, e2⟩ := addOne_q (v := p.2) (k := k) HN.out (by omega)
                  rw [HT.out, addAll_snoc, e1, HR2.out]; exact hq6
                · obtain ⟨e1, e2⟩ := addOne_q (v := p.2) (k := k) HN.out (by omega)
                  rw [HT.out, addAll_snoc, e2]
                  exact hfr6.arr hba5 (by rw [hm7]; intro e; cases e; omega)
              case measure => simp [intOf]; omega
            · rw [hsn] at hcs
              have HN := Lib.hid hsn
              clear hsn
              go_wp2_with fail
              go_roundw
              case rel =>
                refine ⟨t + 1, by omega, by go_num, ?_, ?_, hv, hfr, hSr⟩
                · rw [HT.out, addAll_snoc, addOne_seen HN.out]; exact hqq.cast HR2.out.symm
                · rw [HT.out, addAll_snoc, addOne_seen HN.out]; exact hba
              case measure => simp [intOf]; omega
          · obtain rfl : t = (gr E p.2).length := by omega
            rw [List.take_length] at *
            obtain ⟨n1, n2⟩ := bs_take HP.out
            have n3 := bs_succ HP.out
            have N1 := Lib.hid n1
            have N3 := Lib.hid n3
            clear n1 n3
            by_cases hc1 : cq2 = 1
            · subst hc1
              go_wp2_with fail
              go_roundg (gk - 1)
              case rel =>
                refine ⟨k + 1, by omega, fun i hi => ?_, n2, ?_, ?_, ?_, hfr, hSr⟩
                · rcases Nat.lt_or_ge i k with h1 | h1
                  · exact HPR.out i h1
                  · obtain rfl : i = k := by omega
                    exact ⟨p, HP.out⟩
                · rw [N3.out]
                  have e : (addAll p.2 (bs E a k) (gr E p.2)).q.drop (k + 1) = r2 := by rw [← List.drop_drop, HR2.out]; rfl
                  rw [e]
                  have e0 : r2.length = 0 := by omega
                  have hpp := hqq.pop (some ⟨g2, off2, none⟩) (fun h => absurd rfl h)
                  rw [e0] at hpp; exact hpp
                · rw [N3.out]; exact hba
                · rw [N1.out]; first | exact HVS.out _ _ _ _ _ _ (fun _ => False) hv (Fr.refl _ _) (fun b hb => hb.elim) (.inr (.inl rfl)) | exact HVS.out _ _ _ _ _ _ (fun _ => False) hv (Fr.refl _ _) (fun b hb => hb.elim) (qb_pop wr g2 off2 _ r2.length cq2 _)
              case measure => omega
            · go_wp2_with fail
              go_roundg (gk - 1)
              case rel =>
                refine ⟨k + 1, by omega, fun i hi => ?_, n2, ?_, ?_, ?_, hfr, hSr⟩
                · rcases Nat.lt_or_ge i k with h1 | h1
                  · exact HPR.out i h1
                  · obtain rfl : i = k := by omega
                    exact ⟨p, HP.out⟩
                · rw [N3.out]
                  have e : (addAll p.2 (bs E a k) (gr E p.2)).q.drop (k + 1) = r2 := by rw [← List.drop_drop, HR2.out]; rfl
                  rw [e]
                  exact hqq.pop _ (fun h => rfl)
                · rw [N3.out]; exact hba
                · rw [N1.out]; first | exact HVS.out _ _ _ _ _ _ (fun _ => False) hv (Fr.refl _ _) (fun b hb => hb.elim) (.inr (.inl rfl)) | exact HVS.out _ _ _ _ _ _ (fun _ => False) hv (Fr.refl _ _) (fun b hb => hb.elim) (qb_pop wr g2 off2 _ r2.length cq2 _)
              case measure => omega
      · clear eg
        have hfw3 := hfr2.trans hfr3
        go_wp2_with fail
        go_end0
        exact ⟨rfl, hfw3, .inr hst⟩
    · have hk : (bs E a k).q.length = k := by omega
      have hq' := hq.cast (List.drop_eq_nil_of_le (by omega))
      obtain ⟨A2, c2, rfl, _, hm2, _⟩ := hq'
      unfold maxLen at hm2
      have ht : (bs E a k).q.take k = (bs E a k).q := List.take_of_length_le (by omega)
      rw [ht] at hv
      have HK := Lib.hid hk
      clear hk ht hq
      go_wp2_with fail
      go_end0
      obtain ⟨tb, hv, _⟩ := hv
      exact ⟨rfl, hfr, .inl ⟨k, HK.out, HPR.out, tb, hv⟩⟩
end Go.Proofs.YtpkjdnplmgfbbaaDoor

namespace Go.Proofs.YtpkjdnplmgfbbaaDoor
open Go.RowKit

/-- What the function that is told the vertices writes. -/
def CtO (PG FG MO BE : Nat) (b : Nat) : Prop := b = PG ∨ b = FG ∨ b = MO ∨ b = BE
/-- What it reads and nobody writes. -/
structure Cx (W : World) (PV FV FR MO GB BE PG FG n a : Nat) (A : Option Addr) (c : Nat) : Prop where
  cpv : W.cell? ⟨PV, 0, none⟩ = some (.slice (some ⟨PG, 0, none⟩) n n)
  cfv : W.cell? ⟨FV, 0, none⟩ = some (.slice (some ⟨FG, 0, none⟩) n n)
  cfr : W.cell? ⟨FR, 0, none⟩ = some (.int .i64 (a : Nat))
  cgb : W.cell? ⟨GB, 1, none⟩ = some (.slice A n c)
  hpv : ¬ CtO PG FG MO BE PV
  hfv : ¬ CtO PG FG MO BE FV
  hfr : ¬ CtO PG FG MO BE FR
  hgb : ¬ CtO PG FG MO BE GB
theorem Cx.at {W W' : World} {PV FV FR MO GB BE PG FG n a : Nat} {A : Option Addr} {c : Nat} (h : Cx W PV FV FR MO GB BE PG FG n a A c) (hf : Fr (CtO PG FG MO BE) W W') : Cx W' PV FV FR MO GB BE PG FG n a A c :=
  ⟨(hf.cell (cell_some_lt h.cpv) h.hpv).trans h.cpv, (hf.cell (cell_some_lt h.cfv) h.hfv).trans h.cfv, (hf.cell (cell_some_lt h.cfr) h.hfr).trans h.cfr, (hf.cell (cell_some_lt h.cgb) h.hgb).trans h.cgb, h.hpv, h.hfv, h.hfr, h.hgb⟩
/-- A number in a block. -/
def Num (W : World) (B : Nat) (x : Int) : Prop := Arr W B 3 [.int .i64 x]
theorem Num.cell {W : World} {B : Nat} {x : Int} (h : Num W B x) : W.cell? ⟨B, 0, none⟩ = some (.int .i64 x) := Arr.cell h 0
theorem Num.frozen {W : World} {B : Nat} {x : Int} (h : Num W B x) : W.frozen? ⟨B, 0, none⟩ = false := Arr.frozen h 0
theorem Num.set_ {W : World} {B : Nat} {x : Int} (h : Num W B x) (y : Int) : Num (W.setCell ⟨B, 0, none⟩ (.int .i64 y)) B y := Arr.set_ h 0 (.int .i64 y)
/-- A slice in a block. -/
def Slc (W : World) (B : Nat) (v : Value) : Prop := Arr W B 28 [v]
theorem Slc.cell {W : World} {B : Nat} {v : Value} (h : Slc W B v) : W.cell? ⟨B, 0, none⟩ = some v := Arr.cell h 0
theorem Slc.frozen {W : World} {B : Nat} {v : Value} (h : Slc W B v) : W.frozen? ⟨B, 0, none⟩ = false := Arr.frozen h 0
theorem Slc.set_ {W : World} {B : Nat} {v : Value} (h : Slc W B v) (u : Value) : Slc (W.setCell ⟨B, 0, none⟩ u) B u := Arr.set_ h 0 u
/-- The best cycle so far in memory; tb: its block. -/
def BestV (W : World) (base : Nat) (tb : Option Nat) (bv : Value) : Option (List Nat) → Prop
  | none => bv = .slice none 0 0 ∧ tb = none
  | some l => ∃ g c, tb = some g ∧ bv = .slice (some ⟨g, 0, none⟩) l.length c ∧ OwnN W base bv l ∧ g < W.heap.size
theorem BestV.keep {W W' : World} {base : Nat} {tb : Option Nat} {bv : Value} {b : Option (List Nat)} (h : BestV W base tb bv b) (hs : W.heap.size ≤ W'.heap.size) (hk : ∀ g, tb = some g → base ≤ g → g < W.heap.size → W'.heap[g]? = W.heap[g]?) : BestV W' base tb bv b := by
  cases b with
  | none => exact h
  | some l =>
    obtain ⟨g, c, h1, h2, h3, h4⟩ := h
    subst h1 h2
    refine ⟨g, c, rfl, rfl, h3.keep fun g' hg => ?_, Nat.lt_of_lt_of_le h4 hs⟩
    have e : g = g' := Option.some.inj hg
    subst e
    exact hk g rfl (h3.lt g hg).1 h4
theorem BestV.lt {W : World} {base : Nat} {tb : Option Nat} {bv : Value} {b : Option (List Nat)} (h : BestV W base tb bv b) : ∀ g, tb = some g → g < W.heap.size := fun g hg => by
  cases b with
  | none => rw [h.2] at hg; cases hg
  | some l =>
    obtain ⟨g', c, h1, _, _, h4⟩ := h
    rw [h1] at hg
    injection hg with hg
    rw [← hg]; exact h4
/-- What the function has in memory of what it keeps. -/
structure Ct (W : World) (E : List (List Nat)) (m0 base MO BE : Nat) (tb : Option Nat) (m : Nat) (b : Option (List Nat)) (bv : Value) : Prop where
  num : Num W MO (m : Nat)
  slc : Slc W BE bv
  best : BestV W base tb bv b
  bst : Bst E m0 b m
theorem Ct.fr {W W' : World} {E : List (List Nat)} {m0 base MO BE : Nat} {tb : Option Nat} {m : Nat} {b : Option (List Nat)} {bv : Value} {O : Nat → Prop} (h : Ct W E m0 base MO BE tb m b bv) (hf : Fr O W W') (h1 : ¬ O MO) (h2 : ¬ O BE) (h3 : ∀ g, tb = some g → base ≤ g → ¬ O g) : Ct W' E m0 base MO BE tb m b bv :=
  ⟨hf.arr h.num h1, hf.arr h.slc h2, h.best.keep hf.size fun g hg hb hl => hf.block g hl (h3 g hg hb), h.bst⟩
/-- Behind the visits 'done'. -/
def CtV (E : List (List Nat)) (a m0 base PG FG MO BE : Nat) (done : List (Nat × Nat)) (tb : Option Nat) (W : World) : Prop :=
  ∃ m b bv, NArr W FG (dl E.length a done) ∧ NArr W PG (pl E.length done) ∧ Ct W E m0 base MO BE tb m b bv ∧ ToldD E done (fun v => (dl E.length a done).getD v 0) m
/-- It said that the search may stop. -/
def CtS (E : List (List Nat)) (a m0 base BE : Nat) (W : World) : Prop :=
  ∃ k p m b bv tb, (∀ i, i < k → ∃ p, (bs E a i).q[i]? = some p) ∧ (bs E a k).q[k]? = some p ∧ ToldD E ((bs E a k).q.take k) (fun v => (dl E.length a ((bs E a k).q.take k)).getD v 0) m ∧ (m : Int) ≤ 2 * (dl E.length a ((bs E a k).q.take k ++ [p])).getD p.2 0 ∧
    Slc W BE bv ∧ BestV W base tb bv b ∧ Bst E m0 b m

/-- A way up, as way is asked for it. -/
theorem Vst.upw {E : List (List Nat)} {a : Nat} {done : List (Nat × Nat)} {p : Nat × Nat} {D : Nat → Int} {l : List Int} {P : Nat → Prop} {par far : Nat → Nat} (h : Vst E a done p D (fun v => l.getD v 0) P par far) {v : Nat} (hv : P v) : Upw par l E.length v (far v) := by
  refine ⟨fun i hi => ?_, fun i hi e => ?_, ?_⟩
  · have h1 := (h.tree.an_far hv i hi).1
    exact ⟨h.lt _ h1, h.parR _ h1⟩
  · have h1 := (h.tree.an_far hv i (by omega)).2
    have h2 := (h.tree.an_far hv (i + 1) (by omega)).2
    rw [e] at h2
    omega
  · show par (an par v (far v)) = _
    rw [h.tree.an_root hv, h.root]
/-- The visits of distances and parents. -/
theorem vis_two {a b v : Nat} {l : List Int} (hb : b ≠ v) (hv : v ≠ a) : (l.set v 0).set v ((l.set v 0).getD b 0 + 1) = vis a l (b, v) := by
  unfold vis
  rw [if_neg hv, List.set_set, getD_set, if_neg (fun h => hb h.1.symm)]
theorem vis_one {a b : Nat} {l : List Int} : l.set a 0 = vis a l (b, a) := by unfold vis; rw [if_pos rfl]

/-- What holds in the midst of a visit. -/
def CtM (E : List (List Nat)) (m0 base PG FG MO BE : Nat) (F R : List Int) (W0 : World) (tb : Option Nat) (m : Nat) (b : Option (List Nat)) (bv : Value) (W : World) : Prop :=
  NArr W FG F ∧ NArr W PG R ∧ Ct W E m0 base MO BE tb m b bv ∧ Fr (CtO PG FG MO BE) W0 W
theorem Fr.plus {O : Nat → Prop} {w w' w'' : World} (h : Fr O w w') (hb : Below w'.heap.size w' w'') : Fr O w w'' := h.trans (Fr.of_below' hb)
theorem CtM.plus {E : List (List Nat)} {m0 base PG FG MO BE : Nat} {F R : List Int} {W0 W W' : World} {tb : Option Nat} {m : Nat} {b : Option (List Nat)} {bv : Value} (h : CtM E m0 base PG FG MO BE F R W0 tb m b bv W) (hb : Below W.heap.size W W') : CtM E m0 base PG FG MO BE F R W0 tb m b bv W' := by
  obtain ⟨h1, h2, h3, h4⟩ := h
  exact ⟨h1.below hb, h2.below hb, h3.fr (O := fun _ => False) (Fr.of_below' hb) (fun h => h) (fun h => h) (fun _ _ _ h => h), h4.plus hb⟩
/-- What has been told of the first t neighbours of the vertex that is visited. -/
def ToldT (F : List Int) (l : List Nat) (b v : Nat) (t m : Nat) : Prop := ∀ (j w : Nat), j < t → l[j]? = some w → 0 ≤ F.getD w 0 → w ≠ b → (m : Int) ≤ F.getD v 0 + F.getD w 0 + 1
theorem ToldT.next {F : List Int} {l : List Nat} {b v t m w : Nat} (h : ToldT F l b v t m) (hw : l[t]? = some w) (h2 : 0 ≤ F.getD w 0 → w ≠ b → (m : Int) ≤ F.getD v 0 + F.getD w 0 + 1) : ToldT F l b v (t + 1) m := fun j u hj hu h3 h4 => by
  rcases Nat.lt_or_ge j t with h1 | h1
  · exact h j u h1 hu h3 h4
  · obtain rfl : j = t := by omega
    rw [hw] at hu
    injection hu with hu
    subst hu
    exact h2 h3 h4
theorem ToldT.less {F : List Int} {l : List Nat} {b v t m m' : Nat} (h : ToldT F l b v t m) (hm : m' ≤ m) : ToldT F l b v t m' := fun j u hj hu h3 h4 => by
  have := h j u hj hu h3 h4
  omega
/-- A visit, as a plain law. -/
theorem ctv_end {E : List (List Nat)} (hE : Valid E) {a k m0 base PG FG MO BE m m' : Nat} (ha : a < E.length) (hpr : ∀ i, i < k → ∃ p, (bs E a i).q[i]? = some p) {p : Nat × Nat} (hp : (bs E a k).q[k]? = some p) {tb : Option Nat} {b' : Option (List Nat)} {bv : Value} {W0 W : World} {F R : List Int}
    (hF : F = dl E.length a ((bs E a k).q.take k ++ [p])) (hR : R = pl E.length ((bs E a k).q.take k ++ [p])) (htd : ToldD E ((bs E a k).q.take k) (fun v => (dl E.length a ((bs E a k).q.take k)).getD v 0) m) (hm : m' ≤ m)
    (hc : CtM E m0 base PG FG MO BE F R W0 tb m' b' bv W) (ht : ToldT F (gr E p.2) p.1 p.2 (gr E p.2).length m') : CtV E a m0 base PG FG MO BE ((bs E a k).q.take k ++ [p]) tb W := by
  obtain ⟨h1, h2, h3, _⟩ := hc
  refine ⟨m', b', bv, hF ▸ h1, hR ▸ h2, h3, ?_⟩
  obtain ⟨P, par, far, hv⟩ := vst_of hE ha hpr hp
  refine ToldD.snoc ((htd.less hm).same (fun i v hv => dl_same hE ha hpr hp i v hv)) (fun i w hw hwv hwb => ?_)
  obtain ⟨j, hj⟩ := List.mem_iff_getElem?.1 hwv
  have hPw : P w := (hv.mem w).2 ⟨i, by
    obtain ⟨x, hx⟩ := snd_some hw
    rw [List.getElem?_append_left (some_lt hx)]; exact hw⟩
  have := ht j w (some_lt hj) hj (by rw [hF]; exact (hv.has w (hv.lt w hPw)).1 hPw) hwb
  rw [hF] at this
  exact this

set_option maxHeartbeats 16000000 in
set_option maxRecDepth 100000 in
theorem ct1_any {E : List (List Nat)} (hE : Valid E) (hEn : E.length ≤ 2500) (hS : Sym E) (hs : Smp E) {a m0 base : Nat} (ha : a < E.length) (hm0 : m0 ≤ 2501) {w0 w : World} {PV FV FR MO GB BE PG FG : Nat} {A : Option Addr} {c : Nat}
    (hx : Cx w PV FV FR MO GB BE PG FG E.length a A c) (hg : Gl w0 A E.length c (toI E)) (hb0 : Below w0.heap.size w0 w) (hgl : ∀ b, CtO PG FG MO BE b → w0.heap.size ≤ b) (hd : PG ≠ FG ∧ PG ≠ MO ∧ PG ≠ BE ∧ FG ≠ MO ∧ FG ≠ BE ∧ MO ≠ BE) (hbase : ∀ b, CtO PG FG MO BE b → b < base) (hbw : base ≤ w.heap.size)
    (k : Nat) (p : Nat × Nat) (tb : Option Nat) (W : World) (hpr : ∀ i, i < k → ∃ p, (bs E a i).q[i]? = some p) (hp : (bs E a k).q[k]? = some p) (hcv : CtV E a m0 base PG FG MO BE ((bs E a k).q.take k) tb W) (hfw : Fr (CtO PG FG MO BE) w W) :
    Calls Tryd.prog 139 #[.int .i64 (p.2 : Nat), .int .i64 (p.1 : Nat), .pointer (some ⟨PV, 0, none⟩), .pointer (some ⟨FV, 0, none⟩), .pointer (some ⟨FR, 0, none⟩), .pointer (some ⟨MO, 0, none⟩), .pointer (some ⟨GB, 0, none⟩), .pointer (some ⟨BE, 0, none⟩)] W fun e W' =>
      ((e = .returned (.bool true) ∧ ∃ tb', CtV E a m0 base PG FG MO BE ((bs E a k).q.take k ++ [p]) tb' W' ∧ (tb' = tb ∨ ∃ b, tb' = some b ∧ W.heap.size ≤ b) ∧ ∀ b, tb' = some b → b < W'.heap.size) ∨ (e = .returned (.bool false) ∧ CtS E a m0 base BE W')) ∧ Fr (CtO PG FG MO BE) W W' := by
  obtain ⟨m, bo, bv, hF, hP, hct, htd⟩ := hcv
  obtain ⟨b, v⟩ := p
  obtain ⟨hb1, hv1, hb3⟩ := bs_next hE ha hpr hp
  obtain ⟨P, par, far, hvst⟩ := vst_of hE ha hpr hp
  have hkl := some_lt hp
  have hqn : (bs E a k).q.length ≤ E.length := by obtain ⟨dep, h⟩ := bs_inv hE ha k hpr; exact h.qlen
  have hbd := dl_small E.length a ((bs E a k).q.take k ++ [(b, v)])
  have hbd0 := dl_small E.length a ((bs E a k).q.take k)
  have hFl := dl_length E.length a ((bs E a k).q.take k)
  have hFl' := dl_length E.length a ((bs E a k).q.take k ++ [(b, v)])
  have hPl := pl_length E.length ((bs E a k).q.take k)
  have hPl' := pl_length E.length ((bs E a k).q.take k ++ [(b, v)])
  have hdn : ((bs E a k).q.take k ++ [(b, v)]).length ≤ 2500 := by simp; omega
  have hdn0 : ((bs E a k).q.take k).length ≤ 2500 := by simp; omega
  have hFn := dl_snoc E.length a ((bs E a k).q.take k) (b, v)
  have hPn := pl_snoc E.length ((bs E a k).q.take k) (b, v)
  have hbv : v ≠ a → b ≠ v := fun hva e => by
    rcases hb3 with ⟨_, h⟩ | ⟨_, h, _⟩
    · exact hva (by cases h; rfl)
    · rw [e] at h; exact hs.1 v h
  have HEND := Lib.hid (fun m' tb b' bv W0 W F R hF hR hm hc ht => @ctv_end E hE a k m0 base PG FG MO BE m m' ha hpr (b, v) hp tb b' bv W0 W F R hF hR htd hm hc ht)
  have HSTOP := Lib.hid (fun b' bv tb W (h1 : (m : Int) ≤ 2 * (dl E.length a ((bs E a k).q.take k ++ [(b, v)])).getD v 0) (h2 : Slc W BE bv) (h3 : BestV W base tb bv b') (h4 : Bst E m0 b' m) => show CtS E a m0 base BE W from ⟨k, (b, v), m, b', bv, tb, hpr, hp, htd, h1, h2, h3, h4⟩)
  obtain ⟨b7, o7, A7, c7, rfl, hrow0, hr1, hr2, hil0⟩ := hg.row hv1
  have HROW := Lib.hid (fun w' (hf : Fr (CtO PG FG MO BE) W w') => show w'.cell? ⟨b7, o7 + v, none⟩ = some (.slice A7 (gr E v).length c7) ∧ Il w' A7 (gr E v).length c7 ((gr E v).map fun x : Nat => (x : Int)) from
    have hb := hb0.trans ((hfw.trans hf).below hb0.size hgl)
    ⟨((bcell hb).1 _ _ (cell_some_lt hrow0)).trans hrow0, hil0.below hb⟩)
  obtain ⟨F0, hF0⟩ : ∃ F, F = dl E.length a ((bs E a k).q.take k) := ⟨_, rfl⟩
  obtain ⟨R0, hR0⟩ : ∃ R, R = pl E.length ((bs E a k).q.take k) := ⟨_, rfl⟩
  obtain ⟨F, hF'⟩ : ∃ F, F = dl E.length a ((bs E a k).q.take k ++ [(b, v)]) := ⟨_, rfl⟩
  obtain ⟨R, hR'⟩ : ∃ R, R = pl E.length ((bs E a k).q.take k ++ [(b, v)]) := ⟨_, rfl⟩
  rw [← hF0] at hF hFl hbd0 hFn
  rw [← hR0] at hP hPl hPn
  rw [← hF'] at hbd hFl' hFn hvst
  rw [← hR'] at hPl' hPn hvst
  rw [← hF'] at HSTOP
  have HEND2 := Lib.hid (fun m' tb b' bv W0 W hm hc ht => HEND.out m' tb b' bv W0 W F R hF' hR' hm hc ht)
  have hbd' : ∀ u, -1 ≤ F.getD u 0 ∧ F.getD u 0 ≤ 2500 := fun u => ⟨(hbd u).1, by have := (hbd u).2; omega⟩
  have hbd0' : ∀ u, -1 ≤ F0.getD u 0 ∧ F0.getD u 0 ≤ 2500 := fun u => ⟨(hbd0 u).1, by have := (hbd0 u).2; omega⟩
  have HBD := Lib.hid hbd'
  have hbd0b := hbd0' b
  have HFN := Lib.hid hFn
  have HPN := Lib.hid hPn
  have HFL := Lib.hid hFl
  have HFL' := Lib.hid hFl'
  have HPL := Lib.hid hPl
  have HPL' := Lib.hid hPl'
  have HVST := Lib.hid hvst
  have HBV := Lib.hid hbv
  have HE := Lib.hid hE
  have HS := Lib.hid hS
  have HSM := Lib.hid hs
  have cx := hx.at hfw
  have cx0 := cx
  have hWs : base ≤ W.heap.size := Nat.le_trans hbw hfw.size
  obtain ⟨hd1, hd2, hd3, hd4, hd5, hd6⟩ := hd
  have HBASE := Lib.hid hbase
  have HTB := Lib.hid (hct.best.lt)
  clear HEND hF0 hR0 hF' hR' hbd hbd0 hbd' hbd0' hFn hPn hFl hFl' hPl hPl' hvst hbv hE hS hs hpr hp htd hb3 hg hfw hx hdn hdn0 hbase hgl hb0 hrow0 hil0
  have hvi : (v : Int) < (E.length : Int) := by omega
  have hv0 : (0 : Int) ≤ (v : Int) := by omega
  have hbi : (b : Int) < (E.length : Int) := by omega
  -- parent[v] = before
  have q1 := cx.cpv
  have q2 := hP.cell (i := v) (by rw [HPL.out]; exact hv1)
  have q3 := hP.frozen v
  go_enter Tryd.func139, Tryd.ntmps139
  go_upto_region 2 with (fail)
  clear q1 q2 q3
  obtain ⟨W1, hW1⟩ : ∃ W1, W1 = W.setCell ⟨PG, v, none⟩ (.int .i64 (b : Nat)) := ⟨_, rfl⟩
  rw [← hW1]
  have f1 : Fr (· = PG) W W1 := by rw [hW1]; exact Fr.setCell (O := (· = PG)) (p := ⟨PG, v, none⟩) (fun _ => rfl) _
  have hP1 : NArr W1 PG R := by rw [HPN.out, hW1]; exact hP.set_ v _
  have hF1 : NArr W1 FG F0 := f1.arr hF (fun e => hd1 e.symm)
  have hct1 := hct.fr f1 (fun e => hd2 e.symm) (fun e => hd3 e.symm) (fun g hg hb e => by have := HBASE.out PG (.inl rfl); omega)
  have fo1 : Fr (CtO PG FG MO BE) W W1 := f1.mono fun b _ e => .inl e
  have cx1 := cx.at fo1
  clear hP hF hct cx hW1
  -- far[v] = 0
  have q1 := cx1.cfv
  have q2 := hF1.cell (i := v) (by rw [HFL.out]; exact hv1)
  have q3 := hF1.frozen v
  go_upto_region 3 with (fail)
  clear q1 q2 q3
  obtain ⟨W2, hW2⟩ : ∃ W2, W2 = W1.setCell ⟨FG, v, none⟩ (.int .i64 0) := ⟨_, rfl⟩
  rw [← hW2]
  have f2 : Fr (· = FG) W1 W2 := by rw [hW2]; exact Fr.setCell (O := (· = FG)) (p := ⟨FG, v, none⟩) (fun _ => rfl) _
  have hF2 : NArr W2 FG (F0.set v 0) := by rw [hW2]; exact hF1.set_ v 0
  have hP2 : NArr W2 PG R := f2.arr hP1 (fun e => hd1 e)
  have hct2 := hct1.fr f2 (fun e => hd4 e.symm) (fun e => hd5 e.symm) (fun g hg hb e => by have := HBASE.out FG (.inr (.inl rfl)); omega)
  have fo2 : Fr (CtO PG FG MO BE) W W2 := fo1.trans (f2.mono fun b _ e => .inr (.inl e))
  have cx2 := cx1.at (f2.mono fun b _ e => .inr (.inl e))
  clear hP1 hF1 hct1 cx1 fo1 f1 f2 hW2
  have q1 := cx2.cfr
  go_upto_if 23 with (fail)
  clear q1
  go_cut [10] (fun r wx => r = .bool false ∧ Hid (CtM E m0 base PG FG MO BE F R W tb m bo bv wx))
  case first =>
    by_cases hva : v = a
    · subst hva
      have hz : ((v : Int) != (v : Int)) = false := by simp
      have eF : F0.set v 0 = F := by rw [HFN.out]; exact vis_one
      rw [eF] at hF2
      clear eF
      go_wp2_with fail
      go_meet
      exact ⟨rfl, Lib.hid ⟨hF2, hP2, hct2, fo2⟩⟩
    · have hz : ((v : Int) != (a : Int)) = true := by rw [bne_iff_ne]; omega
      have hbv := HBV.out hva
      have eF : (F0.set v 0).set v (F0.getD b 0 + 1) = F := by rw [HFN.out, ← vis_two hbv hva, getD_set, if_neg (fun h => hbv h.1.symm)]
      have eb : (F0.set v 0).getD b 0 = F0.getD b 0 := by rw [getD_set, if_neg (fun h => hbv h.1.symm)]
      have q1 := cx2.cfv
      have q2 := hF2.cell (i := b) (by rw [List.length_set, HFL.out]; exact hb1)
      rw [eb] at q2
      have EF := Lib.hid eF
      clear eF eb hbv hva
      generalize F0.getD b 0 = x at *
      have hw : IntKind.i64.wrap (x + 1) = x + 1 := IntWalk.i64_in _ (by omega)
      go_wp2_with fail
      go_still_tail 8, (by kernel_rfl)
      have hF3 : NArr W2.drew FG (F0.set v 0) := hF2
      have hP3 : NArr W2.drew PG R := hP2
      have fr3 : Fr (fun _ => False) W2 W2.drew := (Fr.refl _ _).drew
      have hct3 := hct2.fr fr3 (fun h => h) (fun h => h) (fun _ _ _ h => h)
      have fo3 := fo2.trans (fr3.mono (O' := CtO PG FG MO BE) fun b _ h => h.elim)
      have cx3 := cx2.at (fr3.mono (O' := CtO PG FG MO BE) fun b _ h => h.elim)
      change wpList _ _ _ _ _ W2.drew
      clear hF2 hP2 hct2 fo2 cx2 q1 q2 fr3
      generalize W2.drew = w3 at *
      have q1 := hF3.cell (i := v) (by rw [List.length_set, HFL.out]; exact hv1)
      have q2 := hF3.frozen v
      have f4 : Fr (· = FG) w3 (w3.setCell ⟨FG, v, none⟩ (.int .i64 (x + 1))) := Fr.setCell (O := (· = FG)) (p := ⟨FG, v, none⟩) (fun _ => rfl) _
      have hF4 := hF3.set_ v (x + 1)
      rw [EF.out] at hF4
      have hP4 : NArr _ PG R := f4.arr hP3 (fun e => hd1 e)
      have hct4 := hct3.fr f4 (fun e => hd4 e.symm) (fun e => hd5 e.symm) (fun g hg hb e => by have := HBASE.out FG (.inr (.inl rfl)); omega)
      have HM := Lib.hid (show CtM E m0 base PG FG MO BE F R W tb m bo bv _ from ⟨hF4, hP4, hct4, fo3.trans (f4.mono fun b _ e => .inr (.inl e))⟩)
      clear f4 hF4 hP4 hct4 hF3 hP3 hct3 fo3
      go_wp2
      go_meet
      exact ⟨rfl, HM⟩
  case rest =>
    obtain ⟨rfl, HM⟩ := hcut
    clear hP2 hF2 hct2 fo2 cx2
    obtain ⟨hF3, hP3, hct3, fo3⟩ := HM.out
    have cx3 := cx0.at fo3
    clear HM W1 W2
    obtain ⟨dv, hdv⟩ : ∃ d, d = F.getD v 0 := ⟨_, rfl⟩
    have hdb : -1 ≤ dv ∧ dv ≤ 2500 := by rw [hdv]; exact HBD.out v
    rw [← hdv] at HSTOP
    have HDV := Lib.hid hdv
    have hm1 : m ≤ 2501 := Nat.le_trans hct3.bst.less hm0
    have q1 := cx3.cfv
    have q2 := hF3.cell (i := v) (by rw [HFL'.out]; exact hv1)
    rw [← hdv] at q2
    have q3 := hct3.num.cell
    clear hdv
    obtain ⟨d2, hd2'⟩ : ∃ d, d = 2 * dv := ⟨_, rfl⟩
    have hw2 : IntKind.i64.wrap (2 * dv) = d2 := by rw [hd2']; exact IntWalk.i64_in _ (by omega)
    by_cases hst : (m : Int) ≤ d2
    · have hz : decide ((m : Int) ≤ d2) = true := decide_eq_true hst
      have HST := Lib.hid (hd2' ▸ hst)
      clear hst hd2'
      go_wp2_with fail
      go_quiet (fail)
      go_wp2_with fail
      go_ret
      exact ⟨.inr ⟨rfl, HSTOP.out bo bv tb _ HST.out hct3.slc hct3.best hct3.bst⟩, fo3.plus (below_drewN' (Below.refl _ _) _)⟩
    · have hz : decide ((m : Int) ≤ d2) = false := decide_eq_false hst
      clear hst hd2' HSTOP
      obtain ⟨hrow, hil⟩ := HROW.out _ fo3
      have q4 := cx3.cgb
      clear hil
      go_wp2_with fail
      go_quiet (fail)
      go_wp2_with fail
      have HM3 := Lib.hid (show CtM E m0 base PG FG MO BE F R W tb m bo bv (wc.drewN nq) from CtM.plus ⟨hF3, hP3, hct3, fo3⟩ (below_drewN' (Below.refl _ _) _))
      clear q1 q2 q3 q4 hw2 hz hF3 hP3 hct3 cx3 fo3 hrow
      go_loopw [45] (fun i wx => ∃ (t m' : Nat) (b' : Option (List Nat)) (bv' : Value) (tb' : Option Nat), t ≤ (gr E v).length ∧ i = .int .i64 (t : Nat) ∧ m' ≤ m ∧ Hid (CtM E m0 base PG FG MO BE F R W tb' m' b' bv' wx) ∧ Hid (tb' = tb ∨ ∃ b, tb' = some b ∧ W.heap.size ≤ b) ∧ Hid (ToldT F (gr E v) b v t m')) (fun i _ => (gr E v).length - (intOf i).toNat)
      case atStart => exact ⟨0, m, bo, bv, tb, Nat.zero_le _, rfl, Nat.le_refl _, HM3, Lib.hid (.inl rfl), Lib.hid (fun j w hj => by omega)⟩
      case round =>
        clear HM3
        obtain ⟨t, m', b', bv', tb', htl, rfl, hmm, HM, HTB', HT⟩ := hrel
        obtain ⟨hF4, hP4, hct4, fo4⟩ := HM.out
        have cx4 := cx0.at fo4
        by_cases htt : t < (gr E v).length
        · obtain ⟨u, hu⟩ : ∃ u, (gr E v)[t]? = some u := ⟨_, List.getElem?_eq_getElem htt⟩
          have hu1 : u < E.length := HE.out v hv1 u (List.mem_of_getElem? hu)
          obtain ⟨b8, o8, rfl, q0⟩ := (HROW.out _ fo4).2.num hu
          obtain ⟨dw, hdw⟩ : ∃ d, d = F.getD u 0 := ⟨_, rfl⟩
          have hdwb : -1 ≤ dw ∧ dw ≤ 2500 := by rw [hdw]; exact HBD.out u
          have q1 := cx4.cfv
          have q2 := hF4.cell (i := v) (by rw [HFL'.out]; exact hv1)
          have q3 := hF4.cell (i := u) (by rw [HFL'.out]; exact hu1)
          rw [← HDV.out] at q2
          rw [← hdw] at q3
          have q4 := hct4.num.cell
          have hti : (t : Int) < ((gr E v).length : Int) := by omega
          have ht0 : (0 : Int) ≤ (t : Int) := by omega
          have hui : (u : Int) < (E.length : Int) := by omega
          have hu0 : (0 : Int) ≤ (u : Int) := by omega
          obtain ⟨s1, hs1⟩ : ∃ s, s = dv + dw := ⟨_, rfl⟩
          obtain ⟨s2, hs2⟩ : ∃ s, s = s1 + 1 := ⟨_, rfl⟩
          have e1 : IntKind.i64.wrap (dv + dw) = s1 := by rw [hs1]; exact IntWalk.i64_in _ (by omega)
          have e2 : IntKind.i64.wrap (s1 + 1) = s2 := by rw [hs2]; exact IntWalk.i64_in _ (by omega)
          by_cases hgo : 0 ≤ dw ∧ u ≠ b ∧ s2 < (m' : Int)
          · obtain ⟨hg1, hg2, hg3⟩ := hgo
            have z1 : decide (dw < 0) = false := decide_eq_false (by omega)
            have z2 : ((u : Int) == (b : Int)) = false := beq_eq_false_iff_ne.2 (by omega)
            have z3 : decide ((m' : Int) ≤ s2) = false := decide_eq_false (by omega)
            have hPu : P u := (HVST.out.has u hu1).2 (by show 0 ≤ F.getD u 0; rw [← hdw]; exact hg1)
            have hPv : P v := HVST.out.me
            have hdf : dv = (far v : Nat) := by rw [HDV.out]; exact HVST.out.farD v hPv
            have hwf : dw = (far u : Nat) := by rw [hdw]; exact HVST.out.farD u hPu
            have hmem : u ∈ gr E v := List.mem_of_getElem? hu
            have HMT := Lib.hid (fun w' (hb : Below wr.heap.size wr w') => meeting_any (hP4.below hb) HPL'.out (par := par) (v := v) (x := u) (f1 := far v) (f2 := far u) (by omega) (by omega) (HVST.out.upw hPv) (HVST.out.upw hPu) (by rw [HVST.out.tree.an_root hPv, HVST.out.tree.an_root hPu]))
            have HCYC := Lib.hid (fun p' q' (hmc : Mc par v u (far v) (far u) p' q') => show 3 ≤ p' + q' + 1 ∧ ((p' + q' + 1 : Nat) : Int) ≤ s2 ∧ IsCyc E (cyc par p' q' v u) from by
              obtain ⟨m1, m2, m3, m4, m5⟩ := hmc
              have h3 : 3 ≤ p' + q' + 1 := HVST.out.three HSM.out.1 hPu hmem hg2 m4
              exact ⟨h3, by omega, cyc_is HS.out HVST.out.tree hPv hPu hmem m1 m2 m3 m4 m5 h3⟩)
            have HTL := Lib.hid (fun (L : Nat) (hL : (L : Int) ≤ s2) (hL2 : L ≤ m') => show ToldT F (gr E v) b v (t + 1) L from (HT.out.less hL2).next hu (fun _ _ => by rw [← hdw, ← HDV.out]; omega))
            clear hu hdw hs1 hs2 hPu hPv hdf hwf hmem hg1 hg2
            have q5 := cx4.cpv
            go_wp2_with fail
            go_quiet (fail)
            go_wp2_with fail
            have hbq : Below wr.heap.size wr (wr.drewN nq) := below_drewN' (Below.refl _ _) _
            refine (HMT.out _ hbq).mono ?_
            rintro e w6 ⟨p', q', hmc, hb6, ⟨h3, rfl⟩ | ⟨h3, A9, c9, rfl, own9⟩⟩
            · exact absurd (HCYC.out p' q' hmc).1 (by omega)
            · obtain ⟨_, hLs, hcyc⟩ := HCYC.out p' q' hmc
              obtain ⟨g9, rfl, hg9⟩ := own_g own9 (by rw [cyc_length]) (by omega)
              have hb6' := hbq.trans (hb6.mono hbq.size)
              have hg9l := (own9.lt g9 rfl).2
              have HM6 := CtM.plus HM.out hb6'
              obtain ⟨hct6F, hct6P, hct6, fo6⟩ := HM6
              have HCL := Lib.hid (cyc_length par p' q' v u)
              have hwr : W.heap.size ≤ wr.heap.size := fo4.size
              have hq6 : wr.heap.size ≤ g9 := by have := hbq.size; omega
              obtain ⟨C, hC⟩ : ∃ C, C = cyc par p' q' v u := ⟨_, rfl⟩
              rw [← hC] at own9 hcyc HCL
              obtain ⟨L, hL⟩ : ∃ L, L = p' + q' + 1 := ⟨_, rfl⟩
              rw [← hL] at own9 hLs HCL h3 ⊢
              have hLm : L < m' := by omega
              have hz5 : decide (L < m') = true := decide_eq_true hLm
              have hz6 : (L : Int) < (m' : Int) := by omega
              have HCC := Lib.hid hcyc
              clear hC hL hcyc hmc HCYC q0 q1 q2 q3 q4 q5 cx4 hF4 hP4 hct4 fo4
              have r1 := hct6.num.cell
              have r2 := hct6.num.frozen
              have r3 := hct6.slc.cell
              have r4 := hct6.slc.frozen
              have hb5 : base ≤ g9 := by omega
              have hBB := HBASE.out BE (.inr (.inr (.inr rfl)))
              have hBM := HBASE.out MO (.inr (.inr (.inl rfl)))
              obtain ⟨w7, hw7⟩ : ∃ w7, w7 = w6.setCell ⟨BE, 0, none⟩ (.slice (some ⟨g9, 0, none⟩) L c9) := ⟨_, rfl⟩
              have f7 : Fr (· = BE) w6 w7 := by rw [hw7]; exact Fr.setCell (O := (· = BE)) (p := ⟨BE, 0, none⟩) (fun _ => rfl) _
              have hF7 : NArr w7 FG F := f7.arr hct6F (fun e => hd5 e)
              have hP7 : NArr w7 PG R := f7.arr hct6P (fun e => hd3 e)
              have hN7 : Num w7 MO (m' : Nat) := f7.arr hct6.num (fun e => hd6 e)
              have hS7 : Slc w7 BE (.slice (some ⟨g9, 0, none⟩) L c9) := by rw [hw7]; exact hct6.slc.set_ _
              have ownb : OwnN w6 base (.slice (some ⟨g9, 0, none⟩) L c9) C := own_base own9 (by have := hbq.size; omega)
              have own7 : OwnN w7 base (.slice (some ⟨g9, 0, none⟩) L c9) C := ownb.keep (fun g hg => by
                have e : g9 = g := Option.some.inj hg
                exact f7.block g (by omega) (fun e2 => by omega))
              obtain ⟨w8, hw8⟩ : ∃ w8, w8 = w7.setCell ⟨MO, 0, none⟩ (.int .i64 (L : Nat)) := ⟨_, rfl⟩
              have f8 : Fr (· = MO) w7 w8 := by rw [hw8]; exact Fr.setCell (O := (· = MO)) (p := ⟨MO, 0, none⟩) (fun _ => rfl) _
              have hF8 : NArr w8 FG F := f8.arr hF7 (fun e => hd4 e)
              have hP8 : NArr w8 PG R := f8.arr hP7 (fun e => hd2 e)
              have hN8 : Num w8 MO (L : Nat) := by rw [hw8]; exact hN7.set_ _
              have hS8 : Slc w8 BE (.slice (some ⟨g9, 0, none⟩) L c9) := f8.arr hS7 (fun e => hd6 e.symm)
              have own8 : OwnN w8 base (.slice (some ⟨g9, 0, none⟩) L c9) C := own7.keep (fun g hg => by
                have e : g9 = g := Option.some.inj hg
                exact f8.block g (by have := f7.size; omega) (fun e2 => by omega))
              have hg8 : g9 < w8.heap.size := by have := f7.size; have := f8.size; omega
              have hfo8 := (fo6.trans (f7.mono (O' := CtO PG FG MO BE) fun b _ e => .inr (.inr (.inr e)))).trans (f8.mono (O' := CtO PG FG MO BE) fun b _ e => .inr (.inr (.inl e)))
              have hbst : Bst E m0 (some C) L := ⟨HCC.out, by rw [HCL.out]; exact h3, HCL.out, Nat.lt_of_lt_of_le hLm hct6.bst.less⟩
              have HM8 := Lib.hid (show CtM E m0 base PG FG MO BE F R W (some g9) L (some C) (.slice (some ⟨g9, 0, none⟩) L c9) w8 from ⟨hF8, hP8, ⟨hN8, hS8, ⟨g9, c9, rfl, by rw [HCL.out], own8, hg8⟩, hbst⟩, hfo8⟩)
              have r5 := hN7.cell
              have r6 := hN7.frozen
              have HW7 := Lib.hid hw7
              have HW8 := Lib.hid hw8
              clear ownb hF7 hP7 hN7 hS7 own7 hF8 hP8 hN8 hS8 own8 hct6F hct6P hct6 own9 f7 f8 hfo8 fo6 hbst hw7 hw8 hb6 hb6'
              rw [HW7.out] at r5 r6
              go_wp2_with fail
              rw [← HW7.out, ← HW8.out]
              go_roundw
              case rel => exact ⟨t + 1, L, some C, _, some g9, by omega, by go_num, by omega, HM8, Lib.hid (.inr ⟨g9, rfl, by omega⟩), Lib.hid (HTL.out L hLs (Nat.le_of_lt hLm))⟩
              case measure => simp [intOf]; omega
          · have key : decide (dw < 0) = true ∨ (decide (dw < 0) = false ∧ ((u : Int) == (b : Int)) = true) ∨ (decide (dw < 0) = false ∧ ((u : Int) == (b : Int)) = false ∧ decide ((m' : Int) ≤ s2) = true) := by
              by_cases h1 : dw < 0
              · exact .inl (decide_eq_true h1)
              · by_cases h2 : u = b
                · exact .inr (.inl ⟨decide_eq_false h1, by simp [h2]⟩)
                · exact .inr (.inr ⟨decide_eq_false h1, beq_eq_false_iff_ne.2 (by omega), decide_eq_true (by
                    rcases Int.lt_or_le s2 (m' : Int) with h3 | h3
                    · exact absurd ⟨by omega, h2, h3⟩ hgo
                    · exact h3)⟩)
            have HTN := Lib.hid (HT.out.next hu (fun h1 h2 => by
              rw [← hdw] at h1 ⊢
              rw [← HDV.out]
              rcases Int.lt_or_le s2 (m' : Int) with h3 | h3
              · exact absurd ⟨h1, h2, h3⟩ hgo
              · omega))
            have HU := Lib.hid hu
            clear hu hgo hdw hs1 hs2
            rcases key with z1 | ⟨z1, z2⟩ | ⟨z1, z2, z3⟩
            all_goals
              go_wp2_with fail
              go_quiet (fail)
              go_wp2_with fail
              go_roundw
              case rel => exact ⟨t + 1, m', b', bv', tb', by omega, by go_num, hmm, Lib.hid (HM.out.plus (below_drewN' (Below.refl _ _) _)), HTB', HTN⟩
              case measure => simp [intOf]; omega
        · obtain rfl : t = (gr E v).length := by omega
          go_wp2_with fail
          go_ret
          refine ⟨.inl ⟨rfl, tb', HEND2.out m' tb' b' bv' W wr hmm HM.out HT.out, HTB'.out, hct4.best.lt⟩, fo4⟩
end Go.Proofs.YtpkjdnplmgfbbaaDoor
