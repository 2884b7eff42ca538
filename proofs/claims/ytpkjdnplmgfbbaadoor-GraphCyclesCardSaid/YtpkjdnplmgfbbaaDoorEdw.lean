/- graph.edges, graph.undirected, graph.Undirected. -/
import Derived.Test.YtpkjdnplmgfbbaaDoorEdg
import Derived.Test.YtpkjdnplmgfbbaaDoorDsp
import Derived.RegionTactic
import Derived.ChangeAlike
namespace Go.Proofs.YtpkjdnplmgfbbaaDoor
open Go.RowKit Go.Maps

/-- The edges so far. -/
def cnt (E : List (List Nat)) (i t u v : Nat) : Nat := if u < i then (gr E u).count v else if u = i then ((gr E i).take t).count v else 0
def cI (E : List (List Nat)) (i t : Nat) (a b : Int) : Int := if 0 ≤ a ∧ 0 ≤ b then (cnt E i t a.toNat b.toNat : Nat) else 0
theorem cnt_zero (E : List (List Nat)) (u v : Nat) : cnt E 0 0 u v = 0 := by
  unfold cnt
  rw [if_neg (by omega)]
  split <;> first | rfl | simp
theorem cnt_next (E : List (List Nat)) (i u v : Nat) : cnt E i (gr E i).length u v = cnt E (i + 1) 0 u v := by
  unfold cnt
  rcases Nat.lt_trichotomy u i with h | h | h
  · rw [if_pos h, if_pos (by omega)]
  · subst h; rw [if_neg (by omega), if_pos rfl, if_pos (by omega), List.take_length]
  · rw [if_neg (by omega), if_neg (by omega), if_neg (by omega)]; split <;> first | rfl | simp
theorem cnt_all {E : List (List Nat)} (u v : Nat) : cnt E E.length 0 u v = (gr E u).count v := by
  unfold cnt
  by_cases h : u < E.length
  · rw [if_pos h]
  · rw [if_neg h]
    have : (gr E u).count v = 0 := by rw [gr_ge (by omega)]; rfl
    rw [this]
    split <;> first | rfl | simp
theorem cnt_step {E : List (List Nat)} {i t x : Nat} (hx : (gr E i)[t]? = some x) (u v : Nat) : cnt E i (t + 1) u v = if u = i ∧ v = x then cnt E i t u v + 1 else cnt E i t u v := by
  unfold cnt
  rw [List.take_add_one, hx, List.count_append]
  by_cases h : u = i
  · subst h
    by_cases e : v = x
    · subst e; simp
    · have : ([x] : List Nat).count v = 0 := List.count_eq_zero.2 (by simpa using e)
      simp [this, e]
  · simp [h]
theorem cI_small {E : List (List Nat)} (hd : ∀ v, (gr E v).length ≤ 400) (i t : Nat) (a b : Int) : 0 ≤ cI E i t a b ∧ cI E i t a b ≤ 400 := by
  unfold cI
  split
  · unfold cnt
    have h1 := List.count_le_length (a := b.toNat) (l := gr E a.toNat)
    have h2 := List.count_le_length (a := b.toNat) (l := (gr E i).take t)
    rw [List.length_take] at h2
    have := hd a.toNat
    have := hd i
    split
    · omega
    · split <;> omega
  · simp
theorem cI_next (E : List (List Nat)) (i : Nat) (a b : Int) : cI E i (gr E i).length a b = cI E (i + 1) 0 a b := by unfold cI; rw [cnt_next]
theorem cI_step {E : List (List Nat)} {i t x : Nat} (hx : (gr E i)[t]? = some x) (a b : Int) : cI E i (t + 1) a b = if a = i ∧ b = x then cI E i t a b + 1 else cI E i t a b := by
  unfold cI
  by_cases h : 0 ≤ a ∧ 0 ≤ b
  · rw [if_pos h, if_pos h, cnt_step hx]
    by_cases e : a = i ∧ b = x
    · rw [if_pos e, if_pos (by omega)]; simp
    · rw [if_neg e, if_neg (by omega)]
  · rw [if_neg h, if_neg h, if_neg (by omega)]
theorem cI_nat {E : List (List Nat)} (i t u v : Nat) : cI E i t u v = (cnt E i t u v : Nat) := by unfold cI; rw [if_pos (by omega)]; simp

theorem wf_int {a : Int} (h : -9223372036854775808 ≤ a ∧ a ≤ 9223372036854775807) : (Lit.int .i64 a).wf = true := by simp [Lit.wf]; exact h

/-- The map holds the edges so far. -/
def EIn (E : List (List Nat)) (i t : Nat) (D : DataW Unit) : Prop := ∀ a b : Int, (Lit.int .i64 a).wf = true → (Lit.int .i64 b).wf = true → D.atKey (ek a b) (.lit (.int .i64 0)) = .lit (.int .i64 (cI E i t a b))
theorem ek_key (a b : Int) : WideAt.IsKeyLit (ek a b) := trivial
theorem EIn.step {E : List (List Nat)} {i t x : Nat} {D : DataW Unit} (hD : IsMap D) (h : EIn E i t D) (hx : (gr E i)[t]? = some x) (hi : (Lit.int .i64 (i : Int)).wf = true) (hxw : (Lit.int .i64 (x : Int)).wf = true) : EIn E i (t + 1) (D.put (ek i x) (.lit (.int .i64 (cI E i t i x + 1)))) := by
  intro a b ha hb
  rw [cI_step hx]
  by_cases e : a = i ∧ b = x
  · obtain ⟨rfl, rfl⟩ := e
    rw [atKey_put_same hD (ek_key _ _), if_pos ⟨rfl, rfl⟩]
  · rw [atKey_put_other (fun hh => e (ek_inj ha hb hi hxw hh)), if_neg e]
    exact h a b ha hb
theorem EIn.next {E : List (List Nat)} {i : Nat} {D : DataW Unit} (h : EIn E i (gr E i).length D) : EIn E (i + 1) 0 D := fun a b ha hb => by rw [← cI_next]; exact h a b ha hb
theorem EIn.zero (E : List (List Nat)) : EIn E 0 0 (.map []) := fun a b _ _ => by
  have : cI E 0 0 a b = 0 := by unfold cI; rw [cnt_zero]; simp
  rw [this]; simp [DataW.atKey]

theorem edges_under : Tryd.prog.underlying 135 = some (.map 138 3) := by kernel_rfl
theorem zero_intE (w : World) : (zeroValue 3).run Tryd.prog w = .ok (.int .i64 0) w := by kernel_rfl

def EdgR (w : World) (E : List (List Nat)) (e : Ending) (w' : World) : Prop := ∃ M m D, e = .returned (.map (some M)) ∧ w'.ownsMap Tryd.prog 138 (plainElem (H := Unit) Tryd.prog 3) M m D ∧ EIn E E.length 0 D ∧ w.heap.size ≤ M ∧ Below w.heap.size w w'

set_option maxHeartbeats 2000000 in
set_option maxRecDepth 100000 in
theorem edges_any {w : World} {v : Value} {names : List ByteArray} {E : List (List Nat)} (h : GrV w v names (toI E)) (hk : Ok names E) :
    Calls Tryd.prog 116 #[v] w (EdgR w E) := by
  have hsm := hk.small
  obtain ⟨A, c, A', c', rfl, hs, hg⟩ := h
  rw [toI_length] at *
  have hr := hg.room
  unfold maxLen at hr
  obtain ⟨W, G, hW, hG, hbW, c0, c1, hGl, hwG⟩ := gbox w (.slice A names.length c) (.slice A' E.length c')
  replace hg := hg.below hbW
  have HW := Lib.hid hW
  have HG := Lib.hid hG
  have HK := Lib.hid hk
  clear hW hG c0 hs hk
  have hmm := @run_makeMap Tryd.prog
  obtain ⟨M, hM0⟩ : ∃ M, M = G + 1 := ⟨_, rfl⟩
  have hM : M = W.heap.size := by rw [hM0, HW.out, HG.out]; simp
  have HM0 := Lib.hid hM0
  clear hM0
  have hbM : Below W.heap.size W (W.alloc (.map #[] 0)) := (Below.refl _ _).alloc (Nat.le_refl _) _
  have how : (W.alloc (.map #[] 0)).ownsMap Tryd.prog 138 (plainElem (H := Unit) Tryd.prog 3) M 0 (.map []) := by rw [hM]; exact World.ownsMap_made _ _ _ _
  have c1' := ((bcell hbM).1 _ 1 hGl).trans c1
  have HM := Lib.hid hM
  clear hM
  go_enter Tryd.func116, Tryd.ntmps116
  go_wp2_with fail
  rw [← HW.out, ← HG.out, ← HM0.out]
  clear hmm c1
  generalize W.alloc (.map #[] 0) = W1 at *
  go_loopw [12] (fun i wr => ∃ (k m : Nat) (D : DataW Unit), k ≤ E.length ∧ i = .int .i64 (k : Nat) ∧ m ≤ k * 400 ∧ wr.ownsMap Tryd.prog 138 (plainElem (H := Unit) Tryd.prog 3) M m D ∧ Hid (EIn E k 0 D) ∧ Below W.heap.size W wr) (fun i _ => E.length - (intOf i).toNat)
  case atStart => exact ⟨0, 0, _, Nat.zero_le _, rfl, Nat.le_refl _, how, Lib.hid (EIn.zero E), hbM⟩
  case round =>
    clear how hbM c1'
    obtain ⟨k, m, D, hkl, rfl, hmk, hown, hin, hbr⟩ := hrel
    by_cases hlt : k < E.length
    · obtain ⟨b2, off2, A2, c2, rfl, hrow', hr3, hr4, hil⟩ := hg.row hlt
      have hrow := ((bcell hbr).1 _ _ (cell_some_lt hrow')).trans hrow'
      have hki : (k : Int) < (E.length : Int) := by omega
      have hdg := HK.out.deg k
      go_wp2_with fail
      go_loopw [19] (fun i wr => ∃ (t m : Nat) (D : DataW Unit), t ≤ (gr E k).length ∧ i = .int .i64 (t : Nat) ∧ m ≤ k * 400 + t ∧ wr.ownsMap Tryd.prog 138 (plainElem (H := Unit) Tryd.prog 3) M m D ∧ Hid (EIn E k t D) ∧ Below W.heap.size W wr) (fun i _ => (gr E k).length - (intOf i).toNat)
      case atStart => exact ⟨0, m, D, Nat.zero_le _, rfl, by omega, hown, hin, hbr⟩
      case round =>
        clear hown hin hbr hrow
        obtain ⟨t, m, D, htl, rfl, hmt, hown, hin, hbr⟩ := hrel
        by_cases htt : t < (gr E k).length
        · obtain ⟨x, hx⟩ : ∃ x, (gr E k)[t]? = some x := ⟨_, List.getElem?_eq_getElem htt⟩
          have hxl : x < E.length := HK.out.valid k hlt x (List.mem_of_getElem? hx)
          obtain ⟨b3, off3, rfl, hcx'⟩ := hil.num hx
          have hcx := ((bcell hbr).1 _ _ (cell_some_lt hcx')).trans hcx'
          have wk : (Lit.int .i64 (k : Int)).wf = true := wf_int (by omega)
          have wx : (Lit.int .i64 (x : Int)).wf = true := wf_int (by omega)
          have hown2 : wr.drew.ownsMap Tryd.prog 138 (plainElem (H := Unit) Tryd.prog 3) M m D := hown
          have hbr2 : Below W.heap.size W wr.drew := hbr.drew
          obtain ⟨cc, st, w1, hcw, hat, r1, r2, r3, r4⟩ := incr_run edge_law edges_under Tryd.underlying3 zero_intE hown2 (by unfold maxLen; omega) (keyOf_edge wk wx)
          have hcc : cc = cI E k t k x := by
            have := hat.symm.trans (hin.out k x wk wx)
            injection this with this
            injection this
          have hcs := cI_small HK.out.deg k t k x
          rw [← hcc] at hcs
          obtain ⟨w2, r5, r6, r7⟩ := r4 (cc + 1) (wf_int (by omega))
          have hin2 := hin.out.step hown.isMap hx wk wx
          rw [← hcc] at hin2
          have HIN2 := Lib.hid hin2
          have R6 := Lib.hid r6
          have R7 := Lib.hid r7
          have hw : IntKind.i64.wrap (cc + 1) = cc + 1 := IntWalk.i64_in _ (by omega)
          have HCC := Lib.hid hcc
          have HIN := Lib.hid hin2
          clear hin2 r6 r7 r4 hat hx hcw hcc hown hown2 hin
          go_wp2_with fail
          go_region
          all_goals
            go_wp2_with fail
            go_roundw
            case rel => exact ⟨t + 1, m + 1, _, by omega, by go_num, by omega, R6.out, HIN2, hbr2.grown R7.out hbr2.size (fun j hj => by cases hj; rw [HM.out]; exact Nat.le_refl _)⟩
            case measure => simp [intOf]; omega
        · obtain rfl : t = (gr E k).length := by omega
          go_wp2_with fail
          go_roundw
          case rel => exact ⟨k + 1, m, D, by omega, by go_num, by omega, hown, Lib.hid hin.out.next, hbr⟩
          case measure => simp [intOf]; omega
    · obtain rfl : k = E.length := by omega
      go_wp2_with fail
      go_ret
      exact ⟨M, m, D, rfl, hown, hin.out, by rw [HM.out]; exact hbW.size, hbW.trans (hbr.mono hbW.size)⟩

theorem cI_all {E : List (List Nat)} (a b : Int) : cI E E.length 0 a b = if 0 ≤ a ∧ 0 ≤ b then (((gr E a.toNat).count b.toNat : Nat) : Int) else 0 := by unfold cI; rw [cnt_all]
/-- Where two numbers of edges differ, the graph is not undirected. -/
theorem und_no {E : List (List Nat)} (hE : Valid E) {a b : Int} (h : cI E E.length 0 b a ≠ cI E E.length 0 a b) : ¬ Und E := by
  intro hu
  apply h
  rw [cI_all, cI_all]
  by_cases hn : 0 ≤ a ∧ 0 ≤ b
  · rw [if_pos hn, if_pos ⟨hn.2, hn.1⟩]
    obtain ⟨u, rfl⟩ := Int.eq_ofNat_of_zero_le hn.1
    obtain ⟨v, rfl⟩ := Int.eq_ofNat_of_zero_le hn.2
    simp only [Int.toNat_natCast]
    by_cases h1 : u < E.length
    · by_cases h2 : v < E.length
      · rw [hu u v h1 h2]
      · have e1 : (gr E u).count v = 0 := List.count_eq_zero.2 fun hm => h2 (hE u h1 v hm)
        rw [e1, gr_ge (by omega)]; rfl
    · have e1 : (gr E v).count u = 0 := List.count_eq_zero.2 fun hm => by
        have hv := gr_mem hm
        exact h1 (hE v hv u hm)
      rw [e1, gr_ge (by omega)]; rfl
  · rw [if_neg hn, if_neg (fun h => hn ⟨h.2, h.1⟩)]

open Classical in
/-- As many edges lead back. -/
noncomputable def undB (E : List (List Nat)) : Bool := decide (Und E)
theorem undB_true {E : List (List Nat)} : undB E = true ↔ Und E := by unfold undB; exact @decide_eq_true_iff _ (Classical.propDecidable _)
theorem undB_false {E : List (List Nat)} : undB E = false ↔ ¬ Und E := by unfold undB; exact @decide_eq_false_iff_not _ (Classical.propDecidable _)

/-- The keys that have been gone through. -/
def ChkK (E : List (List Nat)) (D : DataW Unit) (left : Lit → Bool) : Prop := ∀ a b : Int, (Lit.int .i64 a).wf = true → (Lit.int .i64 b).wf = true → Maps.has D (ek a b) = true → left (ek a b) = false → cI E E.length 0 b a = cI E E.length 0 a b
theorem ChkK.step {E : List (List Nat)} {D : DataW Unit} {left : Lit → Bool} (h : ChkK E D left) {a b : Int} (ha : (Lit.int .i64 a).wf = true) (hb : (Lit.int .i64 b).wf = true) (he : cI E E.length 0 b a = cI E E.length 0 a b) : ChkK E D fun z => left z && !z.sameKey (ek a b) := by
  intro x y hx hy hh hl
  simp only [Bool.and_eq_false_iff, Bool.not_eq_false'] at hl
  rcases hl with hl | hl
  · exact h x y hx hy hh hl
  · obtain ⟨rfl, rfl⟩ := ek_inj hx hy ha hb (WideAt.sameKey_eq hl)
    exact he
theorem ChkK.done {E : List (List Nat)} {D : DataW Unit} {left : Lit → Bool} (hin : EIn E E.length 0 D) (hn : E.length ≤ 2500) (h : ChkK E D left) (hl : ∀ kl, left kl = false) : Und E := by
  intro u v hu hv
  have wu : (Lit.int .i64 (u : Int)).wf = true := wf_int (by omega)
  have wv : (Lit.int .i64 (v : Int)).wf = true := wf_int (by omega)
  have hz : ∀ x y : Nat, (Lit.int .i64 (x : Int)).wf = true → (Lit.int .i64 (y : Int)).wf = true → Maps.has D (ek x y) = false → (gr E x).count y = 0 := by
    intro x y hx hy hh
    have h1 := hin x y hx hy
    rw [atKey_of_not_has hh, cI_nat, cnt_all] at h1
    injection h1 with h1
    injection h1 with _ h1
    omega
  have hc : ∀ x y : Nat, (Lit.int .i64 (x : Int)).wf = true → (Lit.int .i64 (y : Int)).wf = true → Maps.has D (ek x y) = true → (gr E y).count x = (gr E x).count y := by
    intro x y hx hy hh
    have h1 := h x y hx hy hh (hl _)
    rw [cI_nat, cI_nat, cnt_all, cnt_all] at h1
    omega
  cases h1 : Maps.has D (ek u v)
  · cases h2 : Maps.has D (ek v u)
    · rw [hz u v wu wv h1, hz v u wv wu h2]
    · exact hc v u wv wu h2
  · exact (hc u v wu wv h1).symm

def UndR (w : World) (E : List (List Nat)) (e : Ending) (w' : World) : Prop := e = .returned (.bool (undB E)) ∧ Below w.heap.size w w'
theorem undR_of {w w' : World} {E : List (List Nat)} {b : Bool} (h : undB E = b) (hb : Below w.heap.size w w') : UndR w E (.returned (.bool b)) w' := ⟨by rw [h], hb⟩

set_option maxHeartbeats 2000000 in
set_option maxRecDepth 100000 in
theorem undirected_any {w : World} {v : Value} {names : List ByteArray} {E : List (List Nat)} (h : GrV w v names (toI E)) (hk : Ok names E) :
    Calls Tryd.prog 72 #[v] w (UndR w E) := by
  have hsm := hk.small
  have HED := Lib.hid (fun w' hb => edges_any (h.at w' hb) hk)
  have HVA := Lib.hid hk.valid
  have HDG := Lib.hid hk.deg
  obtain ⟨A, c, A', c', rfl, hs, hg⟩ := h
  obtain ⟨W, G, hW, hG, hbW, c0, c1, hGl, hwG⟩ := gbox w (.slice A names.length c) (.slice A' (toI E).length c')
  have HW := Lib.hid hW
  have HG := Lib.hid hG
  clear hW hG hs hg hk
  go_enter Tryd.func72, Tryd.ntmps72
  go_wp2_with (first
    | (go_at_call 116; rw [← HW.out]; refine (HED.out _ hbW).mono ?_; rintro e w1 ⟨M, m, D, rfl, hown, hin, hM, hb1⟩; have HIN := Lib.hid hin; clear hin)
    | (at_range; (refine wpList_range_own _ rfl _ 135 rfl 138 3 edge_keyed edges_under _ M m D rfl hown ?_); intro w0 hrg0 hg0 hs0))
  go_frame
  obtain ⟨r, hr⟩ : ∃ r, r = w1.heap.size := ⟨_, rfl⟩
  rw [← hr] at hrg0 ⊢
  have hwr : w.heap.size ≤ r := by rw [hr]; exact Nat.le_trans hbW.size hb1.size
  have hb2 : Below w.heap.size w w0 := (hbW.trans (hb1.mono hbW.size)).grown hg0 (Nat.le_trans hbW.size hb1.size) (fun j hj => by cases hj)
  have hD := hown.isMap
  have hMr : M ≠ r := by have := hown.lt; omega
  clear hr hg0 hs0 hown hb1
  go_loopw [4] (fun _ wr => ∃ (left : Lit → Bool) (q : Nat), wr.ranges Tryd.prog 138 (plainElem (H := Unit) Tryd.prog 3) M r m D left q ∧ Hid (ChkK E D left) ∧ Below w.heap.size w wr) (fun _ wr => wr.rangeLeft M r)
  case atStart => exact ⟨_, _, hrg0, Lib.hid (fun a b _ _ h1 h2 => by rw [h1] at h2; cases h2), hb2⟩
  case round =>
    clear hrg0 hb2
    obtain ⟨left, q, hrg, hck, hbr⟩ := hrel
    have HCK := Lib.hid hck.out
    have HRGL := Lib.hid hrg.left_eq
    clear hck
    go_wp2_with (at_next; (refine wpList_next_ranges _ rfl _ (by rfl) 138 edge_keyed (plainElem Tryd.prog 3) (fun x : Int × Int => Value.agg #[.int .i64 x.1, .int .i64 x.2]) (Value.int .i64) (fun key kl hkey => by obtain ⟨a, b, rfl, _⟩ := edge_inv hkey; exact ⟨(a, b), rfl⟩) (fun v y hv => by obtain ⟨c, rfl, _⟩ := plainElem_int_inv Tryd.underlying3 hv; exact ⟨c, rfl⟩) M r m D left q (by rfl) hrg ?_ ?_))
    · intro hq hl
      have hu : undB E = true := undB_true.2 (HCK.out.done HIN.out hsm hl)
      have HU := Lib.hid hu
      clear hu hl hq
      go_wp2_with fail
      go_ret
      exact undR_of HU.out hbr
    · intro a b c kl d ps w3 q3 hkey hlx hRv hat hrg3 hlt hg3 hs3 hen
      obtain ⟨a', b', hab, wa, wb, rfl⟩ := edge_inv hkey
      obtain ⟨rfl, rfl⟩ : a = a' ∧ b = b' := by simpa using hab
      obtain ⟨c', hc1, hc2, wc⟩ := plainElem_int_inv Tryd.underlying3 hRv
      have hcc : c = c' := by injection hc1
      subst hcc
      have hcv : c = cI E E.length 0 a b := by
        have h1 := HIN.out a b wa wb
        rw [hat] at h1
        simp only [Prod.mk.injEq] at hc2
        rw [hc2.1] at h1
        injection h1 with h1
        injection h1
      have HCV := Lib.hid hcv
      have hb4 : Below w.heap.size w w3 := hbr.grown hg3 hbr.size (fun j hj => by cases hj; exact hwr)
      clear hcv hc2 hc1 hab hat hRv hkey hlx hg3 hs3 hrg
      have hrg4 := hrg3.alloc (.cells #[.int .i64 a, .int .i64 b] 138)
      have hb5 : Below w.heap.size w (w3.alloc (.cells #[.int .i64 a, .int .i64 b] 138)) := hb4.alloc hb4.size _
      have how4 := hrg4.owns
      have HRG4 := Lib.hid hrg4
      have hval := HIN.out b a wb wa
      have HVAL := Lib.hid hval
      clear hval hrg4
      by_cases hne : cI E E.length 0 b a = cI E E.length 0 a b
      · have HNE := Lib.hid hne
        clear hne
        go_wp2_with (at_lookup; (refine wpList_lookup_own_int _ rfl _ _ 135 rfl 138 3 .i64 edge_keyed edges_under Tryd.underlying3 (zero_intE _) M m D rfl how4 _ _ rfl (keyOf_edge wb wa) ?_); intro cc hat2 hwc2; obtain rfl : cc = c := (by have h9 := hat2.symm.trans HVAL.out; injection h9 with h9; injection h9 with _ h9; rw [h9, HNE.out, HCV.out]))
        go_roundw
        case rel => exact ⟨_, q3, HRG4.out, Lib.hid (HCK.out.step wa wb HNE.out), hb5⟩
        case measure => rw [HRG4.out.left_eq, HRGL.out]; exact hlt
      · have hu : undB E = false := undB_false.2 (und_no HVA.out hne)
        have HU := Lib.hid hu
        have hcc2 : (cI E E.length 0 b a != c) = true := by rw [HCV.out]; simpa using hne
        have HCC2 := Lib.hid hcc2
        clear hu hne hcc2
        go_wp2_with (at_lookup; (refine wpList_lookup_own_int _ rfl _ _ 135 rfl 138 3 .i64 edge_keyed edges_under Tryd.underlying3 (zero_intE _) M m D rfl how4 _ _ rfl (keyOf_edge wb wa) ?_); intro cc hat2 hwc2; have hcn : (cc != c) = true := (by have h9 := hat2.symm.trans HVAL.out; injection h9 with h9; injection h9 with _ h9; rw [h9]; exact HCC2.out))
        go_ret
        exact undR_of HU.out hb5
end Go.Proofs.YtpkjdnplmgfbbaaDoor
