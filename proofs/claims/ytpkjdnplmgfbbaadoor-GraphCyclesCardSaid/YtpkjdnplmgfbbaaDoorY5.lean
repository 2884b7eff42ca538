/- The reference's cycleFrom. The reference's Girth. -/
import Derived.Test.YtpkjdnplmgfbbaaDoorY2
import Derived.Test.YtpkjdnplmgfbbaaDoorZw
import Derived.Test.YtpkjdnplmgfbbaaDoorY4
namespace Go.Proofs.YtpkjdnplmgfbbaaDoor
open Go.RowKit

set_option maxHeartbeats 2000000 in
set_option maxRecDepth 100000 in
theorem bHas_any {w : World} {A : Option Addr} {n c : Nat} {l : List Nat} (hl : Il w A n c (wlkI l)) (x : Nat) :
    Calls Tryd.prog 127 #[.slice A n c, .int .i64 (x : Nat)] w (CyR w (decide (x ∈ l))) := by
  have hln : l.length = n := by have := hl.len; unfold wlkI at this; rwa [List.length_map] at this
  have hr := hl.room
  unfold maxLen at hr
  have HLN := Lib.hid hln
  have HL := Lib.hid hl
  clear hl hln
  go_enter Tryd.func127, Tryd.ntmps127
  go_wp2_with fail
  go_loopw [5] (fun i wr => ∃ k : Nat, k ≤ n ∧ i = .int .i64 (k : Nat) ∧ Hid (∀ j y, j < k → l[j]? = some y → y ≠ x) ∧ Below w.heap.size w wr) (fun i _ => n - (intOf i).toNat)
  case atStart => exact ⟨0, Nat.zero_le _, rfl, Lib.hid (fun j y hj => by omega), Below.refl _ _⟩
  case round =>
    obtain ⟨k, hkl, rfl, HT, hbr⟩ := hrel
    by_cases hlt : k < n
    · obtain ⟨y, hy⟩ : ∃ y, l[k]? = some y := ⟨_, List.getElem?_eq_getElem (by rw [HLN.out]; exact hlt)⟩
      obtain ⟨b, off, rfl, cy⟩ := (HL.out.below hbr).num hy
      have HY := Lib.hid hy
      clear hy
      have hki : (k : Int) < (n : Int) := by omega
      have hk0 : (0 : Int) ≤ (k : Int) := by omega
      by_cases he : y = x
      · have hz : ((y : Int) == (x : Int)) = true := by simp [he]
        have HE := Lib.hid (show true = decide (x ∈ l) from (decide_eq_true (he ▸ List.mem_of_getElem? HY.out)).symm)
        clear he
        go_wp2_with fail
        go_ret
        exact cyR_of HE.out hbr
      · have hz : ((y : Int) == (x : Int)) = false := beq_eq_false_iff_ne.2 (by omega)
        have HE := Lib.hid he
        clear he
        go_wp2_with fail
        go_roundw
        case rel =>
          refine ⟨k + 1, by omega, by go_num, Lib.hid fun j y' hj hy' => ?_, hbr⟩
          rcases Nat.lt_or_ge j k with h1 | h1
          · exact HT.out j y' h1 hy'
          · obtain rfl : j = k := by omega
            have := HY.out.symm.trans hy'
            cases this
            exact HE.out
        case measure => simp [intOf]; omega
    · obtain rfl : k = n := by omega
      have HE := Lib.hid (show false = decide (x ∈ l) from (decide_eq_false (fun h => by
        obtain ⟨j, hj, hj2⟩ := mem_getElem h
        exact HT.out j x (by rw [HLN.out] at hj; exact hj) hj2 rfl)).symm)
      go_wp2_with fail
      go_ret
      exact cyR_of HE.out hbr

theorem wpList_wanted {P : Program} {ops : Array Oper} {Q : Exit → Act → World → Prop} {a : Act} {w : World} {rest : List Oper} {o : Oper} (hw : Region.wanted o (yielded ops a.tmps) = true)
    (h : ∀ K : Act → World → Prop, (∀ a w, wpList P ops Q rest a w → K a w) → o.wp P a w K Q) : wpList P ops Q (o :: rest) a w :=
  wpList_step fun K hK => by simp only [hw, if_true]; exact h K hK
theorem run_bs0 (w : World) : (Instr.buildSlice 28 0 #[]).run Tryd.prog w = .ok (.slice (some ⟨w.heap.size, 0, none⟩) 0 0) (w.alloc (.cells #[] 3)) := by kernel_rfl
theorem run_bs1 (w : World) (x : Int) : (Instr.buildSlice 28 1 #[(0, .int .i64 x)]).run Tryd.prog w = .ok (.slice (some ⟨w.heap.size, 0, none⟩) 1 1) (w.alloc (.cells #[.int .i64 x] 3)) := by kernel_rfl
/-- []int{} under a guard that holds. -/
theorem wpList_bs0 {ops : Array Oper} {Q : Exit → Act → World → Prop} {a : Act} {w : World} {rest : List Oper} {o : Oper} (d : Nat) (hw : Region.wanted o (yielded ops a.tmps) = true) (hd : o.dst = some d) (ho : o.op = .buildSlice 28 0 #[])
    (h : wpList Tryd.prog ops Q rest { a with tmps := a.tmps.setIfInBounds d (.slice (some ⟨w.heap.size, 0, none⟩) 0 0) } (w.alloc (.cells #[] 3))) : wpList Tryd.prog ops Q (o :: rest) a w := by
  refine wpList_wanted hw fun K hK => ?_
  unfold Oper.wp execOp
  have e : ((#[] : Array (Nat × Operand)).map fun (i, x) => (i, a.eval x)) = #[] := by simp
  simp only [ho, e, Sem.run_bind, run_bs0, Result.andThen_ok]
  exact hK _ _ (by rw [put_some hd]; exact h)
/-- []int{x} under a guard that holds. -/
theorem wpList_bs1 {ops : Array Oper} {Q : Exit → Act → World → Prop} {a : Act} {w : World} {rest : List Oper} {o : Oper} (d : Nat) (hw : Region.wanted o (yielded ops a.tmps) = true) (hd : o.dst = some d) (y : Operand) (ho : o.op = .buildSlice 28 1 #[(0, y)]) (x : Int) (hx : a.eval y = .int .i64 x)
    (h : wpList Tryd.prog ops Q rest { a with tmps := a.tmps.setIfInBounds d (.slice (some ⟨w.heap.size, 0, none⟩) 1 1) } (w.alloc (.cells #[.int .i64 x] 3))) : wpList Tryd.prog ops Q (o :: rest) a w := by
  refine wpList_wanted hw fun K hK => ?_
  unfold Oper.wp execOp
  have e : ((#[(0, y)] : Array (Nat × Operand)).map fun (i, x) => (i, a.eval x)) = #[(0, .int .i64 x)] := by simp [hx]
  simp only [ho, e, Sem.run_bind, run_bs1, Result.andThen_ok]
  exact hK _ _ (by rw [put_some hd]; exact h)
/-- append of numbers under a guard that holds. -/
theorem wpList_appW {w0 : World} {ops : Array Oper} {rest : List Oper} {o : Oper} {a : Act} {Q : Exit → Act → World → Prop} (d : Nat) (hgd : Region.wanted o (yielded ops a.tmps) = true) (hd : o.dst = some d) (s x : Operand)
    (ho : o.op = .call { callee := .builtin .append, args := #[s, x], argTypes := #[28, 28] }) (base : Nat) (v : Value) (l m : List Nat) (n k : Nat) (hln : l.length = n) (hlm : m.length = k) (hs : a.eval s = v) (hown : OwnN w0 base v l) (A : Option Addr) (c : Nat) (hx : a.eval x = .slice A k c) (hr : Src w0 1 A k (nc m))
    (h63 : n + k ≤ 1000000000) (hbase : base ≤ w0.heap.size) (r : Nat) (hnk : n + k = r)
    (h : ∀ A' c' w', OwnN w' base (.slice A' r c') (l ++ m) → w0.grownBy w' v.ownBlock → Below base w0 w' → wpList Tryd.prog ops Q rest { a with tmps := a.tmps.setIfInBounds d (.slice A' r c') } w') :
    wpList Tryd.prog ops Q (o :: rest) a w0 := by
  subst hln hlm hnk
  refine wpList_wanted hgd fun K hK => ?_
  refine wp_app _ s x 28 28 ho base 3 3 (.int .i64 0) 1 8 Tryd.underlying28 Tryd.underlying28 info_int rfl (by omega) v l.length (nc l) hs hown A m.length c (nc m) hx hr (fun u hu => by unfold nc at hu; obtain ⟨y, _, rfl⟩ := List.mem_map.1 hu; rfl) (by unfold maxLen; omega) (by omega) hbase ?_
  intro v' w' hown' hg hob
  obtain ⟨A', c', rfl, _, _⟩ := own_slice hown'
  rw [put_some hd]
  refine hK _ _ (h A' c' w' ?_ hg ((Below.refl _ _).grown hg hbase (fun k hk => (World.ownsRow.lt hown k hk).1)))
  unfold OwnN
  rw [List.length_append]
  have e : nc (l ++ m) = nc l ++ nc m := by simp [nc]
  rw [e]
  exact hown'

/-- What cycleFrom says, n vertices before the end. -/
def CyF (E : List (List Nat)) : Nat → List Nat → Prop
  | 0, l => IsCyc E l
  | n + 1, l => ∃ j, j < E.length ∧ 0 < (gr E (lastN l)).count j ∧ j ∉ l ∧ CyF E n (l ++ [j])
def CyStep (E : List (List Nat)) (n : Nat) (l : List Nat) (j : Nat) : Prop := j < E.length ∧ 0 < (gr E (lastN l)).count j ∧ j ∉ l ∧ CyF E n (l ++ [j])
open Classical in
noncomputable def cyFB (E : List (List Nat)) (n : Nat) (l : List Nat) : Bool := decide (CyF E n l)
theorem cyFB_true {E : List (List Nat)} {n : Nat} {l : List Nat} (h : CyF E n l) : true = cyFB E n l := by simp [cyFB, h]
theorem cyFB_false {E : List (List Nat)} {n : Nat} {l : List Nat} (h : ¬ CyF E n l) : false = cyFB E n l := by simp [cyFB, h]
theorem cyFB_zero {E : List (List Nat)} {l : List Nat} : cycB E l = cyFB E 0 l := rfl
theorem cyFB_iff {E : List (List Nat)} {n : Nat} {l : List Nat} : cyFB E n l = true ↔ CyF E n l := by simp [cyFB]
theorem cyf_next {E : List (List Nat)} {n t : Nat} {l : List Nat} (h : ∀ j, j < t → ¬ CyStep E n l j) (h2 : ¬ CyStep E n l t) : ∀ j, j < t + 1 → ¬ CyStep E n l j := by
  intro j hj
  rcases Nat.lt_or_ge j t with h1 | h1
  · exact h j h1
  · obtain rfl : j = t := by omega
    exact h2

set_option maxHeartbeats 8000000 in
set_option maxRecDepth 100000 in
theorem rcycleFrom_any {names : List ByteArray} {E : List (List Nat)} (hk : Ok names E) (N : Nat) (hN : N ≤ 1000000) : ∀ (n : Nat) (l : List Nat) (w : World) (v : Value) (A : Option Addr) (c q : Nat), l.length = q + 1 → q + 1 + n = N → (∀ x ∈ l, x < E.length) → GrV w v names (toI E) → Il w A (q + 1) c (wlkI l) →
    Calls Tryd.prog 96 #[v, .slice A (q + 1) c, .int .i64 (N : Nat)] w (CyR w (cyFB E n l)) := by
  have hsm := hk.small
  intro n
  induction n with
  | zero =>
    intro l w v A c q hl hq hv h hil
    have HCY := Lib.hid (fun w' (hb : Below w.heap.size w w') => rIsCycle_ok (h.at w' hb) (hil.below hb) (by omega) hv)
    obtain ⟨A1, c1, A', c', rfl, hs, hg⟩ := h
    obtain ⟨W, G, hW, hG, hbW, c0, c1', hGl, hwG⟩ := gbox w (.slice A1 names.length c1) (.slice A' (toI E).length c')
    have hz : ((q : Int) + 1 == (N : Int)) = true := by simp; omega
    have hz' : (((q + 1 : Nat) : Int) == (N : Int)) = true := by simp; omega
    have HW := Lib.hid hW
    have HG := Lib.hid hG
    clear hW hG hs hg hil hl hv hq
    go_enter Tryd.func96, Tryd.ntmps96
    go_wp2_with fail
    rw [← HW.out, ← HG.out]
    go_wp2_with (go_at_call 97; refine (HCY.out _ hbW).mono ?_; rintro e w6 ⟨rfl, hb6⟩)
    go_ret
    exact cyR_of cyFB_zero (hbW.trans (hb6.mono hbW.size))
  | succ n ih =>
    intro l w v A c q hl hq hv h hil
    obtain ⟨x, hx⟩ : ∃ x, l[q]? = some x := ⟨_, List.getElem?_eq_getElem (by omega)⟩
    have hla : lastN l = x := by unfold lastN; rw [hl]; exact getD_some hx
    have hxE : x < E.length := hv x (List.mem_of_getElem? hx)
    have hr := hil.room
    unfold maxLen at hr
    have HIH := Lib.hid (fun (l : List Nat) (w' : World) (hb : Below w.heap.size w w') (A : Option Addr) (c q : Nat) (hl : l.length = q + 1) (hq : q + 1 + n = N) (hv : ∀ x ∈ l, x < E.length) (hil : Il w' A (q + 1) c (wlkI l)) => ih l w' _ A c q hl hq hv (h.at w' hb) hil)
    have HCNT := Lib.hid (fun w' (hb : Below w.heap.size w w') (y : Nat) => gi_cntC ▸ rcount_any (h.at w' hb) hxE (y : Int))
    obtain ⟨A1, c1, A', c', hvv, hs, hg⟩ := h
    rw [toI_length] at hvv hg
    subst hvv
    have hrg := hg.room
    unfold maxLen at hrg
    obtain ⟨W, G, hW, hG, hbW, c0, c1', hGl, hwG⟩ := gbox w (.slice A1 names.length c1) (.slice A' E.length c')
    obtain ⟨b, off, rfl, hcx⟩ := (hil.below hbW).num hx
    have hq0 : (0 : Int) ≤ (q : Int) := by omega
    have hz1 : ((q : Int) + 1 == (N : Int)) = false := beq_eq_false_iff_ne.2 (by omega)
    have hz1' : (((q + 1 : Nat) : Int) == (N : Int)) = false := beq_eq_false_iff_ne.2 (by omega)
    have HW := Lib.hid hW
    have HG := Lib.hid hG
    have HLA := Lib.hid hla
    have HIL := Lib.hid hil
    have HLN := Lib.hid hl
    have HX := Lib.hid hx
    have HV := Lib.hid hv
    have HQ := Lib.hid hq
    clear hW hG hs hg hil hx hla hl ih hv hq
    go_enter Tryd.func96, Tryd.ntmps96
    go_upto_region 1 with (fail)
    rw [← HW.out, ← HG.out]
    go_wp2_with fail
    clear hz1 hz1' hcx
    go_loopw [8] (fun iv wr => ∃ t : Nat, t ≤ E.length ∧ iv = .int .i64 (t : Nat) ∧ Hid (∀ j, j < t → ¬ CyStep E n l j) ∧ Below W.heap.size W wr) (fun iv _ => E.length - (intOf iv).toNat)
    case atStart => exact ⟨0, Nat.zero_le _, rfl, Lib.hid (fun j hj => by omega), Below.refl _ _⟩
    case round =>
      obtain ⟨t, htl, rfl, HT, hbr⟩ := hrel
      obtain ⟨d0, d1⟩ := keep2 hbr c0 c1'
      have hbw := hbW.trans (hbr.mono hbW.size)
      by_cases htt : t < E.length
      · have hti : (t : Int) < (E.length : Int) := by omega
        have ht0 : (0 : Int) ≤ (t : Int) := by omega
        have hGr : G < wr.heap.size := Nat.lt_of_lt_of_le hGl hbr.size
        have hdr : Below wr.heap.size wr wr.drew := (Below.refl _ _).drew
        have HC1 := Lib.hid (fun w' (hb : Below wr.heap.size wr w') => HCNT.out w' (hbw.trans (hb.mono hbw.size)) t)
        obtain ⟨m, hmc⟩ : ∃ m, m = (gr E x).count t := ⟨_, rfl⟩
        rw [← hmc] at HC1
        have HMC := Lib.hid hmc
        clear hmc
        have HHAS := Lib.hid (fun w' (hb : Below wr.heap.size wr w') (t : Nat) => bHas_any (HIL.out.below (hbw.trans (hb.mono hbw.size))) t)
        by_cases hc0 : m = 0
        · have hz : decide ((0 : Int) < (m : Nat)) = false := decide_eq_false (by omega)
          have hz2 : decide (0 < m) = false := decide_eq_false (by omega)
          have HNO := Lib.hid (show ¬ CyStep E n l t from fun h => by have h1 := h.2.1; rw [HLA.out, ← HMC.out] at h1; omega)
          clear hc0
          go_upto_region 7 with (fail)
          refine wp_region_trj (.read 0 (.read 1 (.read 2 (.step 3 (.read 4 (.read 5 (.read 6 (.read 7 (.step 8 (.read 9 (.read 10 (.read 11 (.read 12 (.read 14 (.read 16 (.read 19 (.two 13 17 (.two 15 17 (.step 17 (.step 18 (.step 20 (.step 21 .nil)))) (.step 15 (.step 18 (.step 20 (.step 21 .nil))))) (.step 13 (.step 15 (.step 18 (.step 20 (.step 21 .nil)))))))))))))))))))))) (by kernel_rfl) (by rfl) (by kernel_rfl) (by kernel_rfl) (fun _ _ _ _ _ h => h) (Same wr) ?_
          change goU _ _ _ _ _ _ wr.drew
          have hs0 := same_drew wr
          refine goU_readA 29 hs0 (by rfl) (by rfl) ?_ (by rfl) (fun wz hSw => ?_) ?_
          rotate_left
          · (try obtain ⟨hs1, hs2⟩ := hSw)
            go_simp
            try with_reducible rfl
          simp only [List.setIfInBounds_toArray, List.set]
          refine goU_readA 30 hs0 (by rfl) (by rfl) ?_ (by rfl) (fun wz hSw => ?_) ?_
          rotate_left
          · (try obtain ⟨hs1, hs2⟩ := hSw)
            go_simp
            try with_reducible rfl
          simp only [List.setIfInBounds_toArray, List.set]
          refine goU_readA 31 hs0 (by rfl) (by rfl) ?_ (by rfl) (fun wz hSw => ?_) ?_
          rotate_left
          · (try obtain ⟨hs1, hs2⟩ := hSw)
            go_simp
            try with_reducible rfl
          simp only [List.setIfInBounds_toArray, List.set]
          refine goU_step hs0 (by rfl) ?_
          go_wp2_with (go_at_call 71; refine (HC1.out _ hdr).mono ?_; rintro e w5 ⟨rfl, hb5⟩)
          have hb5x := hdr.trans (hb5.mono hdr.size)
          refine goU_readA 33 (same_below hb5x) (by rfl) (by rfl) ?_ (by rfl) (fun wz hSw => ?_) ?_
          rotate_left
          · (try obtain ⟨hs1, hs2⟩ := hSw)
            go_simp
            try with_reducible rfl
          simp only [List.setIfInBounds_toArray, List.set]
          refine goU_readA 34 (same_below hb5x) (by rfl) (by rfl) ?_ (by rfl) (fun wz hSw => ?_) ?_
          rotate_left
          · (try obtain ⟨hs1, hs2⟩ := hSw)
            go_simp
            try with_reducible rfl
          simp only [List.setIfInBounds_toArray, List.set]
          refine goU_skipA 35 (same_below hb5x) (by rfl) (by rfl) (by rfl) ?_
          simp only [List.setIfInBounds_toArray, List.set]
          refine goU_skipA 36 (same_below hb5x) (by rfl) (by rfl) (by rfl) ?_
          simp only [List.setIfInBounds_toArray, List.set]
          refine goU_stepSkipA 37 (same_below hb5x) (by rfl) (by rfl) (by rfl) ?_
          simp only [List.setIfInBounds_toArray, List.set]
          refine goU_skipA 38 (same_below hb5x) (by rfl) (by rfl) (by rfl) ?_
          simp only [List.setIfInBounds_toArray, List.set]
          refine goU_readA 39 (same_below hb5x) (by rfl) (by rfl) ?_ (by rfl) (fun wz hSw => ?_) ?_
          rotate_left
          · (try obtain ⟨hs1, hs2⟩ := hSw)
            go_simp
            try with_reducible rfl
          simp only [List.setIfInBounds_toArray, List.set]
          refine goU_readA 40 (same_below hb5x) (by rfl) (by rfl) ?_ (by rfl) (fun wz hSw => ?_) ?_
          rotate_left
          · (try obtain ⟨hs1, hs2⟩ := hSw)
            go_simp
            try with_reducible rfl
          simp only [List.setIfInBounds_toArray, List.set]
          refine goU_skipA 41 (same_below hb5x) (by rfl) (by rfl) (by rfl) ?_
          simp only [List.setIfInBounds_toArray, List.set]
          refine goU_skipA 43 (same_below hb5x) (by rfl) (by rfl) (by rfl) ?_
          simp only [List.setIfInBounds_toArray, List.set]
          refine goU_skipA 45 (same_below hb5x) (by rfl) (by rfl) (by rfl) ?_
          simp only [List.setIfInBounds_toArray, List.set]
          refine goU_skipA 48 (same_below hb5x) (by rfl) (by rfl) (by rfl) ?_
          simp only [List.setIfInBounds_toArray, List.set]
          refine goU_twoSkipA 42 46 (same_below hb5x) (by rfl) (by rfl) (by rfl) (by rfl) (by rfl) (by rfl) ?_ ?_
          · simp only [List.setIfInBounds_toArray, List.set]
            refine goU_twoSkipA 44 46 (same_below hb5x) (by rfl) (by rfl) (by rfl) (by rfl) (by rfl) (by rfl) ?_ ?_
            · simp only [List.setIfInBounds_toArray, List.set]
              refine goU_stepSkipA 46 (same_below hb5x) (by rfl) (by rfl) (by rfl) ?_
              simp only [List.setIfInBounds_toArray, List.set]
              refine goU_stepSkipA 47 (same_below hb5x) (by rfl) (by rfl) (by rfl) ?_
              simp only [List.setIfInBounds_toArray, List.set]
              refine goU_stepSkipA 49 (same_below hb5x) (by rfl) (by rfl) (by rfl) ?_
              simp only [List.setIfInBounds_toArray, List.set]
              refine goU_step (same_below hb5x) (by rfl) ?_
              go_wp2_with fail
              refine goU_nil (same_below hb5x) ?_
              go_wp2_with fail
              go_roundw
              case rel => exact ⟨t + 1, by omega, by go_num, Lib.hid (cyf_next HT.out HNO.out), hbr.trans ((hb5x).mono hbr.size)⟩
              case measure => simp [intOf]; omega
            · simp only [List.setIfInBounds_toArray, List.set]
              refine goU_stepSkipA 44 (same_below hb5x) (by rfl) (by rfl) (by rfl) ?_
              simp only [List.setIfInBounds_toArray, List.set]
              refine goU_stepSkipA 47 (same_below hb5x) (by rfl) (by rfl) (by rfl) ?_
              simp only [List.setIfInBounds_toArray, List.set]
              refine goU_stepSkipA 49 (same_below hb5x) (by rfl) (by rfl) (by rfl) ?_
              simp only [List.setIfInBounds_toArray, List.set]
              refine goU_step (same_below hb5x) (by rfl) ?_
              go_wp2_with fail
              refine goU_nil (same_below hb5x) ?_
              go_wp2_with fail
              go_roundw
              case rel => exact ⟨t + 1, by omega, by go_num, Lib.hid (cyf_next HT.out HNO.out), hbr.trans ((hb5x).mono hbr.size)⟩
              case measure => simp [intOf]; omega
          · simp only [List.setIfInBounds_toArray, List.set]
            refine goU_stepSkipA 42 (same_below hb5x) (by rfl) (by rfl) (by rfl) ?_
            simp only [List.setIfInBounds_toArray, List.set]
            refine goU_stepSkipA 44 (same_below hb5x) (by rfl) (by rfl) (by rfl) ?_
            simp only [List.setIfInBounds_toArray, List.set]
            refine goU_stepSkipA 47 (same_below hb5x) (by rfl) (by rfl) (by rfl) ?_
            simp only [List.setIfInBounds_toArray, List.set]
            refine goU_stepSkipA 49 (same_below hb5x) (by rfl) (by rfl) (by rfl) ?_
            simp only [List.setIfInBounds_toArray, List.set]
            refine goU_step (same_below hb5x) (by rfl) ?_
            go_wp2_with fail
            refine goU_nil (same_below hb5x) ?_
            go_wp2_with fail
            go_roundw
            case rel => exact ⟨t + 1, by omega, by go_num, Lib.hid (cyf_next HT.out HNO.out), hbr.trans ((hb5x).mono hbr.size)⟩
            case measure => simp [intOf]; omega
        · have hz : decide ((0 : Int) < (m : Nat)) = true := decide_eq_true (by omega)
          have hz2 : decide (0 < m) = true := decide_eq_true (by omega)
          by_cases hm : t ∈ l
          · have HM := Lib.hid (show decide (t ∈ l) = true from decide_eq_true hm)
            have HNO := Lib.hid (show ¬ CyStep E n l t from fun h => h.2.2.1 hm)
            clear hc0 hm
            go_upto_region 7 with (fail)
            refine wp_region_trj (.read 0 (.read 1 (.read 2 (.step 3 (.read 4 (.read 5 (.read 6 (.read 7 (.step 8 (.read 9 (.read 10 (.read 11 (.read 12 (.read 14 (.read 16 (.read 19 (.two 13 17 (.two 15 17 (.step 17 (.step 18 (.step 20 (.step 21 .nil)))) (.step 15 (.step 18 (.step 20 (.step 21 .nil))))) (.step 13 (.step 15 (.step 18 (.step 20 (.step 21 .nil)))))))))))))))))))))) (by kernel_rfl) (by rfl) (by kernel_rfl) (by kernel_rfl) (fun _ _ _ _ _ h => h) (Same wr) ?_
            change goU _ _ _ _ _ _ wr.drew
            have hs0 := same_drew wr
            refine goU_readA 29 hs0 (by rfl) (by rfl) ?_ (by rfl) (fun wz hSw => ?_) ?_
            rotate_left
            · (try obtain ⟨hs1, hs2⟩ := hSw)
              go_simp
              try with_reducible rfl
            simp only [List.setIfInBounds_toArray, List.set]
            refine goU_readA 30 hs0 (by rfl) (by rfl) ?_ (by rfl) (fun wz hSw => ?_) ?_
            rotate_left
            · (try obtain ⟨hs1, hs2⟩ := hSw)
              go_simp
              try with_reducible rfl
            simp only [List.setIfInBounds_toArray, List.set]
            refine goU_readA 31 hs0 (by rfl) (by rfl) ?_ (by rfl) (fun wz hSw => ?_) ?_
            rotate_left
            · (try obtain ⟨hs1, hs2⟩ := hSw)
              go_simp
              try with_reducible rfl
            simp only [List.setIfInBounds_toArray, List.set]
            refine goU_step hs0 (by rfl) ?_
            go_wp2_with (go_at_call 71; refine (HC1.out _ hdr).mono ?_; rintro e w5 ⟨rfl, hb5⟩)
            have hb5x := hdr.trans (hb5.mono hdr.size)
            refine goU_readA 33 (same_below hb5x) (by rfl) (by rfl) ?_ (by rfl) (fun wz hSw => ?_) ?_
            rotate_left
            · (try obtain ⟨hs1, hs2⟩ := hSw)
              go_simp
              try with_reducible rfl
            simp only [List.setIfInBounds_toArray, List.set]
            refine goU_readA 34 (same_below hb5x) (by rfl) (by rfl) ?_ (by rfl) (fun wz hSw => ?_) ?_
            rotate_left
            · (try obtain ⟨hs1, hs2⟩ := hSw)
              go_simp
              try with_reducible rfl
            simp only [List.setIfInBounds_toArray, List.set]
            refine goU_readA 35 (same_below hb5x) (by rfl) (by rfl) ?_ (by rfl) (fun wz hSw => ?_) ?_
            rotate_left
            · (try obtain ⟨hs1, hs2⟩ := hSw)
              go_simp
              try with_reducible rfl
            simp only [List.setIfInBounds_toArray, List.set]
            refine goU_readA 36 (same_below hb5x) (by rfl) (by rfl) ?_ (by rfl) (fun wz hSw => ?_) ?_
            rotate_left
            · (try obtain ⟨hs1, hs2⟩ := hSw)
              go_simp
              try with_reducible rfl
            simp only [List.setIfInBounds_toArray, List.set]
            refine goU_step (same_below hb5x) (by rfl) ?_
            go_wp2_with (go_at_call 127; refine (HHAS.out _ hb5x t).mono ?_; rintro e w6 ⟨rfl, hb6⟩; rw [HM.out])
            have hb6x := hb5x.trans (hb6.mono hb5x.size)
            refine goU_readA 38 (same_below hb6x) (by rfl) (by rfl) ?_ (by rfl) (fun wz hSw => ?_) ?_
            rotate_left
            · (try obtain ⟨hs1, hs2⟩ := hSw)
              go_simp
              try with_reducible rfl
            simp only [List.setIfInBounds_toArray, List.set]
            refine goU_readA 39 (same_below hb6x) (by rfl) (by rfl) ?_ (by rfl) (fun wz hSw => ?_) ?_
            rotate_left
            · (try obtain ⟨hs1, hs2⟩ := hSw)
              go_simp
              try with_reducible rfl
            simp only [List.setIfInBounds_toArray, List.set]
            refine goU_readA 40 (same_below hb6x) (by rfl) (by rfl) ?_ (by rfl) (fun wz hSw => ?_) ?_
            rotate_left
            · (try obtain ⟨hs1, hs2⟩ := hSw)
              go_simp
              try with_reducible rfl
            simp only [List.setIfInBounds_toArray, List.set]
            refine goU_skipA 41 (same_below hb6x) (by rfl) (by rfl) (by rfl) ?_
            simp only [List.setIfInBounds_toArray, List.set]
            refine goU_skipA 43 (same_below hb6x) (by rfl) (by rfl) (by rfl) ?_
            simp only [List.setIfInBounds_toArray, List.set]
            refine goU_skipA 45 (same_below hb6x) (by rfl) (by rfl) (by rfl) ?_
            simp only [List.setIfInBounds_toArray, List.set]
            refine goU_skipA 48 (same_below hb6x) (by rfl) (by rfl) (by rfl) ?_
            simp only [List.setIfInBounds_toArray, List.set]
            refine goU_twoSkipA 42 46 (same_below hb6x) (by rfl) (by rfl) (by rfl) (by rfl) (by rfl) (by rfl) ?_ ?_
            · simp only [List.setIfInBounds_toArray, List.set]
              refine goU_twoSkipA 44 46 (same_below hb6x) (by rfl) (by rfl) (by rfl) (by rfl) (by rfl) (by rfl) ?_ ?_
              · simp only [List.setIfInBounds_toArray, List.set]
                refine goU_stepSkipA 46 (same_below hb6x) (by rfl) (by rfl) (by rfl) ?_
                simp only [List.setIfInBounds_toArray, List.set]
                refine goU_stepSkipA 47 (same_below hb6x) (by rfl) (by rfl) (by rfl) ?_
                simp only [List.setIfInBounds_toArray, List.set]
                refine goU_stepSkipA 49 (same_below hb6x) (by rfl) (by rfl) (by rfl) ?_
                simp only [List.setIfInBounds_toArray, List.set]
                refine goU_step (same_below hb6x) (by rfl) ?_
                go_wp2_with fail
                refine goU_nil (same_below hb6x) ?_
                go_wp2_with fail
                go_roundw
                case rel => exact ⟨t + 1, by omega, by go_num, Lib.hid (cyf_next HT.out HNO.out), hbr.trans ((hb6x).mono hbr.size)⟩
                case measure => simp [intOf]; omega
              · simp only [List.setIfInBounds_toArray, List.set]
                refine goU_stepSkipA 44 (same_below hb6x) (by rfl) (by rfl) (by rfl) ?_
                simp only [List.setIfInBounds_toArray, List.set]
                refine goU_stepSkipA 47 (same_below hb6x) (by rfl) (by rfl) (by rfl) ?_
                simp only [List.setIfInBounds_toArray, List.set]
                refine goU_stepSkipA 49 (same_below hb6x) (by rfl) (by rfl) (by rfl) ?_
                simp only [List.setIfInBounds_toArray, List.set]
                refine goU_step (same_below hb6x) (by rfl) ?_
                go_wp2_with fail
                refine goU_nil (same_below hb6x) ?_
                go_wp2_with fail
                go_roundw
                case rel => exact ⟨t + 1, by omega, by go_num, Lib.hid (cyf_next HT.out HNO.out), hbr.trans ((hb6x).mono hbr.size)⟩
                case measure => simp [intOf]; omega
            · simp only [List.setIfInBounds_toArray, List.set]
              refine goU_stepSkipA 42 (same_below hb6x) (by rfl) (by rfl) (by rfl) ?_
              simp only [List.setIfInBounds_toArray, List.set]
              refine goU_stepSkipA 44 (same_below hb6x) (by rfl) (by rfl) (by rfl) ?_
              simp only [List.setIfInBounds_toArray, List.set]
              refine goU_stepSkipA 47 (same_below hb6x) (by rfl) (by rfl) (by rfl) ?_
              simp only [List.setIfInBounds_toArray, List.set]
              refine goU_stepSkipA 49 (same_below hb6x) (by rfl) (by rfl) (by rfl) ?_
              simp only [List.setIfInBounds_toArray, List.set]
              refine goU_step (same_below hb6x) (by rfl) ?_
              go_wp2_with fail
              refine goU_nil (same_below hb6x) ?_
              go_wp2_with fail
              go_roundw
              case rel => exact ⟨t + 1, by omega, by go_num, Lib.hid (cyf_next HT.out HNO.out), hbr.trans ((hb6x).mono hbr.size)⟩
              case measure => simp [intOf]; omega
          · have HM := Lib.hid (show decide (t ∈ l) = false from decide_eq_false hm)
            have HV9 := Lib.hid (show ∀ z ∈ l ++ [t], z < E.length from fun z hz => by
              rcases List.mem_append.1 hz with h1 | h1
              · exact HV.out z h1
              · rw [List.mem_singleton] at h1; rw [h1]; exact htt)
            have HB6 := Lib.hid (show ∀ z ∈ l ++ [t], z ≤ 1000000 from fun z hz => by have := HV9.out z hz; omega)
            have HNM := Lib.hid hm
            have HMP := Lib.hid (show 0 < (gr E (lastN l)).count t by rw [HLA.out, ← HMC.out]; omega)
            have hqn := HQ.out
            have hqs : q + 1 + 1 ≤ 1000000 := by omega
            clear hc0 hm hqn
            cases hcf : cyFB E n (l ++ [t])
            · have HE := Lib.hid (show ¬ CyStep E n l t from fun h => by have := cyFB_iff.2 h.2.2.2; rw [hcf] at this; cases this)
              have HCF := Lib.hid hcf
              clear hcf
              go_upto_region 7 with (fail)
              refine wp_region_trj (.read 0 (.read 1 (.read 2 (.step 3 (.read 4 (.read 5 (.read 6 (.read 7 (.step 8 (.read 9 (.read 10 (.read 11 (.read 12 (.read 14 (.read 16 (.read 19 (.two 13 17 (.two 15 17 (.step 17 (.step 18 (.step 20 (.step 21 .nil)))) (.step 15 (.step 18 (.step 20 (.step 21 .nil))))) (.step 13 (.step 15 (.step 18 (.step 20 (.step 21 .nil)))))))))))))))))))))) (by kernel_rfl) (by rfl) (by kernel_rfl) (by kernel_rfl) (fun _ _ _ _ _ h => h) (Same wr) ?_
              change goU _ _ _ _ _ _ wr.drew
              have hs0 := same_drew wr
              refine goU_readA 29 hs0 (by rfl) (by rfl) ?_ (by rfl) (fun wz hSw => ?_) ?_
              rotate_left
              · (try obtain ⟨hs1, hs2⟩ := hSw)
                go_simp
                try with_reducible rfl
              simp only [List.setIfInBounds_toArray, List.set]
              refine goU_readA 30 hs0 (by rfl) (by rfl) ?_ (by rfl) (fun wz hSw => ?_) ?_
              rotate_left
              · (try obtain ⟨hs1, hs2⟩ := hSw)
                go_simp
                try with_reducible rfl
              simp only [List.setIfInBounds_toArray, List.set]
              refine goU_readA 31 hs0 (by rfl) (by rfl) ?_ (by rfl) (fun wz hSw => ?_) ?_
              rotate_left
              · (try obtain ⟨hs1, hs2⟩ := hSw)
                go_simp
                try with_reducible rfl
              simp only [List.setIfInBounds_toArray, List.set]
              refine goU_step hs0 (by rfl) ?_
              go_wp2_with (go_at_call 71; refine (HC1.out _ hdr).mono ?_; rintro e w5 ⟨rfl, hb5⟩)
              have hb5x := hdr.trans (hb5.mono hdr.size)
              refine goU_readA 33 (same_below hb5x) (by rfl) (by rfl) ?_ (by rfl) (fun wz hSw => ?_) ?_
              rotate_left
              · (try obtain ⟨hs1, hs2⟩ := hSw)
                go_simp
                try with_reducible rfl
              simp only [List.setIfInBounds_toArray, List.set]
              refine goU_readA 34 (same_below hb5x) (by rfl) (by rfl) ?_ (by rfl) (fun wz hSw => ?_) ?_
              rotate_left
              · (try obtain ⟨hs1, hs2⟩ := hSw)
                go_simp
                try with_reducible rfl
              simp only [List.setIfInBounds_toArray, List.set]
              refine goU_readA 35 (same_below hb5x) (by rfl) (by rfl) ?_ (by rfl) (fun wz hSw => ?_) ?_
              rotate_left
              · (try obtain ⟨hs1, hs2⟩ := hSw)
                go_simp
                try with_reducible rfl
              simp only [List.setIfInBounds_toArray, List.set]
              refine goU_readA 36 (same_below hb5x) (by rfl) (by rfl) ?_ (by rfl) (fun wz hSw => ?_) ?_
              rotate_left
              · (try obtain ⟨hs1, hs2⟩ := hSw)
                go_simp
                try with_reducible rfl
              simp only [List.setIfInBounds_toArray, List.set]
              refine goU_step (same_below hb5x) (by rfl) ?_
              go_wp2_with (go_at_call 127; refine (HHAS.out _ hb5x t).mono ?_; rintro e w6 ⟨rfl, hb6⟩; rw [HM.out])
              have hb6x := hb5x.trans (hb6.mono hb5x.size)
              refine goU_readA 38 (same_below hb6x) (by rfl) (by rfl) ?_ (by rfl) (fun wz hSw => ?_) ?_
              rotate_left
              · (try obtain ⟨hs1, hs2⟩ := hSw)
                go_simp
                try with_reducible rfl
              simp only [List.setIfInBounds_toArray, List.set]
              refine goU_readA 39 (same_below hb6x) (by rfl) (by rfl) ?_ (by rfl) (fun wz hSw => ?_) ?_
              rotate_left
              · (try obtain ⟨hs1, hs2⟩ := hSw)
                go_simp
                try with_reducible rfl
              simp only [List.setIfInBounds_toArray, List.set]
              refine goU_readA 40 (same_below hb6x) (by rfl) (by rfl) ?_ (by rfl) (fun wz hSw => ?_) ?_
              rotate_left
              · (try obtain ⟨hs1, hs2⟩ := hSw)
                go_simp
                try with_reducible rfl
              simp only [List.setIfInBounds_toArray, List.set]
              refine goU_readA 41 (same_below hb6x) (by rfl) (by rfl) ?_ (by rfl) (fun wz hSw => ?_) ?_
              rotate_left
              · (try obtain ⟨hs1, hs2⟩ := hSw)
                go_simp
                try with_reducible rfl
              simp only [List.setIfInBounds_toArray, List.set]
              refine goU_readA 43 (same_below hb6x) (by rfl) (by rfl) ?_ (by rfl) (fun wz hSw => ?_) ?_
              rotate_left
              · (try obtain ⟨hs1, hs2⟩ := hSw)
                go_simp
                try with_reducible rfl
              simp only [List.setIfInBounds_toArray, List.set]
              refine goU_readA 45 (same_below hb6x) (by rfl) (by rfl) ?_ (by rfl) (fun wz hSw => ?_) ?_
              rotate_left
              · (try obtain ⟨hs1, hs2⟩ := hSw)
                go_simp
                try with_reducible rfl
              simp only [List.setIfInBounds_toArray, List.set]
              refine goU_readA 48 (same_below hb6x) (by rfl) (by rfl) ?_ (by rfl) (fun wz hSw => ?_) ?_
              rotate_left
              · (try obtain ⟨hs1, hs2⟩ := hSw)
                go_simp
                try with_reducible rfl
              simp only [List.setIfInBounds_toArray, List.set]
              refine goU_two (same_below hb6x) (by rfl) (by rfl) ?_ ?_
              · refine wpList_bs0 42 (by rfl) (by rfl) (by rfl) ?_
                obtain ⟨w3, hw_⟩ : ∃ wz, wz = w6.alloc (.cells #[] 3) := ⟨_, rfl⟩
                rw [← hw_]
                have hb3 : Below w6.heap.size w6 w3 := by rw [hw_]; exact below_allocR (Below.refl _ _) _
                have own3 : OwnN w3 w6.heap.size (.slice (some ⟨w6.heap.size, 0, none⟩) 0 0) [] := by rw [hw_]; exact mk_empty w6
                have hs3 : w6.heap.size < w3.heap.size := by rw [hw_]; show _ < (w6.alloc _).heap.size; simp
                clear hw_
                change goU _ _ _ _ _ _ _
                simp only [List.setIfInBounds_toArray, List.set]
                have hB3 := hb6x.trans (hb3.mono hb6x.size)
                have hil3 := HIL.out.below (hbw.trans (hB3.mono hbw.size))
                refine goU_two (same_below hB3) (by rfl) (by rfl) ?_ ?_
                · refine wpList_appW (w0 := w3) 44 (by rfl) (by rfl) _ _ (by rfl) w6.heap.size _ [] l 0 (q + 1) rfl HLN.out (by rfl) own3 _ _ (by rfl) (src_il hil3) (by omega) (by omega) (q + 1) (by omega) ?_
                  intro A7 c7 w7 own7 hg7 hb7
                  change goU _ _ _ _ _ _ _
                  simp only [List.setIfInBounds_toArray, List.set]
                  have hb37 := hb3.trans hb7
                  have hB7 := hb6x.trans (hb37.mono hb6x.size)
                  refine goU_step (same_below hB7) (by rfl) ?_
                  refine wpList_bs1 46 (by rfl) (by rfl) _ (by rfl) (t : Nat) (by rfl) ?_
                  obtain ⟨wx, hw_⟩ : ∃ wz, wz = w7.alloc (.cells #[.int .i64 (t : Nat)] 3) := ⟨_, rfl⟩
                  rw [← hw_]
                  have hb8 : Below w7.heap.size w7 wx := by rw [hw_]; exact below_allocR (Below.refl _ _) _
                  have hY8 : wx.heap[w7.heap.size]? = some (.cells #[.int .i64 (t : Nat)] 3 (0, 0)) := by rw [hw_]; exact heap_alloc_new w7 _
                  have hs8 : w7.heap.size < wx.heap.size := by rw [hw_]; show _ < (w7.alloc _).heap.size; simp
                  clear hw_
                  change goU _ _ _ _ _ _ _
                  simp only [List.setIfInBounds_toArray, List.set]
                  have hbx := hb37.trans (hb8.mono hb37.size)
                  have hBx := hb6x.trans (hbx.mono hb6x.size)
                  have hsx := hb37.size
                  have own8 : OwnN wx w6.heap.size (.slice A7 (q + 1) c7) l := own7.below hb8
                  clear own7 hg7
                  refine goU_step (same_below hBx) (by rfl) ?_
                  refine wpList_appW (w0 := wx) 47 (by rfl) (by rfl) _ _ (by rfl) w6.heap.size _ l [t] (q + 1) 1 HLN.out rfl (by rfl) own8 _ _ (by rfl) (src_one hY8) (by omega) (by omega) (q + 1 + 1) rfl ?_
                  intro A9 c9 w9 own9 hg9 hb9
                  change goU _ _ _ _ _ _ _
                  simp only [List.setIfInBounds_toArray, List.set]
                  have hB9 := hb6x.trans ((hbx.trans (hb9.mono (by omega))).mono hb6x.size)
                  refine goU_step (same_below hB9) (by rfl) ?_
                  obtain ⟨A10, c10, e10, hil9⟩ := own9.il HB6.out
                  injection e10 with e10 e11 e12
                  subst e10 e12
                  rw [← e11] at hil9
                  clear e11
                  go_wp2_with (go_at_call 96; refine (HIH.out (l ++ [t]) w9 (hbw.trans (hB9.mono hbw.size)) _ _ (q + 1) (by rw [List.length_append, HLN.out]; rfl) (by have := HQ.out; omega) HV9.out hil9).mono ?_; rintro e w10 ⟨rfl, hb10⟩; rw [HCF.out])
                  have hB10 := hB9.trans (hb10.mono hB9.size)
                  refine goU_step (same_below hB10) (by rfl) ?_
                  go_wp2_with fail
                  refine goU_nil (same_below hB10) ?_
                  go_wp2_with fail
                  go_roundw
                  case rel => exact ⟨t + 1, by omega, by go_num, Lib.hid (cyf_next HT.out HE.out), hbr.trans (hB10.mono hbr.size)⟩
                  case measure => simp [intOf]; omega
                · refine wpList_bs1 46 (by rfl) (by rfl) _ (by rfl) (t : Nat) (by rfl) ?_
                  obtain ⟨w5, hw_⟩ : ∃ wz, wz = w3.alloc (.cells #[.int .i64 (t : Nat)] 3) := ⟨_, rfl⟩
                  rw [← hw_]
                  have hb5 : Below w3.heap.size w3 w5 := by rw [hw_]; exact below_allocR (Below.refl _ _) _
                  have hY5 : w5.heap[w3.heap.size]? = some (.cells #[.int .i64 (t : Nat)] 3 (0, 0)) := by rw [hw_]; exact heap_alloc_new w3 _
                  have hs5 : w3.heap.size < w5.heap.size := by rw [hw_]; show _ < (w3.alloc _).heap.size; simp
                  clear hw_
                  change goU _ _ _ _ _ _ _
                  simp only [List.setIfInBounds_toArray, List.set]
                  have hb35 := hb3.trans (hb5.mono hb3.size)
                  have hB5 := hb6x.trans (hb35.mono hb6x.size)
                  have own5 := own3.below hb5
                  have hil5 := hil3.below hb5
                  have hs35 := hb35.size
                  refine goU_step (same_below hB5) (by rfl) ?_
                  refine wpList_appW (w0 := w5) 44 (by rfl) (by rfl) _ _ (by rfl) w6.heap.size _ [] l 0 (q + 1) rfl HLN.out (by rfl) own5 _ _ (by rfl) (src_il hil5) (by omega) (by omega) (q + 1) (by omega) ?_
                  intro A7 c7 wx own7 hg7 hb7
                  change goU _ _ _ _ _ _ _
                  simp only [List.setIfInBounds_toArray, List.set]
                  have hbx := hb35.trans hb7
                  have hBx := hb6x.trans (hbx.mono hb6x.size)
                  have hsx := hbx.size
                  have hY7 : wx.heap[w3.heap.size]? = some (.cells #[.int .i64 (t : Nat)] 3 (0, 0)) := (hg7.block w3.heap.size (by omega) (fun e => absurd (Option.some.inj e) (by first | (show ¬ w3.heap.size = w6.heap.size; omega) | (show ¬ w6.heap.size = w3.heap.size; omega)))).trans hY5
                  clear hg7
                  refine goU_step (same_below hBx) (by rfl) ?_
                  refine wpList_appW (w0 := wx) 47 (by rfl) (by rfl) _ _ (by rfl) w6.heap.size _ l [t] (q + 1) 1 HLN.out rfl (by rfl) own7 _ _ (by rfl) (src_one hY7) (by omega) (by omega) (q + 1 + 1) rfl ?_
                  intro A9 c9 w9 own9 hg9 hb9
                  change goU _ _ _ _ _ _ _
                  simp only [List.setIfInBounds_toArray, List.set]
                  have hB9 := hb6x.trans ((hbx.trans (hb9.mono (by omega))).mono hb6x.size)
                  refine goU_step (same_below hB9) (by rfl) ?_
                  obtain ⟨A10, c10, e10, hil9⟩ := own9.il HB6.out
                  injection e10 with e10 e11 e12
                  subst e10 e12
                  rw [← e11] at hil9
                  clear e11
                  go_wp2_with (go_at_call 96; refine (HIH.out (l ++ [t]) w9 (hbw.trans (hB9.mono hbw.size)) _ _ (q + 1) (by rw [List.length_append, HLN.out]; rfl) (by have := HQ.out; omega) HV9.out hil9).mono ?_; rintro e w10 ⟨rfl, hb10⟩; rw [HCF.out])
                  have hB10 := hB9.trans (hb10.mono hB9.size)
                  refine goU_step (same_below hB10) (by rfl) ?_
                  go_wp2_with fail
                  refine goU_nil (same_below hB10) ?_
                  go_wp2_with fail
                  go_roundw
                  case rel => exact ⟨t + 1, by omega, by go_num, Lib.hid (cyf_next HT.out HE.out), hbr.trans (hB10.mono hbr.size)⟩
                  case measure => simp [intOf]; omega
              · refine wpList_bs1 46 (by rfl) (by rfl) _ (by rfl) (t : Nat) (by rfl) ?_
                obtain ⟨w3, hw_⟩ : ∃ wz, wz = w6.alloc (.cells #[.int .i64 (t : Nat)] 3) := ⟨_, rfl⟩
                rw [← hw_]
                have hb3 : Below w6.heap.size w6 w3 := by rw [hw_]; exact below_allocR (Below.refl _ _) _
                have hY3 : w3.heap[w6.heap.size]? = some (.cells #[.int .i64 (t : Nat)] 3 (0, 0)) := by rw [hw_]; exact heap_alloc_new w6 _
                have hs3 : w6.heap.size < w3.heap.size := by rw [hw_]; show _ < (w6.alloc _).heap.size; simp
                clear hw_
                change goU _ _ _ _ _ _ _
                simp only [List.setIfInBounds_toArray, List.set]
                have hB3 := hb6x.trans (hb3.mono hb6x.size)
                have hil3 := HIL.out.below (hbw.trans (hB3.mono hbw.size))
                refine goU_step (same_below hB3) (by rfl) ?_
                refine wpList_bs0 42 (by rfl) (by rfl) (by rfl) ?_
                obtain ⟨w5, hw_⟩ : ∃ wz, wz = w3.alloc (.cells #[] 3) := ⟨_, rfl⟩
                rw [← hw_]
                have hb5 : Below w3.heap.size w3 w5 := by rw [hw_]; exact below_allocR (Below.refl _ _) _
                have own5 : OwnN w5 w3.heap.size (.slice (some ⟨w3.heap.size, 0, none⟩) 0 0) [] := by rw [hw_]; exact mk_empty w3
                have hs5 : w3.heap.size < w5.heap.size := by rw [hw_]; show _ < (w3.alloc _).heap.size; simp
                clear hw_
                change goU _ _ _ _ _ _ _
                simp only [List.setIfInBounds_toArray, List.set]
                have hb35 := hb3.trans (hb5.mono hb3.size)
                have hB5 := hb6x.trans (hb35.mono hb6x.size)
                have hil5 := hil3.below hb5
                have hY5 : w5.heap[w6.heap.size]? = some (.cells #[.int .i64 (t : Nat)] 3 (0, 0)) := (hb5.block w6.heap.size hs3).trans hY3
                refine goU_step (same_below hB5) (by rfl) ?_
                refine wpList_appW (w0 := w5) 44 (by rfl) (by rfl) _ _ (by rfl) w3.heap.size _ [] l 0 (q + 1) rfl HLN.out (by rfl) own5 _ _ (by rfl) (src_il hil5) (by omega) (by omega) (q + 1) (by omega) ?_
                intro A7 c7 wx own7 hg7 hb7
                change goU _ _ _ _ _ _ _
                simp only [List.setIfInBounds_toArray, List.set]
                have hbx := hb35.trans (hb7.mono (by omega))
                have hBx := hb6x.trans (hbx.mono hb6x.size)
                have hsx := hb7.size
                have hY7 : wx.heap[w6.heap.size]? = some (.cells #[.int .i64 (t : Nat)] 3 (0, 0)) := (hb7.block w6.heap.size hs3).trans hY5
                clear hg7
                refine goU_step (same_below hBx) (by rfl) ?_
                refine wpList_appW (w0 := wx) 47 (by rfl) (by rfl) _ _ (by rfl) w3.heap.size _ l [t] (q + 1) 1 HLN.out rfl (by rfl) own7 _ _ (by rfl) (src_one hY7) (by omega) (by omega) (q + 1 + 1) rfl ?_
                intro A9 c9 w9 own9 hg9 hb9
                change goU _ _ _ _ _ _ _
                simp only [List.setIfInBounds_toArray, List.set]
                have hB9 := hb6x.trans ((hbx.trans (hb9.mono (by omega))).mono hb6x.size)
                refine goU_step (same_below hB9) (by rfl) ?_
                obtain ⟨A10, c10, e10, hil9⟩ := own9.il HB6.out
                injection e10 with e10 e11 e12
                subst e10 e12
                rw [← e11] at hil9
                clear e11
                go_wp2_with (go_at_call 96; refine (HIH.out (l ++ [t]) w9 (hbw.trans (hB9.mono hbw.size)) _ _ (q + 1) (by rw [List.length_append, HLN.out]; rfl) (by have := HQ.out; omega) HV9.out hil9).mono ?_; rintro e w10 ⟨rfl, hb10⟩; rw [HCF.out])
                have hB10 := hB9.trans (hb10.mono hB9.size)
                refine goU_step (same_below hB10) (by rfl) ?_
                go_wp2_with fail
                refine goU_nil (same_below hB10) ?_
                go_wp2_with fail
                go_roundw
                case rel => exact ⟨t + 1, by omega, by go_num, Lib.hid (cyf_next HT.out HE.out), hbr.trans (hB10.mono hbr.size)⟩
                case measure => simp [intOf]; omega
            · have HE := Lib.hid (show true = cyFB E (n + 1) l from cyFB_true ⟨t, htt, HMP.out, HNM.out, cyFB_iff.1 hcf⟩)
              have HCF := Lib.hid hcf
              clear hcf
              go_upto_region 7 with (fail)
              refine wp_region_trj (.read 0 (.read 1 (.read 2 (.step 3 (.read 4 (.read 5 (.read 6 (.read 7 (.step 8 (.read 9 (.read 10 (.read 11 (.read 12 (.read 14 (.read 16 (.read 19 (.two 13 17 (.two 15 17 (.step 17 (.step 18 (.step 20 (.step 21 .nil)))) (.step 15 (.step 18 (.step 20 (.step 21 .nil))))) (.step 13 (.step 15 (.step 18 (.step 20 (.step 21 .nil)))))))))))))))))))))) (by kernel_rfl) (by rfl) (by kernel_rfl) (by kernel_rfl) (fun _ _ _ _ _ h => h) (Same wr) ?_
              change goU _ _ _ _ _ _ wr.drew
              have hs0 := same_drew wr
              refine goU_readA 29 hs0 (by rfl) (by rfl) ?_ (by rfl) (fun wz hSw => ?_) ?_
              rotate_left
              · (try obtain ⟨hs1, hs2⟩ := hSw)
                go_simp
                try with_reducible rfl
              simp only [List.setIfInBounds_toArray, List.set]
              refine goU_readA 30 hs0 (by rfl) (by rfl) ?_ (by rfl) (fun wz hSw => ?_) ?_
              rotate_left
              · (try obtain ⟨hs1, hs2⟩ := hSw)
                go_simp
                try with_reducible rfl
              simp only [List.setIfInBounds_toArray, List.set]
              refine goU_readA 31 hs0 (by rfl) (by rfl) ?_ (by rfl) (fun wz hSw => ?_) ?_
              rotate_left
              · (try obtain ⟨hs1, hs2⟩ := hSw)
                go_simp
                try with_reducible rfl
              simp only [List.setIfInBounds_toArray, List.set]
              refine goU_step hs0 (by rfl) ?_
              go_wp2_with (go_at_call 71; refine (HC1.out _ hdr).mono ?_; rintro e w5 ⟨rfl, hb5⟩)
              have hb5x := hdr.trans (hb5.mono hdr.size)
              refine goU_readA 33 (same_below hb5x) (by rfl) (by rfl) ?_ (by rfl) (fun wz hSw => ?_) ?_
              rotate_left
              · (try obtain ⟨hs1, hs2⟩ := hSw)
                go_simp
                try with_reducible rfl
              simp only [List.setIfInBounds_toArray, List.set]
              refine goU_readA 34 (same_below hb5x) (by rfl) (by rfl) ?_ (by rfl) (fun wz hSw => ?_) ?_
              rotate_left
              · (try obtain ⟨hs1, hs2⟩ := hSw)
                go_simp
                try with_reducible rfl
              simp only [List.setIfInBounds_toArray, List.set]
              refine goU_readA 35 (same_below hb5x) (by rfl) (by rfl) ?_ (by rfl) (fun wz hSw => ?_) ?_
              rotate_left
              · (try obtain ⟨hs1, hs2⟩ := hSw)
                go_simp
                try with_reducible rfl
              simp only [List.setIfInBounds_toArray, List.set]
              refine goU_readA 36 (same_below hb5x) (by rfl) (by rfl) ?_ (by rfl) (fun wz hSw => ?_) ?_
              rotate_left
              · (try obtain ⟨hs1, hs2⟩ := hSw)
                go_simp
                try with_reducible rfl
              simp only [List.setIfInBounds_toArray, List.set]
              refine goU_step (same_below hb5x) (by rfl) ?_
              go_wp2_with (go_at_call 127; refine (HHAS.out _ hb5x t).mono ?_; rintro e w6 ⟨rfl, hb6⟩; rw [HM.out])
              have hb6x := hb5x.trans (hb6.mono hb5x.size)
              refine goU_readA 38 (same_below hb6x) (by rfl) (by rfl) ?_ (by rfl) (fun wz hSw => ?_) ?_
              rotate_left
              · (try obtain ⟨hs1, hs2⟩ := hSw)
                go_simp
                try with_reducible rfl
              simp only [List.setIfInBounds_toArray, List.set]
              refine goU_readA 39 (same_below hb6x) (by rfl) (by rfl) ?_ (by rfl) (fun wz hSw => ?_) ?_
              rotate_left
              · (try obtain ⟨hs1, hs2⟩ := hSw)
                go_simp
                try with_reducible rfl
              simp only [List.setIfInBounds_toArray, List.set]
              refine goU_readA 40 (same_below hb6x) (by rfl) (by rfl) ?_ (by rfl) (fun wz hSw => ?_) ?_
              rotate_left
              · (try obtain ⟨hs1, hs2⟩ := hSw)
                go_simp
                try with_reducible rfl
              simp only [List.setIfInBounds_toArray, List.set]
              refine goU_readA 41 (same_below hb6x) (by rfl) (by rfl) ?_ (by rfl) (fun wz hSw => ?_) ?_
              rotate_left
              · (try obtain ⟨hs1, hs2⟩ := hSw)
                go_simp
                try with_reducible rfl
              simp only [List.setIfInBounds_toArray, List.set]
              refine goU_readA 43 (same_below hb6x) (by rfl) (by rfl) ?_ (by rfl) (fun wz hSw => ?_) ?_
              rotate_left
              · (try obtain ⟨hs1, hs2⟩ := hSw)
                go_simp
                try with_reducible rfl
              simp only [List.setIfInBounds_toArray, List.set]
              refine goU_readA 45 (same_below hb6x) (by rfl) (by rfl) ?_ (by rfl) (fun wz hSw => ?_) ?_
              rotate_left
              · (try obtain ⟨hs1, hs2⟩ := hSw)
                go_simp
                try with_reducible rfl
              simp only [List.setIfInBounds_toArray, List.set]
              refine goU_readA 48 (same_below hb6x) (by rfl) (by rfl) ?_ (by rfl) (fun wz hSw => ?_) ?_
              rotate_left
              · (try obtain ⟨hs1, hs2⟩ := hSw)
                go_simp
                try with_reducible rfl
              simp only [List.setIfInBounds_toArray, List.set]
              refine goU_two (same_below hb6x) (by rfl) (by rfl) ?_ ?_
              · refine wpList_bs0 42 (by rfl) (by rfl) (by rfl) ?_
                obtain ⟨w3, hw_⟩ : ∃ wz, wz = w6.alloc (.cells #[] 3) := ⟨_, rfl⟩
                rw [← hw_]
                have hb3 : Below w6.heap.size w6 w3 := by rw [hw_]; exact below_allocR (Below.refl _ _) _
                have own3 : OwnN w3 w6.heap.size (.slice (some ⟨w6.heap.size, 0, none⟩) 0 0) [] := by rw [hw_]; exact mk_empty w6
                have hs3 : w6.heap.size < w3.heap.size := by rw [hw_]; show _ < (w6.alloc _).heap.size; simp
                clear hw_
                change goU _ _ _ _ _ _ _
                simp only [List.setIfInBounds_toArray, List.set]
                have hB3 := hb6x.trans (hb3.mono hb6x.size)
                have hil3 := HIL.out.below (hbw.trans (hB3.mono hbw.size))
                refine goU_two (same_below hB3) (by rfl) (by rfl) ?_ ?_
                · refine wpList_appW (w0 := w3) 44 (by rfl) (by rfl) _ _ (by rfl) w6.heap.size _ [] l 0 (q + 1) rfl HLN.out (by rfl) own3 _ _ (by rfl) (src_il hil3) (by omega) (by omega) (q + 1) (by omega) ?_
                  intro A7 c7 w7 own7 hg7 hb7
                  change goU _ _ _ _ _ _ _
                  simp only [List.setIfInBounds_toArray, List.set]
                  have hb37 := hb3.trans hb7
                  have hB7 := hb6x.trans (hb37.mono hb6x.size)
                  refine goU_step (same_below hB7) (by rfl) ?_
                  refine wpList_bs1 46 (by rfl) (by rfl) _ (by rfl) (t : Nat) (by rfl) ?_
                  obtain ⟨wx, hw_⟩ : ∃ wz, wz = w7.alloc (.cells #[.int .i64 (t : Nat)] 3) := ⟨_, rfl⟩
                  rw [← hw_]
                  have hb8 : Below w7.heap.size w7 wx := by rw [hw_]; exact below_allocR (Below.refl _ _) _
                  have hY8 : wx.heap[w7.heap.size]? = some (.cells #[.int .i64 (t : Nat)] 3 (0, 0)) := by rw [hw_]; exact heap_alloc_new w7 _
                  have hs8 : w7.heap.size < wx.heap.size := by rw [hw_]; show _ < (w7.alloc _).heap.size; simp
                  clear hw_
                  change goU _ _ _ _ _ _ _
                  simp only [List.setIfInBounds_toArray, List.set]
                  have hbx := hb37.trans (hb8.mono hb37.size)
                  have hBx := hb6x.trans (hbx.mono hb6x.size)
                  have hsx := hb37.size
                  have own8 : OwnN wx w6.heap.size (.slice A7 (q + 1) c7) l := own7.below hb8
                  clear own7 hg7
                  refine goU_step (same_below hBx) (by rfl) ?_
                  refine wpList_appW (w0 := wx) 47 (by rfl) (by rfl) _ _ (by rfl) w6.heap.size _ l [t] (q + 1) 1 HLN.out rfl (by rfl) own8 _ _ (by rfl) (src_one hY8) (by omega) (by omega) (q + 1 + 1) rfl ?_
                  intro A9 c9 w9 own9 hg9 hb9
                  change goU _ _ _ _ _ _ _
                  simp only [List.setIfInBounds_toArray, List.set]
                  have hB9 := hb6x.trans ((hbx.trans (hb9.mono (by omega))).mono hb6x.size)
                  refine goU_step (same_below hB9) (by rfl) ?_
                  obtain ⟨A10, c10, e10, hil9⟩ := own9.il HB6.out
                  injection e10 with e10 e11 e12
                  subst e10 e12
                  rw [← e11] at hil9
                  clear e11
                  go_wp2_with (go_at_call 96; refine (HIH.out (l ++ [t]) w9 (hbw.trans (hB9.mono hbw.size)) _ _ (q + 1) (by rw [List.length_append, HLN.out]; rfl) (by have := HQ.out; omega) HV9.out hil9).mono ?_; rintro e w10 ⟨rfl, hb10⟩; rw [HCF.out])
                  have hB10 := hB9.trans (hb10.mono hB9.size)
                  refine goU_step (same_below hB10) (by rfl) ?_
                  go_wp2_with fail
                  refine goU_nil (same_below hB10) ?_
                  go_wp2_with fail
                  go_ret
                  exact cyR_of HE.out (hbw.trans (hB10.mono hbw.size))
                · refine wpList_bs1 46 (by rfl) (by rfl) _ (by rfl) (t : Nat) (by rfl) ?_
                  obtain ⟨w5, hw_⟩ : ∃ wz, wz = w3.alloc (.cells #[.int .i64 (t : Nat)] 3) := ⟨_, rfl⟩
                  rw [← hw_]
                  have hb5 : Below w3.heap.size w3 w5 := by rw [hw_]; exact below_allocR (Below.refl _ _) _
                  have hY5 : w5.heap[w3.heap.size]? = some (.cells #[.int .i64 (t : Nat)] 3 (0, 0)) := by rw [hw_]; exact heap_alloc_new w3 _
                  have hs5 : w3.heap.size < w5.heap.size := by rw [hw_]; show _ < (w3.alloc _).heap.size; simp
                  clear hw_
                  change goU _ _ _ _ _ _ _
                  simp only [List.setIfInBounds_toArray, List.set]
                  have hb35 := hb3.trans (hb5.mono hb3.size)
                  have hB5 := hb6x.trans (hb35.mono hb6x.size)
                  have own5 := own3.below hb5
                  have hil5 := hil3.below hb5
                  have hs35 := hb35.size
                  refine goU_step (same_below hB5) (by rfl) ?_
                  refine wpList_appW (w0 := w5) 44 (by rfl) (by rfl) _ _ (by rfl) w6.heap.size _ [] l 0 (q + 1) rfl HLN.out (by rfl) own5 _ _ (by rfl) (src_il hil5) (by omega) (by omega) (q + 1) (by omega) ?_
                  intro A7 c7 wx own7 hg7 hb7
                  change goU _ _ _ _ _ _ _
                  simp only [List.setIfInBounds_toArray, List.set]
                  have hbx := hb35.trans hb7
                  have hBx := hb6x.trans (hbx.mono hb6x.size)
                  have hsx := hbx.size
                  have hY7 : wx.heap[w3.heap.size]? = some (.cells #[.int .i64 (t : Nat)] 3 (0, 0)) := (hg7.block w3.heap.size (by omega) (fun e => absurd (Option.some.inj e) (by first | (show ¬ w3.heap.size = w6.heap.size; omega) | (show ¬ w6.heap.size = w3.heap.size; omega)))).trans hY5
                  clear hg7
                  refine goU_step (same_below hBx) (by rfl) ?_
                  refine wpList_appW (w0 := wx) 47 (by rfl) (by rfl) _ _ (by rfl) w6.heap.size _ l [t] (q + 1) 1 HLN.out rfl (by rfl) own7 _ _ (by rfl) (src_one hY7) (by omega) (by omega) (q + 1 + 1) rfl ?_
                  intro A9 c9 w9 own9 hg9 hb9
                  change goU _ _ _ _ _ _ _
                  simp only [List.setIfInBounds_toArray, List.set]
                  have hB9 := hb6x.trans ((hbx.trans (hb9.mono (by omega))).mono hb6x.size)
                  refine goU_step (same_below hB9) (by rfl) ?_
                  obtain ⟨A10, c10, e10, hil9⟩ := own9.il HB6.out
                  injection e10 with e10 e11 e12
                  subst e10 e12
                  rw [← e11] at hil9
                  clear e11
                  go_wp2_with (go_at_call 96; refine (HIH.out (l ++ [t]) w9 (hbw.trans (hB9.mono hbw.size)) _ _ (q + 1) (by rw [List.length_append, HLN.out]; rfl) (by have := HQ.out; omega) HV9.out hil9).mono ?_; rintro e w10 ⟨rfl, hb10⟩; rw [HCF.out])
                  have hB10 := hB9.trans (hb10.mono hB9.size)
                  refine goU_step (same_below hB10) (by rfl) ?_
                  go_wp2_with fail
                  refine goU_nil (same_below hB10) ?_
                  go_wp2_with fail
                  go_ret
                  exact cyR_of HE.out (hbw.trans (hB10.mono hbw.size))
              · refine wpList_bs1 46 (by rfl) (by rfl) _ (by rfl) (t : Nat) (by rfl) ?_
                obtain ⟨w3, hw_⟩ : ∃ wz, wz = w6.alloc (.cells #[.int .i64 (t : Nat)] 3) := ⟨_, rfl⟩
                rw [← hw_]
                have hb3 : Below w6.heap.size w6 w3 := by rw [hw_]; exact below_allocR (Below.refl _ _) _
                have hY3 : w3.heap[w6.heap.size]? = some (.cells #[.int .i64 (t : Nat)] 3 (0, 0)) := by rw [hw_]; exact heap_alloc_new w6 _
                have hs3 : w6.heap.size < w3.heap.size := by rw [hw_]; show _ < (w6.alloc _).heap.size; simp
                clear hw_
                change goU _ _ _ _ _ _ _
                simp only [List.setIfInBounds_toArray, List.set]
                have hB3 := hb6x.trans (hb3.mono hb6x.size)
                have hil3 := HIL.out.below (hbw.trans (hB3.mono hbw.size))
                refine goU_step (same_below hB3) (by rfl) ?_
                refine wpList_bs0 42 (by rfl) (by rfl) (by rfl) ?_
                obtain ⟨w5, hw_⟩ : ∃ wz, wz = w3.alloc (.cells #[] 3) := ⟨_, rfl⟩
                rw [← hw_]
                have hb5 : Below w3.heap.size w3 w5 := by rw [hw_]; exact below_allocR (Below.refl _ _) _
                have own5 : OwnN w5 w3.heap.size (.slice (some ⟨w3.heap.size, 0, none⟩) 0 0) [] := by rw [hw_]; exact mk_empty w3
                have hs5 : w3.heap.size < w5.heap.size := by rw [hw_]; show _ < (w3.alloc _).heap.size; simp
                clear hw_
                change goU _ _ _ _ _ _ _
                simp only [List.setIfInBounds_toArray, List.set]
                have hb35 := hb3.trans (hb5.mono hb3.size)
                have hB5 := hb6x.trans (hb35.mono hb6x.size)
                have hil5 := hil3.below hb5
                have hY5 : w5.heap[w6.heap.size]? = some (.cells #[.int .i64 (t : Nat)] 3 (0, 0)) := (hb5.block w6.heap.size hs3).trans hY3
                refine goU_step (same_below hB5) (by rfl) ?_
                refine wpList_appW (w0 := w5) 44 (by rfl) (by rfl) _ _ (by rfl) w3.heap.size _ [] l 0 (q + 1) rfl HLN.out (by rfl) own5 _ _ (by rfl) (src_il hil5) (by omega) (by omega) (q + 1) (by omega) ?_
                intro A7 c7 wx own7 hg7 hb7
                change goU _ _ _ _ _ _ _
                simp only [List.setIfInBounds_toArray, List.set]
                have hbx := hb35.trans (hb7.mono (by omega))
                have hBx := hb6x.trans (hbx.mono hb6x.size)
                have hsx := hb7.size
                have hY7 : wx.heap[w6.heap.size]? = some (.cells #[.int .i64 (t : Nat)] 3 (0, 0)) := (hb7.block w6.heap.size hs3).trans hY5
                clear hg7
                refine goU_step (same_below hBx) (by rfl) ?_
                refine wpList_appW (w0 := wx) 47 (by rfl) (by rfl) _ _ (by rfl) w3.heap.size _ l [t] (q + 1) 1 HLN.out rfl (by rfl) own7 _ _ (by rfl) (src_one hY7) (by omega) (by omega) (q + 1 + 1) rfl ?_
                intro A9 c9 w9 own9 hg9 hb9
                change goU _ _ _ _ _ _ _
                simp only [List.setIfInBounds_toArray, List.set]
                have hB9 := hb6x.trans ((hbx.trans (hb9.mono (by omega))).mono hb6x.size)
                refine goU_step (same_below hB9) (by rfl) ?_
                obtain ⟨A10, c10, e10, hil9⟩ := own9.il HB6.out
                injection e10 with e10 e11 e12
                subst e10 e12
                rw [← e11] at hil9
                clear e11
                go_wp2_with (go_at_call 96; refine (HIH.out (l ++ [t]) w9 (hbw.trans (hB9.mono hbw.size)) _ _ (q + 1) (by rw [List.length_append, HLN.out]; rfl) (by have := HQ.out; omega) HV9.out hil9).mono ?_; rintro e w10 ⟨rfl, hb10⟩; rw [HCF.out])
                have hB10 := hB9.trans (hb10.mono hB9.size)
                refine goU_step (same_below hB10) (by rfl) ?_
                go_wp2_with fail
                refine goU_nil (same_below hB10) ?_
                go_wp2_with fail
                go_ret
                exact cyR_of HE.out (hbw.trans (hB10.mono hbw.size))
      · obtain rfl : t = E.length := by omega
        have HE := Lib.hid (show false = cyFB E (n + 1) l from cyFB_false (fun ⟨j, hj, h⟩ => HT.out j hj ⟨hj, h⟩))
        go_wp2_with fail
        go_ret
        exact cyR_of HE.out hbw
end Go.Proofs.YtpkjdnplmgfbbaaDoor

namespace Go.Proofs.YtpkjdnplmgfbbaaDoor
open Go.RowKit

theorem cyF_iff {E : List (List Nat)} (hE : Valid E) : ∀ (n : Nat) (l : List Nat), l ≠ [] → (CyF E n l ↔ ∃ r, r.length = n ∧ IsCyc E (l ++ r))
  | 0, l, _ => by
    constructor
    · intro h; exact ⟨[], rfl, by rw [List.append_nil]; exact h⟩
    · rintro ⟨r, hr, h⟩
      rw [List.length_eq_zero_iff.1 hr, List.append_nil] at h
      exact h
  | n + 1, l, hl => by
    have ih := cyF_iff hE n
    constructor
    · rintro ⟨j, _, _, _, h⟩
      obtain ⟨r, hr, h2⟩ := (ih (l ++ [j]) (by simp)).1 h
      exact ⟨j :: r, by simp [hr], by rw [List.append_assoc] at h2; exact h2⟩
    · rintro ⟨r, hr, h⟩
      cases r with
      | nil => simp at hr
      | cons j r =>
        simp only [List.length_cons, Nat.add_right_cancel_iff] at hr
        have hlp : 0 < l.length := List.length_pos_iff.2 hl
        have hx : (l ++ j :: r)[l.length - 1]? = some (lastN l) := by
          rw [List.getElem?_append_left (by omega)]
          unfold lastN
          simp [List.getD, List.getElem?_eq_getElem (show l.length - 1 < l.length by omega)]
        have hj : (l ++ j :: r)[l.length]? = some j := by rw [List.getElem?_append_right (Nat.le_refl _), Nat.sub_self]; rfl
        have hjm : j ∈ l ++ j :: r := List.mem_of_getElem? hj
        have hc : 0 < (gr E (lastN l)).count j := by
          by_cases h2 : (l ++ j :: r).length = 2
          · have h3 : l.length = 1 := by simp at h2; omega
            rw [h3] at hx hj
            have := h.two h2 _ _ hx hj
            omega
          · have hlt := some_lt hj
            have hm : (l.length - 1 + 1) % (l ++ j :: r).length = l.length := by rw [show l.length - 1 + 1 = l.length by omega]; exact Nat.mod_eq_of_lt hlt
            have := h.adj h2 (l.length - 1) _ j hx (by rw [hm]; exact hj)
            exact List.count_pos_iff.2 this
        refine ⟨j, h.lt hE j hjm, hc, fun hjl => ?_, (ih (l ++ [j]) (by simp)).2 ⟨r, hr, by rw [List.append_assoc]; exact h⟩⟩
        obtain ⟨i, hi⟩ := List.mem_iff_getElem?.1 hjl
        have hil := some_lt hi
        have := h.nodup i l.length j (by rw [List.getElem?_append_left hil]; exact hi) hj
        omega
/-- Some vertex begins a cycle of n + 1 vertices. -/
theorem hasCyc_iff {E : List (List Nat)} (hE : Valid E) (n : Nat) : HasCyc E (n + 1) ↔ ∃ v, v < E.length ∧ CyF E n [v] := by
  constructor
  · rintro ⟨l, hl, hn⟩
    cases l with
    | nil => simp at hn
    | cons v r =>
      exact ⟨v, hl.lt hE v (by simp), (cyF_iff hE n [v] (by simp)).2 ⟨r, by simpa using hn, hl⟩⟩
  · rintro ⟨v, _, h⟩
    obtain ⟨r, hr, h2⟩ := (cyF_iff hE n [v] (by simp)).1 h
    exact ⟨[v] ++ r, h2, by simp [hr]⟩
theorem hasCyc_zero {E : List (List Nat)} : ¬ HasCyc E 0 := fun ⟨_, h, h2⟩ => by have := h.pos; omega
theorem hasCyc_le {E : List (List Nat)} (hE : Valid E) {n : Nat} (h : HasCyc E n) : n ≤ E.length := by
  obtain ⟨l, hl, rfl⟩ := h
  exact hl.le hE
/-- No cycle of at most k vertices. -/
def NoC (E : List (List Nat)) (k : Nat) : Prop := ∀ j, j ≤ k → ¬ HasCyc E j
def NoV (E : List (List Nat)) (k t : Nat) : Prop := ∀ v, v < t → ¬ CyF E k [v]
theorem NoV.next {E : List (List Nat)} {k t : Nat} (h : NoV E k t) (h2 : ¬ CyF E k [t]) : NoV E k (t + 1) := fun v hv => by
  rcases Nat.lt_or_ge v t with h1 | h1
  · exact h v h1
  · obtain rfl : v = t := by omega
    exact h2
theorem NoC.next {E : List (List Nat)} (hE : Valid E) {k : Nat} (h : NoC E k) (hv : NoV E k E.length) : NoC E (k + 1) := fun j hj hc => by
  rcases Nat.lt_or_ge k j with h1 | h1
  · obtain rfl : j = k + 1 := by omega
    obtain ⟨v, h2, h3⟩ := (hasCyc_iff hE k).1 hc
    exact hv v h2 h3
  · exact h j h1 hc
theorem girN_found {E : List (List Nat)} (hE : Valid E) {k t : Nat} (h : NoC E k) (ht : t < E.length) (hc : CyF E k [t]) : GirN E (k + 1) 0 := .inl ⟨rfl, (hasCyc_iff hE k).2 ⟨t, ht, hc⟩, fun j hj => h j (by omega)⟩
theorem girN_none {E : List (List Nat)} (hE : Valid E) (h : NoC E E.length) : GirN E 0 12 := .inr ⟨rfl, rfl, fun j hc => h j (hasCyc_le hE hc) hc⟩

def GirR (w : World) (E : List (List Nat)) (e : Ending) (w' : World) : Prop := ∃ m h : Nat, e = .returned (.tuple #[.int .i64 (m : Nat), .int .i64 (h : Nat)]) ∧ ((undB E = false ∧ m = 0 ∧ h = 3) ∨ (undB E = true ∧ GirN E m h)) ∧ Below w.heap.size w w'
theorem girR_of {w w' : World} {E : List (List Nat)} {m h : Nat} (hu : undB E = true) (hg : GirN E m h) (hb : Below w.heap.size w w') : GirR w E (.returned (.tuple #[.int .i64 (m : Nat), .int .i64 (h : Nat)])) w' := ⟨m, h, rfl, .inr ⟨hu, hg⟩, hb⟩
theorem il_lit (X : World) (t : Nat) (ht : t ≤ 1000000) : Il (X.alloc (.cells #[.int .i64 (t : Nat)] 3)) (some ⟨X.heap.size, 0, none⟩) 1 1 (wlkI [t]) := by
  obtain ⟨A, c, e, h⟩ := (own_lit X t).il (fun x hx => by rw [List.mem_singleton] at hx; omega)
  injection e with e1 e2 e3
  subst e1 e3
  exact h

set_option maxHeartbeats 4000000 in
set_option maxRecDepth 100000 in
theorem rGirth_ok {w : World} {v : Value} {names : List ByteArray} {E : List (List Nat)} (h : GrV w v names (toI E)) (hk : Ok names E) :
    Calls Tryd.prog 53 #[v] w (GirR w E) := by
  have hsm := hk.small
  have HU := Lib.hid (fun w' (hb : Below w.heap.size w w') => rUndirected_ok (h.at w' hb) hk)
  have HCF := Lib.hid (fun (k t : Nat) (hk1 : k < E.length) (ht : t < E.length) (w' : World) (hb : Below w.heap.size w w') => rcycleFrom_any hk (k + 1) (by omega) k [t] (w'.alloc (.cells #[.int .i64 (t : Nat)] 3)) _ (some ⟨w'.heap.size, 0, none⟩) 1 0 rfl (by omega) (fun x hx => by rw [List.mem_singleton] at hx; omega) (h.at _ (below_allocR hb _)) (il_lit w' t (by omega)))
  have HE := Lib.hid hk.valid
  obtain ⟨u, hu⟩ : ∃ u, u = undB E := ⟨_, rfl⟩
  have HUU := Lib.hid hu
  have hu2 : ∀ w e w', UndR w E e w' → e = .returned (.bool u) ∧ Below w.heap.size w w' := fun w e w' h => by rw [hu]; exact h
  have HU2 := Lib.hid hu2
  clear hu hu2
  obtain ⟨A1, c1, A', c', hvv, hs, hg⟩ := h
  rw [toI_length] at hvv hg
  subst hvv
  have hrg := hg.room
  unfold maxLen at hrg
  obtain ⟨W, G, hW, hG, hbW, c0, c1', hGl, hwG⟩ := gbox w (.slice A1 names.length c1) (.slice A' E.length c')
  have HW := Lib.hid hW
  have HG := Lib.hid hG
  clear hW hG hs hg hk
  go_enter Tryd.func53, Tryd.ntmps53
  go_wp2_with fail
  rw [← HW.out, ← HG.out]
  refine (HU.out _ hbW).mono ?_
  intro e w1 hur
  obtain ⟨rfl, hb1⟩ := HU2.out _ _ _ hur
  clear hur
  obtain ⟨d0, d1⟩ := keep2 hb1 c0 c1'
  have hbw1 := hbW.trans (hb1.mono hbW.size)
  have hGl1 : G < w1.heap.size := Nat.lt_of_lt_of_le hGl hb1.size
  clear c0 c1' hb1 HU hbW hGl HW
  cases u
  · go_wp2_with fail
    go_ret2
    exact ⟨0, 3, rfl, .inl ⟨HUU.out.symm, rfl, rfl⟩, hbw1⟩
  · go_wp2_with fail
    go_loopw [4] (fun iv wr => ∃ k : Nat, k ≤ E.length ∧ iv = .int .i64 ((k + 1 : Nat) : Int) ∧ Hid (NoC E k) ∧ Below w1.heap.size w1 wr) (fun iv _ => E.length + 1 - (intOf iv).toNat)
    case atStart => exact ⟨0, Nat.zero_le _, rfl, Lib.hid (fun j hj => by obtain rfl : j = 0 := by omega
                                                                          exact hasCyc_zero), Below.refl _ _⟩
    case round =>
      obtain ⟨k, hkl, rfl, HN, hbr⟩ := hrel
      obtain ⟨e0, e1⟩ := keep2 hbr d0 d1
      obtain ⟨n, hn⟩ : ∃ n, n = k + 1 := ⟨_, rfl⟩
      rw [← hn]
      by_cases hlt : k < E.length
      · have hz : decide (n ≤ E.length) = true := decide_eq_true (by omega)
        have hzi : (n : Int) ≤ (E.length : Int) := by omega
        have HNN := Lib.hid hn
        clear hn
        go_wp2_with fail
        go_loopw [5] (fun iv wr => ∃ t : Nat, t ≤ E.length ∧ iv = .int .i64 (t : Nat) ∧ Hid (NoV E k t) ∧ Below w1.heap.size w1 wr) (fun iv _ => E.length - (intOf iv).toNat)
        case atStart => exact ⟨0, Nat.zero_le _, rfl, Lib.hid (fun v hv => by omega), hbr⟩
        case round =>
          clear hbr e0 e1
          obtain ⟨t, htl, rfl, HT, hbr⟩ := hrel
          obtain ⟨e0, e1⟩ := keep2 hbr d0 d1
          by_cases htt : t < E.length
          · have hti : (t : Int) < (E.length : Int) := by omega
            have hbw := hbw1.trans (hbr.mono hbw1.size)
            have HC := Lib.hid (HNN.out ▸ HCF.out k t hlt htt wr hbw)
            cases hcf : cyFB E k [t]
            · have HF := Lib.hid hcf
              clear hcf
              go_wp2_with (go_at_call 96; refine (HC.out).mono ?_; rintro e w5 ⟨rfl, hb5⟩; rw [HF.out])
              go_roundw
              case rel => exact ⟨t + 1, by omega, by go_num, Lib.hid (HT.out.next (fun h => by have := cyFB_iff.2 h; rw [HF.out] at this; cases this)), hbr.trans ((below_allocR (Below.refl _ _) _ |>.trans (hb5.mono (by simp))).mono hbr.size)⟩
              case measure => simp [intOf]; omega
            · have HF := Lib.hid hcf
              clear hcf
              go_wp2_with (go_at_call 96; refine (HC.out).mono ?_; rintro e w5 ⟨rfl, hb5⟩; rw [HF.out])
              go_ret2
              exact girR_of HUU.out.symm (HNN.out ▸ girN_found HE.out HN.out htt (cyFB_iff.1 HF.out)) (hbw.trans ((below_allocR (Below.refl _ _) _ |>.trans (hb5.mono (by simp))).mono hbw.size))
          · obtain rfl : t = E.length := by omega
            go_wp2_with fail
            go_roundw
            case rel => exact ⟨k + 1, by omega, by rw [HNN.out]; go_num, Lib.hid (HN.out.next HE.out HT.out), hbr⟩
            case measure => have := HNN.out; simp [intOf]; omega
      · have hz : decide (n ≤ E.length) = false := decide_eq_false (by omega)
        obtain rfl : k = E.length := by omega
        have hzi : ¬ (n : Int) ≤ (E.length : Int) := by omega
        have HNN := Lib.hid hn
        clear hn
        go_wp2_with fail
        go_ret2
        exact girR_of HUU.out.symm (girN_none HE.out HN.out) (hbw1.trans (hbr.mono hbw1.size))
end Go.Proofs.YtpkjdnplmgfbbaaDoor
