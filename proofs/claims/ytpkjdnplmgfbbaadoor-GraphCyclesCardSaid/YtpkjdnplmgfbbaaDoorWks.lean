/- The reference's matrices: Adjacency, Wide, Unit, Times, Power, Trace; base.SameInts, base.Within. -/
import Derived.Test.YtpkjdnplmgfbbaaDoorMx
namespace Go.Proofs.YtpkjdnplmgfbbaaDoor
open Go.RowKit

theorem Within_any {n lo hi : Int} {b : Bool} (h : decide (lo ≤ n ∧ n ≤ hi) = b) (w : World) : Calls Tryd.prog 21 #[.int .i64 n, .int .i64 lo, .int .i64 hi] w fun e w' => e = .returned (.bool b) ∧ w = w' := by
  by_cases h1 : lo ≤ n
  · by_cases h2 : n ≤ hi
    · have e : b = true := by rw [← h]; simp [h1, h2]
      subst e
      clear h
      go_enter Tryd.func21, Tryd.ntmps21
      go_wp2
      go_ret
      exact ⟨rfl, rfl⟩
    · have e : b = false := by rw [← h]; simp; omega
      subst e
      clear h
      have hd : decide (n ≤ hi) = false := by simpa using h2
      go_enter Tryd.func21, Tryd.ntmps21
      go_wp2
      go_ret
      exact ⟨rfl, rfl⟩
  · have e : b = false := by rw [← h]; simp; omega
    subst e
    clear h
    have hd : decide (lo ≤ n) = false := by simpa using h1
    go_enter Tryd.func21, Tryd.ntmps21
    go_wp2
    go_ret
    exact ⟨rfl, rfl⟩

/-- The first entries of a row of the matrix of a graph. -/
def mat (E : List (List Nat)) (i t j : Nat) : Int := (((gr E i).take t).count j : Nat)
theorem mat_full (E : List (List Nat)) (i : Nat) : mat E i (gr E i).length = ma E i := by funext j; unfold mat ma; rw [List.take_length]
theorem mat_zero (E : List (List Nat)) (i n : Nat) : li (mat E i 0) n = List.replicate n 0 := by rw [li_zero]; exact li_ext fun j _ => by simp [mat]
theorem mat_succ {E : List (List Nat)} {i t x n : Nat} (hx : (gr E i)[t]? = some x) (hxl : x < n) : (li (mat E i t) n).set x (mat E i t x + 1) = li (mat E i (t + 1)) n := by
  rw [li_set hxl]
  refine li_ext fun j _ => ?_
  unfold mat
  rw [List.take_add_one, hx, List.count_append]
  by_cases e : j = x
  · subst e; simp
  · rw [if_neg e]
    have : ([x] : List Nat).count j = 0 := List.count_eq_zero.2 (by simpa using e)
    simp [this]
theorem mat_le (E : List (List Nat)) (i t j : Nat) : 0 ≤ mat E i t j ∧ mat E i t j ≤ (gr E i).length := by
  unfold mat
  have h1 := List.count_le_length (a := j) (l := (gr E i).take t)
  rw [List.length_take] at h1
  omega

theorem info_ints : (Tryd.prog.info? 28).map (fun i => (i.zero, i.size, i.bytes)) = some (some (.slice none 0 0), 1, 24) := by kernel_rfl
theorem info_Ints : (Tryd.prog.info? 41).map (fun i => (i.zero, i.size, i.bytes)) = some (some (.slice none 0 0), 1, 24) := by kernel_rfl

theorem NArr.ild {w : World} {g : Nat} {l : List Int} (h : NArr w g l) (hs : ∀ x ∈ l, -9223372036854775808 ≤ x ∧ x ≤ 9223372036854775807) (hm : l.length ≤ maxLen) {D : Nat → Prop} (hd : D g) : IlD w D (.slice (some ⟨g, 0, none⟩) l.length l.length) l :=
  ⟨_, _, rfl, h.il hs hm, fun _ => ⟨g, 0, rfl, hd⟩⟩
theorem IlD.cast {w : World} {D : Nat → Prop} {v : Value} {l m : List Int} (h : IlD w D v l) (e : l = m) : IlD w D v m := e ▸ h
theorem OwnL.cast {α : Type} {R : World → (Nat → Prop) → Value → α → Prop} {T : TypeId} {w : World} {base : Nat} {v : Value} {L M : List α} (h : OwnL R T w base v L) (e : L = M) : OwnL R T w base v M := e ▸ h
theorem RowsD.cast {α : Type} {R : World → (Nat → Prop) → Value → α → Prop} {w : World} {D : Nat → Prop} {v : Value} {L M : List α} (h : RowsD R w D v L) (e : L = M) : RowsD R w D v M := e ▸ h

set_option maxHeartbeats 2000000 in
set_option maxRecDepth 100000 in
theorem rAdjacency_any {w : World} {v : Value} {names : List ByteArray} {E : List (List Nat)} (h : GrV w v names (toI E)) (hk : Ok names E) :
    Calls Tryd.prog 43 #[v] w (Gives w fun w' v' => RowsD IlD w' (w.heap.size ≤ ·) v' (ml (ma E) E.length)) := by
  have hsm := hk.small
  obtain ⟨A, c, A', c', rfl, hs, hg⟩ := h
  rw [toI_length] at *
  have hr := hg.room
  unfold maxLen at hr
  obtain ⟨W, G, hW, hG, hbW, c0, c1, hGl, hwG⟩ := gbox w (.slice A names.length c) (.slice A' E.length c')
  replace hg := hg.below hbW
  have HW := Lib.hid hW
  have HG := Lib.hid hG
  have HK := Lib.hid hk
  clear hW hG c0 hs hk
  go_enter Tryd.func43, Tryd.ntmps43
  go_wp2_with fail
  rw [← HW.out, ← HG.out]
  go_loopw [3, 4] (fun m i wr => ∃ k : Nat, k ≤ E.length ∧ i = .int .i64 (k : Nat) ∧ OwnL IlD 28 wr W.heap.size m ((List.range k).map fun i => li (ma E i) E.length) ∧ Below W.heap.size W wr) (fun _ i _ => E.length - (intOf i).toNat)
  case atStart => exact ⟨0, Nat.zero_le _, rfl, OwnL.nil _ _, Below.refl _ _⟩
  case round =>
    obtain ⟨k, hkl, rfl, hown, hbr⟩ := hrel
    obtain ⟨A0, c0, rfl, hc0, hc1⟩ := hown.slice_ (n := k) (by simp)
    have d1 := ((bcell hbr).1 _ 1 hGl).trans c1
    by_cases hlt : k < E.length
    · obtain ⟨b2, off2, A2, c2, rfl, hrow, hr3, hr4, hil⟩ := (hg.below hbr).row hlt
      have hki : (k : Int) < (E.length : Int) := by omega
      obtain ⟨S, hS⟩ : ∃ S, S = wr.heap.size := ⟨_, rfl⟩
      have HS := Lib.hid hS
      have hGS : G < S := by rw [hS]; exact Nat.lt_of_lt_of_le hGl hbr.size
      have hbS : b2 < S := by rw [hS]; exact cell_some_lt hrow
      obtain ⟨wr0, hwr0⟩ : ∃ wr0 : World, wr0 = wr := ⟨_, rfl⟩
      clear hS
      subst hwr0
      go_wp2_with (refine wpList_make_arr _ rfl _ _ 28 rfl 3 (.int .i64 0) 1 8 Tryd.underlying28 (by kernel_rfl) _ _ _ _ E.length rfl rfl rfl rfl (by omega) (by omega) ?_; rw [← HS.out]; intro w1 har hb1 hs1; have hna := NArr.made har; have HNA := Lib.hid hna; have HS1 := Lib.hid hs1; clear har hna hs1)
      have hb1' : Below wr0.heap.size wr0 w1 := by rw [← HS.out]; exact hb1
      have e1 := ((bcell hb1').1 _ 1 (by rw [← HS.out]; exact hGS)).trans d1
      have erow := ((bcell hb1').1 _ _ (by rw [← HS.out]; exact hbS)).trans hrow
      have hw1S : S < w1.heap.size := HNA.out.lt
      clear d1 hrow
      go_loopw [6] (fun i wr => ∃ t : Nat, t ≤ (gr E k).length ∧ i = .int .i64 (t : Nat) ∧ NArr wr S (li (mat E k t) E.length) ∧ Fr (· = S) w1 wr) (fun i _ => (gr E k).length - (intOf i).toNat)
      case atStart => exact ⟨0, Nat.zero_le _, rfl, HNA.out.cast (mat_zero E k _).symm, Fr.refl _ _⟩
      case round =>
        obtain ⟨t, htl, rfl, hna, hfr⟩ := hrel
        have f1 := (hfr.cell (cell_some_lt e1) (show ¬ G = S by omega)).trans e1
        have frow := (hfr.cell (cell_some_lt erow) (show ¬ b2 = S by omega)).trans erow
        have hbt : Below S w1 wr := hfr.below (Nat.le_of_lt hw1S) (fun b hb => by rw [hb]; exact Nat.le_refl _)
        by_cases htt : t < (gr E k).length
        · obtain ⟨x, hx⟩ : ∃ x, (gr E k)[t]? = some x := ⟨_, List.getElem?_eq_getElem htt⟩
          have hxl : x < E.length := HK.out.valid k hlt x (List.mem_of_getElem? hx)
          obtain ⟨b3, off3, rfl, hcx⟩ := hil.num hx
          have hb3S : b3 < S := by rw [HS.out]; exact cell_some_lt hcx
          have hxi : (x : Int) < (E.length : Int) := by omega
          have hx0 : (0 : Int) ≤ (x : Int) := by omega
          have hti : (t : Int) < ((gr E k).length : Int) := by omega
          have ht0 : (0 : Int) ≤ (t : Int) := by omega
          have hk0 : (0 : Int) ≤ (k : Int) := by omega
          have hcz := hna.cell (i := x) (by rw [li_length]; exact hxl)
          have hfz := hna.frozen x
          have hml := mat_le E k t x
          have hdg := HK.out.deg k
          have hmz : (li (mat E k t) E.length).getD x 0 = mat E k t x := li_gz hxl
          rw [hmz] at hcz
          have HM := Lib.hid (mat_succ hx hxl)
          clear hmz hx
          obtain ⟨z, hz⟩ : ∃ z, mat E k t x = z := ⟨_, rfl⟩
          rw [hz] at hcz hml
          have HZ := Lib.hid hz
          clear hz
          have hcx' := (hfr.cell (Nat.lt_trans hb3S hw1S) (show ¬ b3 = S by omega)).trans (((bcell hb1').1 _ _ (cell_some_lt hcx)).trans hcx)
          clear hcx
          go_wp2_with fail
          go_still_tail 22, (by kernel_rfl)
          have hna2 : NArr wr.drew S (li (mat E k t) E.length) := hna
          have cz2 : wr.drew.cell? ⟨S, x, none⟩ = _ := hcz
          have fz2 : wr.drew.frozen? ⟨S, x, none⟩ = false := hfz
          have fr2 : Fr (· = S) w1 wr.drew := hfr.drew
          change wpList _ _ _ _ _ wr.drew
          clear hna hcz hfz hfr f1 frow hcx' hbt
          generalize wr.drew = w3 at *
          go_wp2_with fail
          go_roundw
          case rel => exact ⟨t + 1, by omega, by go_num, by rw [← HM.out, HZ.out]; exact hna2.set_ x _, fr2.trans (Fr.setCell (O := (· = S)) (p := ⟨S, x, none⟩) (fun _ => rfl) _)⟩
          case measure => simp [intOf]; omega
        · obtain rfl : t = (gr E k).length := by omega
          have hball : Below wr0.heap.size wr0 wr := hb1'.trans (by rw [← HS.out]; exact hbt)
          have hown2 := hown.below hball
          have hrow : IlD wr (wr0.heap.size ≤ ·) (.slice (some ⟨S, 0, none⟩) E.length E.length) (li (ma E k) E.length) := by
            have h1 := (hna.cast (by rw [mat_full])).ild (D := (wr0.heap.size ≤ ·)) (fun x hx => by
              obtain ⟨j, _, rfl⟩ := List.mem_map.1 hx
              have := mat_le E k (gr E k).length j
              have := HK.out.deg k
              rw [← mat_full]; omega) (by rw [li_length]; unfold maxLen; omega) (by rw [← HS.out]; exact Nat.le_refl _)
            rw [li_length] at h1
            exact h1
          have hrow2 := hown.row hbr.size (Nat.le_refl _) hrow
          clear hna hfr hbt hown
          go_wp2_with (at_builtin; (refine wpList_pushL (R := IlD) (T := 28) wr (by rfl) _ _ 23 23 (.slice none 0 0) 24 (by rfl) Tryd.underlying23 Tryd.underlying23 info_ints (by rfl) (by omega) W.heap.size (.slice A0 k c0) _ k (by simp) (by rfl) hown2 (.slice (some ⟨S, 0, none⟩) E.length E.length) (li (ma E k) E.length) hrow2 (by rfl) (by omega) (Nat.le_trans hbr.size hball.size) ?_); intro A9 c9 w9 hown9 hg9 hb9)
          go_roundw
          case rel => exact ⟨k + 1, by omega, by go_num, hown9.cast (rows_succ _ _ _).symm, hbr.trans ((hball.mono hbr.size).trans hb9)⟩
          case measure => simp [intOf]; omega
    · obtain rfl : k = E.length := by omega
      have hrw := hown.rows.mono (D' := (w.heap.size ≤ ·)) (fun b hb _ => Nat.le_trans hbW.size hb)
      go_wp2_with fail
      go_ret
      exact ⟨_, rfl, hrw, hbW.trans (hbr.mono hbW.size)⟩
end Go.Proofs.YtpkjdnplmgfbbaaDoor
