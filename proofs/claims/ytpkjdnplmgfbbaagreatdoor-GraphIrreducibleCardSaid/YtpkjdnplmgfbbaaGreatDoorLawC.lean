/- The reference's Degree and Undirected. The law GraphChecks: its walk. -/
import Derived.Test.YtpkjdnplmgfbbaaGreatDoorChw
import Derived.Deep.RegionHeld3
namespace Go.Proofs.YtpkjdnplmgfbbaaGreatDoor
open Go.RowKit

theorem degP_small {names : List ByteArray} {E : List (List Nat)} (hk : Ok names E) : (degP E).1 ≤ 400 ∧ (degP E).2 ≤ 12 := by
  unfold degP
  split
  · simp
  · split
    · simp
    · exact ⟨hk.deg 0, Nat.zero_le _⟩

set_option maxHeartbeats 1000000 in
set_option maxRecDepth 100000 in
theorem rDegree_ok {w : World} {v : Value} {names : List ByteArray} {E : List (List Nat)} (h : GrV w v names (toI E)) (hk : Ok names E) :
    Calls Tryz.prog 10 #[v] w (TwoR w (degP E).1 (degP E).2) := by
  have hsm := hk.small
  obtain ⟨A1, c1, A', c', rfl, hs, hg⟩ := h
  rw [toI_length] at *
  have hr := hg.room
  unfold maxLen at hr
  obtain ⟨W, G, hW, hG, hbW, c0, c1', hGl, hwG⟩ := gbox w (.slice A1 names.length c1) (.slice A' E.length c')
  replace hg := hg.below hbW
  have HW := Lib.hid hW
  have HG := Lib.hid hG
  clear hW hG hs hk c0
  go_enter Tryz.func10, Tryz.ntmps10
  go_wp2_with fail
  rw [← HW.out, ← HG.out]
  go_loopw [4] (fun i wr => ∃ k q : Nat, k ≤ E.length ∧ i = .int .i64 (k : Nat) ∧ (∀ j, j < k → (gr E j).length = (gr E 0).length) ∧ wr = W.drewN q) (fun i _ => E.length - (intOf i).toNat)
  case atStart => exact ⟨0, 0, Nat.zero_le _, rfl, fun j hj => by omega, rfl⟩
  case round =>
    obtain ⟨k, q, hkl, rfl, hall, rfl⟩ := hrel
    have HALL := Lib.hid hall
    clear hall
    by_cases hlt : k < E.length
    · obtain ⟨b, off, A2, c2, hA, hrow, hr1, hr2, _⟩ := hg.row hlt
      obtain ⟨b', off', A3, c3, hA', hrow', hr3, hr4, _⟩ := hg.row (show 0 < E.length by omega)
      subst hA
      injection hA' with hA'
      injection hA' with hb1 ho1
      subst hb1 ho1
      have hrow0 : W.cell? ⟨b, off, none⟩ = some (.slice A3 (gr E 0).length c3) := by simpa using hrow'
      have hki : (k : Int) < (E.length : Int) := by omega
      have hk0 : (0 : Int) ≤ (k : Int) := by omega
      have h0i : (0 : Int) < (E.length : Int) := by omega
      have h00 : (0 : Int) ≤ (0 : Int) := by omega
      clear hrow'
      by_cases he : (gr E k).length = (gr E 0).length
      · have hb : (((gr E k).length : Int) != ((gr E 0).length : Int)) = false := by simp [he]
        have HE := Lib.hid he
        clear he
        go_wp2_with fail
        go_quiet (fail)
        go_wp2_with fail
        go_roundw
        case rel =>
          refine ⟨k + 1, _, by omega, by go_num, fun j hj => ?_, rfl⟩
          rcases Nat.lt_or_ge j k with h1 | h1
          · exact HALL.out j h1
          · obtain rfl : j = k := by omega
            exact HE.out
        case measure => simp [intOf]; omega
      · have hb : (((gr E k).length : Int) != ((gr E 0).length : Int)) = true := by
          have : ¬ ((gr E k).length : Int) = ((gr E 0).length : Int) := by omega
          simp [this]
        have hd := degP_no (List.any_eq_true.2 ⟨gr E k, List.mem_of_getElem? (gr_lt hlt), by simpa using he⟩)
        have HD := Lib.hid hd
        clear he hd
        go_wp2_with fail
        go_quiet (fail)
        go_wp2_with fail
        go_ret2
        exact twoR_of HD.out (below_drewN' (below_drewN' hbW _) _)
    · obtain rfl : k = E.length := by omega
      have c2' : (W.drewN q).cell? ⟨G, 1, none⟩ = _ := c1'
      by_cases h0 : E.length = 0
      · have hz : ((E.length : Int) == 0) = true := by simp [h0]
        have hd := degP_nil h0
        have HD := Lib.hid hd
        clear hd h0
        go_wp2_with fail
        go_ret2
        exact twoR_of HD.out (below_drewN' hbW _)
      · have hz : ((E.length : Int) == 0) = false := beq_eq_false_iff_ne.2 (by omega)
        obtain ⟨b, off, A2, c2, rfl, hrow, hr1, hr2, _⟩ := hg.row (show 0 < E.length by omega)
        have hrow0 : (W.drewN q).cell? ⟨b, off, none⟩ = some (.slice A2 (gr E 0).length c2) := by simpa using hrow
        have h0i : (0 : Int) < (E.length : Int) := by omega
        have hany : (E.any fun l => decide (l.length ≠ (gr E 0).length)) = false := by
          rw [List.any_eq_false]
          intro l hl
          obtain ⟨j, hj, hjl⟩ := mem_getElem hl
          have h1 := HALL.out j hj
          have h2 : gr E j = l := by unfold gr; exact getD_some hjl
          rw [h2] at h1
          simpa using h1
        have hd := degP_yes h0 hany
        have HD := Lib.hid hd
        clear hd h0 hany hrow
        go_wp2_with fail
        go_ret2
        exact twoR_of HD.out (below_drewN' hbW _)

theorem same_step {wr wx wy : World} (hs : ∀ b o, b < wr.heap.size → wx.cell? ⟨b, o, none⟩ = wr.cell? ⟨b, o, none⟩) (hz : wr.heap.size ≤ wx.heap.size) (hb : Below wx.heap.size wx wy) :
    (∀ b o, b < wr.heap.size → wy.cell? ⟨b, o, none⟩ = wr.cell? ⟨b, o, none⟩) ∧ wr.heap.size ≤ wy.heap.size :=
  ⟨fun b o h1 => (hb.cell (p := ⟨b, o, none⟩) (Nat.lt_of_lt_of_le h1 hz)).trans (hs b o h1), Nat.le_trans hz hb.size⟩

theorem und_of {E : List (List Nat)} (h : ∀ i, i < E.length → ∀ k, k < i → (gr E i).count k = (gr E k).count i) : Und E := by
  intro u v hu hv
  rcases Nat.lt_trichotomy u v with h1 | h1 | h1
  · exact (h v hv u h1).symm
  · rw [h1]
  · exact h u hu v h1
theorem gi_count {E : List (List Nat)} (u v : Nat) : (gi E u).count (v : Int) = (gr E u).count v := by
  unfold gi
  induction gr E u with
  | nil => rfl
  | cons x r ih =>
    rw [List.map_cons, List.count_cons, List.count_cons, ih]
    by_cases e : x = v
    · subst e; simp
    · have : ¬ (x : Int) = (v : Int) := by omega
      simp [e, this]

end Go.Proofs.YtpkjdnplmgfbbaaGreatDoor
