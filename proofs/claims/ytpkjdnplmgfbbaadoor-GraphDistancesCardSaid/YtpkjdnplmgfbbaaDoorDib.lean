/- graph.Diameter. -/
import Derived.Test.YtpkjdnplmgfbbaaDoorDia
namespace Go.Proofs.YtpkjdnplmgfbbaaDoor
open Go.RowKit

open Classical in
/-- The greatest distance, or an error. -/
noncomputable def dia (E : List (List Nat)) : Int × Int := if E.length = 0 then (0, 12) else if dok E E.length then (dm E E.length, 0) else (0, 12)
def DiaR (w : World) (E : List (List Nat)) (e : Ending) (w' : World) : Prop := e = .returned (.tuple #[.int .i64 (dia E).1, .int .i64 (dia E).2]) ∧ Below w.heap.size w w'
theorem diaR_none {w w' : World} {E : List (List Nat)} {k : Nat} {x : Int} (hk : k < E.length) (hx : x ∈ dd E k) (h0 : x < 0) (hb : Below w.heap.size w w') : DiaR w E (.returned (.tuple #[.int .i64 0, .int .i64 12])) w' := by
  refine ⟨?_, hb⟩
  unfold dia
  rw [if_neg (by omega), if_neg (fun h => h k hk x hx h0)]
theorem diaR_some {w w' : World} {E : List (List Nat)} (h0 : E.length ≠ 0) (hd : dok E E.length) (hb : Below w.heap.size w w') : DiaR w E (.returned (.tuple #[.int .i64 (dm E E.length), .int .i64 0])) w' := by
  refine ⟨?_, hb⟩
  unfold dia
  rw [if_neg h0, if_pos hd]
theorem diaR_empty {w w' : World} {E : List (List Nat)} (h0 : E.length = 0) (hb : Below w.heap.size w w') : DiaR w E (.returned (.tuple #[.int .i64 0, .int .i64 12])) w' := by
  refine ⟨?_, hb⟩
  unfold dia
  rw [if_pos h0]
theorem dok_succ {E : List (List Nat)} {k : Nat} (h : dok E k) (hk : ∀ x ∈ dd E k, ¬ x < 0) : dok E (k + 1) := by
  intro i hi
  rcases Nat.lt_or_ge i k with h1 | h1
  · exact h i h1
  · obtain rfl : i = k := by omega
    exact hk
theorem mx_take {m : Int} {l : List Int} {j : Nat} {x : Int} (h : l[j]? = some x) : mx m (l.take (j + 1)) = max (mx m (l.take j)) x := by rw [List.take_add_one, h]; exact mx_snoc _ _ _
theorem no_neg_take {l : List Int} {j : Nat} {x : Int} (h : l[j]? = some x) (hp : ∀ y ∈ l.take j, ¬ y < 0) (hx : ¬ x < 0) : ∀ y ∈ l.take (j + 1), ¬ y < 0 := by
  rw [List.take_add_one, h]
  intro y hy
  rcases List.mem_append.1 hy with h1 | h1
  · exact hp y h1
  · have : y = x := by simpa using h1
    subst this; exact hx

set_option maxHeartbeats 1000000 in
theorem Diameter_bad {w : World} {v : Value} {names : List ByteArray} {E : List (List Int)} (h : GrV w v names E) (hc : chk names E ≠ 0) :
    Calls Tryd.prog 15 #[v] w fun e w' => e = .returned (.tuple #[.int .i64 0, .int .i64 (chk names E : Nat)]) ∧ Below w.heap.size w w' := by
  have HC := Lib.hid (fun w' hb => Check_any (h.at w' hb))
  generalize chk names E = q at *
  have hz : (((q : Nat) : Int) != 0) = true := by simp [hc]
  clear hc
  obtain ⟨A, c, A', c', rfl, hs, hg⟩ := h
  obtain ⟨W, G, hW, hG, hbW, c0, c1, hGl, hwG⟩ := gbox w (.slice A names.length c) (.slice A' E.length c')
  have HW := Lib.hid hW
  have HG := Lib.hid hG
  clear hW hG
  go_enter Tryd.func15, Tryd.ntmps15
  go_wp2_with (go_at_call 34; rw [← HW.out]; refine (HC.out _ hbW).mono ?_; rintro e w1 ⟨rfl, hb1⟩)
  go_ret2
  exact ⟨rfl, hbW.trans (hb1.mono hbW.size)⟩

set_option maxHeartbeats 1000000 in
theorem Diameter_ok {w : World} {v : Value} {names : List ByteArray} {E : List (List Nat)} (h : GrV w v names (toI E)) (hc : chk names (toI E) = 0) (hk : Ok names E) :
    Calls Tryd.prog 15 #[v] w (DiaR w E) := by
  have HC := Lib.hid (fun w' hb => Check_any (h.at w' hb))
  rw [hc] at HC
  have hl := hk.len
  have hsm := hk.small
  obtain ⟨A, c, A', c', rfl, hs, hg⟩ := h
  rw [toI_length] at *
  have HD := Lib.hid (fun w' (hb : Below w.heap.size w w') a (ha : a < E.length) => distances_any hk.valid hk.small ha (hg.below hb))
  obtain ⟨W, G, hW, hG, hbW, c0, c1, hGl, hwG⟩ := gbox w (.slice A names.length c) (.slice A' E.length c')
  have HW := Lib.hid hW
  have HG := Lib.hid hG
  have HL := Lib.hid hl
  have HK := Lib.hid hk
  clear hW hG hc hk hl
  by_cases h0 : E.length = 0
  · have hz : ((E.length : Int) == 0) = true := by simp [h0]
    have H0 := Lib.hid h0
    clear h0
    go_enter Tryd.func15, Tryd.ntmps15
    go_wp2_with (go_at_call 34; rw [← HW.out, ← HG.out]; refine (HC.out _ hbW).mono ?_; rintro e w1 ⟨rfl, hb1⟩; have hb2 := hbW.trans (hb1.mono hbW.size); have d0 := ((bcell hb1).1 _ 0 hGl).trans c0; have d1 := ((bcell hb1).1 _ 1 hGl).trans c1; have hGl2 := Nat.lt_of_lt_of_le hGl hb1.size)
    go_ret2
    exact diaR_empty H0.out hb2
  · have hz : ((E.length : Int) == 0) = false := beq_eq_false_iff_ne.2 (by omega)
    go_enter Tryd.func15, Tryd.ntmps15
    go_wp2_with (go_at_call 34; rw [← HW.out, ← HG.out]; refine (HC.out _ hbW).mono ?_; rintro e w1 ⟨rfl, hb1⟩; have hb2 := hbW.trans (hb1.mono hbW.size); have d1 := ((bcell hb1).1 _ 1 hGl).trans c1; have hGl2 := Nat.lt_of_lt_of_le hGl hb1.size)
    clear hz
    go_loopw [5, 21] (fun m i wr => ∃ k : Nat, k ≤ E.length ∧ i = .int .i64 (k : Nat) ∧ m = .int .i64 (dm E k) ∧ dok E k ∧ Below w1.heap.size w1 wr) (fun _ i _ => E.length - (intOf i).toNat)
    case atStart => exact ⟨0, Nat.zero_le _, rfl, rfl, fun i hi => by omega, Below.refl _ _⟩
    case round =>
      obtain ⟨k, hkl, rfl, rfl, hdo, hbr⟩ := hrel
      have HDO := Lib.hid hdo
      clear hdo
      by_cases hlt : k < E.length
      · have d2 := ((bcell hbr).1 _ 1 hGl2).trans d1
        have hb3 := hb2.trans (hbr.mono hb2.size)
        go_wp2_with (go_at_call 58; refine (HD.out _ hb3 k hlt).mono ?_; rintro e w5 ⟨v5, rfl, ⟨G5, hg5, rfl, hn5⟩, hb5⟩)
        have hdd := dd_is HK.out.valid hlt
        have hdl := hdd.1
        have HDL := Lib.hid hdl
        clear hdd hdl
        go_loop [5, 29] (fun m i => ∃ j : Nat, j ≤ E.length ∧ i = .int .i64 (j : Nat) ∧ m = .int .i64 (mx (dm E k) ((dd E k).take j)) ∧ ∀ x ∈ (dd E k).take j, ¬ x < 0) (fun _ i => E.length - (intOf i).toNat)
        case atStart => exact ⟨0, Nat.zero_le _, rfl, rfl, fun x hx => by simp at hx⟩
        case round =>
          obtain ⟨j, hjl, rfl, rfl, hno⟩ := hrel
          have HNO := Lib.hid hno
          clear hno
          by_cases hjt : j < E.length
          · obtain ⟨x, hx⟩ : ∃ x, (dd E k)[j]? = some x := ⟨_, List.getElem?_eq_getElem (by rw [HDL.out]; exact hjt)⟩
            have hcx := hn5.cell (i := j) (by rw [HDL.out]; exact hjt)
            rw [getD_some hx] at hcx
            have hmm := mx_take (m := dm E k) hx
            have hxs := dd_small HK.out.valid hlt (List.mem_of_getElem? hx)
            have HX := Lib.hid hx
            have HMM := Lib.hid hmm
            clear hx hmm
            by_cases hxn : x < 0
            · go_wp2_with fail
              go_ret2
              exact diaR_none hlt (List.mem_of_getElem? HX.out) hxn (hb3.trans (hb5.mono hb3.size))
            · go_wp2_with fail
              go_round
              case rel => exact ⟨j + 1, by omega, by go_num, by rw [HMM.out], no_neg_take HX.out HNO.out hxn⟩
              case measure => simp [intOf]; omega
          · obtain rfl : j = E.length := by omega
            rw [List.take_of_length_le (by rw [HDL.out]; exact Nat.le_refl _)] at HNO
            rw [List.take_of_length_le (by rw [HDL.out]; exact Nat.le_refl _)]
            go_wp2_with fail
            go_roundw
            case rel => exact ⟨k + 1, by omega, by go_num, rfl, dok_succ HDO.out HNO.out, hbr.trans (hb5.mono hbr.size)⟩
            case measure => simp [intOf]; omega
      · obtain rfl : k = E.length := by omega
        go_wp2_with fail
        go_ret2
        exact diaR_some h0 HDO.out (hb2.trans (hbr.mono hb2.size))
end Go.Proofs.YtpkjdnplmgfbbaaDoor
