/- graph.Print of any valid graph. -/
import Derived.Test.YtpkjdnplmgfbbaaGreatDoorTxc
import Derived.Test.YtpkjdnplmgfbbaaGreatDoorG9
import Derived.Lib.AppendIntMem
namespace Go.Proofs.YtpkjdnplmgfbbaaGreatDoor
open Go.RowKit

theorem bld_below {w w' : World} {B b : Nat} {l : List UInt8} (h : Bld w B b l) (hb : Below w.heap.size w w') : Bld w' B b l := by
  have key : ∀ p, Lib.BuilderAt 100 5 B b p (Lib.byteCells l) w → Lib.BuilderAt 100 5 B b p (Lib.byteCells l) w' := by
    rintro p ⟨hB, v, hbk, hown, hne⟩
    have hlt := (Array.getElem?_eq_some_iff.1 hbk).1
    refine ⟨hB, v, (hb.block b hlt).trans hbk, ⟨hown.1, ?_⟩, hne⟩
    rcases hown.2 with h3 | ⟨g, cap, cur, e, h4, h5, h6⟩
    · exact .inl h3
    · exact .inr ⟨g, cap, cur, e, h4, (hb.block g (World.ownsRow.lt hown g (by rw [e]; rfl)).2).trans h5, h6⟩
  rcases h with h | h
  · exact .inl (key _ h)
  · exact .inr (key _ h)
theorem Itoa_pos {w : World} (h : Vrs w) (y : Nat) (hy : y < 2500) : Calls Tryz.prog 57 #[.int .i64 (y : Int)] w fun e w' => e = .returned (.string ⟨(Lib.decDigits y).toArray⟩) ∧ Below w.heap.size w w' := by
  refine (Tryz.strconv_Itoa (y : Int) (by omega) (by omega) w h.tab).mono ?_
  rintro e w' ⟨rfl, k, os, rfl⟩
  refine ⟨?_, Go.Lib.below_grow _ _ (Nat.le_refl _) _ _⟩
  unfold Lib.itoa
  rw [if_neg (by omega), Int.toNat_natCast]
theorem dec_shortT : ∀ v, v < 2500 → (Lib.decDigits v).length ≤ 4 := by
  intro v hv
  rw [Lib.decDigits]
  split
  · simp
  · rw [Lib.decDigits]
    split
    · simp
    · rw [Lib.decDigits]
      split
      · simp
      · rw [Lib.decDigits, dif_pos (by omega)]; simp
theorem nums_shortT {l : List Nat} (h : ∀ v ∈ l, v < 2500) : (nums l).length ≤ 5 * l.length := by
  induction l with
  | nil => simp [nums]
  | cons x r ih =>
    have h1 := dec_shortT x (h x (by simp))
    have h2 := ih fun v hv => h v (by simp [hv])
    have e : nums (x :: r) = (32 :: Lib.decDigits x) ++ nums r := by simp [nums]
    rw [e]
    simp only [List.length_append, List.length_cons]
    omega
theorem prn_shortT {names : List ByteArray} {E : List (List Nat)} (hk : Ok names E) : ∀ k, k ≤ E.length → (prn names E k).length ≤ k * 3000 := by
  intro k
  induction k with
  | zero => intro _; simp [prn]
  | succ k ih =>
    intro hkl
    have h1 := ih (by omega)
    have h0 := hk.small
    have h2 : (nums (gr E k)).length ≤ 5 * (gr E k).length := nums_shortT fun v hv => by have := hk.valid k (by omega) v hv; omega
    have h3 := hk.deg k
    have hkn : k < names.length := by rw [hk.len]; omega
    have h4 := (hk.name _ (List.mem_of_getElem? (List.getElem?_eq_getElem hkn))).2.1
    have h5 : (names.getD k ByteArray.empty).data.toList.length ≤ 40 := by
      rw [getD_some (List.getElem?_eq_getElem hkn), ← Lib.size_eq]; exact h4
    rw [prn]
    simp only [List.length_append, List.length_singleton]
    omega

set_option maxHeartbeats 4000000 in
set_option maxRecDepth 100000 in
theorem Print_tab {w : World} (hv : Vrs w) {v : Value} {names : List ByteArray} {E : List (List Nat)} (h : GrV w v names (toI E)) (hc : chk names (toI E) = 0) (hk : Ok names E) :
    Calls Tryz.prog 20 #[v] w fun e w' => e = .returned (.tuple #[.string ⟨(prn names E E.length).toArray⟩, .int .i64 0]) ∧ Below w.heap.size w w' := by
  have HC := Lib.hid (fun w' hb => Check_any (h.at w' hb))
  rw [hc] at HC
  have hsm := hk.small
  have HPS := Lib.hid (prn_shortT hk)
  obtain ⟨A, c, A', c', rfl, hs, hg⟩ := h
  rw [toI_length] at *
  obtain ⟨W, G, hW, hG, hbW, c0, c1, hGl, hwG⟩ := gbox w (.slice A names.length c) (.slice A' E.length c')
  replace hg := hg.below hbW
  replace hs := hs.below hbW
  have hr := hg.room
  have hr' := hs.room
  have hln := hk.len
  unfold maxLen at hr hr'
  have HW := Lib.hid hW
  have HG := Lib.hid hG
  have HK := Lib.hid hk
  have HLN := Lib.hid hln
  have hnl : names.length ≤ 2500 := by omega
  clear hW hG hc hk hln
  go_enter Tryz.func20, Tryz.ntmps20
  go_wp2_with (go_at_call 55; rw [← HW.out, ← HG.out]; refine (HC.out _ hbW).mono ?_; rintro e w1 ⟨rfl, hb1⟩; have hb2 := hbW.trans (hb1.mono hbW.size); have d0 := ((bcell hb1).1 _ 0 hGl).trans c0; have d1 := ((bcell hb1).1 _ 1 hGl).trans c1; have hGl2 := Nat.lt_of_lt_of_le hGl hb1.size)
  obtain ⟨w2, B, hw2, hB⟩ : ∃ w2 B, w2 = w1.alloc (.cells #[.pointer none, .slice none 0 0] 100) ∧ B = w1.heap.size := ⟨_, _, rfl, rfl⟩
  have hbl : Bld w2 B B [] := by rw [hw2, hB]; exact Lib.fresh_isBuilder _ _ w1
  have hb3 : Below B w1 w2 := by rw [hw2, hB]; exact (Below.refl _ _).alloc (Nat.le_refl _) _
  have hBw : w1.heap.size ≤ B := by omega
  replace hg := hg.below hb1
  replace hs := hs.below hb1
  have HB := Lib.hid hB
  rw [← hw2, ← hB]
  clear hw2 hB hb1 c0 c1
  go_loopw [18] (fun i wr => ∃ k : Nat, k ≤ names.length ∧ i = .int .i64 (k : Nat) ∧ Bld wr B B (prn names E k) ∧ Below B w1 wr) (fun i _ => names.length - (intOf i).toNat)
  case atStart => exact ⟨0, Nat.zero_le _, rfl, hbl, hb3⟩
  case round =>
    clear hbl hb3
    obtain ⟨k, hkl, rfl, hbl, hbr⟩ := hrel
    have hbr' : Below w1.heap.size w1 wr := by rw [← HB.out]; exact hbr
    have hBr : B ≤ wr.heap.size := by rw [HB.out]; exact hbr.size
    by_cases hlt : k < names.length
    · have hkE : k < E.length := by rw [← HLN.out]; exact hlt
      obtain ⟨b1, off1, rfl, hcell⟩ := hs.cell (by omega)
      obtain ⟨x, hx⟩ : ∃ x, names[k]? = some x := ⟨_, List.getElem?_eq_getElem hlt⟩
      have hcx' := hcell k x hx
      have hcx := ((bcell hbr').1 _ _ (cell_some_lt hcx')).trans hcx'
      have hxm := (HK.out.name x (List.mem_of_getElem? hx)).2.1
      obtain ⟨b2, off2, A2, c2, rfl, hrow', hr3, hr4, hil⟩ := hg.row hkE
      have f1' := d1
      have hpl := HPS.out k (by omega)
      have HX := Lib.hid hx
      have HPL := Lib.hid hpl
      clear hcell hx hpl
      have HBB := Lib.hid (fun w' (hb : Below B w1 w') => show Below w1.heap.size w1 w' by rw [← HB.out]; exact hb)
      go_wp2_with fail
      refine (WriteString_any x hbl (by have := HPL.out; omega) hBr).mono ?_
      rintro e w3 ⟨rfl, hbl3, hb3⟩
      have hb4 := hbr.trans hb3
      have hb4' := HBB.out _ hb4
      have g1 := ((bcell hb4').1 _ 1 hGl2).trans d1
      have hrow := ((bcell hb4').1 _ _ (cell_some_lt hrow')).trans hrow'
      have hki : (k : Int) < (E.length : Int) := by omega
      clear hb3 hbr hbr' hcx hcx' hbl f1' hBr
      go_wp2_with fail
      clear hb4' g1 hrow
      go_loopw [31] (fun i wr => ∃ t : Nat, t ≤ (gr E k).length ∧ i = .int .i64 (t : Nat) ∧ Bld wr B B (prn names E k ++ x.data.toList ++ nums ((gr E k).take t)) ∧ Below B w1 wr) (fun i _ => (gr E k).length - (intOf i).toNat)
      case atStart => exact ⟨0, Nat.zero_le _, rfl, by simpa [nums] using hbl3, hb4⟩
      case round =>
        clear hbl3 hb4
        obtain ⟨t, htl, rfl, hbl, hbr⟩ := hrel
        have hBr : B ≤ wr.heap.size := by rw [HB.out]; exact hbr.size
        have hlen : (prn names E k ++ x.data.toList ++ nums ((gr E k).take t)).length ≤ 10000000 := by
          have h1 := HPL.out
          have h2 : (nums ((gr E k).take t)).length ≤ 5 * ((gr E k).take t).length := nums_shortT fun v hv => by have := HK.out.valid k hkE v (List.mem_of_mem_take hv); omega
          have h3 := HK.out.deg k
          have h4 : x.data.toList.length ≤ 40 := by rw [← Lib.size_eq]; exact hxm
          rw [List.length_take] at h2
          simp only [List.length_append]
          omega
        have HLEN := Lib.hid hlen
        clear hlen
        by_cases htt : t < (gr E k).length
        · obtain ⟨y, hy⟩ : ∃ y, (gr E k)[t]? = some y := ⟨_, List.getElem?_eq_getElem htt⟩
          have hyl : y < E.length := HK.out.valid k hkE y (List.mem_of_getElem? hy)
          obtain ⟨b3, off3, rfl, hcy⟩ := (hil.below (HBB.out _ hbr)).num hy
          have et : nums ((gr E k).take (t + 1)) = nums ((gr E k).take t) ++ (32 :: Lib.decDigits y) := by rw [List.take_add_one, hy]; exact nums_snoc _ _
          have HET := Lib.hid et
          have hdl := dec_shortT y (by omega)
          have hsd : (({ data := #[32] } : ByteArray) ++ ({ data := (Lib.decDigits y).toArray } : ByteArray)).data.toList = 32 :: Lib.decDigits y := by simp
          have hss : (({ data := #[32] } : ByteArray) ++ ({ data := (Lib.decDigits y).toArray } : ByteArray)).size ≤ 5 := by rw [Lib.size_eq, hsd, List.length_cons]; omega
          have HSD := Lib.hid hsd
          clear et hy hsd
          have hvr := hv.below (show Below w.heap.size w wr from hb2.trans ((HBB.out _ hbr).mono (by have := hb2.size; omega)))
          have HIT := Lib.hid (Itoa_pos hvr y (by omega))
          clear hvr
          go_wp2_with fail
          refine HIT.out.mono ?_
          rintro e w5 ⟨rfl, hb5⟩
          have hbl5 := bld_below hbl hb5
          have hb5' := hbr.trans (hb5.mono hBr)
          have hBr5 : B ≤ w5.heap.size := Nat.le_trans hBr hb5.size
          clear hbl hbr hBr hb5
          go_wp2_with fail
          refine (WriteString_any _ hbl5 (by have := HLEN.out; omega) hBr5).mono ?_
          rintro e w6 ⟨rfl, hbl6, hb6⟩
          rw [HSD.out] at hbl6
          have hbl7 : Bld w6 B B (prn names E k ++ x.data.toList ++ nums ((gr E k).take (t + 1))) := by rw [HET.out, ← List.append_assoc]; exact hbl6
          have hb7 := hb5'.trans hb6
          clear hbl6 hb6 hbl5 hb5'
          go_wp2_with fail
          go_roundw
          case rel => exact ⟨t + 1, by omega, by go_num, hbl7, hb7⟩
          case measure => simp [intOf]; omega
        · obtain rfl : t = (gr E k).length := by omega
          rw [List.take_length] at hbl HLEN
          go_wp2_with fail
          have hwb := WriteByte_any 10 hbl (by have := HLEN.out; omega) hBr
          refine hwb.mono ?_
          rintro e w6 ⟨rfl, hbl6, hb6⟩
          have hb7 := hbr.trans hb6
          have hbl7 : Bld w6 B B (prn names E (k + 1)) := by rw [prn, getD_some HX.out]; exact hbl6
          clear hbl6 hb6 hbl hbr hwb
          go_wp2_with fail
          go_roundw
          case rel => exact ⟨k + 1, by omega, by go_num, hbl7, hb7⟩
          case measure => simp [intOf]; omega
    · have hke : k = E.length := by have := HLN.out; omega
      subst hke
      go_wp2_with fail
      refine (Tryz.Builder_String_any B B _ _ hbl hBr).mono ?_
      rintro e w6 ⟨rfl, hb6⟩
      go_wp2_with fail
      go_ret2
      exact ⟨rfl, (hb2.trans (hbr.mono (by have := hb2.size; omega))).trans (hb6.mono (by have := hb2.size; omega))⟩
end Go.Proofs.YtpkjdnplmgfbbaaGreatDoor
