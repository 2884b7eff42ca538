/- ref.Print of a graph in bounds. -/
import Derived.Test.YtpkjdnplmgfbbaaGreatDoorTxn
namespace Go.Proofs.YtpkjdnplmgfbbaaGreatDoor
open Go.RowKit

set_option maxHeartbeats 4000000 in
set_option maxRecDepth 100000 in
theorem rPrint_any {w : World} {v : Value} {names : List ByteArray} {E : List (List Nat)} (h : GrV w v names (toI E)) (hk : Ok names E) :
    Calls Tryz.prog 21 #[v] w fun e w' => e = .returned (.string (mkB (prn names E E.length))) ∧ Below w.heap.size w w' := by
  have hsm := hk.small
  have HPS := Lib.hid (prn_shortT hk)
  obtain ⟨A, c, A', c', rfl, hs, hg⟩ := h
  rw [toI_length] at *
  obtain ⟨W, G, hW, hG, hbW, c0, c1, hGl, hwG⟩ := gbox w (.slice A names.length c) (.slice A' E.length c')
  replace hg := hg.below hbW
  replace hs := hs.below hbW
  have hr := hg.room
  have hr' := hs.room
  have hln := hk.len
  unfold maxLen at hr hr'
  have HW := Lib.hid hW
  have HG := Lib.hid hG
  have HK := Lib.hid hk
  have HLN := Lib.hid hln
  have hnl : names.length ≤ 2500 := by omega
  have HDE := Lib.hid (fun (w : World) (v : Int) (a : -9999 ≤ v) (b : v ≤ 9999) => Decimal_any (w := w) v a b)
  clear hW hG hk hln
  go_enter Tryz.func21, Tryz.ntmps21
  go_wp2_with fail
  rw [← HW.out, ← HG.out]
  go_loop [3, 4] (fun tv i => ∃ (k : Nat) (t : ByteArray), k ≤ names.length ∧ i = .int .i64 (k : Nat) ∧ tv = .string t ∧ Hid (t.data.toList = prn names E k)) (fun _ i => names.length - (intOf i).toNat)
  case atStart => exact ⟨0, _, Nat.zero_le _, rfl, rfl, Lib.hid rfl⟩
  case round =>
    obtain ⟨k, t, hkl, rfl, rfl, HT⟩ := hrel
    have hts : t.size ≤ 7500000 := by
      have h1 := HPS.out k (by have := HLN.out; omega)
      rw [← HT.out, ← Lib.size_eq] at h1
      omega
    by_cases hlt : k < names.length
    · have hkE : k < E.length := by rw [← HLN.out]; exact hlt
      obtain ⟨b1, off1, rfl, hcell⟩ := hs.cell (by omega)
      obtain ⟨x, hx⟩ : ∃ x, names[k]? = some x := ⟨_, List.getElem?_eq_getElem hlt⟩
      have hcx := hcell k x hx
      have hxm := (HK.out.name x (List.mem_of_getElem? hx)).2.1
      obtain ⟨b2, off2, A2, c2, rfl, hrow, hr3, hr4, hil⟩ := hg.row hkE
      have HX := Lib.hid hx
      have hki : (k : Int) < (E.length : Int) := by omega
      clear hcell hx
      go_wp2_with fail
      go_loop [3, 5] (fun tv i => ∃ (j : Nat) (u : ByteArray), j ≤ (gr E k).length ∧ i = .int .i64 (j : Nat) ∧ tv = .string u ∧ Hid (u.data.toList = prn names E k ++ x.data.toList ++ nums ((gr E k).take j))) (fun _ i => (gr E k).length - (intOf i).toNat)
      case atStart => exact ⟨0, _, Nat.zero_le _, rfl, rfl, Lib.hid (by rw [ByteArray.data_append, Array.toList_append, HT.out]; simp [nums])⟩
      case round =>
        obtain ⟨j, u, hjl, rfl, rfl, HU⟩ := hrel
        have hus : u.size ≤ 10000000 := by
          rw [Lib.size_eq, HU.out]
          have h1 := HPS.out k (by omega)
          have h2 : (nums ((gr E k).take j)).length ≤ 5 * ((gr E k).take j).length := nums_shortT fun v hv => by have := HK.out.valid k hkE v (List.mem_of_mem_take hv); omega
          have h3 := HK.out.deg k
          have h4 : x.data.toList.length ≤ 40 := by rw [← Lib.size_eq]; exact hxm
          rw [List.length_take] at h2
          simp only [List.length_append]
          omega
        by_cases htt : j < (gr E k).length
        · obtain ⟨y, hy⟩ : ∃ y, (gr E k)[j]? = some y := ⟨_, List.getElem?_eq_getElem htt⟩
          have hyl : y < E.length := HK.out.valid k hkE y (List.mem_of_getElem? hy)
          obtain ⟨b3, off3, rfl, hcy⟩ := hil.num hy
          have et : nums ((gr E k).take (j + 1)) = nums ((gr E k).take j) ++ (32 :: Lib.decDigits y) := by rw [List.take_add_one, hy]; exact nums_snoc _ _
          have HET := Lib.hid et
          have hdl := dec_shortT y (by omega)
          have hds : (mkB (Lib.decDigits y)).size ≤ 4 := by rw [mkB_size]; exact hdl
          have HIT := Lib.hid (HDE.out W (y : Int) (by omega) (by omega))
          have HZ := Lib.hid (show (⟨(Lib.itoa (y : Int)).toArray⟩ : ByteArray) = mkB (Lib.decDigits y) by rw [Lib.itoa_nonneg]; rfl)
          obtain ⟨z, hz⟩ : ∃ z, z = mkB (Lib.decDigits y) := ⟨_, rfl⟩
          rw [← hz] at hds
          have HZZ := Lib.hid hz
          clear et hy hz
          go_wp2_with fail
          refine HIT.out.mono ?_
          intro e w5 hd
          obtain ⟨he, hw5⟩ : e = .returned (.string z) ∧ W = w5 := ⟨by rw [HZZ.out, ← HZ.out]; exact hd.1, hd.2⟩
          clear hd
          subst hw5
          subst he
          go_wp2_with fail
          go_round
          case rel => exact ⟨j + 1, _, by omega, by go_num, rfl, Lib.hid (by rw [HET.out, ByteArray.data_append, Array.toList_append, ByteArray.data_append, Array.toList_append, HU.out, HZZ.out, mkB_data]; simp)⟩
          case measure => simp [intOf]; omega
        · obtain rfl : j = (gr E k).length := by omega
          rw [List.take_length] at HU
          go_wp2_with fail
          go_round
          case rel => exact ⟨k + 1, _, by omega, by go_num, rfl, Lib.hid (by rw [prn, getD_some HX.out, ByteArray.data_append, Array.toList_append, HU.out])⟩
          case measure => simp [intOf]; omega
    · have hke : k = E.length := by have := HLN.out; omega
      subst hke
      go_wp2_with fail
      go_ret
      refine ⟨?_, hbW⟩
      have hq := eq_mkB HT.out
      generalize mkB (prn names E E.length) = z at hq ⊢
      subst hq
      rfl
end Go.Proofs.YtpkjdnplmgfbbaaGreatDoor
