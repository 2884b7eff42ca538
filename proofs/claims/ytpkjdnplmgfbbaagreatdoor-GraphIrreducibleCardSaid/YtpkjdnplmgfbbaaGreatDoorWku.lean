/- The reference's Unit, Power, Trace. -/
import Derived.Test.YtpkjdnplmgfbbaaGreatDoorWkt
namespace Go.Proofs.YtpkjdnplmgfbbaaGreatDoor
open Go.RowKit

theorem mu_set {x : Int} {i n : Nat} (hi : i < n) : (List.replicate n (0 : Int)).set i x = li (mu x i) n := by
  rw [li_zero, li_set hi]
  refine li_ext fun j _ => ?_
  unfold mu
  by_cases e : j = i
  · subst e; simp
  · rw [if_neg e, if_neg (fun h => e h.symm)]

set_option maxHeartbeats 2000000 in
set_option maxRecDepth 100000 in
theorem rUnit_any (n : Nat) (hn : n ≤ 4096) (x : Int) (hx1 : -9223372036854775808 ≤ x) (hx2 : x ≤ 9223372036854775807) (w : World) :
    Calls Tryz.prog 36 #[.int .i64 (n : Nat), .int .i64 x] w (Gives w fun w' v' => RowsD PvD w' (w.heap.size ≤ ·) v' (ml (mu x) n)) := by
  obtain ⟨S, hS⟩ : ∃ S, S = w.heap.size := ⟨_, rfl⟩
  have HS := Lib.hid hS
  have HX := Lib.hid (And.intro hx1 hx2)
  clear hS hx1 hx2
  go_enter Tryz.func36, Tryz.ntmps36
  go_wp2_with (refine wpList_make_arr _ rfl _ _ 23 rfl 55 (.slice none 0 0) 1 24 Tryz.underlying23 info_ints _ _ _ _ n rfl rfl rfl rfl (by omega) (by omega) ?_; rw [← HS.out]; intro w1 har hb1 hs1; have HAR := Lib.hid har; have HS1 := Lib.hid hs1; clear har hs1)
  have hl0 : ((madeCells (Value.slice none 0 0).cells (n * 1)).toList).length = n := by simp [size_madeCells]
  have HL0 := Lib.hid hl0
  clear hl0
  go_loopw [6] (fun i wr => ∃ (k : Nat) (vs : List Value), k ≤ n ∧ i = .int .i64 (k : Nat) ∧ Arr wr S 55 vs ∧ Hid (vs.length = n) ∧ Hid (∀ i v, i < k → vs[i]? = some v → IlD wr (S < ·) v (li (mu x i) n)) ∧ Below S w wr) (fun i _ => n - (intOf i).toNat)
  case atStart => exact ⟨0, _, Nat.zero_le _, rfl, HAR.out, HL0, Lib.hid (fun i v hi => by omega), hb1⟩
  case round =>
    clear HAR HS1 hb1 HL0 w1
    obtain ⟨k, vs, hkl, rfl, har, hvl, hrows, hbr⟩ := hrel
    by_cases hlt : k < n
    · have hki : (k : Int) < (n : Int) := by omega
      have hk0 : (0 : Int) ≤ (k : Int) := by omega
      obtain ⟨T, hT⟩ : ∃ T, T = wr.heap.size := ⟨_, rfl⟩
      have HT := Lib.hid hT
      have hST : S < T := by rw [hT]; exact har.lt
      clear hT
      obtain ⟨v0, hv0⟩ : ∃ v0, vs[k]? = some v0 := ⟨_, List.getElem?_eq_getElem (by rw [hvl.out]; exact hlt)⟩
      have HV0 := Lib.hid hv0
      clear hv0
      go_wp2_with (refine wpList_make_arr _ rfl _ _ 55 rfl 3 (.int .i64 0) 1 8 Tryz.underlying55 (by kernel_rfl) _ _ _ _ n rfl rfl rfl rfl (by omega) (by omega) ?_; rw [← HT.out]; intro w1 haT hbT hsT; have hna := NArr.made haT; have ha1 : Arr w1 S 55 vs := Arr.below har hbT hST; have cS := (ha1.cell k).trans HV0.out; have fS := ha1.frozen k; have hna2 : NArr (w1.setCell ⟨S, k, none⟩ (.slice (some ⟨T, 0, none⟩) n n)) T (List.replicate n 0) := Arr.far hna (show T ≠ S by omega) _; have y0 := hna2.cell (i := k) (by simpa using hlt); have y1 := hna2.frozen k; have HA1 := Lib.hid ha1; have HNA2 := Lib.hid hna2; clear haT hna ha1 hsT hna2)
      go_roundw
      case rel =>
        have hset := HA1.out.set_ k (.slice (some ⟨T, 0, none⟩) n n)
        have hset2 := hset.far (p := ⟨T, k, none⟩) (show S ≠ T by omega) (.int .i64 x)
        have hrow := HNA2.out.set_ k x
        have hld : IlD ((w1.setCell ⟨S, k, none⟩ (.slice (some ⟨T, 0, none⟩) n n)).setCell ⟨T, k, none⟩ (.int .i64 x)) (S < ·) (.slice (some ⟨T, 0, none⟩) n n) (li (mu x k) n) := by
          have h1 := (hrow.cast (mu_set hlt)).ild (D := (S < ·)) (fun y hy => by
            obtain ⟨j, _, rfl⟩ := List.mem_map.1 hy
            have := HX.out
            unfold mu
            split <;> omega) (by rw [li_length]; unfold maxLen; omega) (show S < T from hST)
          rw [li_length] at h1
          exact h1
        refine ⟨k + 1, _, by omega, by go_num, hset2, Lib.hid (by simp [hvl.out]), Lib.hid (fun i v hi hv => ?_), ?_⟩
        · rw [List.getElem?_set] at hv
          by_cases e : k = i
          · subst e
            rw [if_pos rfl, if_pos (by rw [hvl.out]; exact hlt)] at hv
            injection hv with hv
            rw [← hv]
            exact hld
          · rw [if_neg e] at hv
            have h1 := hrows.out i v (by omega) hv
            have h2 : IlD wr (fun b => S < b ∧ b < T) v (li (mu x i) n) := Foot.mono h1 fun b hb hl => ⟨hb, by rw [HT.out]; exact hl⟩
            refine Foot.mono (Foot.keep h2 fun b hb _ => ?_) fun b hb _ => hb.1
            rw [Below.heap_setCell _ _ _ _ (show b ≠ T by omega), Below.heap_setCell _ _ _ _ (show b ≠ S by omega)]
            exact hbT.block b hb.2
        · exact ((hbr.trans (hbT.mono (by omega))).setCell (p := ⟨S, k, none⟩) (Nat.le_refl _) _).setCell (p := ⟨T, k, none⟩) (Nat.le_of_lt hST) _
      case measure => simp [intOf]; omega
    · obtain rfl : k = n := by omega
      have hrw : RowsD IlD wr (S ≤ ·) (.slice (some ⟨S, 0, none⟩) k k) (ml (mu x) k) := by
        refine ⟨some ⟨S, 0, none⟩, k, vs, by rw [ml_length], by rw [ml_length]; exact Nat.le_refl _, by unfold maxLen; omega, by rw [ml_length]; exact hvl.out, fun _ => ⟨S, 0, rfl, Nat.le_refl _, fun j u hu => by rw [Nat.zero_add, har.cell]; exact hu⟩, fun i u y hu hy => ?_⟩
        have hil := lt_of_some hy
        rw [ml_length] at hil
        rw [ml_get hil] at hy
        injection hy with hy
        rw [← hy]
        exact Foot.mono (hrows.out i u hil hu) fun b (hb : S < b) _ => Nat.le_of_lt hb
      have HRW := Lib.hid (rWide_any hrw (by omega) (fun l hl => by
        obtain ⟨i, _, rfl⟩ := List.mem_map.1 hl
        rw [li_length]; omega))
      clear hrw hrows hvl
      go_wp2_with (go_at_call 34; refine HRW.out.mono ?_; rintro e w4 ⟨v4, rfl, hr4, hb4⟩)
      go_ret
      exact ⟨_, rfl, hr4.mono fun b hb _ => Nat.le_trans (by rw [← HS.out]; exact Nat.le_of_lt har.lt) hb, (hbr.mono (by rw [HS.out]; exact Nat.le_refl _)).trans (hb4.mono (by rw [← HS.out]; exact Nat.le_of_lt har.lt))⟩

/-- The numbers of walks as a matrix. -/
def wm (E : List (List Nat)) (m i k : Nat) : Int := (wn E i m k : Nat)
theorem wm_mm (E : List (List Nat)) (m : Nat) : ml (mm E.length (wm E m) (ma E)) E.length = ml (wm E (m + 1)) E.length := ml_ext fun i k _ _ => mm_wn E m i k
theorem wm_mu (E : List (List Nat)) : ml (mu 1) E.length = ml (wm E 0) E.length := ml_ext fun i k _ _ => mu_wn E i k
theorem ma_le {names : List ByteArray} {E : List (List Nat)} (hk : Ok names E) (i k : Nat) : (ma E i k).natAbs ≤ 2 ^ 9 := by
  unfold ma
  have := List.count_le_length (a := k) (l := gr E i)
  have := hk.deg i
  rw [Int.natAbs_natCast]; omega
theorem wm_le {names : List ByteArray} {E : List (List Nat)} (hk : Ok names E) (m i k : Nat) : (wm E m i k).natAbs ≤ 2 ^ (20 * m) := by
  unfold wm
  rw [Int.natAbs_natCast]
  exact wn_small hk i m k

theorem tbox (w : World) : ∃ W R P, W = (w.alloc (.cells #[.bool false, .slice none 0 0] 39)).alloc (.cells #[.bool false, .slice none 0 0] 39) ∧ R = w.heap.size ∧ P = w.heap.size + 1 ∧ Below w.heap.size w W ∧ Arr W R 39 [.bool false, .slice none 0 0] ∧ IVar W P 0 ∧ R < P ∧ w.heap.size ≤ R := by
  have hs : (w.alloc (.cells #[.bool false, .slice none 0 0] 39)).heap.size = w.heap.size + 1 := by simp
  have h0 : Arr (w.alloc (.cells #[.bool false, .slice none 0 0] 39)) w.heap.size 39 [.bool false, .slice none 0 0] := heap_alloc_new w _
  have h1 := ivar_zero (w.alloc (.cells #[.bool false, .slice none 0 0] 39))
  rw [hs] at h1
  exact ⟨_, _, _, rfl, rfl, rfl, ((Below.refl _ _).alloc (Nat.le_refl _) _).alloc (by simp) _, h0.alloc _, h1, by omega, Nat.le_refl _⟩

end Go.Proofs.YtpkjdnplmgfbbaaGreatDoor
