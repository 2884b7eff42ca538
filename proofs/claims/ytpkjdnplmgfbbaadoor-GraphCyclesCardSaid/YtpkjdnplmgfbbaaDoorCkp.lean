/- Lists of vertices: the reference's count; slices.ContainsFunc, slices.Contains; checkList, CheckPath and the reference's CheckPath. -/
import Derived.Test.YtpkjdnplmgfbbaaDoorLawD
namespace Go.Proofs.YtpkjdnplmgfbbaaDoor
open Go.RowKit

/-- The neighbours of a vertex, as ints. -/
def gi (E : List (List Nat)) (v : Nat) : List Int := (gr E v).map fun x : Nat => (x : Int)
theorem gi_length (E : List (List Nat)) (v : Nat) : (gi E v).length = (gr E v).length := by simp [gi]
theorem gi_get {E : List (List Nat)} {v k x : Nat} (h : (gr E v)[k]? = some x) : (gi E v)[k]? = some (x : Int) := by unfold gi; rw [List.getElem?_map, h]; rfl
theorem gi_mem {E : List (List Nat)} {v x : Nat} : (x : Int) ∈ gi E v ↔ x ∈ gr E v := by
  unfold gi
  constructor
  · intro h
    obtain ⟨y, hy, e⟩ := List.mem_map.1 h
    have : y = x := by omega
    subst this; exact hy
  · intro h; exact List.mem_map.2 ⟨x, h, rfl⟩
theorem count_take {l : List Int} {k : Nat} {y x : Int} (h : l[k]? = some y) : (l.take (k + 1)).count x = (l.take k).count x + if y = x then 1 else 0 := by
  rw [List.take_add_one, h, List.count_append]
  by_cases e : y = x
  · subst e; simp
  · rw [if_neg e]
    have : ([y] : List Int).count x = 0 := List.count_eq_zero.2 (by simpa using fun h => e h.symm)
    simp [this]

set_option maxHeartbeats 1000000 in
set_option maxRecDepth 100000 in
theorem rcount_any {w : World} {v : Value} {names : List ByteArray} {E : List (List Nat)} (h : GrV w v names (toI E)) {u : Nat} (hu : u < E.length) (x : Int) :
    Calls Tryd.prog 71 #[v, .int .i64 (u : Nat), .int .i64 x] w (ChkR w ((gi E u).count x)) := by
  obtain ⟨A, c, A', c', rfl, hs, hg⟩ := h
  rw [toI_length] at *
  have hr := hg.room
  unfold maxLen at hr
  obtain ⟨W, G, hW, hG, hbW, c0, c1, hGl, hwG⟩ := gbox w (.slice A names.length c) (.slice A' E.length c')
  replace hg := hg.below hbW
  have HW := Lib.hid hW
  have HG := Lib.hid hG
  clear hW hG c0 hs
  have hui : (u : Int) < (E.length : Int) := by omega
  obtain ⟨b, off, A2, c2, rfl, hrow, hr1, hr2, hil⟩ := hg.row hu
  go_enter Tryd.func71, Tryd.ntmps71
  go_wp2_with fail
  rw [← HW.out, ← HG.out]
  go_loop [7, 8] (fun n i => ∃ k : Nat, k ≤ (gr E u).length ∧ i = .int .i64 (k : Nat) ∧ n = .int .i64 (((gi E u).take k).count x : Nat)) (fun _ i => (gr E u).length - (intOf i).toNat)
  case atStart => exact ⟨0, Nat.zero_le _, rfl, rfl⟩
  case round =>
    obtain ⟨k, hk, rfl, rfl⟩ := hrel
    have hcl : ((gi E u).take k).count x ≤ k := Nat.le_trans List.count_le_length (by rw [List.length_take]; omega)
    by_cases hlt : k < (gr E u).length
    · obtain ⟨y, hy⟩ : ∃ y, (gr E u)[k]? = some y := ⟨_, List.getElem?_eq_getElem hlt⟩
      obtain ⟨b3, off3, rfl, hcx⟩ := hil.num hy
      have hct := count_take (x := x) (gi_get hy)
      have HCT := Lib.hid hct
      clear hct hy
      by_cases hyx : (y : Int) = x
      · have hb : ((y : Int) == x) = true := by simp [hyx]
        have HYX := Lib.hid hyx
        clear hyx
        go_wp2_with fail
        go_round
        case rel => exact ⟨k + 1, by omega, by go_num, by rw [HCT.out, if_pos HYX.out]; go_num⟩
        case measure => simp [intOf]; omega
      · have hb : ((y : Int) == x) = false := beq_eq_false_iff_ne.2 hyx
        go_wp2_with fail
        go_round
        case rel => exact ⟨k + 1, by omega, by go_num, by rw [HCT.out, if_neg hyx]; rfl⟩
        case measure => simp [intOf]; omega
    · obtain rfl : k = (gr E u).length := by omega
      go_wp2_with fail
      go_ret
      exact chkR_of (by rw [List.take_of_length_le (by rw [gi_length]; exact Nat.le_refl _)]) hbW

/-- slices.ContainsFunc of a list of ints. -/
theorem ContainsFunc_any {w : World} {A : Option Addr} {n c : Nat} {l : List Int} (h : Il w A n c l) {f : FuncId} {lb : Array Value} {p : Int → Bool} (hf : Asks w f lb l p)
    (eg : ∀ args w, (callFunc f args).run Tryd.prog w = .ok (.enter f args) w) :
    Calls Tryd.prog 82 #[.slice A n c, .func (.func f) #[] lb] w fun e w' => e = .returned (.bool (l.any p)) ∧ Below w.heap.size w w' := by
  have EG := Lib.hid eg
  clear eg
  have HF := Lib.hid hf
  clear hf
  go_enter Tryd.func82, Tryd.ntmps82
  go_wp2_with (go_at_call 67; refine (IndexFunc_any h HF.out EG.out).mono ?_; rintro e w1 ⟨⟨i, y, hi1, hi2, rfl⟩ | ⟨hi2, rfl⟩, hb1⟩)
  · have e : l.any p = true := List.any_eq_true.2 ⟨y, List.mem_of_getElem? hi1, List.find?_some hi2⟩
    have HE := Lib.hid e
    clear e hi1 hi2
    go_ret
    exact ⟨ret_bool (by rw [HE.out]), hb1⟩
  · have e : l.any p = false := by
      rw [List.any_eq_false]
      intro x hx
      have := List.find?_eq_none.1 hi2 x hx
      simpa using this
    have HE := Lib.hid e
    clear e hi2
    go_ret
    exact ⟨ret_bool (by rw [HE.out]), hb1⟩

theorem Contains_any {w : World} {A : Option Addr} {n c : Nat} {l : List Int} (h : Il w A n c l) (x : Int) :
    Calls Tryd.prog 70 #[.slice A n c, .int .i64 x] w fun e w' => e = .returned (.bool (l.contains x)) ∧ w = w' := by
  have hl := h.len
  have hr := h.room
  unfold maxLen at hr
  rcases Nat.eq_zero_or_pos n with h0 | h0
  · subst h0
    have : l = [] := List.eq_nil_of_length_eq_zero hl
    subst this
    refine (Tryd.slices_Contains_int_empty A c x w).mono ?_
    rintro e w' ⟨rfl, rfl⟩
    exact ⟨rfl, rfl⟩
  · obtain ⟨b, off, rfl, hc⟩ := h.cell h0
    refine (Tryd.slices_Contains_int b off n c l x w (by omega) (by omega) (fun j hj => hc j _ (by simp [List.getD, List.getElem?_eq_getElem hj]))).mono ?_
    rintro e w' ⟨rfl, rfl⟩
    rw [List.take_of_length_le (by omega)]
    exact ⟨rfl, rfl⟩

/-- The error of a list of vertices. -/
def lstC (n : Nat) (l : List Int) : Nat := if l.length = 0 then 9 else if l.any (fun x => !hasB n x) then 6 else 0
/-- The i-th step is an edge. -/
def edgeB (E : List (List Nat)) (l : List Int) (i : Nat) : Bool := (gi E (l.getD i 0).toNat).contains (l.getD (i + 1) 0)
open Classical in
/-- The error of a walk. -/
noncomputable def ptC (E : List (List Nat)) (l : List Int) : Nat := if lstC E.length l ≠ 0 then lstC E.length l else if ∀ i, i + 1 < l.length → edgeB E l i = true then 0 else 18
theorem ptC_list {E : List (List Nat)} {l : List Int} (h : lstC E.length l ≠ 0) : ptC E l = lstC E.length l := by unfold ptC; rw [if_pos h]
theorem ptC_ok {E : List (List Nat)} {l : List Int} (h : lstC E.length l = 0) (h2 : ∀ i, i + 1 < l.length → edgeB E l i = true) : ptC E l = 0 := by unfold ptC; rw [if_neg (by simp [h]), if_pos h2]
theorem ptC_no {E : List (List Nat)} {l : List Int} {i : Nat} (h : lstC E.length l = 0) (hi : i + 1 < l.length) (h2 : edgeB E l i = false) : ptC E l = 18 := by
  unfold ptC; rw [if_neg (by simp [h]), if_neg]
  intro h3
  rw [h3 i hi] at h2
  cases h2
theorem lstC_zero {n : Nat} {l : List Int} (h : lstC n l = 0) : 0 < l.length ∧ ∀ x ∈ l, 0 ≤ x ∧ x < n := by
  unfold lstC at h
  split at h
  · cases h
  · rename_i h0
    split at h
    · cases h
    · rename_i h1
      refine ⟨by omega, fun x hx => ?_⟩
      have h2 : l.any (fun x => !hasB n x) = false := by simpa using h1
      have := (List.any_eq_false.1 h2) x hx
      unfold hasB at this
      simpa using this

set_option maxHeartbeats 1000000 in
theorem checkList1_any {W : World} {G : Nat} {A A' : Option Addr} {c c' : Nat} {names : List ByteArray} {E : List (List Int)} (h0 : W.cell? ⟨G, 0, none⟩ = some (.slice A names.length c)) (h1 : W.cell? ⟨G, 1, none⟩ = some (.slice A' E.length c'))
    (hg : GrV W (.agg #[.slice A names.length c, .slice A' E.length c']) names E) (x : Int) :
    Calls Tryd.prog 114 #[.int .i64 x, .pointer (some ⟨G, 0, none⟩)] W fun e W' => e = .returned (.bool (!hasB names.length x)) ∧ Below W.heap.size W W' := by
  have HG := Lib.hid hg
  clear hg
  go_enter Tryd.func114, Tryd.ntmps114
  go_wp2_with (go_at_call 57; refine (has_any HG.out x).mono ?_; rintro e w1 ⟨rfl, hb1⟩)
  go_ret
  exact ⟨rfl, hb1⟩

set_option maxHeartbeats 1000000 in
theorem checkList_any {w : World} {v : Value} {names : List ByteArray} {E : List (List Int)} (h : GrV w v names E) {A : Option Addr} {n c : Nat} {l : List Int} (hl : Il w A n c l) :
    Calls Tryd.prog 69 #[v, .slice A n c] w (ChkR w (lstC names.length l)) := by
  have H := Lib.hid (fun w' hb => h.at w' hb)
  have hln := hl.len
  have hr := hl.room
  unfold maxLen at hr
  obtain ⟨A1, c1, A', c', rfl, hs, hg⟩ := h
  obtain ⟨W, G, hW, hG, hbW, g0, g1, hGl, hwG⟩ := gbox w (.slice A1 names.length c1) (.slice A' E.length c')
  replace hl := hl.below hbW
  have HW := Lib.hid hW
  have HG := Lib.hid hG
  clear hW hG hs hg
  by_cases h0 : n = 0
  · have hz : ((n : Int) == 0) = true := by simp [h0]
    have e : 9 = lstC names.length l := by unfold lstC; rw [if_pos (by omega)]
    have HE := Lib.hid e
    clear e hln h0
    go_enter Tryd.func69, Tryd.ntmps69
    go_wp2_with fail
    rw [← HW.out]
    go_ret
    exact chkR_of HE.out hbW
  · have hz : ((n : Int) == 0) = false := beq_eq_false_iff_ne.2 (by omega)
    have eg := enters_of Tryd.func114 (by kernel_rfl) rfl
    have hask : Asks W 114 #[.pointer (some ⟨G, 0, none⟩)] l (fun x => !hasB names.length x) := by
      intro x _ W' hb
      obtain ⟨k0, k1⟩ := keep2 hb g0 g1
      exact checkList1_any k0 k1 (H.out _ (hbW.trans (hb.mono hbW.size))) x
    have HC := Lib.hid (ContainsFunc_any hl hask eg)
    clear eg hask
    have e : (if l.any (fun x => !hasB names.length x) then 6 else 0) = lstC names.length l := by unfold lstC; rw [if_neg (show ¬ l.length = 0 by omega)]
    cases hany : l.any (fun x => !hasB names.length x)
    · rw [hany] at e HC
      have HE := Lib.hid e
      clear e hany hln
      go_enter Tryd.func69, Tryd.ntmps69
      go_wp2_with (go_at_call 82; rw [← HW.out, ← HG.out]; refine HC.out.mono ?_; rintro e w1 ⟨rfl, hb1⟩)
      go_ret
      exact chkR_of HE.out (hbW.trans (hb1.mono hbW.size))
    · rw [hany] at e HC
      have HE := Lib.hid e
      clear e hany hln
      go_enter Tryd.func69, Tryd.ntmps69
      go_wp2_with (go_at_call 82; rw [← HW.out, ← HG.out]; refine HC.out.mono ?_; rintro e w1 ⟨rfl, hb1⟩)
      go_ret
      exact chkR_of HE.out (hbW.trans (hb1.mono hbW.size))
end Go.Proofs.YtpkjdnplmgfbbaaDoor
