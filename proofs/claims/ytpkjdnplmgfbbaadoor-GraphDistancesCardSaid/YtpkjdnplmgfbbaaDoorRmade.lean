/- The references' integers, made of digits. -/
import Derived.Test.YtpkjdnplmgfbbaaDoorRdig
namespace Go.Proofs.YtpkjdnplmgfbbaaDoor
open Go.RowKit

/-- Half words in pairs. -/
def pk : List Nat → List Nat
  | [] => []
  | [x] => [x]
  | x :: y :: r => (x + y * 65536) :: pk r
theorem pk_val : ∀ l : List Nat, val 4294967296 (pk l) = val 65536 l
  | [] => rfl
  | [x] => by simp [pk, val]
  | x :: y :: r => by simp only [pk, val, pk_val r]; omega
theorem pk_small : ∀ {l : List Nat}, (∀ x ∈ l, x < 65536) → ∀ x ∈ pk l, x < 4294967296
  | [], _, x, hx => by cases hx
  | [y], h, x, hx => by
    simp only [pk, List.mem_singleton] at hx
    subst hx
    have := h x (List.mem_singleton.2 rfl)
    omega
  | y :: z :: r, h, x, hx => by
    simp only [pk, List.mem_cons] at hx
    rcases hx with rfl | hx
    · have := h y (by simp)
      have := h z (by simp)
      omega
    · exact pk_small (fun u hu => h u (by simp [hu])) x hx
theorem pk_gw : ∀ (l : List Nat) (k : Nat), gw (pk l) k = gw l (2 * k) + gw l (2 * k + 1) * 65536
  | [], k => by simp [pk, gw_nil]
  | [x], 0 => by simp [pk, gw]
  | [x], k + 1 => by
    rw [show 2 * (k + 1) = 2 * k + 1 + 1 from by omega]
    simp [pk, gw]
  | x :: y :: r, 0 => by simp [pk, gw]
  | x :: y :: r, k + 1 => by
    rw [show 2 * (k + 1) = 2 * k + 1 + 1 from by omega]
    simp only [pk, gw_cons_succ]
    exact pk_gw r k
theorem pk_length : ∀ l : List Nat, (pk l).length = (l.length + 1) / 2
  | [] => rfl
  | [x] => by simp [pk]
  | x :: y :: r => by simp only [pk, List.length_cons, pk_length r]; omega
theorem pk_trim {l : List Nat} (h : ∀ x ∈ l, x < 65536) (ht : trim l = l) : pk l = dig 4294967296 (val 65536 l) := by
  rw [← pk_val, ← trim_eq_dig (by omega) (pk_small h)]
  rcases Nat.eq_zero_or_pos l.length with h0 | h0
  · rw [List.eq_nil_of_length_eq_zero h0]; rfl
  · have hl := pk_length l
    obtain ⟨k, hk⟩ : ∃ k, (pk l).length = k + 1 := ⟨(pk l).length - 1, by omega⟩
    have hne : gw (pk l) k ≠ 0 := by
      rw [pk_gw]
      obtain ⟨j, hj⟩ : ∃ j, l.length = j + 1 := ⟨l.length - 1, by omega⟩
      have hz := trim_last ht hj
      rcases Nat.lt_or_ge (2 * k + 1) l.length with h1 | h1
      · have : 2 * k + 1 = j := by omega
        rw [this]; omega
      · have : 2 * k = j := by omega
        rw [this]; omega
    have := trim_take_ne (l := pk l) (k := k) (by omega) hne
    rw [List.take_of_length_le (by omega)] at this
    exact this.symm

theorem nint_of_digits {w : World} {D : Nat → Prop} {neg s : Bool} {A : Option Addr} {k c V m : Nat} {T U : List Nat} (h : Wd w D A k c U) (hU : U = dig 4294967296 V) (hs : s = (neg && decide (0 < m))) (hm : m = T.length) (hT : T = dig 65536 V) :
    NIntV w D (.agg #[.bool s, .slice A k c]) (sg neg V) := by
  by_cases h0 : V = 0
  · subst h0
    rw [dig_zero] at hU hT
    subst hU hT
    have hk := h.len
    simp only [List.length_nil] at hk hm
    subst hk hm
    have e1 : sg neg 0 = 0 := by unfold sg; split <;> rfl
    have e2 : s = false := by rw [hs]; simp
    rw [e1, e2]
    exact ⟨A, c, rfl, h⟩
  · have hpos : 0 < m := by
      rw [hm]
      rcases Nat.eq_zero_or_pos T.length with h1 | h1
      · rw [List.eq_nil_of_length_eq_zero h1] at hT
        exact absurd ((dig_eq_nil (by omega)).1 hT.symm) h0
      · exact h1
    have e2 : s = neg := by rw [hs]; simp [hpos]
    rw [e2]
    exact nint_of h hU h0

theorem Arr.grown {w w' : World} {g : Nat} {t : TypeId} {xs : List Value} {row : Option Nat} (h : Arr w g t xs) (hb : w.grownBy w' row) (hg : some g ≠ row) : Arr w' g t xs := (hb.block g h.lt hg).trans h

set_option maxRecDepth 100000 in
set_option maxHeartbeats 2000000 in
theorem rmade_any {D : Nat → Prop} {neg : Bool} {A : Option Addr} {n c : Nat} {l : List Nat} {w : World} (h : Hd w D A n c l) (hn : n ≤ 10000000000000) :
    Calls Tryd.prog 90 #[.bool neg, .slice A n c] w (Gives w fun w' v => NIntV w' (w.heap.size ≤ ·) v (sg neg (val 65536 l))) := by
  have hts : ∀ x ∈ trim l, x < 65536 := fun x hx => h.small x (trim_mem hx)
  have htt := trim_trim (by omega) h.small
  have hpk := pk_trim hts htt
  rw [val_trim] at hpk
  have hdg := trim_eq_dig (b := 65536) (by omega) h.small
  have htn : (trim l).length ≤ n := by rw [← h.len]; exact trim_length_le l
  generalize hT : trim l = T at *
  have HPK := Lib.hid hpk
  have HDG := Lib.hid hdg
  clear hdg
  have HTT := Lib.hid htt
  have HT := Lib.hid hT
  clear hpk htt hT
  generalize hm : T.length = m at *
  have HM := Lib.hid hm
  clear hm
  have hcases : (neg = false) ∨ (neg = true ∧ m ≤ 0) ∨ (neg = true ∧ 0 < m) := by cases neg <;> simp <;> omega
  obtain ⟨W, hW⟩ : ∃ W, W = w.alloc (.cells #[.bool false, .slice none 0 0] 46) := ⟨_, rfl⟩
  have hbW : Below w.heap.size w W := by rw [hW]; exact (Below.refl _ _).alloc (Nat.le_refl _) _
  have HR : Hid (W.heap[w.heap.size]? = some (.cells #[.bool false, .slice none 0 0] 46 (0, 0))) := by rw [hW]; exact heap_alloc_new _ _
  have HWW := Lib.hid hW
  clear hW
  obtain ⟨neg0, hn0⟩ : ∃ b, b = neg := ⟨_, rfl⟩
  have HN0 := Lib.hid hn0
  clear hn0
  rcases hcases with rfl | ⟨rfl, hpos⟩ | ⟨rfl, hpos⟩
  all_goals
    go_enter Tryd.func90, Tryd.ntmps90
    go_wp2_with (go_at_call 122; rw [← HWW.out]; ((with_reducible refine (rtrim_any (h.below hbW) hn).mono ?_)); rintro e w1 ⟨v1, rfl, ⟨A1, c1, rfl, hd1⟩, hb1⟩; rw [HT.out] at hd1 ⊢; rw [HM.out] at hd1 ⊢; have hh1 := (Held.call hb1 (Held.self HR.out)).2)
  all_goals
    go_loopw [6] (fun i wr => ∃ (p k : Nat) (s : Bool) (A2 : Option Addr) (c2 : Nat), i = .int .i64 p ∧ p ≤ 10000000000001 ∧ Hid (p = 2 * k) ∧ k ≤ (pk T).length ∧ Arr wr w1.heap.size 46 [.bool s, .slice A2 k c2] ∧ wr.ownsRow (w1.heap.size + 1) 93 1 (.slice A2 k c2) k (((pk T).take k).map fun x : Nat => Value.int .u32 (x : Int)) ∧
        Hid (s = (neg0 && decide (0 < m))) ∧ Below w1.heap.size w1 wr) (fun i _ => m - (intOf i).toNat)
    case atStart =>
      refine ⟨0, 0, _, none, 0, rfl, by omega, rfl, by omega, Arr.new _ _ [_, _], World.ownsRow_nil _ _ _ _, ?_, (Below.refl _ _).alloc (Nat.le_refl _) _⟩
      show _ = _
      rw [HN0.out]
      first | rfl | (simp; omega)
    case round =>
      obtain ⟨p, k, s, A2, c2, rfl, hp, hpk, hkl, harr, hown, hs, hbr⟩ := hrel
      have hO := harr.lt
      have f0 := harr.cell 0
      have f1 := harr.cell 1
      have z0 := harr.frozen 0
      have z1 := harr.frozen 1
      simp only [List.getElem?_cons_zero, List.getElem?_cons_succ] at f0 f1
      have hTl : T.length = m := HM.out
      have HTl := Lib.hid hTl
      clear hTl
      rcases Nat.lt_or_ge p m with hpm | hpm
      · try (exfalso; omega)
        all_goals
          obtain ⟨b1, off1, rfl, hbD, hcl⟩ := hd1.cells (by omega)
          have hb1l := cell_lt (hcl 0 (by omega))
          have e1 : wr.cell? ⟨b1, off1 + p, none⟩ = some (.int .i64 (gw T p)) := by
            rw [hbr.cell (p := ⟨b1, off1 + p, none⟩) hb1l]; exact hcl p hpm
          have g1 := gw_bound hts (by omega) p
          have g2 := gw_bound hts (by omega) (p + 1)
          have hpl := pk_length T
          have hkT : k < (pk T).length := by have := hpk.out; have := HTl.out; omega
          clear hpl
          have hk2 : k ≤ 10000000000000 := by have := hpk.out; omega
          have HOB := Lib.hid (fun g (hg : (Value.slice A2 k c2).ownBlock = some g) => (hown.lt g hg).1)
          by_cases hp1 : p + 1 < m
          · have e2 : wr.cell? ⟨b1, off1 + (p + 1), none⟩ = some (.int .i64 (gw T (p + 1))) := by
              rw [hbr.cell (p := ⟨b1, off1 + (p + 1), none⟩) hb1l]; exact hcl (p + 1) hp1
            clear hcl
            go_wp2_with (at_builtin; go_must (refine wpList_app _ rfl _ _ _ _ rfl (w1.heap.size + 1) 93 93 (.int .u32 0) 1 4 Tryd.underlying44 Tryd.underlying44 info_u32 rfl (by omega) (.slice A2 k c2) k _ rfl (hown.alloc _) (some ⟨wr.heap.size, 0, none⟩) 1 1 [.int .u32 ((gw T p : Int) + (gw T (p + 1) : Int) * 65536)] rfl (src_block (t := 93) (cs := [.int .u32 ((gw T p : Int) + (gw T (p + 1) : Int) * 65536)]) (heap_alloc_new wr _) 1 1 rfl) (by simp [Value.oneCell']) (by unfold maxLen; omega) (by omega) (by simp; omega) ?_); intro v3 w3 hown3 hgr3 hat3; obtain ⟨A3, c3, rfl, _, _⟩ := own_slice hown3; have q0 := hgr3.cell_far ⟨w1.heap.size, 0, none⟩ (by simp; omega) (fun e => by have := HOB.out _ e.symm; simp at this; omega); have q1 := hgr3.cell_far ⟨w1.heap.size, 1, none⟩ (by simp; omega) (fun e => by have := HOB.out _ e.symm; simp at this; omega); have q2 := hgr3.frozen_far ⟨w1.heap.size, 1, none⟩ (by simp; omega) (fun e => by have := HOB.out _ e.symm; simp at this; omega))
            go_roundw
            case rel =>
              refine ⟨p + 2, k + 1, s, A3, c3, by go_num, by omega, by show _ = _; have := hpk.out; omega, by omega, ?_, ?_, hs, ?_⟩
              · have ha := (((harr.alloc (.cells #[.int .u32 ((gw T p : Int) + (gw T (p + 1) : Int) * 65536)] 93)).grown hgr3 (fun e => by have := HOB.out _ e.symm; omega))).set_ 1 (.slice A3 (k + 1) c3)
                exact ha
              · rw [show (pk T).take (k + 1) = (pk T).take k ++ [gw (pk T) k] from take_succ_gw hkT, List.map_append]
                have e3 : (gw (pk T) k : Int) = ((gw T p : Int) + (gw T (p + 1) : Int) * 65536) := by
                  rw [pk_gw, ← hpk.out]; omega
                simp only [List.map_cons, List.map_nil, e3]
                exact ownsRow_setCell_below hown3 (Nat.lt_succ_self _) _
              · exact ((hbr.alloc (by omega) _).grown hgr3 (by simp; omega) (fun g hg => by have := HOB.out g hg; omega)).setCell (Nat.le_refl _) _
            case measure => simp [intOf]; omega
          · clear hcl
            go_wp2_with (at_builtin; go_must (refine wpList_app _ rfl _ _ _ _ rfl (w1.heap.size + 1) 93 93 (.int .u32 0) 1 4 Tryd.underlying44 Tryd.underlying44 info_u32 rfl (by omega) (.slice A2 k c2) k _ rfl (hown.alloc _) (some ⟨wr.heap.size, 0, none⟩) 1 1 [.int .u32 (gw T p : Int)] rfl (src_block (t := 93) (cs := [.int .u32 (gw T p : Int)]) (heap_alloc_new wr _) 1 1 rfl) (by simp [Value.oneCell']) (by unfold maxLen; omega) (by omega) (by simp; omega) ?_); intro v3 w3 hown3 hgr3 hat3; obtain ⟨A3, c3, rfl, _, _⟩ := own_slice hown3; have q0 := hgr3.cell_far ⟨w1.heap.size, 0, none⟩ (by simp; omega) (fun e => by have := HOB.out _ e.symm; simp at this; omega); have q1 := hgr3.cell_far ⟨w1.heap.size, 1, none⟩ (by simp; omega) (fun e => by have := HOB.out _ e.symm; simp at this; omega); have q2 := hgr3.frozen_far ⟨w1.heap.size, 1, none⟩ (by simp; omega) (fun e => by have := HOB.out _ e.symm; simp at this; omega))
            go_roundw
            case rel =>
              refine ⟨p + 2, k + 1, s, A3, c3, by go_num, by omega, by show _ = _; have := hpk.out; omega, by omega, ?_, ?_, hs, ?_⟩
              · have ha := (((harr.alloc (.cells #[.int .u32 (gw T p : Int)] 93)).grown hgr3 (fun e => by have := HOB.out _ e.symm; omega))).set_ 1 (.slice A3 (k + 1) c3)
                exact ha
              · rw [show (pk T).take (k + 1) = (pk T).take k ++ [gw (pk T) k] from take_succ_gw hkT, List.map_append]
                have e3 : (gw (pk T) k : Int) = (gw T p : Int) := by
                  rw [pk_gw, ← hpk.out]; rw [gw_ge (l := T) (j := p + 1) (by have := HTl.out; omega)]; omega
                simp only [List.map_cons, List.map_nil, e3]
                exact ownsRow_setCell_below hown3 (Nat.lt_succ_self _) _
              · exact ((hbr.alloc (by omega) _).grown hgr3 (by simp; omega) (fun g hg => by have := HOB.out g hg; omega)).setCell (Nat.le_refl _) _
            case measure => simp [intOf]; omega
      · have hkf : k = (pk T).length := by
          have h1 := pk_length T
          have h2 := hpk.out
          have h3 := HTl.out
          omega
        have hr := Held.call hbr hh1
        obtain ⟨u0, u1, r0, r1, y0, y1⟩ := hr.2.cells
        have HKF := Lib.hid hkf
        clear hkf
        have hne : w.heap.size < w1.heap.size := hh1.lt
        go_wp2_with fail
        refine bodyPost_ret (v := .agg #[.bool s, .slice A2 k c2]) (by simp [results, Tryd.results90, go_sem, r0, r1]) rfl ⟨_, rfl, ?_, hr.2.put hbW (Nat.le_refl _) _ _⟩
        have hk2 := HKF.out
        rw [List.take_of_length_le (by omega)] at hown
        obtain ⟨A4, c4, he, hwd⟩ := wd_of_own hown (pk_small hts)
        injection he with e1 e2 e3
        subst e1 e3
        have hni := nint_of_digits (m := m) hwd HPK.out hs.out HM.out.symm HDG.out
        rw [HN0.out] at hni
        exact ((hni.setCell (p := ⟨w.heap.size, 0, none⟩) (by simp; omega) _).setCell (p := ⟨w.heap.size, 1, none⟩) (by simp; omega) _).mono (fun b hb _ => by have : w1.heap.size + 1 ≤ b := hb; show w.heap.size ≤ b; omega)

end Go.Proofs.YtpkjdnplmgfbbaaDoor
