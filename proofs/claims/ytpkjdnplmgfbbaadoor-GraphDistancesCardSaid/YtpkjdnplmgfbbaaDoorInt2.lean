/- Package integer: normal forms, sums, differences, products, comparisons. -/
import Derived.Test.YtpkjdnplmgfbbaaDoorInt
namespace Go.Proofs.YtpkjdnplmgfbbaaDoor
open Go.RowKit

/-- Below block R the world is as W was; block R is a variable for an integer, the call's own. -/
def Held (R : Nat) (W w' : World) : Prop := Below R W w' ∧ ∃ u0 u1, w'.heap[R]? = some (.cells #[u0, u1] 46 (0, 0))

section
variable {R : Nat} {W w1 w2 : World}
theorem Held.lt (h : Held R W w1) : R < w1.heap.size := by
  obtain ⟨_, u0, u1, h⟩ := h
  rcases Nat.lt_or_ge R w1.heap.size with hlt | hge
  · exact hlt
  · rw [Array.getElem?_eq_none hge] at h; cases h
theorem Held.init (u0 u1 : Value) (h : W.heap[R]? = some (.cells #[u0, u1] 46 (0, 0))) : (∀ b o, b < R → W.drew.cell? ⟨b, o, none⟩ = W.cell? ⟨b, o, none⟩) ∧ Held R W W.drew :=
  ⟨fun _ _ _ => rfl, (Below.refl _ _).drew, u0, u1, h⟩
theorem Held.call (hb : Below w1.heap.size w1 w2) (h : Held R W w1) : (∀ b o, b < R → w2.cell? ⟨b, o, none⟩ = W.cell? ⟨b, o, none⟩) ∧ Held R W w2 := by
  have hlt := h.lt
  have hb2 := h.1.trans (hb.mono (Nat.le_of_lt hlt))
  obtain ⟨_, u0, u1, hr⟩ := h
  exact ⟨fun b o hbr => hb2.cell (p := ⟨b, o, none⟩) hbr, hb2, u0, u1, (hb.block R hlt).trans hr⟩
theorem Held.call_lt (_ : Below w1.heap.size w1 w2) (h : Held R W w1) : R < w1.heap.size := h.lt
theorem Held.store (h : Held R W w1) (a b : Value) : (∀ c o, c < R → ((w1.setCell ⟨R, 0, none⟩ a).setCell ⟨R, 1, none⟩ b).cell? ⟨c, o, none⟩ = W.cell? ⟨c, o, none⟩) ∧ Held R W ((w1.setCell ⟨R, 0, none⟩ a).setCell ⟨R, 1, none⟩ b) := by
  obtain ⟨hb, u0, u1, hr⟩ := h
  have hb2 := (hb.setCell (p := ⟨R, 0, none⟩) (Nat.le_refl _) a).setCell (p := ⟨R, 1, none⟩) (Nat.le_refl _) b
  refine ⟨fun c o hc => hb2.cell (p := ⟨c, o, none⟩) hc, hb2, a, b, ?_⟩
  simp [World.setCell, Array.getElem?_modify, hr]
theorem Held.again (h : Held R W w1) : (∀ b o, b < R → w1.drew.cell? ⟨b, o, none⟩ = W.cell? ⟨b, o, none⟩) ∧ Held R W w1.drew :=
  ⟨fun b o hbr => h.1.cell (p := ⟨b, o, none⟩) hbr, h.1.drew, h.2⟩
theorem Held.drewN (h : Held R W w1) (n : Nat) : Held R W (w1.drewN n) := ⟨below_drewN' h.1 n, h.2⟩
theorem Held.rule (h : Held R W w1) : ∀ b o, b < R → w1.cell? ⟨b, o, none⟩ = W.cell? ⟨b, o, none⟩ := fun b o hbr => h.1.cell (p := ⟨b, o, none⟩) hbr
/-- From the call's start to a world that is held. -/
theorem Held.from (h : Held R W w1) {w : World} (hb : Below w.heap.size w W) (hlt : w.heap.size ≤ R) : Below w.heap.size w w1 := hb.trans (h.1.mono hlt)
theorem Held.put (h : Held R W w1) {w : World} (hb : Below w.heap.size w W) (hlt : w.heap.size ≤ R) (a b : Value) : Below w.heap.size w ((w1.setCell ⟨R, 0, none⟩ a).setCell ⟨R, 1, none⟩ b) :=
  (h.store a b).2.from hb hlt
theorem Held.cells (h : Held R W w1) : ∃ u0 u1, w1.cell? ⟨R, 0, none⟩ = some u0 ∧ w1.cell? ⟨R, 1, none⟩ = some u1 ∧ w1.frozen? ⟨R, 0, none⟩ = false ∧ w1.frozen? ⟨R, 1, none⟩ = false := by
  obtain ⟨_, u0, u1, hr⟩ := h
  exact ⟨u0, u1, by rw [cell_of_row w1 R 0 _ _ _ hr]; rfl, by rw [cell_of_row w1 R 1 _ _ _ hr]; rfl, by simp [World.frozen?, hr], by simp [World.frozen?, hr]⟩
end

theorem trim_trim {b : Nat} (hb : 2 ≤ b) {l : List Nat} (h : ∀ x ∈ l, x < b) : trim (trim l) = trim l := by
  rw [trim_eq_dig hb h, trim_dig hb]

/-- The boxes of one parameter, and the variable of the result. -/
theorem boxes1 (w : World) (a0 a1 : Value) : ∃ W R, W = (w.alloc (.cells #[a0, a1] 46)).alloc (.cells #[.bool false, .slice none 0 0] 46) ∧ R = w.heap.size + 1 ∧
    Below w.heap.size w W ∧ Hid (W.heap[R]? = some (.cells #[.bool false, .slice none 0 0] 46 (0, 0))) ∧ W.cell? ⟨w.heap.size, 0, none⟩ = some a0 ∧ W.cell? ⟨w.heap.size, 1, none⟩ = some a1 ∧ w.heap.size < R := by
  refine ⟨_, _, rfl, rfl, ((Below.refl _ _).alloc (Nat.le_refl _) _).alloc (by simp) _, ?_, by go_simp, by go_simp, by omega⟩
  show _ = _
  simpa using heap_alloc_new (w.alloc (.cells #[a0, a1] 46)) (.cells #[.bool false, .slice none 0 0] 46)
/-- The boxes of two parameters, and the variable of the result. -/
theorem boxes2 (w : World) (a0 a1 b0 b1 : Value) : ∃ W P R, W = ((w.alloc (.cells #[a0, a1] 46)).alloc (.cells #[b0, b1] 46)).alloc (.cells #[.bool false, .slice none 0 0] 46) ∧ P = w.heap.size + 1 ∧ R = w.heap.size + 1 + 1 ∧
    Below w.heap.size w W ∧ Hid (W.heap[R]? = some (.cells #[.bool false, .slice none 0 0] 46 (0, 0))) ∧ W.cell? ⟨w.heap.size, 0, none⟩ = some a0 ∧ W.cell? ⟨w.heap.size, 1, none⟩ = some a1 ∧
      W.cell? ⟨P, 0, none⟩ = some b0 ∧ W.cell? ⟨P, 1, none⟩ = some b1 ∧ w.heap.size < R ∧ P < R := by
  refine ⟨_, _, _, rfl, rfl, rfl, (((Below.refl _ _).alloc (Nat.le_refl _) _).alloc (by simp) _).alloc (by simp; omega) _, ?_, by go_simp, by go_simp, by go_simp, by go_simp, by omega, by omega⟩
  show _ = _
  simpa using heap_alloc_new ((w.alloc (.cells #[a0, a1] 46)).alloc (.cells #[b0, b1] 46)) (.cells #[.bool false, .slice none 0 0] 46)

theorem wl_trim {l : List Nat} (h : ∀ x ∈ l, x < 4294967296) : (trim l).length = wl (val 4294967296 l) := by
  rw [trim_eq_dig (by omega) h]; rfl
theorem wl_trim2 {l : List Nat} (h : ∀ x ∈ l, x < 4294967296) : (trim (trim l)).length = wl (val 4294967296 l) := by
  rw [trim_trim (by omega) h, wl_trim h]

/-- The result, behind the store into its variable. -/
theorem nint_put {R : Nat} {w w1 w2 : World} {A : Option Addr} {c : Nat} {x : Int} (hl : R < w1.heap.size) (hwd : Wd w2 (w1.heap.size ≤ ·) A (wl x.natAbs) c (dig 4294967296 x.natAbs)) (hle : w.heap.size ≤ R) (a b : Value) :
    NIntV ((w2.setCell ⟨R, 0, none⟩ a).setCell ⟨R, 1, none⟩ b) (w.heap.size ≤ ·) (.agg #[.bool (decide (x < 0)), .slice A (wl x.natAbs) c]) x := by
  have h : NIntV w2 (w1.heap.size ≤ ·) (.agg #[.bool (decide (x < 0)), .slice A (wl x.natAbs) c]) x := ⟨A, c, rfl, hwd⟩
  exact ((h.setCell (p := ⟨R, 0, none⟩) (by simp; omega) a).setCell (p := ⟨R, 1, none⟩) (by simp; omega) b).mono (fun k hk _ => by have : w1.heap.size ≤ k := hk; show w.heap.size ≤ k; omega)

theorem wl_le {a b : Nat} (h : a ≤ b) : wl a ≤ wl b := by
  unfold wl
  have h1 := val_lt (dig_lt (b := 4294967296) (by omega) b)
  rw [val_dig (by omega)] at h1
  exact dig_length_le (by omega) (by omega)
theorem wl_add (a b : Nat) : wl (a + b) ≤ max (wl a) (wl b) + 1 := by
  have h1 := val_lt (dig_lt (b := 4294967296) (by omega) a)
  have h2 := val_lt (dig_lt (b := 4294967296) (by omega) b)
  rw [val_dig (by omega)] at h1 h2
  refine dig_length_le (by omega) ?_
  have e1 : 4294967296 ^ (dig 4294967296 a).length ≤ 4294967296 ^ max (wl a) (wl b) := Nat.pow_le_pow_right (by omega) (Nat.le_max_left _ _)
  have e2 : 4294967296 ^ (dig 4294967296 b).length ≤ 4294967296 ^ max (wl a) (wl b) := Nat.pow_le_pow_right (by omega) (Nat.le_max_right _ _)
  rw [Nat.pow_succ]
  omega
theorem wl_mul (a b : Nat) : wl (a * b) ≤ wl a + wl b := by
  have h1 := val_lt (dig_lt (b := 4294967296) (by omega) a)
  have h2 := val_lt (dig_lt (b := 4294967296) (by omega) b)
  rw [val_dig (by omega)] at h1 h2
  refine dig_length_le (by omega) ?_
  unfold wl
  rw [Nat.pow_add]
  exact Nat.mul_lt_mul'' h1 h2

theorem sg_same (neg : Bool) (a b : Nat) : sg neg (a + b) = sg neg a + sg neg b := by unfold sg; split <;> omega
theorem sg_diff1 {n1 n2 : Bool} (h : (n1 == n2) = false) {a b : Nat} (hle : b ≤ a) : sg n1 (a - b) = sg n1 a + sg n2 b := by
  unfold sg; cases n1 <;> cases n2 <;> simp at h ⊢ <;> omega
theorem sg_diff2 {n1 n2 : Bool} (h : (n1 == n2) = false) {a b : Nat} (hle : a ≤ b) : sg n2 (b - a) = sg n1 a + sg n2 b := by
  unfold sg; cases n1 <;> cases n2 <;> simp at h ⊢ <;> omega
theorem sg_mul (n1 n2 : Bool) (a b : Nat) : sg (n1 != n2) (a * b) = sg n1 a * sg n2 b := by
  unfold sg; cases n1 <;> cases n2 <;> simp [Int.neg_mul, Int.mul_neg]

set_option maxHeartbeats 1000000 in
theorem Mul_any {D D' : Nat → Prop} {v v' : Value} {x y : Int} {w : World} (h : IntV w D v x) (h' : IntV w D' v' y) (hl : wl x.natAbs ≤ 1000000000000) (hl' : wl y.natAbs ≤ 1000000000000) :
    Calls Tryd.prog 121 #[v, v'] w (Gives w fun w' v => NIntV w' (w.heap.size ≤ ·) v (x * y)) := by
  replace h := h.mono (D' := fun _ => True) (fun _ _ _ => trivial)
  replace h' := h'.mono (D' := fun _ => True) (fun _ _ _ => trivial)
  obtain ⟨neg, A, n, c, l, rfl, h, rfl⟩ := h
  obtain ⟨neg', A', n', c', l', rfl, h', rfl⟩ := h'
  rw [sg_natAbs] at hl hl'
  have HL := Lib.hid hl
  have HL' := Lib.hid hl'
  clear hl hl'
  go_enter Tryd.func121, Tryd.ntmps121
  go_wp2_with fail
  obtain ⟨W, P, R, hW, hP, hR, hbW, HR, c0, c1, d0, d1, hlt, hlt2⟩ := boxes2 w (.bool neg) (.slice A n c) (.bool neg') (.slice A' n' c')
  rw [← hW, ← hR, ← hP]
  clear hW hP hR
  go_region_held3 (fun w' => (∀ b o, b < R → w'.cell? ⟨b, o, none⟩ = W.cell? ⟨b, o, none⟩) ∧ Held R W w')
    (first | exact Held.init _ _ HR.out | (go_split_ands; exact Held.call (by assumption) (by assumption)) | (go_split_ands; exact Held.again (by assumption)) | (go_split_ands; exact Held.store (by assumption) _ _))
    (first
      | (go_at_call 105; go_split_ands; ((with_reducible refine (size_any (h.below (Held.from (R := R) (W := W) (by assumption) hbW (by omega)))).mono ?_)); rintro e w' ⟨rfl, hb1⟩)
      | (go_at_call 105; go_split_ands; ((with_reducible refine (size_any (h'.below (Held.from (R := R) (W := W) (by assumption) hbW (by omega)))).mono ?_)); rintro e w' ⟨rfl, hb1⟩)
      | (go_at_call 137; go_split_ands; ((with_reducible refine (times_any (h.trim.below (Held.from (R := R) (W := W) (by assumption) hbW (by omega))) (h'.trim.below (Held.from (R := R) (W := W) (by assumption) hbW (by omega))) (by have := HL.out; rw [wl_trim h.small]; omega) (by have := HL'.out; rw [wl_trim h'.small]; omega)).mono ?_)); rintro e w3 ⟨v3, rfl, ⟨A3, c3, rfl, hwd3⟩, hb3⟩)
      | (go_at_call 86; go_split_ands; ((with_reducible refine (made_any hwd3 (by rw [wl_trim hwd3.small, val_dig (by omega), val_trim, val_trim]; have := HL.out; have := HL'.out; have := wl_mul (val 4294967296 l) (val 4294967296 l'); omega)).mono ?_)); rintro e w2 ⟨v2, rfl, ⟨A2, c2, rfl, hwd2⟩, hb2⟩; have hh := (Held.call hb2 (by assumption)).2; have hl2 := Held.call_lt (R := R) (W := W) hb2 (by assumption); obtain ⟨u0, u1, hr0, hr1, hf0, hf1⟩ := hh.cells))
  go_wp2_with fail
  refine bodyPost_ret (v := .agg #[.bool _, .slice A2 _ c2]) (by simp [results, Tryd.results121, go_sem, hr0, hr1]; exact ⟨rfl, rfl⟩) rfl ⟨_, rfl, ?_, hh.put hbW (by omega) _ _⟩
  have e : sg neg (val 4294967296 l) * sg neg' (val 4294967296 l') = sg (neg != neg') (val 4294967296 (dig 4294967296 (val 4294967296 (trim l) * val 4294967296 (trim l')))) := by
    rw [val_dig (by omega), val_trim, val_trim, sg_mul]
  rw [e]
  exact nint_put hl2 hwd2 (by omega) _ _

theorem compare_b {D : Nat → Prop} {A A' : Option Addr} {n c n' c' : Nat} {l l' : List Nat} {w : World} (h : Wd w D A n c l) (h' : Wd w D A' n' c' l') (ht : trim l = l) (ht' : trim l' = l') :
    Calls Tryd.prog 107 #[.slice A n c, .slice A' n' c'] w fun e w' => e = .returned (.int .i64 (cmpN (val 4294967296 l) (val 4294967296 l'))) ∧ Below w.heap.size w w' :=
  (compare_any h h' ht ht').mono fun e w' ⟨he, m, hw⟩ => ⟨he, by rw [hw]; exact below_drewN' (Below.refl _ _) m⟩

theorem negative_any {neg : Bool} {A : Option Addr} {n c : Nat} {w : World} :
    Calls Tryd.prog 119 #[.agg #[.bool neg, .slice A n c]] w fun e w' => e = .returned (.agg #[.bool (!neg), .slice A n c]) ∧ Below w.heap.size w w' := by
  go_enter Tryd.func119, Tryd.ntmps119
  go_wp2_with fail
  refine bodyPost_ret (v := .agg #[.bool (!neg), .slice A n c]) (by simp [results, Tryd.results119, go_sem]) rfl ⟨rfl, ?_⟩
  exact ((Below.refl _ _).alloc (Nat.le_refl _) _).alloc (by simp) _

set_option maxHeartbeats 1000000 in
theorem Add_any {D D' : Nat → Prop} {v v' : Value} {x y : Int} {w : World} (h : IntV w D v x) (h' : IntV w D' v' y) (hl : wl x.natAbs ≤ 1000000000000) (hl' : wl y.natAbs ≤ 1000000000000) :
    Calls Tryd.prog 62 #[v, v'] w (Gives w fun w' v => NIntV w' (w.heap.size ≤ ·) v (x + y)) := by
  replace h := h.mono (D' := fun _ => True) (fun _ _ _ => trivial)
  replace h' := h'.mono (D' := fun _ => True) (fun _ _ _ => trivial)
  obtain ⟨neg, A, n, c, l, rfl, h, rfl⟩ := h
  obtain ⟨neg', A', n', c', l', rfl, h', rfl⟩ := h'
  rw [sg_natAbs] at hl hl'
  have HL := Lib.hid hl
  have HL' := Lib.hid hl'
  clear hl hl'
  have TL := Lib.hid (trim_trim (b := 4294967296) (by omega) h.small)
  have TL' := Lib.hid (trim_trim (b := 4294967296) (by omega) h'.small)
  by_cases hne : neg = neg'
  · have ht : (neg == neg') = true := by simp [hne]
    have HN := Lib.hid hne
    clear hne
    go_enter Tryd.func62, Tryd.ntmps62
    go_wp2_with fail
    obtain ⟨W, P, R, hW, hP, hR, hbW, HR, c0, c1, d0, d1, hlt, hlt2⟩ := boxes2 w (.bool neg) (.slice A n c) (.bool neg') (.slice A' n' c')
    rw [← hW, ← hR, ← hP]
    clear hW hP hR
    go_region_held3 (fun w' => (∀ b o, b < R → w'.cell? ⟨b, o, none⟩ = W.cell? ⟨b, o, none⟩) ∧ Held R W w')
      (first | exact Held.init _ _ HR.out | (go_split_ands; exact Held.call (by assumption) (by assumption)) | (go_split_ands; exact Held.again (by assumption)) | (go_split_ands; exact Held.store (by assumption) _ _))
      (first
        | (go_at_call 105; go_split_ands; ((with_reducible refine (size_any (h.below (Held.from (R := R) (W := W) (by assumption) hbW (by omega)))).mono ?_)); rintro e w' ⟨rfl, hb1⟩)
        | (go_at_call 105; go_split_ands; ((with_reducible refine (size_any (h'.below (Held.from (R := R) (W := W) (by assumption) hbW (by omega)))).mono ?_)); rintro e w' ⟨rfl, hb1⟩))
    go_wp2_with fail
    go_region_held3 (fun w' => (∀ b o, b < R → w'.cell? ⟨b, o, none⟩ = W.cell? ⟨b, o, none⟩) ∧ Held R W w')
      (first | exact Held.init _ _ HR.out | (go_split_ands; exact Held.call (by assumption) (by assumption)) | (go_split_ands; exact Held.again (by assumption)) | (go_split_ands; exact Held.store (by assumption) _ _))
      (first
        | (go_at_call 106; go_split_ands; ((with_reducible refine (plus_any (h.trim.below (Held.from (R := R) (W := W) (by assumption) hbW (by omega))) (h'.trim.below (Held.from (R := R) (W := W) (by assumption) hbW (by omega))) (by have := HL.out; rw [wl_trim h.small]; omega) (by have := HL'.out; rw [wl_trim h'.small]; omega)).mono ?_)); rintro e w3 ⟨v3, rfl, ⟨A3, c3, rfl, hwd3⟩, hb3⟩)
        | (go_at_call 86; go_split_ands; ((with_reducible refine (made_any hwd3 (by rw [wl_trim hwd3.small, val_dig (by omega), val_trim, val_trim]; have := HL.out; have := HL'.out; have := wl_add (val 4294967296 l) (val 4294967296 l'); omega)).mono ?_)); rintro e w2 ⟨v2, rfl, ⟨A2, c2, rfl, hwd2⟩, hb2⟩; have hh := (Held.call hb2 (by assumption)).2; have hl2 := Held.call_lt (R := R) (W := W) hb2 (by assumption); obtain ⟨u0, u1, hr0, hr1, hf0, hf1⟩ := hh.cells))
    go_wp2_with fail
    refine bodyPost_ret (v := .agg #[.bool _, .slice A2 _ c2]) (by simp [results, Tryd.results62, go_sem, hr0, hr1]; exact ⟨rfl, rfl⟩) rfl ⟨_, rfl, ?_, hh.put hbW (by omega) _ _⟩
    have e : sg neg (val 4294967296 l) + sg neg' (val 4294967296 l') = sg neg (val 4294967296 (dig 4294967296 (val 4294967296 (trim l) + val 4294967296 (trim l')))) := by
      rw [val_dig (by omega), val_trim, val_trim, sg_same, HN.out]
    rw [e]
    exact nint_put hl2 hwd2 (by omega) _ _
  · have ht : (neg == neg') = false := by simp [hne]
    have HN := Lib.hid ht
    by_cases hle : val 4294967296 l' ≤ val 4294967296 l
    · have hcmp : (0 : Int) ≤ cmpN (val 4294967296 (trim l)) (val 4294967296 (trim l')) := by
        rw [val_trim, val_trim]; unfold cmpN; split <;> (try split) <;> omega
      have HLE := Lib.hid hle
      clear hle
      go_enter Tryd.func62, Tryd.ntmps62
      go_wp2_with fail
      obtain ⟨W, P, R, hW, hP, hR, hbW, HR, c0, c1, d0, d1, hlt, hlt2⟩ := boxes2 w (.bool neg) (.slice A n c) (.bool neg') (.slice A' n' c')
      rw [← hW, ← hR, ← hP]
      clear hW hP hR
      go_region_held3 (fun w' => (∀ b o, b < R → w'.cell? ⟨b, o, none⟩ = W.cell? ⟨b, o, none⟩) ∧ Held R W w')
        (first | exact Held.init _ _ HR.out | (go_split_ands; exact Held.call (by assumption) (by assumption)) | (go_split_ands; exact Held.again (by assumption)) | (go_split_ands; exact Held.store (by assumption) _ _))
        (first
          | (go_at_call 105; go_split_ands; ((with_reducible refine (size_any (h.below (Held.from (R := R) (W := W) (by assumption) hbW (by omega)))).mono ?_)); rintro e w' ⟨rfl, hb1⟩)
          | (go_at_call 105; go_split_ands; ((with_reducible refine (size_any (h'.below (Held.from (R := R) (W := W) (by assumption) hbW (by omega)))).mono ?_)); rintro e w' ⟨rfl, hb1⟩))
      go_split_ands
      go_wp2_with (go_at_call 107; ((with_reducible refine (compare_b (h.trim.below (Held.from (R := R) (W := W) (by assumption) hbW (by omega))) (h'.trim.below (Held.from (R := R) (W := W) (by assumption) hbW (by omega))) TL.out TL'.out).mono ?_)); rintro e w3 ⟨rfl, hb3⟩; obtain ⟨hd3a, hd3⟩ := Held.call (R := R) (W := W) hb3 (by assumption))
      go_region_held3 (fun w' => (∀ b o, b < R → w'.cell? ⟨b, o, none⟩ = W.cell? ⟨b, o, none⟩) ∧ Held R W w')
        (first | exact Held.init _ _ HR.out | (go_split_ands; exact Held.call (by assumption) (by assumption)) | (go_split_ands; exact Held.again (by assumption)) | (go_split_ands; exact Held.store (by assumption) _ _))
        (first
          | (go_at_call 108; go_split_ands; ((with_reducible refine (minus_any (h.trim.below (Held.from (R := R) (W := W) (by assumption) hbW (by omega))) (h'.trim.below (Held.from (R := R) (W := W) (by assumption) hbW (by omega))) (by have := HL.out; rw [wl_trim h.small]; omega) (by rw [val_trim, val_trim]; exact HLE.out)).mono ?_)); rintro e w3 ⟨v3, rfl, ⟨A3, c3, rfl, hwd3⟩, hb3⟩)
          | (go_at_call 86; go_split_ands; ((with_reducible refine (made_any hwd3 (by rw [wl_trim hwd3.small, val_dig (by omega), val_trim, val_trim]; have := HL.out; have := HL'.out; have := wl_le (Nat.sub_le (val 4294967296 l) (val 4294967296 l')); omega)).mono ?_)); rintro e w2 ⟨v2, rfl, ⟨A2, c2, rfl, hwd2⟩, hb2⟩; have hh := (Held.call hb2 (by assumption)).2; have hl2 := Held.call_lt (R := R) (W := W) hb2 (by assumption); obtain ⟨u0, u1, hr0, hr1, hf0, hf1⟩ := hh.cells))
      go_wp2_with fail
      refine bodyPost_ret (v := .agg #[.bool _, .slice A2 _ c2]) (by simp [results, Tryd.results62, go_sem, hr0, hr1]; exact ⟨rfl, rfl⟩) rfl ⟨_, rfl, ?_, hh.put hbW (by omega) _ _⟩
      have e : sg neg (val 4294967296 l) + sg neg' (val 4294967296 l') = sg neg (val 4294967296 (dig 4294967296 (val 4294967296 (trim l) - val 4294967296 (trim l')))) := by
        rw [val_dig (by omega), val_trim, val_trim, sg_diff1 HN.out HLE.out]
      rw [e]
      exact nint_put hl2 hwd2 (by omega) _ _
    · have hcmp : cmpN (val 4294967296 (trim l)) (val 4294967296 (trim l')) < 0 := by
        rw [val_trim, val_trim, cmpN_lt (by omega)]; omega
      have HLE := Lib.hid (show val 4294967296 l ≤ val 4294967296 l' by omega)
      clear hle
      go_enter Tryd.func62, Tryd.ntmps62
      go_wp2_with fail
      obtain ⟨W, P, R, hW, hP, hR, hbW, HR, c0, c1, d0, d1, hlt, hlt2⟩ := boxes2 w (.bool neg) (.slice A n c) (.bool neg') (.slice A' n' c')
      rw [← hW, ← hR, ← hP]
      clear hW hP hR
      go_region_held3 (fun w' => (∀ b o, b < R → w'.cell? ⟨b, o, none⟩ = W.cell? ⟨b, o, none⟩) ∧ Held R W w')
        (first | exact Held.init _ _ HR.out | (go_split_ands; exact Held.call (by assumption) (by assumption)) | (go_split_ands; exact Held.again (by assumption)) | (go_split_ands; exact Held.store (by assumption) _ _))
        (first
          | (go_at_call 105; go_split_ands; ((with_reducible refine (size_any (h.below (Held.from (R := R) (W := W) (by assumption) hbW (by omega)))).mono ?_)); rintro e w' ⟨rfl, hb1⟩)
          | (go_at_call 105; go_split_ands; ((with_reducible refine (size_any (h'.below (Held.from (R := R) (W := W) (by assumption) hbW (by omega)))).mono ?_)); rintro e w' ⟨rfl, hb1⟩))
      go_split_ands
      go_wp2_with (go_at_call 107; ((with_reducible refine (compare_b (h.trim.below (Held.from (R := R) (W := W) (by assumption) hbW (by omega))) (h'.trim.below (Held.from (R := R) (W := W) (by assumption) hbW (by omega))) TL.out TL'.out).mono ?_)); rintro e w3 ⟨rfl, hb3⟩; obtain ⟨hd3a, hd3⟩ := Held.call (R := R) (W := W) hb3 (by assumption))
      go_region_held3 (fun w' => (∀ b o, b < R → w'.cell? ⟨b, o, none⟩ = W.cell? ⟨b, o, none⟩) ∧ Held R W w')
        (first | exact Held.init _ _ HR.out | (go_split_ands; exact Held.call (by assumption) (by assumption)) | (go_split_ands; exact Held.again (by assumption)) | (go_split_ands; exact Held.store (by assumption) _ _))
        (first
          | (go_at_call 108; go_split_ands; ((with_reducible refine (minus_any (h'.trim.below (Held.from (R := R) (W := W) (by assumption) hbW (by omega))) (h.trim.below (Held.from (R := R) (W := W) (by assumption) hbW (by omega))) (by have := HL'.out; rw [wl_trim h'.small]; omega) (by rw [val_trim, val_trim]; exact HLE.out)).mono ?_)); rintro e w3 ⟨v3, rfl, ⟨A3, c3, rfl, hwd3⟩, hb3⟩)
          | (go_at_call 86; go_split_ands; ((with_reducible refine (made_any hwd3 (by rw [wl_trim hwd3.small, val_dig (by omega), val_trim, val_trim]; have := HL.out; have := HL'.out; have := wl_le (Nat.sub_le (val 4294967296 l') (val 4294967296 l)); omega)).mono ?_)); rintro e w2 ⟨v2, rfl, ⟨A2, c2, rfl, hwd2⟩, hb2⟩; have hh := (Held.call hb2 (by assumption)).2; have hl2 := Held.call_lt (R := R) (W := W) hb2 (by assumption); obtain ⟨u0, u1, hr0, hr1, hf0, hf1⟩ := hh.cells))
      go_wp2_with fail
      refine bodyPost_ret (v := .agg #[.bool _, .slice A2 _ c2]) (by simp [results, Tryd.results62, go_sem, hr0, hr1]; exact ⟨rfl, rfl⟩) rfl ⟨_, rfl, ?_, hh.put hbW (by omega) _ _⟩
      have e : sg neg (val 4294967296 l) + sg neg' (val 4294967296 l') = sg neg' (val 4294967296 (dig 4294967296 (val 4294967296 (trim l') - val 4294967296 (trim l)))) := by
        rw [val_dig (by omega), val_trim, val_trim, sg_diff2 HN.out HLE.out]
      rw [e]
      exact nint_put hl2 hwd2 (by omega) _ _

end Go.Proofs.YtpkjdnplmgfbbaaDoor
