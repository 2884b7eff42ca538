/- Integers of several words as values: what their fields hold; package integer's functions that make and take them apart. Package integer: normal forms, sums, differences, products, comparisons. Package integer: differences, comparisons, machine integers; package wide's small functions. Package integer: machine integers; package wide's small functions. -/
import Derived.Test.YtdmdagilopckgaaGreatA1
namespace Go.Proofs.YtdmdagilopckgaaGreat
open Go.RowKit

/-- A number with a sign. -/
def sg (neg : Bool) (m : Nat) : Int := if neg then -(m : Int) else m
/-- How many words a number has. -/
def wl (m : Nat) : Nat := (dig 4294967296 m).length

/-- An api.Int that reads as x, in whatever form. -/
def IntV (w : World) (D : Nat → Prop) (v : Value) (x : Int) : Prop :=
  ∃ neg A n c l, v = .agg #[.bool neg, .slice A n c] ∧ Wd w D A n c l ∧ x = sg neg (val 4294967296 l)
/-- An api.Int in normal form that reads as x. -/
def NIntV (w : World) (D : Nat → Prop) (v : Value) (x : Int) : Prop :=
  ∃ A c, v = .agg #[.bool (decide (x < 0)), .slice A (wl x.natAbs) c] ∧ Wd w D A (wl x.natAbs) c (dig 4294967296 x.natAbs)

theorem sg_natAbs (neg : Bool) (m : Nat) : (sg neg m).natAbs = m := by unfold sg; split <;> omega
theorem sg_abs (x : Int) : sg (decide (x < 0)) x.natAbs = x := by
  unfold sg
  by_cases h : x < 0
  · simp [h]; omega
  · simp [h]; omega

section
variable {w w' : World} {D D' : Nat → Prop} {v : Value} {x : Int}
theorem NIntV.int (h : NIntV w D v x) : IntV w D v x := by
  obtain ⟨A, c, rfl, h⟩ := h
  exact ⟨_, A, _, c, _, rfl, h, by rw [val_dig (by omega), sg_abs]⟩
theorem IntV.mono (h : IntV w D v x) (hd : ∀ b, D b → b < w.heap.size → D' b) : IntV w D' v x := by
  obtain ⟨neg, A, n, c, l, rfl, h, rfl⟩ := h
  exact ⟨neg, A, n, c, l, rfl, h.mono hd, rfl⟩
theorem NIntV.mono (h : NIntV w D v x) (hd : ∀ b, D b → b < w.heap.size → D' b) : NIntV w D' v x := by
  obtain ⟨A, c, rfl, h⟩ := h
  exact ⟨A, c, rfl, h.mono hd⟩
theorem IntV.keep (h : IntV w D v x) (hk : ∀ b o, D b → b < w.heap.size → w'.cell? ⟨b, o, none⟩ = w.cell? ⟨b, o, none⟩) : IntV w' D v x := by
  obtain ⟨neg, A, n, c, l, rfl, h, rfl⟩ := h
  exact ⟨neg, A, n, c, l, rfl, h.keep hk, rfl⟩
theorem NIntV.keep (h : NIntV w D v x) (hk : ∀ b o, D b → b < w.heap.size → w'.cell? ⟨b, o, none⟩ = w.cell? ⟨b, o, none⟩) : NIntV w' D v x := by
  obtain ⟨A, c, rfl, h⟩ := h
  exact ⟨A, c, rfl, h.keep hk⟩
theorem IntV.below (h : IntV w D v x) (hb : Below w.heap.size w w') : IntV w' D v x := h.keep fun _ _ _ hl => (bcell hb).1 _ _ hl
theorem NIntV.below (h : NIntV w D v x) (hb : Below w.heap.size w w') : NIntV w' D v x := h.keep fun _ _ _ hl => (bcell hb).1 _ _ hl
theorem NIntV.setCell (h : NIntV w D v x) {p : Addr} (hp : ¬ D p.block) (u : Value) : NIntV (w.setCell p u) D v x :=
  h.keep fun b o hd _ => World.cell?_setCell_other w p ⟨b, o, none⟩ u (fun e => hp (by subst e; exact hd))
theorem NIntV.zero (w : World) (D : Nat → Prop) : NIntV w D (.agg #[.bool false, .slice none 0 0]) 0 :=
  ⟨none, 0, rfl, Wd.nil 0 (by unfold maxLen; omega)⟩
theorem Wd.src {A : Option Addr} {n c : Nat} {l : List Nat} (h : Wd w D A n c l) : Src w 1 A n (l.map fun x : Nat => Value.int .u32 (x : Int)) := by
  refine ⟨by rw [List.length_map, h.len, Nat.mul_one], fun hn => ?_⟩
  obtain ⟨b, off, rfl, _, hc⟩ := h.cells hn
  refine ⟨_, rfl, fun j u hu => ?_⟩
  rw [List.getElem?_map] at hu
  rcases Nat.lt_or_ge j l.length with hj | hj
  · rw [gw_lt hj] at hu
    simp only [Option.map_some, Option.some.injEq] at hu
    subst hu
    have := hc j (by rw [← h.len]; exact hj)
    unfold Addr.add
    split
    · rename_i h0; subst h0; exact this
    · exact this
  · rw [List.getElem?_eq_none hj] at hu
    cases hu
end

theorem words_oneCell (l : List Nat) : ∀ u ∈ l.map (fun x : Nat => Value.int .u32 (x : Int)), u.oneCell' = true := by
  intro u hu
  obtain ⟨x, _, rfl⟩ := List.mem_map.1 hu
  rfl

/-- A row of words of the call's own. -/
theorem wd_of_own {w : World} {base n : Nat} {v : Value} {l : List Nat} (h : w.ownsRow base 110 1 v n (l.map fun x : Nat => Value.int .u32 (x : Int))) (hs : ∀ x ∈ l, x < 4294967296) :
    ∃ A c, v = .slice A n c ∧ Wd w (base ≤ ·) A n c l := by
  have hl : l.length = n := by have := h.1; rw [List.length_map, Nat.mul_one] at this; exact this
  obtain ⟨A, c, rfl, hc, hm⟩ := own_slice h
  refine ⟨A, c, rfl, hl, hc, hm, hs, fun hn => ?_⟩
  obtain ⟨g, cap, hv, hb, _, _, _, hcell⟩ := own_cells h hn
  injection hv with hA
  subst hA
  exact ⟨g, 0, rfl, hb, fun j hj => by rw [Nat.zero_add]; exact hcell j _ (by rw [List.getElem?_map, gw_lt (by omega)]; rfl)⟩

theorem nint_of {w : World} {D : Nat → Prop} {neg : Bool} {A : Option Addr} {m c k : Nat} {T : List Nat} (h : Wd w D A m c T) (hT : T = dig 4294967296 k) (h0 : k ≠ 0) :
    NIntV w D (.agg #[.bool neg, .slice A m c]) (sg neg k) := by
  subst hT
  have hm := h.len
  subst hm
  refine ⟨A, c, ?_, by rw [sg_natAbs]; exact h⟩
  have : decide (sg neg k < 0) = neg := by
    unfold sg
    cases neg <;> simp <;> omega
  rw [this, sg_natAbs]
  rfl

/-- size: the words of an integer's size. -/
theorem size_any {D : Nat → Prop} {neg : Bool} {A : Option Addr} {n c : Nat} {l : List Nat} {w : World} (h : Wd w D A n c l) :
    Calls Tryz.prog 111 #[.agg #[.bool neg, .slice A n c]] w fun e w' => e = .returned (.slice A (trim l).length (trim l).length) ∧ Below w.heap.size w w' := by
  go_enter Tryz.func111, Tryz.ntmps111
  go_wp2_with (go_at_call 120; ((with_reducible refine (trimmed_any (h.alloc _)).mono ?_); rintro e w' ⟨rfl, rfl⟩))
  go_ret
  exact ⟨rfl, (Below.refl _ _).alloc (Nat.le_refl _) _⟩

set_option maxHeartbeats 400000 in
theorem made_any {D : Nat → Prop} {neg : Bool} {A : Option Addr} {n c : Nat} {l : List Nat} {w : World} (h : Wd w D A n c l) (hl : (trim l).length ≤ 10000000000000) :
    Calls Tryz.prog 108 #[.bool neg, .slice A n c] w (Gives w fun w' v => NIntV w' (w.heap.size ≤ ·) v (sg neg (val 4294967296 l))) := by
  have ht := h.trim
  have e1 := trim_eq_dig (b := 4294967296) (by omega) h.small
  have E1 := Lib.hid e1
  clear e1
  generalize hT : trim l = T at *
  have HT := Lib.hid hT
  clear hT
  generalize hm : T.length = m at *
  have HM := Lib.hid hm
  clear hm
  by_cases h0 : m = 0
  · have hz : ((m : Int) == 0) = true := by simp [h0]
    go_enter Tryz.func108, Tryz.ntmps108
    go_wp2_with (go_at_call 120; ((with_reducible refine (trimmed_any (h.alloc _)).mono ?_); rintro e w' ⟨rfl, rfl⟩; rw [HT.out, HM.out]))
    refine bodyPost_ret (v := .agg #[.bool false, .slice none 0 0]) (by simp [results, Tryz.results108, go_sem]) rfl ⟨_, rfl, ?_, (Below.refl _ _).alloc (Nat.le_refl _) _⟩
    have hv : val 4294967296 l = 0 := by
      have e := E1.out
      rw [List.eq_nil_of_length_eq_zero (HM.out.trans h0)] at e
      exact (dig_eq_nil (by omega)).1 e.symm
    rw [hv]
    have : sg neg 0 = 0 := by unfold sg; split <;> rfl
    rw [this]
    exact NIntV.zero _ _
  · have hz : ((m : Int) == 0) = false := by simpa using h0
    go_enter Tryz.func108, Tryz.ntmps108
    go_wp2_with (first
      | (go_at_call 120; ((with_reducible refine (trimmed_any (h.alloc _)).mono ?_); rintro e w' ⟨rfl, rfl⟩; rw [HT.out, HM.out]))
      | (at_builtin; go_must (refine wpList_app_nil _ rfl _ _ _ _ rfl 110 110 (.int .u32 0) 1 4 Tryz.underlying61 Tryz.underlying122 info_u32 rfl (by omega) rfl A m m (T.map fun x : Nat => Value.int .u32 (x : Int)) rfl ((ht.alloc _).src) (words_oneCell T) (by unfold maxLen; omega) (by omega) ?_); intro A1 c1 w1 hown hb; obtain ⟨hc, hf⟩ := bcell hb))
    refine bodyPost_ret (v := .agg #[.bool neg, .slice A1 m c1]) (by simp [results, Tryz.results108, go_sem, hc]) rfl ⟨_, rfl, ?_, ?_⟩
    · have hw := wd_of_own hown (fun x hx => ht.small x hx)
      obtain ⟨A2, c2, he, hw⟩ := hw
      injection he with e1 e2 e3
      subst e1 e3
      have hv : val 4294967296 l ≠ 0 := by
        intro hv
        have e := E1.out
        rw [hv, dig_zero] at e
        exact h0 (by rw [← HM.out, e]; rfl)
      have hn := nint_of (neg := neg) hw E1.out hv
      exact ((hn.setCell (p := ⟨w.heap.size, 0, none⟩) (by simp) _).setCell (p := ⟨w.heap.size, 1, none⟩) (by simp) _).mono (fun b hb _ => by simp at hb; omega)
    · exact ((((Below.refl _ _).alloc (Nat.le_refl _) _).trans (hb.mono (by simp))).setCell (Nat.le_refl _) _).setCell (Nat.le_refl _) _

end Go.Proofs.YtdmdagilopckgaaGreat

namespace Go.Proofs.YtdmdagilopckgaaGreat
open Go.RowKit

/-- Below block R the world is as W was; block R is a variable for an integer, the call's own. -/
def Held (R : Nat) (W w' : World) : Prop := Below R W w' ∧ ∃ u0 u1, w'.heap[R]? = some (.cells #[u0, u1] 63 (0, 0))

section
variable {R : Nat} {W w1 w2 : World}
theorem Held.lt (h : Held R W w1) : R < w1.heap.size := by
  obtain ⟨_, u0, u1, h⟩ := h
  rcases Nat.lt_or_ge R w1.heap.size with hlt | hge
  · exact hlt
  · rw [Array.getElem?_eq_none hge] at h; cases h
theorem Held.init (u0 u1 : Value) (h : W.heap[R]? = some (.cells #[u0, u1] 63 (0, 0))) : (∀ b o, b < R → W.drew.cell? ⟨b, o, none⟩ = W.cell? ⟨b, o, none⟩) ∧ Held R W W.drew :=
  ⟨fun _ _ _ => rfl, (Below.refl _ _).drew, u0, u1, h⟩
theorem Held.call (hb : Below w1.heap.size w1 w2) (h : Held R W w1) : (∀ b o, b < R → w2.cell? ⟨b, o, none⟩ = W.cell? ⟨b, o, none⟩) ∧ Held R W w2 := by
  have hlt := h.lt
  have hb2 := h.1.trans (hb.mono (Nat.le_of_lt hlt))
  obtain ⟨_, u0, u1, hr⟩ := h
  exact ⟨fun b o hbr => hb2.cell (p := ⟨b, o, none⟩) hbr, hb2, u0, u1, (hb.block R hlt).trans hr⟩
theorem Held.call_lt (_ : Below w1.heap.size w1 w2) (h : Held R W w1) : R < w1.heap.size := h.lt
theorem Held.store (h : Held R W w1) (a b : Value) : (∀ c o, c < R → ((w1.setCell ⟨R, 0, none⟩ a).setCell ⟨R, 1, none⟩ b).cell? ⟨c, o, none⟩ = W.cell? ⟨c, o, none⟩) ∧ Held R W ((w1.setCell ⟨R, 0, none⟩ a).setCell ⟨R, 1, none⟩ b) := by
  obtain ⟨hb, u0, u1, hr⟩ := h
  have hb2 := (hb.setCell (p := ⟨R, 0, none⟩) (Nat.le_refl _) a).setCell (p := ⟨R, 1, none⟩) (Nat.le_refl _) b
  refine ⟨fun c o hc => hb2.cell (p := ⟨c, o, none⟩) hc, hb2, a, b, ?_⟩
  simp [World.setCell, Array.getElem?_modify, hr]
theorem Held.again (h : Held R W w1) : (∀ b o, b < R → w1.drew.cell? ⟨b, o, none⟩ = W.cell? ⟨b, o, none⟩) ∧ Held R W w1.drew :=
  ⟨fun b o hbr => h.1.cell (p := ⟨b, o, none⟩) hbr, h.1.drew, h.2⟩
theorem Held.drewN (h : Held R W w1) (n : Nat) : Held R W (w1.drewN n) := ⟨below_drewN' h.1 n, h.2⟩
theorem Held.rule (h : Held R W w1) : ∀ b o, b < R → w1.cell? ⟨b, o, none⟩ = W.cell? ⟨b, o, none⟩ := fun b o hbr => h.1.cell (p := ⟨b, o, none⟩) hbr
/-- From the call's start to a world that is held. -/
theorem Held.from (h : Held R W w1) {w : World} (hb : Below w.heap.size w W) (hlt : w.heap.size ≤ R) : Below w.heap.size w w1 := hb.trans (h.1.mono hlt)
theorem Held.put (h : Held R W w1) {w : World} (hb : Below w.heap.size w W) (hlt : w.heap.size ≤ R) (a b : Value) : Below w.heap.size w ((w1.setCell ⟨R, 0, none⟩ a).setCell ⟨R, 1, none⟩ b) :=
  (h.store a b).2.from hb hlt
theorem Held.cells (h : Held R W w1) : ∃ u0 u1, w1.cell? ⟨R, 0, none⟩ = some u0 ∧ w1.cell? ⟨R, 1, none⟩ = some u1 ∧ w1.frozen? ⟨R, 0, none⟩ = false ∧ w1.frozen? ⟨R, 1, none⟩ = false := by
  obtain ⟨_, u0, u1, hr⟩ := h
  exact ⟨u0, u1, by rw [cell_of_row w1 R 0 _ _ _ hr]; rfl, by rw [cell_of_row w1 R 1 _ _ _ hr]; rfl, by simp [World.frozen?, hr], by simp [World.frozen?, hr]⟩
end

theorem trim_trim {b : Nat} (hb : 2 ≤ b) {l : List Nat} (h : ∀ x ∈ l, x < b) : trim (trim l) = trim l := by
  rw [trim_eq_dig hb h, trim_dig hb]

/-- The boxes of one parameter, and the variable of the result. -/
theorem boxes1 (w : World) (a0 a1 : Value) : ∃ W R, W = (w.alloc (.cells #[a0, a1] 63)).alloc (.cells #[.bool false, .slice none 0 0] 63) ∧ R = w.heap.size + 1 ∧
    Below w.heap.size w W ∧ Hid (W.heap[R]? = some (.cells #[.bool false, .slice none 0 0] 63 (0, 0))) ∧ W.cell? ⟨w.heap.size, 0, none⟩ = some a0 ∧ W.cell? ⟨w.heap.size, 1, none⟩ = some a1 ∧ w.heap.size < R := by
  refine ⟨_, _, rfl, rfl, ((Below.refl _ _).alloc (Nat.le_refl _) _).alloc (by simp) _, ?_, by go_simp, by go_simp, by omega⟩
  show _ = _
  simpa using heap_alloc_new (w.alloc (.cells #[a0, a1] 63)) (.cells #[.bool false, .slice none 0 0] 63)
/-- The boxes of two parameters, and the variable of the result. -/
theorem boxes2 (w : World) (a0 a1 b0 b1 : Value) : ∃ W P R, W = ((w.alloc (.cells #[a0, a1] 63)).alloc (.cells #[b0, b1] 63)).alloc (.cells #[.bool false, .slice none 0 0] 63) ∧ P = w.heap.size + 1 ∧ R = w.heap.size + 1 + 1 ∧
    Below w.heap.size w W ∧ Hid (W.heap[R]? = some (.cells #[.bool false, .slice none 0 0] 63 (0, 0))) ∧ W.cell? ⟨w.heap.size, 0, none⟩ = some a0 ∧ W.cell? ⟨w.heap.size, 1, none⟩ = some a1 ∧
      W.cell? ⟨P, 0, none⟩ = some b0 ∧ W.cell? ⟨P, 1, none⟩ = some b1 ∧ w.heap.size < R ∧ P < R := by
  refine ⟨_, _, _, rfl, rfl, rfl, (((Below.refl _ _).alloc (Nat.le_refl _) _).alloc (by simp) _).alloc (by simp; omega) _, ?_, by go_simp, by go_simp, by go_simp, by go_simp, by omega, by omega⟩
  show _ = _
  simpa using heap_alloc_new ((w.alloc (.cells #[a0, a1] 63)).alloc (.cells #[b0, b1] 63)) (.cells #[.bool false, .slice none 0 0] 63)

theorem wl_trim {l : List Nat} (h : ∀ x ∈ l, x < 4294967296) : (trim l).length = wl (val 4294967296 l) := by
  rw [trim_eq_dig (by omega) h]; rfl
theorem wl_trim2 {l : List Nat} (h : ∀ x ∈ l, x < 4294967296) : (trim (trim l)).length = wl (val 4294967296 l) := by
  rw [trim_trim (by omega) h, wl_trim h]

/-- The result, behind the store into its variable. -/
theorem nint_put {R : Nat} {w w1 w2 : World} {A : Option Addr} {c : Nat} {x : Int} (hl : R < w1.heap.size) (hwd : Wd w2 (w1.heap.size ≤ ·) A (wl x.natAbs) c (dig 4294967296 x.natAbs)) (hle : w.heap.size ≤ R) (a b : Value) :
    NIntV ((w2.setCell ⟨R, 0, none⟩ a).setCell ⟨R, 1, none⟩ b) (w.heap.size ≤ ·) (.agg #[.bool (decide (x < 0)), .slice A (wl x.natAbs) c]) x := by
  have h : NIntV w2 (w1.heap.size ≤ ·) (.agg #[.bool (decide (x < 0)), .slice A (wl x.natAbs) c]) x := ⟨A, c, rfl, hwd⟩
  exact ((h.setCell (p := ⟨R, 0, none⟩) (by simp; omega) a).setCell (p := ⟨R, 1, none⟩) (by simp; omega) b).mono (fun k hk _ => by have : w1.heap.size ≤ k := hk; show w.heap.size ≤ k; omega)

set_option maxHeartbeats 400000 in
theorem Normal_any {D : Nat → Prop} {v : Value} {x : Int} {w : World} (h : IntV w D v x) (hl : wl x.natAbs ≤ 1000000000000) :
    Calls Tryz.prog 102 #[v] w (Gives w fun w' v => NIntV w' (w.heap.size ≤ ·) v x) := by
  obtain ⟨neg, A, n, c, l, rfl, h, rfl⟩ := h
  rw [sg_natAbs] at hl
  have HL := Lib.hid hl
  clear hl
  go_enter Tryz.func102, Tryz.ntmps102
  go_wp2_with fail
  obtain ⟨W, R, hW, hR, hbW, HR, c0, c1, hlt⟩ := boxes1 w (.bool neg) (.slice A n c)
  rw [← hW, ← hR]
  clear hW hR
  go_region_held3 (fun w' => (∀ b o, b < R → w'.cell? ⟨b, o, none⟩ = W.cell? ⟨b, o, none⟩) ∧ Held R W w')
    (first | exact Held.init _ _ HR.out | (go_split_ands; exact Held.call (by assumption) (by assumption)) | (go_split_ands; exact Held.again (by assumption)) | (go_split_ands; exact Held.store (by assumption) _ _))
    (first
      | (go_at_call 111; go_split_ands; ((with_reducible refine (size_any (h.below (Held.from (R := R) (W := W) (by assumption) hbW (by omega)))).mono ?_)); rintro e w' ⟨rfl, hb1⟩)
      | (go_at_call 108; go_split_ands; ((with_reducible refine (made_any (h.trim.below (Held.from (R := R) (W := W) (by assumption) hbW (by omega))) (by have := HL.out; rw [wl_trim2 h.small]; omega)).mono ?_)); rintro e w2 ⟨v2, rfl, ⟨A2, c2, rfl, hwd2⟩, hb2⟩; have hh := (Held.call hb2 (by assumption)).2; have hl2 := Held.call_lt (R := R) (W := W) hb2 (by assumption); obtain ⟨u0, u1, hr0, hr1, hf0, hf1⟩ := hh.cells))
  go_wp2_with fail
  refine bodyPost_ret (v := .agg #[.bool _, .slice A2 _ c2]) (by simp [results, Tryz.results102, go_sem, hr0, hr1]; exact ⟨rfl, rfl⟩) rfl ⟨_, rfl, ?_, hh.put hbW (by omega) _ _⟩
  have hx : val 4294967296 l = val 4294967296 (trim l) := (val_trim _ _).symm
  rw [hx]
  exact nint_put hl2 hwd2 (by omega) _ _

theorem wl_le {a b : Nat} (h : a ≤ b) : wl a ≤ wl b := by
  unfold wl
  have h1 := val_lt (dig_lt (b := 4294967296) (by omega) b)
  rw [val_dig (by omega)] at h1
  exact dig_length_le (by omega) (by omega)
theorem wl_add (a b : Nat) : wl (a + b) ≤ max (wl a) (wl b) + 1 := by
  have h1 := val_lt (dig_lt (b := 4294967296) (by omega) a)
  have h2 := val_lt (dig_lt (b := 4294967296) (by omega) b)
  rw [val_dig (by omega)] at h1 h2
  refine dig_length_le (by omega) ?_
  have e1 : 4294967296 ^ (dig 4294967296 a).length ≤ 4294967296 ^ max (wl a) (wl b) := Nat.pow_le_pow_right (by omega) (Nat.le_max_left _ _)
  have e2 : 4294967296 ^ (dig 4294967296 b).length ≤ 4294967296 ^ max (wl a) (wl b) := Nat.pow_le_pow_right (by omega) (Nat.le_max_right _ _)
  rw [Nat.pow_succ]
  omega
theorem wl_mul (a b : Nat) : wl (a * b) ≤ wl a + wl b := by
  have h1 := val_lt (dig_lt (b := 4294967296) (by omega) a)
  have h2 := val_lt (dig_lt (b := 4294967296) (by omega) b)
  rw [val_dig (by omega)] at h1 h2
  refine dig_length_le (by omega) ?_
  unfold wl
  rw [Nat.pow_add]
  exact Nat.mul_lt_mul'' h1 h2

theorem sg_same (neg : Bool) (a b : Nat) : sg neg (a + b) = sg neg a + sg neg b := by unfold sg; split <;> omega
theorem sg_diff1 {n1 n2 : Bool} (h : (n1 == n2) = false) {a b : Nat} (hle : b ≤ a) : sg n1 (a - b) = sg n1 a + sg n2 b := by
  unfold sg; cases n1 <;> cases n2 <;> simp at h ⊢ <;> omega
theorem sg_diff2 {n1 n2 : Bool} (h : (n1 == n2) = false) {a b : Nat} (hle : a ≤ b) : sg n2 (b - a) = sg n1 a + sg n2 b := by
  unfold sg; cases n1 <;> cases n2 <;> simp at h ⊢ <;> omega
theorem sg_mul (n1 n2 : Bool) (a b : Nat) : sg (n1 != n2) (a * b) = sg n1 a * sg n2 b := by
  unfold sg; cases n1 <;> cases n2 <;> simp [Int.neg_mul, Int.mul_neg]

set_option maxHeartbeats 1000000 in
theorem Mul_any {D D' : Nat → Prop} {v v' : Value} {x y : Int} {w : World} (h : IntV w D v x) (h' : IntV w D' v' y) (hl : wl x.natAbs ≤ 1000000000000) (hl' : wl y.natAbs ≤ 1000000000000) :
    Calls Tryz.prog 79 #[v, v'] w (Gives w fun w' v => NIntV w' (w.heap.size ≤ ·) v (x * y)) := by
  replace h := h.mono (D' := fun _ => True) (fun _ _ _ => trivial)
  replace h' := h'.mono (D' := fun _ => True) (fun _ _ _ => trivial)
  obtain ⟨neg, A, n, c, l, rfl, h, rfl⟩ := h
  obtain ⟨neg', A', n', c', l', rfl, h', rfl⟩ := h'
  rw [sg_natAbs] at hl hl'
  have HL := Lib.hid hl
  have HL' := Lib.hid hl'
  clear hl hl'
  go_enter Tryz.func79, Tryz.ntmps79
  go_wp2_with fail
  obtain ⟨W, P, R, hW, hP, hR, hbW, HR, c0, c1, d0, d1, hlt, hlt2⟩ := boxes2 w (.bool neg) (.slice A n c) (.bool neg') (.slice A' n' c')
  rw [← hW, ← hR, ← hP]
  clear hW hP hR
  go_region_held3 (fun w' => (∀ b o, b < R → w'.cell? ⟨b, o, none⟩ = W.cell? ⟨b, o, none⟩) ∧ Held R W w')
    (first | exact Held.init _ _ HR.out | (go_split_ands; exact Held.call (by assumption) (by assumption)) | (go_split_ands; exact Held.again (by assumption)) | (go_split_ands; exact Held.store (by assumption) _ _))
    (first
      | (go_at_call 111; go_split_ands; ((with_reducible refine (size_any (h.below (Held.from (R := R) (W := W) (by assumption) hbW (by omega)))).mono ?_)); rintro e w' ⟨rfl, hb1⟩)
      | (go_at_call 111; go_split_ands; ((with_reducible refine (size_any (h'.below (Held.from (R := R) (W := W) (by assumption) hbW (by omega)))).mono ?_)); rintro e w' ⟨rfl, hb1⟩)
      | (go_at_call 115; go_split_ands; ((with_reducible refine (times_any (h.trim.below (Held.from (R := R) (W := W) (by assumption) hbW (by omega))) (h'.trim.below (Held.from (R := R) (W := W) (by assumption) hbW (by omega))) (by have := HL.out; rw [wl_trim h.small]; omega) (by have := HL'.out; rw [wl_trim h'.small]; omega)).mono ?_)); rintro e w3 ⟨v3, rfl, ⟨A3, c3, rfl, hwd3⟩, hb3⟩)
      | (go_at_call 108; go_split_ands; ((with_reducible refine (made_any hwd3 (by rw [wl_trim hwd3.small, val_dig (by omega), val_trim, val_trim]; have := HL.out; have := HL'.out; have := wl_mul (val 4294967296 l) (val 4294967296 l'); omega)).mono ?_)); rintro e w2 ⟨v2, rfl, ⟨A2, c2, rfl, hwd2⟩, hb2⟩; have hh := (Held.call hb2 (by assumption)).2; have hl2 := Held.call_lt (R := R) (W := W) hb2 (by assumption); obtain ⟨u0, u1, hr0, hr1, hf0, hf1⟩ := hh.cells))
  go_wp2_with fail
  refine bodyPost_ret (v := .agg #[.bool _, .slice A2 _ c2]) (by simp [results, Tryz.results79, go_sem, hr0, hr1]; exact ⟨rfl, rfl⟩) rfl ⟨_, rfl, ?_, hh.put hbW (by omega) _ _⟩
  have e : sg neg (val 4294967296 l) * sg neg' (val 4294967296 l') = sg (neg != neg') (val 4294967296 (dig 4294967296 (val 4294967296 (trim l) * val 4294967296 (trim l')))) := by
    rw [val_dig (by omega), val_trim, val_trim, sg_mul]
  rw [e]
  exact nint_put hl2 hwd2 (by omega) _ _

theorem compare_b {D : Nat → Prop} {A A' : Option Addr} {n c n' c' : Nat} {l l' : List Nat} {w : World} (h : Wd w D A n c l) (h' : Wd w D A' n' c' l') (ht : trim l = l) (ht' : trim l' = l') :
    Calls Tryz.prog 113 #[.slice A n c, .slice A' n' c'] w fun e w' => e = .returned (.int .i64 (cmpN (val 4294967296 l) (val 4294967296 l'))) ∧ Below w.heap.size w w' :=
  (compare_any h h' ht ht').mono fun e w' ⟨he, m, hw⟩ => ⟨he, by rw [hw]; exact below_drewN' (Below.refl _ _) m⟩

theorem negative_any {neg : Bool} {A : Option Addr} {n c : Nat} {w : World} :
    Calls Tryz.prog 119 #[.agg #[.bool neg, .slice A n c]] w fun e w' => e = .returned (.agg #[.bool (!neg), .slice A n c]) ∧ Below w.heap.size w w' := by
  go_enter Tryz.func119, Tryz.ntmps119
  go_wp2_with fail
  refine bodyPost_ret (v := .agg #[.bool (!neg), .slice A n c]) (by simp [results, Tryz.results119, go_sem]) rfl ⟨rfl, ?_⟩
  exact ((Below.refl _ _).alloc (Nat.le_refl _) _).alloc (by simp) _

set_option maxHeartbeats 1000000 in
theorem Add_any {D D' : Nat → Prop} {v v' : Value} {x y : Int} {w : World} (h : IntV w D v x) (h' : IntV w D' v' y) (hl : wl x.natAbs ≤ 1000000000000) (hl' : wl y.natAbs ≤ 1000000000000) :
    Calls Tryz.prog 78 #[v, v'] w (Gives w fun w' v => NIntV w' (w.heap.size ≤ ·) v (x + y)) := by
  replace h := h.mono (D' := fun _ => True) (fun _ _ _ => trivial)
  replace h' := h'.mono (D' := fun _ => True) (fun _ _ _ => trivial)
  obtain ⟨neg, A, n, c, l, rfl, h, rfl⟩ := h
  obtain ⟨neg', A', n', c', l', rfl, h', rfl⟩ := h'
  rw [sg_natAbs] at hl hl'
  have HL := Lib.hid hl
  have HL' := Lib.hid hl'
  clear hl hl'
  have TL := Lib.hid (trim_trim (b := 4294967296) (by omega) h.small)
  have TL' := Lib.hid (trim_trim (b := 4294967296) (by omega) h'.small)
  by_cases hne : neg = neg'
  · have ht : (neg == neg') = true := by simp [hne]
    have HN := Lib.hid hne
    clear hne
    go_enter Tryz.func78, Tryz.ntmps78
    go_wp2_with fail
    obtain ⟨W, P, R, hW, hP, hR, hbW, HR, c0, c1, d0, d1, hlt, hlt2⟩ := boxes2 w (.bool neg) (.slice A n c) (.bool neg') (.slice A' n' c')
    rw [← hW, ← hR, ← hP]
    clear hW hP hR
    go_region_held3 (fun w' => (∀ b o, b < R → w'.cell? ⟨b, o, none⟩ = W.cell? ⟨b, o, none⟩) ∧ Held R W w')
      (first | exact Held.init _ _ HR.out | (go_split_ands; exact Held.call (by assumption) (by assumption)) | (go_split_ands; exact Held.again (by assumption)) | (go_split_ands; exact Held.store (by assumption) _ _))
      (first
        | (go_at_call 111; go_split_ands; ((with_reducible refine (size_any (h.below (Held.from (R := R) (W := W) (by assumption) hbW (by omega)))).mono ?_)); rintro e w' ⟨rfl, hb1⟩)
        | (go_at_call 111; go_split_ands; ((with_reducible refine (size_any (h'.below (Held.from (R := R) (W := W) (by assumption) hbW (by omega)))).mono ?_)); rintro e w' ⟨rfl, hb1⟩))
    go_wp2_with fail
    go_region_held3 (fun w' => (∀ b o, b < R → w'.cell? ⟨b, o, none⟩ = W.cell? ⟨b, o, none⟩) ∧ Held R W w')
      (first | exact Held.init _ _ HR.out | (go_split_ands; exact Held.call (by assumption) (by assumption)) | (go_split_ands; exact Held.again (by assumption)) | (go_split_ands; exact Held.store (by assumption) _ _))
      (first
        | (go_at_call 112; go_split_ands; ((with_reducible refine (plus_any (h.trim.below (Held.from (R := R) (W := W) (by assumption) hbW (by omega))) (h'.trim.below (Held.from (R := R) (W := W) (by assumption) hbW (by omega))) (by have := HL.out; rw [wl_trim h.small]; omega) (by have := HL'.out; rw [wl_trim h'.small]; omega)).mono ?_)); rintro e w3 ⟨v3, rfl, ⟨A3, c3, rfl, hwd3⟩, hb3⟩)
        | (go_at_call 108; go_split_ands; ((with_reducible refine (made_any hwd3 (by rw [wl_trim hwd3.small, val_dig (by omega), val_trim, val_trim]; have := HL.out; have := HL'.out; have := wl_add (val 4294967296 l) (val 4294967296 l'); omega)).mono ?_)); rintro e w2 ⟨v2, rfl, ⟨A2, c2, rfl, hwd2⟩, hb2⟩; have hh := (Held.call hb2 (by assumption)).2; have hl2 := Held.call_lt (R := R) (W := W) hb2 (by assumption); obtain ⟨u0, u1, hr0, hr1, hf0, hf1⟩ := hh.cells))
    go_wp2_with fail
    refine bodyPost_ret (v := .agg #[.bool _, .slice A2 _ c2]) (by simp [results, Tryz.results78, go_sem, hr0, hr1]; exact ⟨rfl, rfl⟩) rfl ⟨_, rfl, ?_, hh.put hbW (by omega) _ _⟩
    have e : sg neg (val 4294967296 l) + sg neg' (val 4294967296 l') = sg neg (val 4294967296 (dig 4294967296 (val 4294967296 (trim l) + val 4294967296 (trim l')))) := by
      rw [val_dig (by omega), val_trim, val_trim, sg_same, HN.out]
    rw [e]
    exact nint_put hl2 hwd2 (by omega) _ _
  · have ht : (neg == neg') = false := by simp [hne]
    have HN := Lib.hid ht
    by_cases hle : val 4294967296 l' ≤ val 4294967296 l
    · have hcmp : (0 : Int) ≤ cmpN (val 4294967296 (trim l)) (val 4294967296 (trim l')) := by
        rw [val_trim, val_trim]; unfold cmpN; split <;> (try split) <;> omega
      have HLE := Lib.hid hle
      clear hle
      go_enter Tryz.func78, Tryz.ntmps78
      go_wp2_with fail
      obtain ⟨W, P, R, hW, hP, hR, hbW, HR, c0, c1, d0, d1, hlt, hlt2⟩ := boxes2 w (.bool neg) (.slice A n c) (.bool neg') (.slice A' n' c')
      rw [← hW, ← hR, ← hP]
      clear hW hP hR
      go_region_held3 (fun w' => (∀ b o, b < R → w'.cell? ⟨b, o, none⟩ = W.cell? ⟨b, o, none⟩) ∧ Held R W w')
        (first | exact Held.init _ _ HR.out | (go_split_ands; exact Held.call (by assumption) (by assumption)) | (go_split_ands; exact Held.again (by assumption)) | (go_split_ands; exact Held.store (by assumption) _ _))
        (first
          | (go_at_call 111; go_split_ands; ((with_reducible refine (size_any (h.below (Held.from (R := R) (W := W) (by assumption) hbW (by omega)))).mono ?_)); rintro e w' ⟨rfl, hb1⟩)
          | (go_at_call 111; go_split_ands; ((with_reducible refine (size_any (h'.below (Held.from (R := R) (W := W) (by assumption) hbW (by omega)))).mono ?_)); rintro e w' ⟨rfl, hb1⟩))
      go_split_ands
      go_wp2_with (go_at_call 113; ((with_reducible refine (compare_b (h.trim.below (Held.from (R := R) (W := W) (by assumption) hbW (by omega))) (h'.trim.below (Held.from (R := R) (W := W) (by assumption) hbW (by omega))) TL.out TL'.out).mono ?_)); rintro e w3 ⟨rfl, hb3⟩; obtain ⟨hd3a, hd3⟩ := Held.call (R := R) (W := W) hb3 (by assumption))
      go_region_held3 (fun w' => (∀ b o, b < R → w'.cell? ⟨b, o, none⟩ = W.cell? ⟨b, o, none⟩) ∧ Held R W w')
        (first | exact Held.init _ _ HR.out | (go_split_ands; exact Held.call (by assumption) (by assumption)) | (go_split_ands; exact Held.again (by assumption)) | (go_split_ands; exact Held.store (by assumption) _ _))
        (first
          | (go_at_call 114; go_split_ands; ((with_reducible refine (minus_any (h.trim.below (Held.from (R := R) (W := W) (by assumption) hbW (by omega))) (h'.trim.below (Held.from (R := R) (W := W) (by assumption) hbW (by omega))) (by have := HL.out; rw [wl_trim h.small]; omega) (by rw [val_trim, val_trim]; exact HLE.out)).mono ?_)); rintro e w3 ⟨v3, rfl, ⟨A3, c3, rfl, hwd3⟩, hb3⟩)
          | (go_at_call 108; go_split_ands; ((with_reducible refine (made_any hwd3 (by rw [wl_trim hwd3.small, val_dig (by omega), val_trim, val_trim]; have := HL.out; have := HL'.out; have := wl_le (Nat.sub_le (val 4294967296 l) (val 4294967296 l')); omega)).mono ?_)); rintro e w2 ⟨v2, rfl, ⟨A2, c2, rfl, hwd2⟩, hb2⟩; have hh := (Held.call hb2 (by assumption)).2; have hl2 := Held.call_lt (R := R) (W := W) hb2 (by assumption); obtain ⟨u0, u1, hr0, hr1, hf0, hf1⟩ := hh.cells))
      go_wp2_with fail
      refine bodyPost_ret (v := .agg #[.bool _, .slice A2 _ c2]) (by simp [results, Tryz.results78, go_sem, hr0, hr1]; exact ⟨rfl, rfl⟩) rfl ⟨_, rfl, ?_, hh.put hbW (by omega) _ _⟩
      have e : sg neg (val 4294967296 l) + sg neg' (val 4294967296 l') = sg neg (val 4294967296 (dig 4294967296 (val 4294967296 (trim l) - val 4294967296 (trim l')))) := by
        rw [val_dig (by omega), val_trim, val_trim, sg_diff1 HN.out HLE.out]
      rw [e]
      exact nint_put hl2 hwd2 (by omega) _ _
    · have hcmp : cmpN (val 4294967296 (trim l)) (val 4294967296 (trim l')) < 0 := by
        rw [val_trim, val_trim, cmpN_lt (by omega)]; omega
      have HLE := Lib.hid (show val 4294967296 l ≤ val 4294967296 l' by omega)
      clear hle
      go_enter Tryz.func78, Tryz.ntmps78
      go_wp2_with fail
      obtain ⟨W, P, R, hW, hP, hR, hbW, HR, c0, c1, d0, d1, hlt, hlt2⟩ := boxes2 w (.bool neg) (.slice A n c) (.bool neg') (.slice A' n' c')
      rw [← hW, ← hR, ← hP]
      clear hW hP hR
      go_region_held3 (fun w' => (∀ b o, b < R → w'.cell? ⟨b, o, none⟩ = W.cell? ⟨b, o, none⟩) ∧ Held R W w')
        (first | exact Held.init _ _ HR.out | (go_split_ands; exact Held.call (by assumption) (by assumption)) | (go_split_ands; exact Held.again (by assumption)) | (go_split_ands; exact Held.store (by assumption) _ _))
        (first
          | (go_at_call 111; go_split_ands; ((with_reducible refine (size_any (h.below (Held.from (R := R) (W := W) (by assumption) hbW (by omega)))).mono ?_)); rintro e w' ⟨rfl, hb1⟩)
          | (go_at_call 111; go_split_ands; ((with_reducible refine (size_any (h'.below (Held.from (R := R) (W := W) (by assumption) hbW (by omega)))).mono ?_)); rintro e w' ⟨rfl, hb1⟩))
      go_split_ands
      go_wp2_with (go_at_call 113; ((with_reducible refine (compare_b (h.trim.below (Held.from (R := R) (W := W) (by assumption) hbW (by omega))) (h'.trim.below (Held.from (R := R) (W := W) (by assumption) hbW (by omega))) TL.out TL'.out).mono ?_)); rintro e w3 ⟨rfl, hb3⟩; obtain ⟨hd3a, hd3⟩ := Held.call (R := R) (W := W) hb3 (by assumption))
      go_region_held3 (fun w' => (∀ b o, b < R → w'.cell? ⟨b, o, none⟩ = W.cell? ⟨b, o, none⟩) ∧ Held R W w')
        (first | exact Held.init _ _ HR.out | (go_split_ands; exact Held.call (by assumption) (by assumption)) | (go_split_ands; exact Held.again (by assumption)) | (go_split_ands; exact Held.store (by assumption) _ _))
        (first
          | (go_at_call 114; go_split_ands; ((with_reducible refine (minus_any (h'.trim.below (Held.from (R := R) (W := W) (by assumption) hbW (by omega))) (h.trim.below (Held.from (R := R) (W := W) (by assumption) hbW (by omega))) (by have := HL'.out; rw [wl_trim h'.small]; omega) (by rw [val_trim, val_trim]; exact HLE.out)).mono ?_)); rintro e w3 ⟨v3, rfl, ⟨A3, c3, rfl, hwd3⟩, hb3⟩)
          | (go_at_call 108; go_split_ands; ((with_reducible refine (made_any hwd3 (by rw [wl_trim hwd3.small, val_dig (by omega), val_trim, val_trim]; have := HL.out; have := HL'.out; have := wl_le (Nat.sub_le (val 4294967296 l') (val 4294967296 l)); omega)).mono ?_)); rintro e w2 ⟨v2, rfl, ⟨A2, c2, rfl, hwd2⟩, hb2⟩; have hh := (Held.call hb2 (by assumption)).2; have hl2 := Held.call_lt (R := R) (W := W) hb2 (by assumption); obtain ⟨u0, u1, hr0, hr1, hf0, hf1⟩ := hh.cells))
      go_wp2_with fail
      refine bodyPost_ret (v := .agg #[.bool _, .slice A2 _ c2]) (by simp [results, Tryz.results78, go_sem, hr0, hr1]; exact ⟨rfl, rfl⟩) rfl ⟨_, rfl, ?_, hh.put hbW (by omega) _ _⟩
      have e : sg neg (val 4294967296 l) + sg neg' (val 4294967296 l') = sg neg' (val 4294967296 (dig 4294967296 (val 4294967296 (trim l') - val 4294967296 (trim l)))) := by
        rw [val_dig (by omega), val_trim, val_trim, sg_diff2 HN.out HLE.out]
      rw [e]
      exact nint_put hl2 hwd2 (by omega) _ _

end Go.Proofs.YtdmdagilopckgaaGreat

namespace Go.Proofs.YtdmdagilopckgaaGreat
open Go.RowKit

theorem sg_not (neg : Bool) (m : Nat) : sg (!neg) m = - sg neg m := by unfold sg; cases neg <;> simp
theorem Held.self {R : Nat} {W : World} {u0 u1 : Value} (h : W.heap[R]? = some (.cells #[u0, u1] 63 (0, 0))) : Held R W W := ⟨Below.refl _ _, u0, u1, h⟩
theorem Wd.int {w : World} {D : Nat → Prop} {A : Option Addr} {n c : Nat} {l : List Nat} (h : Wd w D A n c l) (neg : Bool) : IntV w D (.agg #[.bool neg, .slice A n c]) (sg neg (val 4294967296 l)) := ⟨neg, A, n, c, l, rfl, h, rfl⟩
theorem IntV.t {w : World} {D : Nat → Prop} {v : Value} {x : Int} (h : IntV w D v x) : IntV w (fun _ => True) v x := h.mono fun _ _ _ => trivial

set_option maxHeartbeats 1000000 in
theorem Sub_any {D D' : Nat → Prop} {v v' : Value} {x y : Int} {w : World} (h : IntV w D v x) (h' : IntV w D' v' y) (hl : wl x.natAbs ≤ 1000000000000) (hl' : wl y.natAbs ≤ 1000000000000) :
    Calls Tryz.prog 101 #[v, v'] w (Gives w fun w' v => NIntV w' (w.heap.size ≤ ·) v (x - y)) := by
  replace h := h.t
  replace h' := h'.t
  obtain ⟨neg, A, n, c, l, rfl, h, rfl⟩ := h
  obtain ⟨neg', A', n', c', l', rfl, h', rfl⟩ := h'
  have HL := Lib.hid hl
  have HL' := Lib.hid hl'
  clear hl hl'
  go_enter Tryz.func101, Tryz.ntmps101
  go_wp2_with fail
  obtain ⟨W, P, R, hW, hP, hR, hbW, HR, c0, c1, d0, d1, hlt, hlt2⟩ := boxes2 w (.bool neg) (.slice A n c) (.bool neg') (.slice A' n' c')
  rw [← hW, ← hR, ← hP]
  clear hW hP hR
  go_region_held3 (fun w' => (∀ b o, b < R → w'.cell? ⟨b, o, none⟩ = W.cell? ⟨b, o, none⟩) ∧ Held R W w')
    (first | exact Held.init _ _ HR.out | (go_split_ands; exact Held.call (by assumption) (by assumption)) | (go_split_ands; exact Held.again (by assumption)) | (go_split_ands; exact Held.store (by assumption) _ _))
    (first
      | (go_at_call 119; go_split_ands; ((with_reducible refine (negative_any).mono ?_)); rintro e w3 ⟨rfl, hb3⟩)
      | (go_at_call 78; go_split_ands; ((with_reducible refine (Add_any (D := fun _ => True) (D' := fun _ => True) (x := sg neg (val 4294967296 l)) (y := sg (!neg') (val 4294967296 l')) ((h.below (Held.from (R := R) (W := W) (by assumption) hbW (by omega))).int neg) ((h'.below (Held.from (R := R) (W := W) (by assumption) hbW (by omega))).int (!neg')) HL.out (by rw [sg_natAbs]; have := HL'.out; rw [sg_natAbs] at this; exact this)).mono ?_)); rintro e w2 ⟨v2, rfl, ⟨A2, c2, rfl, hwd2⟩, hb2⟩; have hh := (Held.call hb2 (by assumption)).2; have hl2 := Held.call_lt (R := R) (W := W) hb2 (by assumption); obtain ⟨u0, u1, hr0, hr1, hf0, hf1⟩ := hh.cells))
  go_wp2_with fail
  refine bodyPost_ret (v := .agg #[.bool _, .slice A2 _ c2]) (by simp [results, Tryz.results101, go_sem, hr0, hr1]; exact ⟨rfl, rfl⟩) rfl ⟨_, rfl, ?_, hh.put hbW (by omega) _ _⟩
  rw [Int.sub_eq_add_neg, ← sg_not]
  exact nint_put hl2 hwd2 (by omega) _ _

/-- How two integers compare. -/
def cmpI (x y : Int) : Int := if x < y then -1 else if x = y then 0 else 1

theorem wl_zero : wl 0 = 0 := rfl
theorem wl_pos {m : Nat} (h : m ≠ 0) : wl m ≠ 0 := by
  unfold wl
  intro h0
  exact h ((dig_eq_nil (by omega)).1 (List.eq_nil_of_length_eq_zero h0))

set_option maxHeartbeats 1000000 in
theorem Cmp_any {D D' : Nat → Prop} {v v' : Value} {x y : Int} {w : World} (h : IntV w D v x) (h' : IntV w D' v' y) (hl : wl x.natAbs ≤ 1000000000000) (hl' : wl y.natAbs ≤ 1000000000000) :
    Calls Tryz.prog 65 #[v, v'] w fun e w' => e = .returned (.int .i64 (cmpI x y)) ∧ Below w.heap.size w w' := by
  obtain ⟨d, hd⟩ : ∃ d, d = x - y := ⟨_, rfl⟩
  have HD := Lib.hid hd
  have HX := Lib.hid (show cmpI x y = (if d = 0 then 0 else if d < 0 then -1 else 1) by unfold cmpI; split <;> (try split) <;> (try split) <;> (try split) <;> omega)
  clear hd
  have hsub := fun w' (hb : Below w.heap.size w w') => Sub_any (h.below hb) (h'.below hb) hl hl'
  rw [← HD.out] at hsub
  have HS := Lib.hid hsub
  clear hsub
  obtain ⟨neg, A, n, c, l, rfl, h, hx⟩ := h
  obtain ⟨neg', A', n', c', l', rfl, h', hy⟩ := h'
  clear hx hy hl hl'
  rcases Int.lt_trichotomy d 0 with h0 | h0 | h0
  · have t1 : ((wl d.natAbs : Int) == 0) = false := by
      have := wl_pos (m := d.natAbs) (by omega)
      simpa using this
    have t2 : decide (d < 0) = true := by simpa using h0
    have HE := Lib.hid (show cmpI x y = -1 by rw [HX.out, if_neg (by omega), if_pos h0])
    have H0 := Lib.hid h0
    clear h0
    go_enter Tryz.func65, Tryz.ntmps65
    go_wp2_with (go_at_call 101; go_must (refine (HS.out _ (((Below.refl _ _).alloc (Nat.le_refl _) _).alloc (by simp) _)).mono ?_); rintro e w1 ⟨v1, rfl, ⟨A1, c1, rfl, hwd⟩, hb1⟩)
    go_ret
    refine ⟨ret_int HE.out.symm, ?_⟩
    exact ((((Below.refl _ _).alloc (Nat.le_refl _) _).alloc (by simp) _).trans (hb1.mono (by simp; omega))).alloc (by have := hb1.size; simp at this; omega) _
  · have t1 : ((wl d.natAbs : Int) == 0) = true := by rw [h0]; rfl
    have HE := Lib.hid (show cmpI x y = 0 by rw [HX.out, if_pos h0])
    have H0 := Lib.hid h0
    clear h0
    go_enter Tryz.func65, Tryz.ntmps65
    go_wp2_with (go_at_call 101; go_must (refine (HS.out _ (((Below.refl _ _).alloc (Nat.le_refl _) _).alloc (by simp) _)).mono ?_); rintro e w1 ⟨v1, rfl, ⟨A1, c1, rfl, hwd⟩, hb1⟩)
    go_ret
    refine ⟨ret_int HE.out.symm, ?_⟩
    exact ((((Below.refl _ _).alloc (Nat.le_refl _) _).alloc (by simp) _).trans (hb1.mono (by simp; omega))).alloc (by have := hb1.size; simp at this; omega) _
  · have t1 : ((wl d.natAbs : Int) == 0) = false := by
      have := wl_pos (m := d.natAbs) (by omega)
      simpa using this
    have t2 : decide (d < 0) = false := by simp; omega
    have HE := Lib.hid (show cmpI x y = 1 by rw [HX.out, if_neg (by omega), if_neg (by omega)])
    have H0 := Lib.hid h0
    clear h0
    go_enter Tryz.func65, Tryz.ntmps65
    go_wp2_with (go_at_call 101; go_must (refine (HS.out _ (((Below.refl _ _).alloc (Nat.le_refl _) _).alloc (by simp) _)).mono ?_); rintro e w1 ⟨v1, rfl, ⟨A1, c1, rfl, hwd⟩, hb1⟩)
    go_ret
    refine ⟨ret_int HE.out.symm, ?_⟩
    exact ((((Below.refl _ _).alloc (Nat.le_refl _) _).alloc (by simp) _).trans (hb1.mono (by simp; omega))).alloc (by have := hb1.size; simp at this; omega) _

end Go.Proofs.YtdmdagilopckgaaGreat

namespace Go.Proofs.YtdmdagilopckgaaGreat
open Go.RowKit

theorem neg_wrap {n : Int} (h : -9223372036854775808 ≤ n) (h0 : n < 0) : IntKind.u64.wrap (-(IntKind.u64.wrap n)) = (n.natAbs : Int) := by
  simp [IntKind.wrap, IntKind.bits, IntKind.signed]
  omega
theorem pos_wrap {n : Int} (h : n ≤ 9223372036854775807) (h0 : 0 ≤ n) : IntKind.u64.wrap n = (n.natAbs : Int) := by
  simp [IntKind.wrap, IntKind.bits, IntKind.signed]
  omega

theorem NIntV.cast {w : World} {D : Nat → Prop} {v : Value} {x y : Int} (h : NIntV w D v x) (e : x = y) : NIntV w D v y := e ▸ h

theorem wl_word {m : Nat} (h : m < 18446744073709551616) : wl m ≤ 2 := dig_length_le (by omega) (by omega)

set_option maxHeartbeats 1000000 in
theorem Of_any (n : Int) (w : World) (h : -9223372036854775808 ≤ n) (h' : n ≤ 9223372036854775807) :
    Calls Tryz.prog 76 #[.int .i64 n] w (Gives w fun w' v => NIntV w' (w.heap.size ≤ ·) v n) := by
  have HLT := Lib.hid (show n.natAbs < 18446744073709551616 by omega)
  obtain ⟨W, hW⟩ : ∃ W, W = w.alloc (.cells #[.bool false, .slice none 0 0] 63) := ⟨_, rfl⟩
  have hbW : Below w.heap.size w W := by rw [hW]; exact (Below.refl _ _).alloc (Nat.le_refl _) _
  have HR : Hid (W.heap[w.heap.size]? = some (.cells #[.bool false, .slice none 0 0] 63 (0, 0))) := by rw [hW]; exact heap_alloc_new _ _
  have HWW := Lib.hid hW
  clear hW
  by_cases h0 : n < 0
  · have HW := Lib.hid (neg_wrap h h0)
    clear h h'
    go_enter Tryz.func76, Tryz.ntmps76
    go_wp2_with (first
      | (go_at_call 109; rw [← HWW.out, HW.out]; go_must (refine (of_any _ _ HLT.out).mono ?_); rintro e w1 ⟨v1, rfl, ⟨A1, c1, rfl, hwd1⟩, hb1⟩; have hh1 := (Held.call hb1 (Held.self HR.out)).2)
      | (go_at_call 108; go_must (refine (made_any hwd1 ?_).mono ?_); (rw [wl_trim hwd1.small, val_dig (by omega)]; have := wl_word HLT.out; omega); rintro e w2 ⟨v2, rfl, ⟨A2, c2, rfl, hwd2⟩, hb2⟩; have hh := (Held.call hb2 hh1).2; have hl2 := hh1.lt; obtain ⟨u0, u1, hr0, hr1, hf0, hf1⟩ := hh.cells))
    refine bodyPost_ret (v := .agg #[.bool _, .slice A2 _ c2]) (by simp [results, Tryz.results76, go_sem, hr0, hr1]; exact ⟨rfl, rfl⟩) rfl ⟨_, rfl, ?_, hh.put hbW (by omega) _ _⟩
    exact (nint_put (w := w) hl2 hwd2 (Nat.le_refl _) _ _).cast (by rw [val_dig (by omega)]; simp [sg]; omega)
  · have HW := Lib.hid (pos_wrap h' (by omega))
    clear h h'
    go_enter Tryz.func76, Tryz.ntmps76
    go_wp2_with (first
      | (go_at_call 109; rw [← HWW.out, HW.out]; go_must (refine (of_any _ _ HLT.out).mono ?_); rintro e w1 ⟨v1, rfl, ⟨A1, c1, rfl, hwd1⟩, hb1⟩; have hh1 := (Held.call hb1 (Held.self HR.out)).2)
      | (go_at_call 108; go_must (refine (made_any hwd1 ?_).mono ?_); (rw [wl_trim hwd1.small, val_dig (by omega)]; have := wl_word HLT.out; omega); rintro e w2 ⟨v2, rfl, ⟨A2, c2, rfl, hwd2⟩, hb2⟩; have hh := (Held.call hb2 hh1).2; have hl2 := hh1.lt; obtain ⟨u0, u1, hr0, hr1, hf0, hf1⟩ := hh.cells))
    refine bodyPost_ret (v := .agg #[.bool _, .slice A2 _ c2]) (by simp [results, Tryz.results76, go_sem, hr0, hr1]; exact ⟨rfl, rfl⟩) rfl ⟨_, rfl, ?_, hh.put hbW (by omega) _ _⟩
    exact (nint_put (w := w) hl2 hwd2 (Nat.le_refl _) _ _).cast (by rw [val_dig (by omega)]; simp [sg]; omega)

/-- Zero: an integer in normal form is 0. -/
theorem Zero_any {D : Nat → Prop} {v : Value} {x : Int} {w : World} (h : NIntV w D v x) :
    Calls Tryz.prog 88 #[v] w fun e w' => e = .returned (.bool (decide (x = 0))) ∧ Below w.heap.size w w' := by
  obtain ⟨A, c, rfl, h⟩ := h
  have HX := Lib.hid (show ((wl x.natAbs : Int) == 0) = decide (x = 0) by
    by_cases h0 : x = 0
    · rw [h0]; rfl
    · have := wl_pos (m := x.natAbs) (by omega)
      simp [h0, this])
  go_enter Tryz.func88, Tryz.ntmps88
  go_wp2_with fail
  go_ret
  rw [← HX.out]
  exact ⟨rfl, (Below.refl _ _).alloc (Nat.le_refl _) _⟩

theorem Sign_any {D : Nat → Prop} {v : Value} {x : Int} {w : World} (h : IntV w D v x) (hl : wl x.natAbs ≤ 1000000000000) :
    Calls Tryz.prog 80 #[v] w fun e w' => e = .returned (.int .i64 (cmpI x 0)) ∧ Below w.heap.size w w' := by
  have HC := Lib.hid (fun w' (hb : Below w.heap.size w w') => Cmp_any (h.below hb) (NIntV.zero w' (fun _ => True)).int hl (by decide))
  obtain ⟨neg, A, n, c, l, rfl, h, hx⟩ := h
  clear hx hl
  go_enter Tryz.func80, Tryz.ntmps80
  go_wp2_with (go_at_call 65; go_must (refine (HC.out _ ((Below.refl _ _).alloc (Nat.le_refl _) _)).mono ?_); rintro e w1 ⟨rfl, hb1⟩)
  go_ret
  exact ⟨rfl, ((Below.refl _ _).alloc (Nat.le_refl _) _).trans (hb1.mono (by simp))⟩

set_option maxHeartbeats 1000000 in
theorem wNeg_any {D : Nat → Prop} {v : Value} {x : Int} {w : World} (h : IntV w D v x) (hl : wl x.natAbs ≤ 1000000000000) :
    Calls Tryz.prog 72 #[v] w (Gives w fun w' v => NIntV w' (w.heap.size ≤ ·) v (-x)) := by
  obtain ⟨y, hy⟩ : ∃ y, y = 0 - x := ⟨_, rfl⟩
  have hc := (fun w' (hb : Below w.heap.size w w') => Sub_any (NIntV.zero w' (fun _ => True)).int (h.below hb) (by decide) hl)
  rw [← hy] at hc
  have HC := Lib.hid hc
  have HY := Lib.hid hy
  clear hc hy
  obtain ⟨neg, A, n, c, l, rfl, h, hx⟩ := h
  clear hx hl
  go_enter Tryz.func72, Tryz.ntmps72
  obtain ⟨W, R, hW, hR, hbW, HR, c0, c1, hlt⟩ := boxes1 w (.bool neg) (.slice A n c)
  have HWW := Lib.hid hW
  have HRR := Lib.hid hR
  clear hW hR
  go_wp2_with (go_at_call 101; rw [← HWW.out, ← HRR.out]; go_must (refine (HC.out _ hbW).mono ?_); rintro e w2 ⟨v2, rfl, ⟨A2, c2, rfl, hwd2⟩, hb2⟩; have hh1 := Held.self HR.out; have hl2 := hh1.lt; have hh := (Held.call hb2 hh1).2; obtain ⟨u0, u1, hr0, hr1, hf0, hf1⟩ := hh.cells)
  refine bodyPost_ret (v := .agg #[.bool _, .slice A2 _ c2]) (by simp [results, Tryz.results72, go_sem, hr0, hr1]; exact ⟨rfl, rfl⟩) rfl ⟨_, rfl, ?_, hh.put hbW (by omega) _ _⟩
  exact (nint_put (w := w) hl2 hwd2 (by omega) _ _).cast (by have := HY.out; omega)

set_option maxHeartbeats 1000000 in
theorem Size_any {D : Nat → Prop} {v : Value} {x : Int} {w : World} (h : IntV w D v x) (hl : wl x.natAbs ≤ 1000000000000) :
    Calls Tryz.prog 66 #[v] w (Gives w fun w' v => NIntV w' (w.heap.size ≤ ·) v (x.natAbs : Int)) := by
  have HS := Lib.hid (fun w' (hb : Below w.heap.size w w') => Sign_any (h.below hb) hl)
  obtain ⟨y, hy⟩ : ∃ y, y = -x := ⟨_, rfl⟩
  have hc := (fun w' (hb : Below w.heap.size w w') => wNeg_any (h.below hb) hl)
  rw [← hy] at hc
  have HN := Lib.hid hc
  have HY := Lib.hid hy
  clear hc hy
  have HM := Lib.hid (fun w' (hb : Below w.heap.size w w') => Normal_any (h.below hb) hl)
  obtain ⟨neg, A, n, c, l, rfl, h, hx⟩ := h
  have HX := Lib.hid hx
  clear hx hl
  obtain ⟨W, R, hW, hR, hbW, HR, c0, c1, hlt⟩ := boxes1 w (.bool neg) (.slice A n c)
  have HWW := Lib.hid hW
  have HRR := Lib.hid hR
  clear hW hR
  by_cases h0 : x < 0
  · have hc : cmpI x 0 < 0 := by unfold cmpI; rw [if_pos h0]; omega
    have H0 := Lib.hid h0
    clear h0
    go_enter Tryz.func66, Tryz.ntmps66
    go_wp2_with (first
      | (go_at_call 80; rw [← HWW.out, ← HRR.out]; go_must (refine (HS.out _ hbW).mono ?_); rintro e w1 ⟨rfl, hb1⟩; obtain ⟨hr1, hh1⟩ := Held.call hb1 (Held.self HR.out))
      | (go_at_call 72; go_must (refine (HN.out _ (hh1.from hbW (by omega))).mono ?_); rintro e w2 ⟨v2, rfl, ⟨A2, c2, rfl, hwd2⟩, hb2⟩; have hl2 := hh1.lt; have hh := (Held.call hb2 hh1).2; obtain ⟨u0, u1, hr0, hr1, hf0, hf1⟩ := hh.cells))
    refine bodyPost_ret (v := .agg #[.bool _, .slice A2 _ c2]) (by simp [results, Tryz.results66, go_sem, hr0, hr1]; exact ⟨rfl, rfl⟩) rfl ⟨_, rfl, ?_, hh.put hbW (by omega) _ _⟩
    exact (nint_put (w := w) hl2 hwd2 (by omega) _ _).cast (by have := H0.out; have := HY.out; omega)
  · have hc : 0 ≤ cmpI x 0 := by unfold cmpI; rw [if_neg h0]; split <;> omega
    have H0 := Lib.hid h0
    clear h0
    go_enter Tryz.func66, Tryz.ntmps66
    go_wp2_with (first
      | (go_at_call 80; rw [← HWW.out, ← HRR.out]; go_must (refine (HS.out _ hbW).mono ?_); rintro e w1 ⟨rfl, hb1⟩; obtain ⟨hr1, hh1⟩ := Held.call hb1 (Held.self HR.out))
      | (go_at_call 102; go_must (refine (HM.out _ (hh1.from hbW (by omega))).mono ?_); rintro e w2 ⟨v2, rfl, ⟨A2, c2, rfl, hwd2⟩, hb2⟩; have hl2 := hh1.lt; have hh := (Held.call hb2 hh1).2; obtain ⟨u0, u1, hr0, hr1, hf0, hf1⟩ := hh.cells))
    refine bodyPost_ret (v := .agg #[.bool _, .slice A2 _ c2]) (by simp [results, Tryz.results66, go_sem, hr0, hr1]; exact ⟨rfl, rfl⟩) rfl ⟨_, rfl, ?_, hh.put hbW (by omega) _ _⟩
    exact (nint_put (w := w) hl2 hwd2 (by omega) _ _).cast (by have := H0.out; omega)

end Go.Proofs.YtdmdagilopckgaaGreat
