/- Integers of several words as values: what their fields hold; package integer's functions that make and take them apart. -/
import Derived.Test.YtpkjdnplmgfbbaaDoorTimes
import Derived.Test.YtpkjdnplmgfbbaaDoorApp
namespace Go.Proofs.YtpkjdnplmgfbbaaDoor
open Go.RowKit

/-- A number with a sign. -/
def sg (neg : Bool) (m : Nat) : Int := if neg then -(m : Int) else m
/-- How many words a number has. -/
def wl (m : Nat) : Nat := (dig 4294967296 m).length

/-- An api.Int that reads as x, in whatever form. -/
def IntV (w : World) (D : Nat → Prop) (v : Value) (x : Int) : Prop :=
  ∃ neg A n c l, v = .agg #[.bool neg, .slice A n c] ∧ Wd w D A n c l ∧ x = sg neg (val 4294967296 l)
/-- An api.Int in normal form that reads as x. -/
def NIntV (w : World) (D : Nat → Prop) (v : Value) (x : Int) : Prop :=
  ∃ A c, v = .agg #[.bool (decide (x < 0)), .slice A (wl x.natAbs) c] ∧ Wd w D A (wl x.natAbs) c (dig 4294967296 x.natAbs)

theorem sg_natAbs (neg : Bool) (m : Nat) : (sg neg m).natAbs = m := by unfold sg; split <;> omega
theorem sg_abs (x : Int) : sg (decide (x < 0)) x.natAbs = x := by
  unfold sg
  by_cases h : x < 0
  · simp [h]; omega
  · simp [h]; omega

section
variable {w w' : World} {D D' : Nat → Prop} {v : Value} {x : Int}
theorem NIntV.int (h : NIntV w D v x) : IntV w D v x := by
  obtain ⟨A, c, rfl, h⟩ := h
  exact ⟨_, A, _, c, _, rfl, h, by rw [val_dig (by omega), sg_abs]⟩
theorem IntV.mono (h : IntV w D v x) (hd : ∀ b, D b → b < w.heap.size → D' b) : IntV w D' v x := by
  obtain ⟨neg, A, n, c, l, rfl, h, rfl⟩ := h
  exact ⟨neg, A, n, c, l, rfl, h.mono hd, rfl⟩
theorem NIntV.mono (h : NIntV w D v x) (hd : ∀ b, D b → b < w.heap.size → D' b) : NIntV w D' v x := by
  obtain ⟨A, c, rfl, h⟩ := h
  exact ⟨A, c, rfl, h.mono hd⟩
theorem IntV.keep (h : IntV w D v x) (hk : ∀ b o, D b → b < w.heap.size → w'.cell? ⟨b, o, none⟩ = w.cell? ⟨b, o, none⟩) : IntV w' D v x := by
  obtain ⟨neg, A, n, c, l, rfl, h, rfl⟩ := h
  exact ⟨neg, A, n, c, l, rfl, h.keep hk, rfl⟩
theorem NIntV.keep (h : NIntV w D v x) (hk : ∀ b o, D b → b < w.heap.size → w'.cell? ⟨b, o, none⟩ = w.cell? ⟨b, o, none⟩) : NIntV w' D v x := by
  obtain ⟨A, c, rfl, h⟩ := h
  exact ⟨A, c, rfl, h.keep hk⟩
theorem IntV.below (h : IntV w D v x) (hb : Below w.heap.size w w') : IntV w' D v x := h.keep fun _ _ _ hl => (bcell hb).1 _ _ hl
theorem NIntV.below (h : NIntV w D v x) (hb : Below w.heap.size w w') : NIntV w' D v x := h.keep fun _ _ _ hl => (bcell hb).1 _ _ hl
theorem NIntV.setCell (h : NIntV w D v x) {p : Addr} (hp : ¬ D p.block) (u : Value) : NIntV (w.setCell p u) D v x :=
  h.keep fun b o hd _ => World.cell?_setCell_other w p ⟨b, o, none⟩ u (fun e => hp (by subst e; exact hd))
theorem NIntV.zero (w : World) (D : Nat → Prop) : NIntV w D (.agg #[.bool false, .slice none 0 0]) 0 :=
  ⟨none, 0, rfl, Wd.nil 0 (by unfold maxLen; omega)⟩
theorem Wd.src {A : Option Addr} {n c : Nat} {l : List Nat} (h : Wd w D A n c l) : Src w 1 A n (l.map fun x : Nat => Value.int .u32 (x : Int)) := by
  refine ⟨by rw [List.length_map, h.len, Nat.mul_one], fun hn => ?_⟩
  obtain ⟨b, off, rfl, _, hc⟩ := h.cells hn
  refine ⟨_, rfl, fun j u hu => ?_⟩
  rw [List.getElem?_map] at hu
  rcases Nat.lt_or_ge j l.length with hj | hj
  · rw [gw_lt hj] at hu
    simp only [Option.map_some, Option.some.injEq] at hu
    subst hu
    have := hc j (by rw [← h.len]; exact hj)
    unfold Addr.add
    split
    · rename_i h0; subst h0; exact this
    · exact this
  · rw [List.getElem?_eq_none hj] at hu
    cases hu
end

theorem words_oneCell (l : List Nat) : ∀ u ∈ l.map (fun x : Nat => Value.int .u32 (x : Int)), u.oneCell' = true := by
  intro u hu
  obtain ⟨x, _, rfl⟩ := List.mem_map.1 hu
  rfl

/-- A row of words of the call's own. -/
theorem wd_of_own {w : World} {base n : Nat} {v : Value} {l : List Nat} (h : w.ownsRow base 93 1 v n (l.map fun x : Nat => Value.int .u32 (x : Int))) (hs : ∀ x ∈ l, x < 4294967296) :
    ∃ A c, v = .slice A n c ∧ Wd w (base ≤ ·) A n c l := by
  have hl : l.length = n := by have := h.1; rw [List.length_map, Nat.mul_one] at this; exact this
  obtain ⟨A, c, rfl, hc, hm⟩ := own_slice h
  refine ⟨A, c, rfl, hl, hc, hm, hs, fun hn => ?_⟩
  obtain ⟨g, cap, hv, hb, _, _, _, hcell⟩ := own_cells h hn
  injection hv with hA
  subst hA
  exact ⟨g, 0, rfl, hb, fun j hj => by rw [Nat.zero_add]; exact hcell j _ (by rw [List.getElem?_map, gw_lt (by omega)]; rfl)⟩

theorem nint_of {w : World} {D : Nat → Prop} {neg : Bool} {A : Option Addr} {m c k : Nat} {T : List Nat} (h : Wd w D A m c T) (hT : T = dig 4294967296 k) (h0 : k ≠ 0) :
    NIntV w D (.agg #[.bool neg, .slice A m c]) (sg neg k) := by
  subst hT
  have hm := h.len
  subst hm
  refine ⟨A, c, ?_, by rw [sg_natAbs]; exact h⟩
  have : decide (sg neg k < 0) = neg := by
    unfold sg
    cases neg <;> simp <;> omega
  rw [this, sg_natAbs]
  rfl

/-- size: the words of an integer's size. -/
theorem size_any {D : Nat → Prop} {neg : Bool} {A : Option Addr} {n c : Nat} {l : List Nat} {w : World} (h : Wd w D A n c l) :
    Calls Tryd.prog 105 #[.agg #[.bool neg, .slice A n c]] w fun e w' => e = .returned (.slice A (trim l).length (trim l).length) ∧ Below w.heap.size w w' := by
  go_enter Tryd.func105, Tryd.ntmps105
  go_wp2_with (go_at_call 120; ((with_reducible refine (trimmed_any (h.alloc _)).mono ?_); rintro e w' ⟨rfl, rfl⟩))
  go_ret
  exact ⟨rfl, (Below.refl _ _).alloc (Nat.le_refl _) _⟩

set_option maxHeartbeats 400000 in
theorem made_any {D : Nat → Prop} {neg : Bool} {A : Option Addr} {n c : Nat} {l : List Nat} {w : World} (h : Wd w D A n c l) (hl : (trim l).length ≤ 10000000000000) :
    Calls Tryd.prog 86 #[.bool neg, .slice A n c] w (Gives w fun w' v => NIntV w' (w.heap.size ≤ ·) v (sg neg (val 4294967296 l))) := by
  have ht := h.trim
  have e1 := trim_eq_dig (b := 4294967296) (by omega) h.small
  have E1 := Lib.hid e1
  clear e1
  generalize hT : trim l = T at *
  have HT := Lib.hid hT
  clear hT
  generalize hm : T.length = m at *
  have HM := Lib.hid hm
  clear hm
  by_cases h0 : m = 0
  · have hz : ((m : Int) == 0) = true := by simp [h0]
    go_enter Tryd.func86, Tryd.ntmps86
    go_wp2_with (go_at_call 120; ((with_reducible refine (trimmed_any (h.alloc _)).mono ?_); rintro e w' ⟨rfl, rfl⟩; rw [HT.out, HM.out]))
    refine bodyPost_ret (v := .agg #[.bool false, .slice none 0 0]) (by simp [results, Tryd.results86, go_sem]) rfl ⟨_, rfl, ?_, (Below.refl _ _).alloc (Nat.le_refl _) _⟩
    have hv : val 4294967296 l = 0 := by
      have e := E1.out
      rw [List.eq_nil_of_length_eq_zero (HM.out.trans h0)] at e
      exact (dig_eq_nil (by omega)).1 e.symm
    rw [hv]
    have : sg neg 0 = 0 := by unfold sg; split <;> rfl
    rw [this]
    exact NIntV.zero _ _
  · have hz : ((m : Int) == 0) = false := by simpa using h0
    go_enter Tryd.func86, Tryd.ntmps86
    go_wp2_with (first
      | (go_at_call 120; ((with_reducible refine (trimmed_any (h.alloc _)).mono ?_); rintro e w' ⟨rfl, rfl⟩; rw [HT.out, HM.out]))
      | (at_builtin; go_must (refine wpList_app_nil _ rfl _ _ _ _ rfl 93 93 (.int .u32 0) 1 4 Tryd.underlying44 Tryd.underlying108 info_u32 rfl (by omega) rfl A m m (T.map fun x : Nat => Value.int .u32 (x : Int)) rfl ((ht.alloc _).src) (words_oneCell T) (by unfold maxLen; omega) (by omega) ?_); intro A1 c1 w1 hown hb; obtain ⟨hc, hf⟩ := bcell hb))
    refine bodyPost_ret (v := .agg #[.bool neg, .slice A1 m c1]) (by simp [results, Tryd.results86, go_sem, hc]) rfl ⟨_, rfl, ?_, ?_⟩
    · have hw := wd_of_own hown (fun x hx => ht.small x hx)
      obtain ⟨A2, c2, he, hw⟩ := hw
      injection he with e1 e2 e3
      subst e1 e3
      have hv : val 4294967296 l ≠ 0 := by
        intro hv
        have e := E1.out
        rw [hv, dig_zero] at e
        exact h0 (by rw [← HM.out, e]; rfl)
      have hn := nint_of (neg := neg) hw E1.out hv
      exact ((hn.setCell (p := ⟨w.heap.size, 0, none⟩) (by simp) _).setCell (p := ⟨w.heap.size, 1, none⟩) (by simp) _).mono (fun b hb _ => by simp at hb; omega)
    · exact ((((Below.refl _ _).alloc (Nat.le_refl _) _).trans (hb.mono (by simp))).setCell (Nat.le_refl _) _).setCell (Nat.le_refl _) _

end Go.Proofs.YtpkjdnplmgfbbaaDoor
