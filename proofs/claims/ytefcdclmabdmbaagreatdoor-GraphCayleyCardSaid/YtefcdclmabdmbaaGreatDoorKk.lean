/- Regions that draw their order, hold loads beside calls, and end with a store into what they load: all that reads is taken first, the rest goes in its order. slices.ContainsFunc of lists of lists; graph.Undirected, graph.Degree and the reference's. The law GraphChecks: its walk. The reference's Degree and Undirected. The law GraphChecks: its walk. Regions that draw their order, in pieces: some only read (any of their operations may be taken first), the others stand in one order. The reference's Joined and Components. The reference's Bipartite. -/
import Derived.Test.YtefcdclmabdmbaaGreatDoorKf
import Derived.Deep.RegionHeld
import Derived.Test.YtefcdclmabdmbaaGreatDoorKj
import Derived.Deep.RegionHeld3
namespace Go.Proofs.YtefcdclmabdmbaaGreatDoor
open Go.RowKit

section
variable {P : Program} {ops : Array Oper} {Q : Exit → Act → World → Prop} {md : Region.Mode} {S : World → Prop} {z : Nat}

/-- Each of these operations yields in every world that meets S. -/
def loadsZ (P : Program) (ops : Array Oper) (S : World → Prop) : List Oper → Act → (Act → Prop) → Prop
  | [], a, K => K a
  | o :: r, a, K => ∃ v, YieldsIf P ops S o v a ∧ loadsZ P ops S r (a.put o.dst v) K
/-- The rest, in its order; S holds ahead of each, and at the end. -/
def tailY (P : Program) (ops : Array Oper) (Q : Exit → Act → World → Prop) (S : World → Prop) : List Oper → Act → World → Prop
  | [], a, w => S w ∧ Q .normal a w
  | o :: r, a, w => S w ∧ wpList P ops (Exit.then (tailY P ops Q S r) Q) [o] a w
theorem tailY.s {tl : List Oper} {a : Act} {w : World} (h : tailY P ops Q S tl a w) : S w := by
  cases tl with
  | nil => exact h.1
  | cons o r => exact h.1
end
end Go.Proofs.YtefcdclmabdmbaaGreatDoor

namespace Go.Proofs.YtefcdclmabdmbaaGreatDoor
open Go.RowKit

/-- Whatever lies in w: the function answers p at the length of each list. -/
def AsksL (w : World) (f : FuncId) (lb : Array Value) (E : List (List Nat)) (p : Nat → Bool) : Prop :=
  ∀ A c l, l ∈ E → l.length ≤ c → c ≤ maxLen → ∀ W, Below w.heap.size w W → Calls Tryz.prog f (#[.slice A l.length c] ++ lb) W fun e W' => e = .returned (.bool (p l.length)) ∧ Below W.heap.size W W'

set_option maxHeartbeats 1000000 in
theorem IndexFuncL_any {w : World} {A : Option Addr} {c : Nat} {E : List (List Nat)} (h : Gl w A E.length c (toI E)) {f : FuncId} {lb : Array Value} {p : Nat → Bool} (hf : AsksL w f lb E p)
    (eg : ∀ args w, (callFunc f args).run Tryz.prog w = .ok (.enter f args) w) :
    Calls Tryz.prog 145 #[.slice A E.length c, .func (.func f) #[] lb] w fun e w' => (∃ i : Int, -1 ≤ i ∧ i ≤ 9223372036854775807 ∧ e = .returned (.int .i64 i) ∧ (decide (0 ≤ i) = E.any fun l => p l.length)) ∧ Below w.heap.size w w' := by
  have hr := h.room
  unfold maxLen at hr
  have HF := Lib.hid hf
  have EG := Lib.hid eg
  clear hf eg
  go_enter Tryz.func145, Tryz.ntmps145
  go_wp2_with fail
  go_loopw [8] (fun i wr => ∃ (k : Nat), k ≤ E.length ∧ i = .int .i64 (k : Nat) ∧ (∀ y ∈ E.take k, p y.length = false) ∧ Below w.heap.size w wr) (fun i _ => E.length - (intOf i).toNat)
  case atStart => exact ⟨0, Nat.zero_le _, rfl, fun y hy => by simp at hy, Below.refl _ _⟩
  case round =>
    obtain ⟨k, hk, rfl, hn, hbr⟩ := hrel
    have HN := Lib.hid hn
    clear hn
    by_cases hlt : k < E.length
    · obtain ⟨b, off, A2, c2, rfl, hrow, hr1, hr2, _⟩ := (h.below hbr).row hlt
      have hmem : gr E k ∈ E := List.mem_of_getElem? (gr_lt hlt)
      have hm2 : c2 ≤ maxLen := by unfold maxLen; omega
      have HMEM := Lib.hid hmem
      have HM2 := Lib.hid hm2
      have hgk : E[k]? = some (gr E k) := gr_lt hlt
      have HGK := Lib.hid hgk
      clear hmem hm2 hgk
      have eg := EG.out
      go_wp2_with fail
      refine (HF.out A2 c2 _ HMEM.out hr1 HM2.out _ hbr).mono ?_
      rintro e w1 ⟨rfl, hb1⟩
      clear eg
      have hb2 := hbr.trans (hb1.mono hbr.size)
      cases hp : p (gr E k).length
      · have HP := Lib.hid hp
        clear hp
        go_wp2_with fail
        go_roundw
        case rel =>
          refine ⟨k + 1, by omega, by go_num, fun y hy => ?_, hb2⟩
          rw [List.take_add_one, HGK.out] at hy
          rcases List.mem_append.1 hy with h1 | h1
          · exact HN.out y h1
          · have : y = gr E k := by simpa using h1
            subst this; exact HP.out
        case measure => simp [intOf]; omega
      · have HP := Lib.hid hp
        clear hp
        go_wp2_with fail
        go_ret
        exact ⟨⟨k, by omega, by omega, rfl, by rw [List.any_eq_true.2 ⟨_, HMEM.out, HP.out⟩]; simp⟩, hb2⟩
    · go_wp2_with fail
      go_ret
      refine ⟨⟨-1, by omega, by omega, rfl, ?_⟩, hbr⟩
      have : (E.any fun l => p l.length) = false := by
        rw [List.any_eq_false]
        intro l hl
        rw [HN.out l (by rw [List.take_of_length_le (by omega)]; exact hl)]; simp
      rw [this]; rfl

set_option maxHeartbeats 1000000 in
theorem ContainsFuncL_any {w : World} {A : Option Addr} {c : Nat} {E : List (List Nat)} (h : Gl w A E.length c (toI E)) {f : FuncId} {lb : Array Value} {p : Nat → Bool} (hf : AsksL w f lb E p)
    (eg : ∀ args w, (callFunc f args).run Tryz.prog w = .ok (.enter f args) w) :
    Calls Tryz.prog 84 #[.slice A E.length c, .func (.func f) #[] lb] w fun e w' => e = .returned (.bool (E.any fun l => p l.length)) ∧ Below w.heap.size w w' := by
  have H := Lib.hid (IndexFuncL_any h hf eg)
  clear hf eg h
  go_enter Tryz.func84, Tryz.ntmps84
  go_wp2_with (go_at_call 145; refine H.out.mono ?_; rintro e w1 ⟨⟨i, hi1, hi2, rfl, hi3⟩, hb1⟩; have HI := Lib.hid hi3; clear hi3)
  go_ret
  exact ⟨ret_bool HI.out, hb1⟩

/-- The degree, and the error. -/
def degP (E : List (List Nat)) : Nat × Nat := if E.length = 0 then (0, 12) else if (E.any fun l => decide (l.length ≠ (gr E 0).length)) then (0, 12) else ((gr E 0).length, 0)
theorem degP_nil {E : List (List Nat)} (h : E.length = 0) : degP E = (0, 12) := by unfold degP; rw [if_pos h]
theorem degP_no {E : List (List Nat)} (h : (E.any fun l => decide (l.length ≠ (gr E 0).length)) = true) : degP E = (0, 12) := by
  unfold degP
  by_cases h0 : E.length = 0
  · rw [if_pos h0]
  · rw [if_neg h0, if_pos h]
theorem degP_yes {E : List (List Nat)} (h0 : ¬ E.length = 0) (h : (E.any fun l => decide (l.length ≠ (gr E 0).length)) = false) : degP E = ((gr E 0).length, 0) := by
  unfold degP
  rw [if_neg h0, if_neg (by rw [h]; simp)]

def TwoR (w : World) (p q : Nat) (e : Ending) (w' : World) : Prop := e = .returned (.tuple #[.int .i64 (p : Nat), .int .i64 (q : Nat)]) ∧ Below w.heap.size w w'
theorem twoR_of {w w' : World} {p q p' q' : Nat} (h : (p', q') = (p, q)) (hb : Below w.heap.size w w') : TwoR w p' q' (.returned (.tuple #[.int .i64 (p : Nat), .int .i64 (q : Nat)])) w' := by
  injection h with h1 h2
  subst h1 h2
  exact ⟨rfl, hb⟩

theorem alloc_cell {w : World} {p : Addr} {u : Value} (o : Obj) (h : w.cell? p = some u) : (w.alloc o).cell? p = some u := by
  rw [World.cell?_alloc_lt _ _ _ (World.block_lt_of_cell? w _ h)]; exact h
theorem bne_cast {a b : Nat} : ((a : Int) != (b : Int)) = decide (a ≠ b) := by
  by_cases h : a = b
  · subst h; simp
  · have h2 : ¬ (a : Int) = (b : Int) := by omega
    simp [h, h2]
set_option maxHeartbeats 1000000 in
theorem Degree1_any {W : World} {F d n : Nat} {A : Option Addr} {c : Nat} (hF : W.cell? ⟨F, 0, none⟩ = some (.int .i64 (d : Nat))) :
    Calls Tryz.prog 85 #[.slice A n c, .pointer (some ⟨F, 0, none⟩)] W fun e W' => e = .returned (.bool (decide (n ≠ d))) ∧ Below W.heap.size W W' := by
  have hb := @bne_cast n d
  have HB := Lib.hid hb
  clear hb
  go_enter Tryz.func85, Tryz.ntmps85
  go_wp2
  go_ret
  exact ⟨ret_bool HB.out, Below.refl _ _⟩

set_option maxHeartbeats 2000000 in
set_option maxRecDepth 100000 in
theorem Degree_ok {w : World} {v : Value} {names : List ByteArray} {E : List (List Nat)} (h : GrV w v names (toI E)) (hc : chk names (toI E) = 0) (hk : Ok names E) :
    Calls Tryz.prog 22 #[v] w (TwoR w (degP E).1 (degP E).2) := by
  have HC := Lib.hid (fun w' hb => Check_any (h.at w' hb))
  rw [hc] at HC
  have hsm := hk.small
  obtain ⟨A1, c1, A', c', rfl, hs, hg⟩ := h
  rw [toI_length] at *
  have hr := hg.room
  unfold maxLen at hr
  obtain ⟨W, G, hW, hG, hbW, c0, c1', hGl, hwG⟩ := gbox w (.slice A1 names.length c1) (.slice A' E.length c')
  replace hg := hg.below hbW
  have HW := Lib.hid hW
  have HG := Lib.hid hG
  clear hW hG hs hc hk
  by_cases h0 : E.length = 0
  · have hz : ((E.length : Int) == 0) = true := by simp [h0]
    have hd := degP_nil h0
    have HD := Lib.hid hd
    clear hd h0
    go_enter Tryz.func22, Tryz.ntmps22
    go_wp2_with (go_at_call 83; rw [← HW.out, ← HG.out]; refine (HC.out _ hbW).mono ?_; rintro e w1 ⟨rfl, hb1⟩; obtain ⟨d0, d1⟩ := keep2 hb1 c0 c1')
    go_ret2
    exact twoR_of HD.out (hbW.trans (hb1.mono hbW.size))
  · have hz : ((E.length : Int) == 0) = false := beq_eq_false_iff_ne.2 (by omega)
    have h0' : 0 < E.length := by omega
    have h0i : (0 : Int) < (E.length : Int) := by omega
    obtain ⟨b, off, A2, c2, rfl, hrow, hr1, hr2, hil⟩ := hg.row h0'
    have hrow0 : W.cell? ⟨b, off, none⟩ = some (.slice A2 (gr E 0).length c2) := by simpa using hrow
    have eg := enters_of Tryz.func85 (by kernel_rfl) rfl
    have EG := Lib.hid eg
    have HG2 := Lib.hid hg
    cases hany : E.any fun l => decide (l.length ≠ (gr E 0).length)
    · have hd := degP_yes h0 hany
      have HD := Lib.hid hd
      have HANY := Lib.hid hany
      clear hd h0 hany hrow hg hil eg
      go_enter Tryz.func22, Tryz.ntmps22
      go_wp2_with (go_at_call 83; rw [← HW.out, ← HG.out]; refine (HC.out _ hbW).mono ?_; rintro e w1 ⟨rfl, hb1⟩; obtain ⟨d0, d1⟩ := keep2 hb1 c0 c1'; have hrw := ((bcell hb1).1 _ _ (cell_some_lt hrow0)).trans hrow0; have k1 := alloc_cell (.cells #[.int .i64 ((gr E 0).length : Nat)] 3) d1)
      obtain ⟨w2, P, hw2, hP⟩ : ∃ w2 P, w2 = w1.alloc (.cells #[.int .i64 ((gr E 0).length : Nat)] 3) ∧ P = w1.heap.size := ⟨_, _, rfl, rfl⟩
      have p0 : w2.cell? ⟨P, 0, none⟩ = some (.int .i64 ((gr E 0).length : Nat)) := by rw [hw2, hP]; go_simp
      have hb2 : Below w1.heap.size w1 w2 := by rw [hw2]; exact (Below.refl _ _).alloc (Nat.le_refl _) _
      rw [← hw2, ← hP]
      have hask : AsksL w2 85 #[.pointer (some ⟨P, 0, none⟩)] E (fun n => decide (n ≠ (gr E 0).length)) := by
        intro A c l _ _ _ W' hb
        exact Degree1_any ((hb.cell (p := ⟨P, 0, none⟩) (cell_some_lt p0)).trans p0)
      have hb3 := hb1.trans (hb2.mono hb1.size)
      refine (ContainsFuncL_any (HG2.out.below hb3) hask EG.out).mono ?_
      rintro e w3 ⟨rfl, hb4⟩
      rw [HANY.out]
      have q0 := (hb4.cell (p := ⟨P, 0, none⟩) (cell_some_lt p0)).trans p0
      clear hw2 hP hask hb2 p0
      go_wp2_with fail
      go_ret2
      exact twoR_of HD.out (hbW.trans ((hb3.trans (hb4.mono hb3.size)).mono hbW.size))
    · have hd := degP_no hany
      have HD := Lib.hid hd
      have HANY := Lib.hid hany
      clear hd h0 hany hrow hg hil eg
      go_enter Tryz.func22, Tryz.ntmps22
      go_wp2_with (go_at_call 83; rw [← HW.out, ← HG.out]; refine (HC.out _ hbW).mono ?_; rintro e w1 ⟨rfl, hb1⟩; obtain ⟨d0, d1⟩ := keep2 hb1 c0 c1'; have hrw := ((bcell hb1).1 _ _ (cell_some_lt hrow0)).trans hrow0; have k1 := alloc_cell (.cells #[.int .i64 ((gr E 0).length : Nat)] 3) d1)
      obtain ⟨w2, P, hw2, hP⟩ : ∃ w2 P, w2 = w1.alloc (.cells #[.int .i64 ((gr E 0).length : Nat)] 3) ∧ P = w1.heap.size := ⟨_, _, rfl, rfl⟩
      have p0 : w2.cell? ⟨P, 0, none⟩ = some (.int .i64 ((gr E 0).length : Nat)) := by rw [hw2, hP]; go_simp
      have hb2 : Below w1.heap.size w1 w2 := by rw [hw2]; exact (Below.refl _ _).alloc (Nat.le_refl _) _
      rw [← hw2, ← hP]
      have hask : AsksL w2 85 #[.pointer (some ⟨P, 0, none⟩)] E (fun n => decide (n ≠ (gr E 0).length)) := by
        intro A c l _ _ _ W' hb
        exact Degree1_any ((hb.cell (p := ⟨P, 0, none⟩) (cell_some_lt p0)).trans p0)
      have hb3 := hb1.trans (hb2.mono hb1.size)
      refine (ContainsFuncL_any (HG2.out.below hb3) hask EG.out).mono ?_
      rintro e w3 ⟨rfl, hb4⟩
      rw [HANY.out]
      clear hw2 hP hask hb2 p0
      go_wp2_with fail
      go_ret2
      exact twoR_of HD.out (hbW.trans ((hb3.trans (hb4.mono hb3.size)).mono hbW.size))

set_option maxHeartbeats 1000000 in
theorem Undirected_ok {w : World} {v : Value} {names : List ByteArray} {E : List (List Nat)} (h : GrV w v names (toI E)) (hc : chk names (toI E) = 0) (hk : Ok names E) :
    Calls Tryz.prog 23 #[v] w fun e w' => e = .returned (.tuple #[.bool (undB E), .int .i64 0]) ∧ Below w.heap.size w w' := by
  have HC := Lib.hid (fun w' hb => Check_any (h.at w' hb))
  rw [hc] at HC
  have HU := Lib.hid (fun w' hb => undirected_any (h.at w' hb) hk)
  clear hc hk
  obtain ⟨A1, c1, A', c', rfl, hs, hg⟩ := h
  obtain ⟨W, G, hW, hG, hbW, c0, c1', hGl, hwG⟩ := gbox w (.slice A1 names.length c1) (.slice A' (toI E).length c')
  have HW := Lib.hid hW
  have HG := Lib.hid hG
  clear hW hG hs hg
  go_enter Tryz.func23, Tryz.ntmps23
  go_wp2_with (first
    | (go_at_call 83; rw [← HW.out, ← HG.out]; refine (HC.out _ hbW).mono ?_; rintro e w1 ⟨rfl, hb1⟩; obtain ⟨d0, d1⟩ := keep2 hb1 c0 c1'; have hb2 := hbW.trans (hb1.mono hbW.size))
    | (go_at_call 86; refine (HU.out _ hb2).mono ?_; rintro e w3 ⟨rfl, hb3⟩))
  go_ret2
  exact ⟨rfl, hb2.trans (hb3.mono hb2.size)⟩
end Go.Proofs.YtefcdclmabdmbaaGreatDoor

namespace Go.Proofs.YtefcdclmabdmbaaGreatDoor
open Go.RowKit

end Go.Proofs.YtefcdclmabdmbaaGreatDoor

namespace Go.Proofs.YtefcdclmabdmbaaGreatDoor
open Go.RowKit
section
variable {P : Program} {ops : Array Oper} {Q : Exit → Act → World → Prop} {md : Region.Mode} {S : World → Prop}

/-- One order; S holds ahead of each, and at the end. -/
def seqS (P : Program) (ops : Array Oper) (Q : Exit → Act → World → Prop) (S : World → Prop) (K : Act → World → Prop) : List Oper → Act → World → Prop
  | [], a, w => S w ∧ K a w
  | o :: r, a, w => S w ∧ wpList P ops (Exit.then (seqS P ops Q S K r) Q) [o] a w
theorem seqS.s {K : Act → World → Prop} {tl : List Oper} {a : Act} {w : World} (h : seqS P ops Q S K tl a w) : S w := by
  cases tl with
  | nil => exact h.1
  | cons o r => exact h.1
/-- The pieces; true: reads only. -/
def goM (P : Program) (ops : Array Oper) (Q : Exit → Act → World → Prop) (S : World → Prop) : List (List Oper × Bool) → Act → World → Prop
  | [], a, w => S w ∧ Q .normal a w
  | (sg, true) :: r, a, w => S w ∧ loadsZ P ops S sg a (fun a' => goM P ops Q S r a' w)
  | (sg, false) :: r, a, w => seqS P ops Q S (fun a' w' => goM P ops Q S r a' w') sg a w
theorem goM.s : ∀ {l : List (List Oper × Bool)} {a : Act} {w : World}, goM P ops Q S l a w → S w
  | [], _, _, h => h.1
  | (_, true) :: _, _, _, h => h.1
  | (_, false) :: _, _, _, h => seqS.s h
end
end Go.Proofs.YtefcdclmabdmbaaGreatDoor

namespace Go.Proofs.YtefcdclmabdmbaaGreatDoor
open Go.RowKit

/-- The first k of n numbers are 0, 1, .., the others 0. -/
def up (n k : Nat) : List Int := (List.range k).map (fun i : Nat => (i : Int)) ++ List.replicate (n - k) 0
/-- One round of the labels: m at its start, c: something was changed, T: the pairs that are through. -/
def RndI (R : List (List Nat)) (m : Nat) (c : Bool) (l : List Int) (T : Nat → Nat → Prop) : Prop :=
  LabI R l ∧ lsum l R.length ≤ m ∧ (c = true → lsum l R.length + 1 ≤ m) ∧ (c = false → ∀ i k, i < R.length → k < R.length → T i k → k ∈ gr R i → ¬ l.getD i 0 < l.getD k 0)
theorem RndI.start {R : List (List Nat)} {l : List Int} (h : LabI R l) : RndI R (lsum l R.length) false l (fun _ _ => False) :=
  ⟨h, Nat.le_refl _, fun h => (by cases h), fun _ _ _ _ _ h => h.elim⟩
theorem RndI.skip {R : List (List Nat)} {m : Nat} {c : Bool} {l : List Int} {T T' : Nat → Nat → Prop} (h : RndI R m c l T) {i k : Nat} (hn : ¬ (k ∈ gr R i ∧ l.getD i 0 < l.getD k 0)) (hT : ∀ i' k', k' < R.length → T' i' k' → T i' k' ∨ (i' = i ∧ k' = k)) : RndI R m c l T' :=
  ⟨h.1, h.2.1, h.2.2.1, fun hc i' k' h1 h2 h3 h4 h5 => by
    rcases hT i' k' h2 h3 with h6 | ⟨rfl, rfl⟩
    · exact h.2.2.2 hc i' k' h1 h2 h6 h4 h5
    · exact hn ⟨h4, h5⟩⟩
theorem RndI.weak {R : List (List Nat)} {m : Nat} {c : Bool} {l : List Int} {T T' : Nat → Nat → Prop} (h : RndI R m c l T) (hT : ∀ i k, k < R.length → T' i k → T i k) : RndI R m c l T' :=
  ⟨h.1, h.2.1, h.2.2.1, fun hc i' k' h1 h2 h3 => h.2.2.2 hc i' k' h1 h2 (hT _ _ h2 h3)⟩
theorem RndI.hit {R : List (List Nat)} {m : Nat} {c : Bool} {l : List Int} {T T' : Nat → Nat → Prop} (h : RndI R m c l T) {i k : Nat} (hi : i < R.length) (hk : k < R.length) (hj : k ∈ gr R i) (hlt : l.getD i 0 < l.getD k 0) : RndI R m true (l.set k (l.getD i 0)) T' := by
  obtain ⟨h1, h2, _, _⟩ := h
  obtain ⟨x, e1, e2, _⟩ := h1.2 i hi
  have h5 := lsum_set (l := l) (k := k) (x := l.getD i 0) (by rw [h1.1]; exact hk) (by omega) R.length
  rw [if_pos hk] at h5
  exact ⟨h1.step hi hk hj hlt, by omega, fun _ => by omega, fun h => by cases h⟩

/-- The labels are those of the roots. -/
def RootL (R : List (List Nat)) (l : List Int) : Prop := l.length = R.length ∧ ∀ v r, v < R.length → Root R r → Con R r v → l.getD v 0 = r
theorem RootL.iff {R : List (List Nat)} {l : List Int} (h : RootL R l) {v : Nat} (hv : v < R.length) : l.getD v 0 = v ↔ Root R v := by
  obtain ⟨r, h1, h2, h3⟩ := root_of (R := R) v
  have h4 := h.2 v r hv h2 h3
  constructor
  · intro e
    have : r = v := by omega
    rw [← this]; exact h2
  · intro hr
    exact h.2 v v hv hr (Con.refl R v)

/-- The first i labels are turned into numbers. -/
def NumI (R : List (List Nat)) (i : Nat) (l : List Int) : Prop :=
  l.length = R.length ∧ (∀ v r, v < R.length → i ≤ v → Root R r → Con R r v → l.getD v 0 = r) ∧ ∀ v, v < i → ∃ k r : Nat, (rts R R.length)[k]? = some r ∧ Con R r v ∧ l.getD v 0 = k
theorem NumI.start {R : List (List Nat)} {l : List Int} (h : RootL R l) : NumI R 0 l := ⟨h.1, fun v r hv _ => h.2 v r hv, fun v hv => by omega⟩
theorem NumI.done {R : List (List Nat)} {l : List Int} (h : NumI R R.length l) : IsComp R l := ⟨h.1, h.2.2⟩
theorem NumI.step {R : List (List Nat)} {i : Nat} {l : List Int} (h : NumI R i l) (hi : i < R.length) {k r : Nat} (hk : (rts R R.length)[k]? = some r) (hc : Con R r i) : NumI R (i + 1) (l.set i k) := by
  refine ⟨by simp [h.1], fun v s hv hiv hs hcs => ?_, fun v hv => ?_⟩
  · rw [getD_set, if_neg (fun hh => by have := hh.1; omega)]
    exact h.2.1 v s hv (by omega) hs hcs
  · rw [getD_set]
    by_cases e : i = v
    · subst e
      rw [if_pos ⟨rfl, by rw [h.1]; exact hi⟩]
      exact ⟨k, r, hk, hc, rfl⟩
    · rw [if_neg (fun hh => e hh.1)]
      exact h.2.2 v (by omega)
/-- A label's place among the first vertices. -/
theorem NumI.place {R : List (List Nat)} {i : Nat} {l : List Int} (h : NumI R i l) (hi : i < R.length) : ∃ (k r : Nat), (rts R R.length)[k]? = some r ∧ Con R r i ∧ l.getD i 0 = r ∧ ∀ j x : Nat, (rts R R.length)[j]? = some x → l.getD i 0 = x → j = k := by
  obtain ⟨r, h1, h2, h3⟩ := root_of (R := R) i
  have h4 := h.2.1 i r hi (Nat.le_refl _) h2 h3
  have h5 : r ∈ rts R R.length := (rts_mem _).2 ⟨by omega, h2⟩
  obtain ⟨k, hk⟩ := List.getElem?_of_mem h5
  refine ⟨k, r, hk, h3, h4, fun j x hj he => ?_⟩
  have : x = r := by omega
  subst this
  exact rts_inj _ j k x hj hk

end Go.Proofs.YtefcdclmabdmbaaGreatDoor

namespace Go.Proofs.YtefcdclmabdmbaaGreatDoor
open Go.RowKit

def neg01 (z : Int) : Nat := if z < 0 then 1 else 0
theorem neg01_neg {z : Int} (h : z < 0) : neg01 z = 1 := if_pos h
theorem neg01_pos {z : Int} (h : 0 ≤ z) : neg01 z = 0 := if_neg (by omega)
/-- How many have no colour yet. -/
def ngs (l : List Int) : Nat → Nat
  | 0 => 0
  | n + 1 => ngs l n + neg01 (l.getD n 0)
theorem ngs_set {l : List Int} {k : Nat} {x : Int} (hk : k < l.length) (hx : 0 ≤ x) (hy : l.getD k 0 < 0) : ∀ n, ngs (l.set k x) n + (if k < n then 1 else 0) = ngs l n
  | 0 => by simp [ngs]
  | n + 1 => by
    have ih := ngs_set hk hx hy n
    rw [ngs, ngs, getD_set]
    by_cases e : k = n
    · subst e
      rw [if_pos ⟨rfl, hk⟩, neg01_pos hx, neg01_neg hy, if_pos (Nat.lt_succ_self k)]
      rw [if_neg (Nat.lt_irrefl k)] at ih
      omega
    · rw [if_neg (fun h => e h.1)]
      by_cases h1 : k < n
      · rw [if_pos h1] at ih
        rw [if_pos (by omega)]
        omega
      · rw [if_neg h1] at ih
        rw [if_neg (by omega)]
        omega

/-- Which have a colour while those that are connected with i get one. -/
def ColP (R : List (List Nat)) (i : Nat) (P : Nat → Prop) (l : List Int) : Prop := ColI R P l ∧ (∀ v, Under R i v → P v) ∧ P i ∧ ∀ v, v < R.length → P v → Under R (i + 1) v
def RndB (R : List (List Nat)) (i m : Nat) (c : Bool) (l : List Int) (T : Nat → Nat → Prop) : Prop :=
  ∃ P, ColP R i P l ∧ ngs l R.length ≤ m ∧ (c = true → ngs l R.length + 1 ≤ m) ∧ (c = false → ∀ a b, a < R.length → b < R.length → T a b → b ∈ gr R a → P a → P b)
def StbB (R : List (List Nat)) (i : Nat) (c : Bool) (l : List Int) : Prop := ∃ P, ColP R i P l ∧ (c = false → ∀ a b, a < R.length → b < R.length → b ∈ gr R a → P a → P b)
theorem StbB.start {R : List (List Nat)} {i : Nat} {l : List Int} (h : ColI R (Under R i) l) (hi : i < R.length) (hn : l.getD i 0 < 0) : StbB R i true (l.set i 0) := by
  have hu : ¬ Under R i i := fun hu => by have := (h.iff hi).2 hu; omega
  refine ⟨fun v => Under R i v ∨ v = i, ⟨h.root hi (under_root hu), fun v hv => .inl hv, .inr rfl, fun v _ hv => ?_⟩, fun h => by cases h⟩
  rw [under_succ]
  rcases hv with h1 | h1
  · exact .inl h1
  · rw [h1]; exact .inr (Con.refl R i)
theorem RndB.weak {R : List (List Nat)} {i m : Nat} {c : Bool} {l : List Int} {T T' : Nat → Nat → Prop} (h : RndB R i m c l T) (hT : ∀ a b, b < R.length → T' a b → T a b) : RndB R i m c l T' := by
  obtain ⟨P, h1, h2, h3, h4⟩ := h
  exact ⟨P, h1, h2, h3, fun hc a b ha hb ht => h4 hc a b ha hb (hT a b hb ht)⟩
theorem RndB.skip {R : List (List Nat)} {i m : Nat} {c : Bool} {l : List Int} {T T' : Nat → Nat → Prop} (h : RndB R i m c l T) {a b : Nat} (hn : ¬ (b ∈ gr R a ∧ 0 ≤ l.getD a 0 ∧ l.getD b 0 < 0)) (hT : ∀ a' b', b' < R.length → T' a' b' → T a' b' ∨ (a' = a ∧ b' = b)) : RndB R i m c l T' := by
  obtain ⟨P, h1, h2, h3, h4⟩ := h
  refine ⟨P, h1, h2, h3, fun hc a' b' ha hb ht hj hp => ?_⟩
  rcases hT a' b' hb ht with h6 | ⟨rfl, rfl⟩
  · exact h4 hc a' b' ha hb h6 hj hp
  · have h7 := (h1.1.iff ha).2 hp
    refine (h1.1.iff hb).1 ?_
    rcases Int.lt_or_le (l.getD b' 0) 0 with h8 | h8
    · exact absurd ⟨hj, h7, h8⟩ hn
    · exact h8
theorem RndB.hit {R : List (List Nat)} {i m : Nat} {c : Bool} {l : List Int} {T T' : Nat → Nat → Prop} (h : RndB R i m c l T) {a b : Nat} (ha : a < R.length) (hb : b < R.length) (hj : b ∈ gr R a) (h0 : 0 ≤ l.getD a 0) (hn : l.getD b 0 < 0) : RndB R i m true (l.set b (1 - l.getD a 0)) T' := by
  obtain ⟨P, h1, h2, _, _⟩ := h
  have hp := (h1.1.iff ha).1 h0
  have hs := h1.1.small ha
  have h5 := ngs_set (l := l) (k := b) (x := 1 - l.getD a 0) (by rw [h1.1.1]; exact hb) (by omega) hn R.length
  rw [if_pos hb] at h5
  refine ⟨fun v => P v ∨ v = b, ⟨h1.1.edge ha hb hp hj, fun v hv => .inl (h1.2.1 v hv), .inl h1.2.2.1, fun v hv hpv => ?_⟩, by omega, fun _ => by omega, fun h => by cases h⟩
  rcases hpv with h6 | h6
  · exact h1.2.2.2 v hv h6
  · rw [h6]; exact under_edge (h1.2.2.2 a ha hp) hj
theorem RndB.len {R : List (List Nat)} {i m : Nat} {c : Bool} {l : List Int} {T : Nat → Nat → Prop} (h : RndB R i m c l T) {v : Nat} (hv : v < R.length) : -1 ≤ l.getD v 0 ∧ l.getD v 0 ≤ 1 := by
  obtain ⟨P, h1, _⟩ := h
  exact h1.1.small hv
theorem StbB.done {R : List (List Nat)} (hE : Valid R) {i : Nat} {l : List Int} (h : StbB R i false l) (hi : i < R.length) : ColI R (Under R (i + 1)) l := by
  obtain ⟨P, h1, h2⟩ := h
  refine h1.1.imp fun v hv => ⟨h1.2.2.2 v hv, fun hu => ?_⟩
  rcases under_succ.1 hu with h3 | h3
  · exact h1.2.1 v h3
  · exact (Con.ind (P := fun u => u < R.length ∧ P u) (fun u z ⟨hu, hp⟩ hz => ⟨hE u hu z hz, h2 rfl u z hu (hE u hu z hz) hz hp⟩) h3 ⟨hi, h1.2.2.1⟩).2
theorem colI_skip {R : List (List Nat)} {i : Nat} {l : List Int} (h : ColI R (Under R i) l) (hi : i < R.length) (hn : 0 ≤ l.getD i 0) : ColI R (Under R (i + 1)) l :=
  h.imp fun v _ => under_skip ((h.iff hi).1 hn) v
theorem colI_first {R : List (List Nat)} : ColI R (Under R 0) (List.replicate R.length (-1)) := ColI.zero.imp fun v _ => ⟨fun h => h.elim, fun ⟨_, h, _⟩ => absurd h (by omega)⟩
theorem colI_all {R : List (List Nat)} {l : List Int} (h : ColI R (Under R R.length) l) : ColI R (fun _ => True) l := h.imp fun _ hv => ⟨fun _ => trivial, fun _ => under_all hv⟩

/-- What Bipartite comes to: the colouring, or the error. -/
def BipR (w : World) (E : List (List Nat)) (e : Ending) (w' : World) : Prop :=
  (∃ G l, e = .returned (.tuple #[.slice (some ⟨G, 0, none⟩) E.length E.length, .int .i64 0]) ∧ NArr w' G l ∧ ColI (bth E) (fun _ => True) l ∧ Proper (bth E) l ∧ Below w.heap.size w w') ∨
  (e = .returned (.tuple #[.slice none 0 0, .int .i64 12]) ∧ (∃ l, ColI (bth E) (fun _ => True) l ∧ ¬ Proper (bth E) l) ∧ Below w.heap.size w w')

end Go.Proofs.YtefcdclmabdmbaaGreatDoor
