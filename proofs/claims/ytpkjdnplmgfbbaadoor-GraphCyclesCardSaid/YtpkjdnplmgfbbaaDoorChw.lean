/- slices.ContainsFunc of lists of lists; graph.Undirected, graph.Degree and the reference's. The law GraphChecks: its walk. -/
import Derived.Test.YtpkjdnplmgfbbaaDoorEdw
import Derived.Test.YtpkjdnplmgfbbaaDoorZr
import Derived.Test.YtpkjdnplmgfbbaaDoorLawD
namespace Go.Proofs.YtpkjdnplmgfbbaaDoor
open Go.RowKit

/-- Whatever lies in w: the function answers p at the length of each list. -/
def AsksL (w : World) (f : FuncId) (lb : Array Value) (E : List (List Nat)) (p : Nat → Bool) : Prop :=
  ∀ A c l, l ∈ E → l.length ≤ c → c ≤ maxLen → ∀ W, Below w.heap.size w W → Calls Tryd.prog f (#[.slice A l.length c] ++ lb) W fun e W' => e = .returned (.bool (p l.length)) ∧ Below W.heap.size W W'

set_option maxHeartbeats 1000000 in
theorem IndexFuncL_any {w : World} {A : Option Addr} {c : Nat} {E : List (List Nat)} (h : Gl w A E.length c (toI E)) {f : FuncId} {lb : Array Value} {p : Nat → Bool} (hf : AsksL w f lb E p)
    (eg : ∀ args w, (callFunc f args).run Tryd.prog w = .ok (.enter f args) w) :
    Calls Tryd.prog 117 #[.slice A E.length c, .func (.func f) #[] lb] w fun e w' => (∃ i : Int, -1 ≤ i ∧ i ≤ 9223372036854775807 ∧ e = .returned (.int .i64 i) ∧ (decide (0 ≤ i) = E.any fun l => p l.length)) ∧ Below w.heap.size w w' := by
  have hr := h.room
  unfold maxLen at hr
  have HF := Lib.hid hf
  have EG := Lib.hid eg
  clear hf eg
  go_enter Tryd.func117, Tryd.ntmps117
  go_wp2_with fail
  go_loopw [8] (fun i wr => ∃ (k : Nat), k ≤ E.length ∧ i = .int .i64 (k : Nat) ∧ (∀ y ∈ E.take k, p y.length = false) ∧ Below w.heap.size w wr) (fun i _ => E.length - (intOf i).toNat)
  case atStart => exact ⟨0, Nat.zero_le _, rfl, fun y hy => by simp at hy, Below.refl _ _⟩
  case round =>
    obtain ⟨k, hk, rfl, hn, hbr⟩ := hrel
    have HN := Lib.hid hn
    clear hn
    by_cases hlt : k < E.length
    · obtain ⟨b, off, A2, c2, rfl, hrow, hr1, hr2, _⟩ := (h.below hbr).row hlt
      have hmem : gr E k ∈ E := List.mem_of_getElem? (gr_lt hlt)
      have hm2 : c2 ≤ maxLen := by unfold maxLen; omega
      have HMEM := Lib.hid hmem
      have HM2 := Lib.hid hm2
      have hgk : E[k]? = some (gr E k) := gr_lt hlt
      have HGK := Lib.hid hgk
      clear hmem hm2 hgk
      have eg := EG.out
      go_wp2_with fail
      refine (HF.out A2 c2 _ HMEM.out hr1 HM2.out _ hbr).mono ?_
      rintro e w1 ⟨rfl, hb1⟩
      clear eg
      have hb2 := hbr.trans (hb1.mono hbr.size)
      cases hp : p (gr E k).length
      · have HP := Lib.hid hp
        clear hp
        go_wp2_with fail
        go_roundw
        case rel =>
          refine ⟨k + 1, by omega, by go_num, fun y hy => ?_, hb2⟩
          rw [List.take_add_one, HGK.out] at hy
          rcases List.mem_append.1 hy with h1 | h1
          · exact HN.out y h1
          · have : y = gr E k := by simpa using h1
            subst this; exact HP.out
        case measure => simp [intOf]; omega
      · have HP := Lib.hid hp
        clear hp
        go_wp2_with fail
        go_ret
        exact ⟨⟨k, by omega, by omega, rfl, by rw [List.any_eq_true.2 ⟨_, HMEM.out, HP.out⟩]; simp⟩, hb2⟩
    · go_wp2_with fail
      go_ret
      refine ⟨⟨-1, by omega, by omega, rfl, ?_⟩, hbr⟩
      have : (E.any fun l => p l.length) = false := by
        rw [List.any_eq_false]
        intro l hl
        rw [HN.out l (by rw [List.take_of_length_le (by omega)]; exact hl)]; simp
      rw [this]; rfl

set_option maxHeartbeats 1000000 in
theorem ContainsFuncL_any {w : World} {A : Option Addr} {c : Nat} {E : List (List Nat)} (h : Gl w A E.length c (toI E)) {f : FuncId} {lb : Array Value} {p : Nat → Bool} (hf : AsksL w f lb E p)
    (eg : ∀ args w, (callFunc f args).run Tryd.prog w = .ok (.enter f args) w) :
    Calls Tryd.prog 73 #[.slice A E.length c, .func (.func f) #[] lb] w fun e w' => e = .returned (.bool (E.any fun l => p l.length)) ∧ Below w.heap.size w w' := by
  have H := Lib.hid (IndexFuncL_any h hf eg)
  clear hf eg h
  go_enter Tryd.func73, Tryd.ntmps73
  go_wp2_with (go_at_call 117; refine H.out.mono ?_; rintro e w1 ⟨⟨i, hi1, hi2, rfl, hi3⟩, hb1⟩; have HI := Lib.hid hi3; clear hi3)
  go_ret
  exact ⟨ret_bool HI.out, hb1⟩

/-- The degree, and the error. -/
def degP (E : List (List Nat)) : Nat × Nat := if E.length = 0 then (0, 12) else if (E.any fun l => decide (l.length ≠ (gr E 0).length)) then (0, 12) else ((gr E 0).length, 0)
theorem degP_nil {E : List (List Nat)} (h : E.length = 0) : degP E = (0, 12) := by unfold degP; rw [if_pos h]
theorem degP_no {E : List (List Nat)} (h : (E.any fun l => decide (l.length ≠ (gr E 0).length)) = true) : degP E = (0, 12) := by
  unfold degP
  by_cases h0 : E.length = 0
  · rw [if_pos h0]
  · rw [if_neg h0, if_pos h]
theorem degP_yes {E : List (List Nat)} (h0 : ¬ E.length = 0) (h : (E.any fun l => decide (l.length ≠ (gr E 0).length)) = false) : degP E = ((gr E 0).length, 0) := by
  unfold degP
  rw [if_neg h0, if_neg (by rw [h]; simp)]

def TwoR (w : World) (p q : Nat) (e : Ending) (w' : World) : Prop := e = .returned (.tuple #[.int .i64 (p : Nat), .int .i64 (q : Nat)]) ∧ Below w.heap.size w w'
theorem twoR_of {w w' : World} {p q p' q' : Nat} (h : (p', q') = (p, q)) (hb : Below w.heap.size w w') : TwoR w p' q' (.returned (.tuple #[.int .i64 (p : Nat), .int .i64 (q : Nat)])) w' := by
  injection h with h1 h2
  subst h1 h2
  exact ⟨rfl, hb⟩

set_option maxHeartbeats 1000000 in
theorem Degree_bad {w : World} {v : Value} {names : List ByteArray} {E : List (List Int)} (h : GrV w v names E) (hc : chk names E ≠ 0) :
    Calls Tryd.prog 33 #[v] w (TwoR w 0 (chk names E)) := by
  have HC := Lib.hid (fun w' hb => Check_any (h.at w' hb))
  generalize chk names E = q at *
  have hz : (((q : Nat) : Int) != 0) = true := by simp [hc]
  clear hc
  obtain ⟨A1, c1, A', c', rfl, hs, hg⟩ := h
  obtain ⟨W, G, hW, hG, hbW, c0, c1', hGl, hwG⟩ := gbox w (.slice A1 names.length c1) (.slice A' E.length c')
  have HW := Lib.hid hW
  have HG := Lib.hid hG
  clear hW hG hs hg
  go_enter Tryd.func33, Tryd.ntmps33
  go_wp2_with (go_at_call 34; rw [← HW.out]; refine (HC.out _ hbW).mono ?_; rintro e w1 ⟨rfl, hb1⟩)
  go_ret2
  exact ⟨rfl, hbW.trans (hb1.mono hbW.size)⟩

theorem alloc_cell {w : World} {p : Addr} {u : Value} (o : Obj) (h : w.cell? p = some u) : (w.alloc o).cell? p = some u := by
  rw [World.cell?_alloc_lt _ _ _ (World.block_lt_of_cell? w _ h)]; exact h
theorem bne_cast {a b : Nat} : ((a : Int) != (b : Int)) = decide (a ≠ b) := by
  by_cases h : a = b
  · subst h; simp
  · have h2 : ¬ (a : Int) = (b : Int) := by omega
    simp [h, h2]
set_option maxHeartbeats 1000000 in
theorem Degree1_any {W : World} {F d n : Nat} {A : Option Addr} {c : Nat} (hF : W.cell? ⟨F, 0, none⟩ = some (.int .i64 (d : Nat))) :
    Calls Tryd.prog 74 #[.slice A n c, .pointer (some ⟨F, 0, none⟩)] W fun e W' => e = .returned (.bool (decide (n ≠ d))) ∧ Below W.heap.size W W' := by
  have hb := @bne_cast n d
  have HB := Lib.hid hb
  clear hb
  go_enter Tryd.func74, Tryd.ntmps74
  go_wp2
  go_ret
  exact ⟨ret_bool HB.out, Below.refl _ _⟩

set_option maxHeartbeats 2000000 in
set_option maxRecDepth 100000 in
theorem Degree_ok {w : World} {v : Value} {names : List ByteArray} {E : List (List Nat)} (h : GrV w v names (toI E)) (hc : chk names (toI E) = 0) (hk : Ok names E) :
    Calls Tryd.prog 33 #[v] w (TwoR w (degP E).1 (degP E).2) := by
  have HC := Lib.hid (fun w' hb => Check_any (h.at w' hb))
  rw [hc] at HC
  have hsm := hk.small
  obtain ⟨A1, c1, A', c', rfl, hs, hg⟩ := h
  rw [toI_length] at *
  have hr := hg.room
  unfold maxLen at hr
  obtain ⟨W, G, hW, hG, hbW, c0, c1', hGl, hwG⟩ := gbox w (.slice A1 names.length c1) (.slice A' E.length c')
  replace hg := hg.below hbW
  have HW := Lib.hid hW
  have HG := Lib.hid hG
  clear hW hG hs hc hk
  by_cases h0 : E.length = 0
  · have hz : ((E.length : Int) == 0) = true := by simp [h0]
    have hd := degP_nil h0
    have HD := Lib.hid hd
    clear hd h0
    go_enter Tryd.func33, Tryd.ntmps33
    go_wp2_with (go_at_call 34; rw [← HW.out, ← HG.out]; refine (HC.out _ hbW).mono ?_; rintro e w1 ⟨rfl, hb1⟩; obtain ⟨d0, d1⟩ := keep2 hb1 c0 c1')
    go_ret2
    exact twoR_of HD.out (hbW.trans (hb1.mono hbW.size))
  · have hz : ((E.length : Int) == 0) = false := beq_eq_false_iff_ne.2 (by omega)
    have h0' : 0 < E.length := by omega
    have h0i : (0 : Int) < (E.length : Int) := by omega
    obtain ⟨b, off, A2, c2, rfl, hrow, hr1, hr2, hil⟩ := hg.row h0'
    have hrow0 : W.cell? ⟨b, off, none⟩ = some (.slice A2 (gr E 0).length c2) := by simpa using hrow
    have eg := enters_of Tryd.func74 (by kernel_rfl) rfl
    have EG := Lib.hid eg
    have HG2 := Lib.hid hg
    cases hany : E.any fun l => decide (l.length ≠ (gr E 0).length)
    · have hd := degP_yes h0 hany
      have HD := Lib.hid hd
      have HANY := Lib.hid hany
      clear hd h0 hany hrow hg hil eg
      go_enter Tryd.func33, Tryd.ntmps33
      go_wp2_with (go_at_call 34; rw [← HW.out, ← HG.out]; refine (HC.out _ hbW).mono ?_; rintro e w1 ⟨rfl, hb1⟩; obtain ⟨d0, d1⟩ := keep2 hb1 c0 c1'; have hrw := ((bcell hb1).1 _ _ (cell_some_lt hrow0)).trans hrow0; have k1 := alloc_cell (.cells #[.int .i64 ((gr E 0).length : Nat)] 3) d1)
      obtain ⟨w2, P, hw2, hP⟩ : ∃ w2 P, w2 = w1.alloc (.cells #[.int .i64 ((gr E 0).length : Nat)] 3) ∧ P = w1.heap.size := ⟨_, _, rfl, rfl⟩
      have p0 : w2.cell? ⟨P, 0, none⟩ = some (.int .i64 ((gr E 0).length : Nat)) := by rw [hw2, hP]; go_simp
      have hb2 : Below w1.heap.size w1 w2 := by rw [hw2]; exact (Below.refl _ _).alloc (Nat.le_refl _) _
      rw [← hw2, ← hP]
      have hask : AsksL w2 74 #[.pointer (some ⟨P, 0, none⟩)] E (fun n => decide (n ≠ (gr E 0).length)) := by
        intro A c l _ _ _ W' hb
        exact Degree1_any ((hb.cell (p := ⟨P, 0, none⟩) (cell_some_lt p0)).trans p0)
      have hb3 := hb1.trans (hb2.mono hb1.size)
      refine (ContainsFuncL_any (HG2.out.below hb3) hask EG.out).mono ?_
      rintro e w3 ⟨rfl, hb4⟩
      rw [HANY.out]
      have q0 := (hb4.cell (p := ⟨P, 0, none⟩) (cell_some_lt p0)).trans p0
      clear hw2 hP hask hb2 p0
      go_wp2_with fail
      go_ret2
      exact twoR_of HD.out (hbW.trans ((hb3.trans (hb4.mono hb3.size)).mono hbW.size))
    · have hd := degP_no hany
      have HD := Lib.hid hd
      have HANY := Lib.hid hany
      clear hd h0 hany hrow hg hil eg
      go_enter Tryd.func33, Tryd.ntmps33
      go_wp2_with (go_at_call 34; rw [← HW.out, ← HG.out]; refine (HC.out _ hbW).mono ?_; rintro e w1 ⟨rfl, hb1⟩; obtain ⟨d0, d1⟩ := keep2 hb1 c0 c1'; have hrw := ((bcell hb1).1 _ _ (cell_some_lt hrow0)).trans hrow0; have k1 := alloc_cell (.cells #[.int .i64 ((gr E 0).length : Nat)] 3) d1)
      obtain ⟨w2, P, hw2, hP⟩ : ∃ w2 P, w2 = w1.alloc (.cells #[.int .i64 ((gr E 0).length : Nat)] 3) ∧ P = w1.heap.size := ⟨_, _, rfl, rfl⟩
      have p0 : w2.cell? ⟨P, 0, none⟩ = some (.int .i64 ((gr E 0).length : Nat)) := by rw [hw2, hP]; go_simp
      have hb2 : Below w1.heap.size w1 w2 := by rw [hw2]; exact (Below.refl _ _).alloc (Nat.le_refl _) _
      rw [← hw2, ← hP]
      have hask : AsksL w2 74 #[.pointer (some ⟨P, 0, none⟩)] E (fun n => decide (n ≠ (gr E 0).length)) := by
        intro A c l _ _ _ W' hb
        exact Degree1_any ((hb.cell (p := ⟨P, 0, none⟩) (cell_some_lt p0)).trans p0)
      have hb3 := hb1.trans (hb2.mono hb1.size)
      refine (ContainsFuncL_any (HG2.out.below hb3) hask EG.out).mono ?_
      rintro e w3 ⟨rfl, hb4⟩
      rw [HANY.out]
      clear hw2 hP hask hb2 p0
      go_wp2_with fail
      go_ret2
      exact twoR_of HD.out (hbW.trans ((hb3.trans (hb4.mono hb3.size)).mono hbW.size))

set_option maxHeartbeats 1000000 in
theorem Undirected_bad {w : World} {v : Value} {names : List ByteArray} {E : List (List Int)} (h : GrV w v names E) (hc : chk names E ≠ 0) :
    Calls Tryd.prog 32 #[v] w fun e w' => e = .returned (.tuple #[.bool false, .int .i64 (chk names E : Nat)]) ∧ Below w.heap.size w w' := by
  have HC := Lib.hid (fun w' hb => Check_any (h.at w' hb))
  generalize chk names E = q at *
  have hz : (((q : Nat) : Int) != 0) = true := by simp [hc]
  clear hc
  obtain ⟨A1, c1, A', c', rfl, hs, hg⟩ := h
  obtain ⟨W, G, hW, hG, hbW, c0, c1', hGl, hwG⟩ := gbox w (.slice A1 names.length c1) (.slice A' E.length c')
  have HW := Lib.hid hW
  have HG := Lib.hid hG
  clear hW hG hs hg
  go_enter Tryd.func32, Tryd.ntmps32
  go_wp2_with (go_at_call 34; rw [← HW.out]; refine (HC.out _ hbW).mono ?_; rintro e w1 ⟨rfl, hb1⟩)
  go_ret2
  exact ⟨rfl, hbW.trans (hb1.mono hbW.size)⟩
set_option maxHeartbeats 1000000 in
theorem Undirected_ok {w : World} {v : Value} {names : List ByteArray} {E : List (List Nat)} (h : GrV w v names (toI E)) (hc : chk names (toI E) = 0) (hk : Ok names E) :
    Calls Tryd.prog 32 #[v] w fun e w' => e = .returned (.tuple #[.bool (undB E), .int .i64 0]) ∧ Below w.heap.size w w' := by
  have HC := Lib.hid (fun w' hb => Check_any (h.at w' hb))
  rw [hc] at HC
  have HU := Lib.hid (fun w' hb => undirected_any (h.at w' hb) hk)
  clear hc hk
  obtain ⟨A1, c1, A', c', rfl, hs, hg⟩ := h
  obtain ⟨W, G, hW, hG, hbW, c0, c1', hGl, hwG⟩ := gbox w (.slice A1 names.length c1) (.slice A' (toI E).length c')
  have HW := Lib.hid hW
  have HG := Lib.hid hG
  clear hW hG hs hg
  go_enter Tryd.func32, Tryd.ntmps32
  go_wp2_with (first
    | (go_at_call 34; rw [← HW.out, ← HG.out]; refine (HC.out _ hbW).mono ?_; rintro e w1 ⟨rfl, hb1⟩; obtain ⟨d0, d1⟩ := keep2 hb1 c0 c1'; have hb2 := hbW.trans (hb1.mono hbW.size))
    | (go_at_call 72; refine (HU.out _ hb2).mono ?_; rintro e w3 ⟨rfl, hb3⟩))
  go_ret2
  exact ⟨rfl, hb2.trans (hb3.mono hb2.size)⟩
end Go.Proofs.YtpkjdnplmgfbbaaDoor
