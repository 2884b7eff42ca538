/- The law GraphIrreducible: its walk. -/
import Derived.Test.YtpkjdnplmgfbbaaGreatDoorRmi
import Derived.Test.YtpkjdnplmgfbbaaGreatDoorLawW
import Derived.Test.YtpkjdnplmgfbbaaGreatDoorZt
import Derived.Test.YtpkjdnplmgfbbaaGreatDoorZv
namespace Go.Proofs.YtpkjdnplmgfbbaaGreatDoor
open Go.RowKit

theorem sml_bad {names : List ByteArray} {E : List (List Int)} (h : chk names E ≠ 0) : sml names E = chk names E := by unfold sml; rw [if_pos h]
/-- A nil matrix and an error. -/
def NoM (w : World) (c : Int) (e : Ending) (w' : World) : Prop := e = .returned (.tuple #[.slice none 0 0, .int .i64 c]) ∧ Below w.heap.size w w'

theorem degP_allI {E : List (List Nat)} {d : Nat} (h : degP E = (d, 0)) : 0 < E.length ∧ ∀ i, i < E.length → (gr E i).length = d := by
  unfold degP at h
  by_cases h0 : E.length = 0
  · rw [if_pos h0] at h; injection h with _ h2; cases h2
  · rw [if_neg h0] at h
    split at h
    · injection h with _ h2; cases h2
    · rename_i hn
      injection h with h1 _
      refine ⟨by omega, fun i hi => ?_⟩
      have h3 := (List.any_eq_false.1 (Bool.eq_false_iff.2 hn)) (gr E i) (List.mem_of_getElem? (gr_lt hi))
      have h4 : (gr E i).length = (gr E 0).length := by simpa using h3
      omega
/-- A number in a box of its own. -/
def IVn (w : World) (P : Nat) (x : Int) : Prop := ∃ neg B m q, Arr w P 39 [.bool neg, .slice B m q] ∧ NIntV w (· ≠ P) (.agg #[.bool neg, .slice B m q]) x
theorem IVn.lt {w : World} {P : Nat} {x : Int} (h : IVn w P x) : P < w.heap.size := by obtain ⟨_, _, _, _, h, _⟩ := h; exact h.lt
theorem IVn.below {w w' : World} {P : Nat} {x : Int} (h : IVn w P x) (hb : Below w.heap.size w w') : IVn w' P x := by obtain ⟨a, b, c, d, h1, h2⟩ := h; exact ⟨a, b, c, d, h1.below' hb, h2.below hb⟩
theorem IVn.put {w : World} {P : Nat} {a b : Value} (h : Arr w P 39 [a, b]) {neg : Bool} {B : Option Addr} {m q : Nat} {x : Int} (hx : NIntV w (· ≠ P) (.agg #[.bool neg, .slice B m q]) x) : IVn ((w.setCell ⟨P, 0, none⟩ (.bool neg)).setCell ⟨P, 1, none⟩ (.slice B m q)) P x :=
  ⟨neg, B, m, q, (h.set_ 0 _).set_ 1 _, (hx.setCell (p := ⟨P, 0, none⟩) (by simp) _).setCell (p := ⟨P, 1, none⟩) (by simp) _⟩
theorem IVn.new {w : World} {neg : Bool} {B : Option Addr} {m q : Nat} {x : Int} (hx : NIntV w (fun _ => True) (.agg #[.bool neg, .slice B m q]) x) : IVn (w.alloc (.cells #[.bool neg, .slice B m q] 39)) w.heap.size x := by
  have hb : Below w.heap.size w (w.alloc (.cells #[.bool neg, .slice B m q] 39)) := (Below.refl _ _).alloc (Nat.le_refl _) _
  refine ⟨neg, B, m, q, heap_alloc_new w _, (NIntV.mono (D' := fun b => b < w.heap.size) hx fun b _ hl => hl).below hb |>.mono fun b hl _ => ?_⟩
  have h1 : b < w.heap.size := hl
  show b ≠ w.heap.size
  omega
theorem rsm_le {d : Nat} (hd : d ≤ 400) : ∀ n, (rsm d n).natAbs ≤ 2 ^ (9 * n)
  | 0 => Nat.le_refl 1
  | n + 1 => by
    have h1 := rsm_le hd n
    have h2 : (byI (d : Int) n).natAbs ≤ 2 ^ 9 := by unfold byI; split <;> omega
    show (rsm d n * byI d n).natAbs ≤ _
    rw [Int.natAbs_mul, Nat.mul_add, Nat.pow_add]
    exact Nat.mul_le_mul h1 h2
theorem same_ints {w : World} {D D' : Nat → Prop} {A B : Option Addr} {n c n' c' : Nat} {l : List Int} (h : Pl NI w D A n c l) (h' : Pl NI w D' B n' c' l) :
    Calls Tryz.prog 15 #[.slice A n c, .slice B n' c'] w fun e w' => e = .returned (.bool true) ∧ Below w.heap.size w w' := by
  refine (SameInts_any h h').mono ?_
  rintro e w' ⟨rfl, hb⟩
  exact ⟨by simp, hb⟩
theorem PvD.at_ {w : World} {D : Nat → Prop} {A : Option Addr} {n c : Nat} {f : Nat → Nat → Int} (h : RowsD PvD w D (.slice A n c) (ml f n)) {i : Nat} (hi : i < n) : ∃ b off A2 c2, A = some ⟨b, off, none⟩ ∧ w.cell? ⟨b, off + i, none⟩ = some (.slice A2 n c2) ∧ Pl NI w (fun _ => True) A2 n c2 (li (f i) n) := by
  obtain ⟨b, off, u, e, hu, h2⟩ := h.at (ml_get hi)
  obtain ⟨A2, c2, rfl, hp⟩ := PvD.pl h2
  rw [li_length] at hu hp
  exact ⟨b, off, A2, c2, e, hu, hp⟩

set_option maxHeartbeats 1000000 in
theorem Irreducible_sml {w : World} {v : Value} {names : List ByteArray} {E : List (List Int)} (h : GrV w v names E) (x : Int) (hc : sml names E ≠ 0) :
    Calls Tryz.prog 8 #[v, .int .i64 x] w (NoM w (sml names E : Nat)) := by
  have HC := Lib.hid (fun w' hb => small_any (h.at w' hb))
  generalize sml names E = q at *
  have hz : (((q : Nat) : Int) != 0) = true := by simp [hc]
  clear hc
  obtain ⟨A1, c1, A', c', rfl, hs, hg⟩ := h
  obtain ⟨W, G, hW, hG, hbW, c0, c1', hGl, hwG⟩ := gbox w (.slice A1 names.length c1) (.slice A' E.length c')
  have HW := Lib.hid hW
  have HG := Lib.hid hG
  clear hW hG hs hg
  go_enter Tryz.func8, Tryz.ntmps8
  go_wp2_with (go_at_call 27; rw [← HW.out]; refine (HC.out _ hbW).mono ?_; rintro e w1 ⟨rfl, hb1⟩)
  go_ret2
  exact ⟨rfl, hbW.trans (hb1.mono hbW.size)⟩
set_option maxHeartbeats 1000000 in
theorem Irreducible_deg {w : World} {v : Value} {names : List ByteArray} {E : List (List Nat)} (h : GrV w v names (toI E)) (x : Int) (hc : chk names (toI E) = 0) (hs0 : sml names (toI E) = 0) (hk : Ok names E) {p q : Nat} (hd : degP E = (p, q)) (hq : q ≠ 0) :
    Calls Tryz.prog 8 #[v, .int .i64 x] w (NoM w (q : Nat)) := by
  have HC := Lib.hid (fun w' hb => small_any (h.at w' hb))
  rw [hs0] at HC
  have HDG := Lib.hid (fun w' hb => Degree_ok (h.at w' hb) hc hk)
  rw [hd] at HDG
  have hz : (((q : Nat) : Int) != 0) = true := by simp [hq]
  clear hc hs0 hd hq hk
  obtain ⟨A1, c1, A', c', rfl, hs, hg⟩ := h
  obtain ⟨W, G, hW, hG, hbW, c0, c1', hGl, hwG⟩ := gbox w (.slice A1 names.length c1) (.slice A' (toI E).length c')
  have HW := Lib.hid hW
  have HG := Lib.hid hG
  clear hW hG hs hg
  go_enter Tryz.func8, Tryz.ntmps8
  go_wp2_with (first
    | (go_at_call 27; rw [← HW.out, ← HG.out]; refine (HC.out _ hbW).mono ?_; rintro e w1 ⟨rfl, hb1⟩; obtain ⟨d0, d1⟩ := keep2 hb1 c0 c1'; have hb2 := hbW.trans (hb1.mono hbW.size))
    | (go_at_call 28; refine (HDG.out _ hb2).mono ?_; rintro e w2 ⟨rfl, hb3⟩; have hb4 := hb2.trans (hb3.mono hb2.size)))
  go_ret2
  exact ⟨rfl, hb4⟩
set_option maxHeartbeats 1000000 in
theorem Irreducible_rng {w : World} {v : Value} {names : List ByteArray} {E : List (List Nat)} (h : GrV w v names (toI E)) (x : Int) (hc : chk names (toI E) = 0) (hs0 : sml names (toI E) = 0) (hk : Ok names E) {d : Nat} (hd : degP E = (d, 0)) (hx : x < 0 ∨ 20 < x) :
    Calls Tryz.prog 8 #[v, .int .i64 x] w (NoM w 2) := by
  have HC := Lib.hid (fun w' hb => small_any (h.at w' hb))
  rw [hs0] at HC
  have HDG := Lib.hid (fun w' hb => Degree_ok (h.at w' hb) hc hk)
  rw [hd] at HDG
  clear hc hs0 hd hk
  obtain ⟨A1, c1, A', c', rfl, hs, hg⟩ := h
  obtain ⟨W, G, hW, hG, hbW, c0, c1', hGl, hwG⟩ := gbox w (.slice A1 names.length c1) (.slice A' (toI E).length c')
  have HW := Lib.hid hW
  have HG := Lib.hid hG
  clear hW hG hs hg
  rcases Int.lt_or_le x 0 with hx0 | hx0
  · have h1 : decide (x < 0) = true := decide_eq_true hx0
    clear hx
    go_enter Tryz.func8, Tryz.ntmps8
    go_wp2_with (first
      | (go_at_call 27; rw [← HW.out, ← HG.out]; refine (HC.out _ hbW).mono ?_; rintro e w1 ⟨rfl, hb1⟩; obtain ⟨d0, d1⟩ := keep2 hb1 c0 c1'; have hb2 := hbW.trans (hb1.mono hbW.size))
      | (go_at_call 28; refine (HDG.out _ hb2).mono ?_; rintro e w2 ⟨rfl, hb3⟩; have hb4 := hb2.trans (hb3.mono hb2.size)))
    go_ret2
    exact ⟨rfl, hb4⟩
  · have h1 : decide (x < 0) = false := decide_eq_false (by omega)
    have h2 : decide (20 < x) = true := decide_eq_true (by omega)
    clear hx
    go_enter Tryz.func8, Tryz.ntmps8
    go_wp2_with (first
      | (go_at_call 27; rw [← HW.out, ← HG.out]; refine (HC.out _ hbW).mono ?_; rintro e w1 ⟨rfl, hb1⟩; obtain ⟨d0, d1⟩ := keep2 hb1 c0 c1'; have hb2 := hbW.trans (hb1.mono hbW.size))
      | (go_at_call 28; refine (HDG.out _ hb2).mono ?_; rintro e w2 ⟨rfl, hb3⟩; have hb4 := hb2.trans (hb3.mono hb2.size)))
    go_ret2
    exact ⟨rfl, hb4⟩

set_option maxHeartbeats 4000000 in
set_option maxRecDepth 100000 in
theorem lawI_skip {w : World} {v : Value} {names : List ByteArray} {E : List (List Int)} (h : GrV w v names E) (x : Int) (hx : decide (9 ≤ x ∧ x ≤ 20) = true) : Calls Tryz.prog 3 #[v, .int .i64 x] w (TrueR w) := by
  have H := Lib.hid (fun w' hb => h.at w' hb)
  have HWI := Lib.hid hx
  clear hx
  obtain ⟨A, c, A', c', rfl, hs, hg⟩ := h
  obtain ⟨W, G, hW, hG, hbW, c0, c1, hGl, hwG⟩ := gbox w (.slice A names.length c) (.slice A' E.length c')
  have HW := Lib.hid hW
  have HG := Lib.hid hG
  clear hW hG hs hg
  go_enter Tryz.func3, Tryz.ntmps3
  go_wp2_with fail
  rw [← HW.out, ← HG.out]
  refine (Light_any (H.out _ hbW)).mono ?_
  rintro e w1 ⟨b, rfl, hli, hb1⟩
  obtain ⟨d0, d1⟩ := keep2 hb1 c0 c1
  replace hb1 := hbW.trans (hb1.mono hbW.size)
  clear c0 c1
  cases b
  · clear hli
    go_wp2_with fail
    refine awake_any.mono ?_
    rintro e w9 ⟨rfl, hb9⟩
    go_wp2_with fail
    go_ret
    exact ⟨rfl, hb1.trans (hb9.mono hb1.size)⟩
  · clear hli
    go_wp2_with (go_at_call 6; refine (Within_any HWI.out _).mono ?_; rintro e w' ⟨rfl, rfl⟩)
    refine awake_any.mono ?_
    rintro e w9 ⟨rfl, hb9⟩
    go_wp2_with fail
    go_ret
    exact ⟨rfl, hb1.trans (hb9.mono hb1.size)⟩

set_option maxHeartbeats 4000000 in
set_option maxRecDepth 100000 in
theorem lawI_bad {w : World} {v : Value} {names : List ByteArray} {E : List (List Int)} (h : GrV w v names E) (x : Int) (hx : decide (9 ≤ x ∧ x ≤ 20) = false) (hc : chk names E ≠ 0) : Calls Tryz.prog 3 #[v, .int .i64 x] w (TrueR w) := by
  have H := Lib.hid (fun w' hb => h.at w' hb)
  have HWI := Lib.hid hx
  have hz : (((chk names E : Nat) : Int) != 0) = true := by simp [hc]
  have hz1 : (((chk names E : Nat) : Int) == 0) = false := by simp [hc]
  have hz2 : (((chk names E : Nat) : Int) == ((chk names E : Nat) : Int)) = true := by simp
  have HIE := Lib.hid (fun w' hb (_ : True) => Irreducible_sml (h.at w' hb) x (by rw [sml_bad hc]; exact hc))
  rw [sml_bad hc] at HIE
  have HR := Lib.hid (fun w' hb => rCheck_any (h.at w' hb))
  generalize chk names E = q at *
  clear hx hc
  obtain ⟨A, c, A', c', rfl, hs, hg⟩ := h
  obtain ⟨W, G, hW, hG, hbW, c0, c1, hGl, hwG⟩ := gbox w (.slice A names.length c) (.slice A' E.length c')
  have HW := Lib.hid hW
  have HG := Lib.hid hG
  clear hW hG hs hg
  go_enter Tryz.func3, Tryz.ntmps3
  go_wp2_with fail
  rw [← HW.out, ← HG.out]
  refine (Light_any (H.out _ hbW)).mono ?_
  rintro e w1 ⟨b, rfl, hli, hb1⟩
  obtain ⟨d0, d1⟩ := keep2 hb1 c0 c1
  replace hb1 := hbW.trans (hb1.mono hbW.size)
  clear c0 c1
  cases b
  · clear hli
    go_wp2_with fail
    refine awake_any.mono ?_
    rintro e w9 ⟨rfl, hb9⟩
    go_wp2_with fail
    go_ret
    exact ⟨rfl, hb1.trans (hb9.mono hb1.size)⟩
  · clear hli
    go_wp2_with (go_at_call 6; refine (Within_any HWI.out _).mono ?_; rintro e w' ⟨rfl, rfl⟩)
    refine (HIE.out _ hb1 trivial).mono ?_
    rintro e w2 ⟨rfl, hb2⟩
    obtain ⟨e0, e1⟩ := keep2 hb2 d0 d1
    replace hb2 := hb1.trans (hb2.mono hb1.size)
    clear d0 d1 hb1
    go_wp2_with fail
    refine (HR.out _ hb2).mono ?_
    rintro e w3 ⟨rfl, hb3⟩
    obtain ⟨f0, f1⟩ := keep2 hb3 e0 e1
    replace hb3 := hb2.trans (hb3.mono hb2.size)
    clear e0 e1 hb2
    go_wp2_with fail
    refine awake_any.mono ?_
    rintro e w9 ⟨rfl, hb9⟩
    go_wp2_with fail
    go_ret
    exact ⟨rfl, hb3.trans (hb9.mono hb3.size)⟩

set_option maxHeartbeats 4000000 in
set_option maxRecDepth 100000 in
theorem lawI_deg {w : World} {v : Value} {names : List ByteArray} {E : List (List Nat)} (h : GrV w v names (toI E)) (x : Int) (hx : decide (9 ≤ x ∧ x ≤ 20) = false) (hc : chk names (toI E) = 0) (hk : Ok names E) {p q : Nat} (hd : degP E = (p, q)) (hq : q ≠ 0) : Calls Tryz.prog 3 #[v, .int .i64 x] w (TrueR w) := by
  have H := Lib.hid (fun w' hb => h.at w' hb)
  have HWI := Lib.hid hx
  have hz : (((q : Nat) : Int) != 0) = true := by simp [hq]
  have hz1 : (((q : Nat) : Int) == 0) = false := by simp [hq]
  have hz2 : (((q : Nat) : Int) == ((q : Nat) : Int)) = true := by simp
  have HIE := Lib.hid (fun w' hb (hs : sml names (toI E) = 0) => Irreducible_deg (h.at w' hb) x hc hs hk hd hq)
  have HSL := Lib.hid (fun hl => @sml_light names (toI E) hc hl)
  have HR := Lib.hid (fun w' hb => rCheck_any (h.at w' hb))
  rw [hc] at HR
  have HDG := Lib.hid (fun w' hb => rDegree_ok (h.at w' hb) hk)
  rw [hd] at HDG
  clear hx hc hk hd hq
  obtain ⟨A, c, A', c', rfl, hs, hg⟩ := h
  obtain ⟨W, G, hW, hG, hbW, c0, c1, hGl, hwG⟩ := gbox w (.slice A names.length c) (.slice A' (toI E).length c')
  have HW := Lib.hid hW
  have HG := Lib.hid hG
  clear hW hG hs hg
  go_enter Tryz.func3, Tryz.ntmps3
  go_wp2_with fail
  rw [← HW.out, ← HG.out]
  refine (Light_any (H.out _ hbW)).mono ?_
  rintro e w1 ⟨b, rfl, hli, hb1⟩
  obtain ⟨d0, d1⟩ := keep2 hb1 c0 c1
  replace hb1 := hbW.trans (hb1.mono hbW.size)
  clear c0 c1
  cases b
  · clear hli
    go_wp2_with fail
    refine awake_any.mono ?_
    rintro e w9 ⟨rfl, hb9⟩
    go_wp2_with fail
    go_ret
    exact ⟨rfl, hb1.trans (hb9.mono hb1.size)⟩
  · have HS := Lib.hid (HSL.out (hli rfl))
    clear hli
    go_wp2_with (go_at_call 6; refine (Within_any HWI.out _).mono ?_; rintro e w' ⟨rfl, rfl⟩)
    refine (HIE.out _ hb1 HS.out).mono ?_
    rintro e w2 ⟨rfl, hb2⟩
    obtain ⟨e0, e1⟩ := keep2 hb2 d0 d1
    replace hb2 := hb1.trans (hb2.mono hb1.size)
    clear d0 d1 hb1
    go_wp2_with fail
    refine (HR.out _ hb2).mono ?_
    rintro e w3 ⟨rfl, hb3⟩
    obtain ⟨f0, f1⟩ := keep2 hb3 e0 e1
    replace hb3 := hb2.trans (hb3.mono hb2.size)
    clear e0 e1 hb2
    go_wp2_with fail
    refine (HDG.out _ hb3).mono ?_
    rintro e w4 ⟨rfl, hb4⟩
    obtain ⟨g0, g1⟩ := keep2 hb4 f0 f1
    replace hb4 := hb3.trans (hb4.mono hb3.size)
    clear f0 f1 hb3
    go_wp2_with fail
    refine awake_any.mono ?_
    rintro e w9 ⟨rfl, hb9⟩
    go_wp2_with fail
    go_ret
    exact ⟨rfl, hb4.trans (hb9.mono hb4.size)⟩

set_option maxHeartbeats 4000000 in
set_option maxRecDepth 100000 in
theorem lawI_rng {w : World} {v : Value} {names : List ByteArray} {E : List (List Nat)} (h : GrV w v names (toI E)) (x : Int) (hx : decide (9 ≤ x ∧ x ≤ 20) = false) (hx2 : decide (0 ≤ x ∧ x ≤ 20) = false) (hc : chk names (toI E) = 0) (hk : Ok names E) {d : Nat} (hd : degP E = (d, 0)) : Calls Tryz.prog 3 #[v, .int .i64 x] w (TrueR w) := by
  have H := Lib.hid (fun w' hb => h.at w' hb)
  have HWI := Lib.hid hx
  have HWJ := Lib.hid hx2
  have hx3 : x < 0 ∨ 20 < x := by have := of_decide_eq_false hx2; omega
  have HIE := Lib.hid (fun w' hb (hs : sml names (toI E) = 0) => Irreducible_rng (h.at w' hb) x hc hs hk hd hx3)
  have HSL := Lib.hid (fun hl => @sml_light names (toI E) hc hl)
  have HR := Lib.hid (fun w' hb => rCheck_any (h.at w' hb))
  rw [hc] at HR
  have HDG := Lib.hid (fun w' hb => rDegree_ok (h.at w' hb) hk)
  rw [hd] at HDG
  clear hx hx2 hx3 hc hk hd
  obtain ⟨A, c, A', c', rfl, hs, hg⟩ := h
  obtain ⟨W, G, hW, hG, hbW, c0, c1, hGl, hwG⟩ := gbox w (.slice A names.length c) (.slice A' (toI E).length c')
  have HW := Lib.hid hW
  have HG := Lib.hid hG
  clear hW hG hs hg
  go_enter Tryz.func3, Tryz.ntmps3
  go_wp2_with fail
  rw [← HW.out, ← HG.out]
  refine (Light_any (H.out _ hbW)).mono ?_
  rintro e w1 ⟨b, rfl, hli, hb1⟩
  obtain ⟨d0, d1⟩ := keep2 hb1 c0 c1
  replace hb1 := hbW.trans (hb1.mono hbW.size)
  clear c0 c1
  cases b
  · clear hli
    go_wp2_with fail
    refine awake_any.mono ?_
    rintro e w9 ⟨rfl, hb9⟩
    go_wp2_with fail
    go_ret
    exact ⟨rfl, hb1.trans (hb9.mono hb1.size)⟩
  · have HS := Lib.hid (HSL.out (hli rfl))
    clear hli
    go_wp2_with (go_at_call 6; refine (Within_any HWI.out _).mono ?_; rintro e w' ⟨rfl, rfl⟩)
    refine (HIE.out _ hb1 HS.out).mono ?_
    rintro e w2 ⟨rfl, hb2⟩
    obtain ⟨e0, e1⟩ := keep2 hb2 d0 d1
    replace hb2 := hb1.trans (hb2.mono hb1.size)
    clear d0 d1 hb1
    go_wp2_with fail
    refine (HR.out _ hb2).mono ?_
    rintro e w3 ⟨rfl, hb3⟩
    obtain ⟨f0, f1⟩ := keep2 hb3 e0 e1
    replace hb3 := hb2.trans (hb3.mono hb2.size)
    clear e0 e1 hb2
    go_wp2_with fail
    refine (HDG.out _ hb3).mono ?_
    rintro e w4 ⟨rfl, hb4⟩
    obtain ⟨g0, g1⟩ := keep2 hb4 f0 f1
    replace hb4 := hb3.trans (hb4.mono hb3.size)
    clear f0 f1 hb3
    go_wp2_with (go_at_call 6; refine (Within_any HWJ.out _).mono ?_; rintro e w' ⟨rfl, rfl⟩)
    refine awake_any.mono ?_
    rintro e w9 ⟨rfl, hb9⟩
    go_wp2_with fail
    go_ret
    exact ⟨rfl, hb4.trans (hb9.mono hb4.size)⟩

set_option maxHeartbeats 4000000 in
set_option maxRecDepth 100000 in
theorem lawI_ok {w : World} {v : Value} {names : List ByteArray} {E : List (List Nat)} (h : GrV w v names (toI E)) (n : Nat) (hn : n ≤ 8) (hc : chk names (toI E) = 0) (hk : Ok names E) {d : Nat} (hd : degP E = (d, 0)) : Calls Tryz.prog 3 #[v, .int .i64 (n : Nat)] w (TrueR w) := by
  have H := Lib.hid (fun w' hb => h.at w' hb)
  have hsm := hk.small
  have hd4 : d ≤ 400 := by have := (degP_small hk).1; rw [hd] at this; exact this
  have HWI := Lib.hid (show decide ((9 : Int) ≤ (n : Int) ∧ (n : Int) ≤ 20) = false from decide_eq_false (by omega))
  have HWJ := Lib.hid (show decide ((0 : Int) ≤ (n : Int) ∧ (n : Int) ≤ 20) = true from decide_eq_true (by omega))
  have HIE := Lib.hid (fun w' hb (hs : sml names (toI E) = 0) => Irreducible_ok (h.at w' hb) hc hs hk hd (n := n) (by omega))
  have HSL := Lib.hid (fun hl => @sml_light names (toI E) hc hl)
  have HR := Lib.hid (fun w' hb => rCheck_any (h.at w' hb))
  rw [hc] at HR
  have HDG := Lib.hid (fun w' hb => rDegree_ok (h.at w' hb) hk)
  rw [hd] at HDG
  have HRI := Lib.hid (fun (h60 : E.length ≤ 60) w' hb => rIrreducible_ok (h.at w' hb) hk h60 hd (n := n) (by omega))
  have H60 : Hid (sml names (toI E) = 0 → E.length ≤ 60) := Lib.hid (fun hs => by
    unfold sml at hs
    rw [if_neg (by rw [hc]; simp)] at hs
    have := hk.len
    split at hs <;> omega)
  have HROW := Lib.hid (fun i (hi : i < E.length) => irr_row hk.valid (degP_allI hd).2 n i hi)
  have HIL := Lib.hid (fun (h60 : E.length ≤ 60) (i k : Nat) hi hk' => irr_big (k := n) hd4 h60 hk.deg (by omega) i k hi hk')
  clear hc hk hd
  obtain ⟨A, c, A', c', hv, hs, hg⟩ := h
  rw [toI_length] at hv
  subst hv
  obtain ⟨W, G, hW, hG, hbW, c0, c1, hGl, hwG⟩ := gbox w (.slice A names.length c) (.slice A' E.length c')
  have HW := Lib.hid hW
  have HG := Lib.hid hG
  clear hW hG hs hg
  go_enter Tryz.func3, Tryz.ntmps3
  go_wp2_with fail
  rw [← HW.out, ← HG.out]
  refine (Light_any (H.out _ hbW)).mono ?_
  rintro e w1 ⟨b, rfl, hli, hb1⟩
  obtain ⟨d0, d1⟩ := keep2 hb1 c0 c1
  replace hb1 := hbW.trans (hb1.mono hbW.size)
  clear c0 c1
  cases b
  · clear hli
    go_wp2_with fail
    refine awake_any.mono ?_
    rintro e w9 ⟨rfl, hb9⟩
    go_wp2_with fail
    go_ret
    exact ⟨rfl, hb1.trans (hb9.mono hb1.size)⟩
  · have HS := Lib.hid (HSL.out (hli rfl))
    have h60 := H60.out HS.out
    clear hli
    go_wp2_with (go_at_call 6; refine (Within_any HWI.out _).mono ?_; rintro e w' ⟨rfl, rfl⟩)
    refine (HIE.out _ hb1 HS.out).mono ?_
    rintro e w2 ⟨A2, c2, rfl, hir, hb2⟩
    have hr2 := hir.room.2
    unfold maxLen at hr2
    obtain ⟨e0, e1⟩ := keep2 hb2 d0 d1
    replace hb2 := hb1.trans (hb2.mono hb1.size)
    have HIR2 := Lib.hid hir
    clear d0 d1 hb1 hir
    go_wp2_with fail
    refine (HR.out _ hb2).mono ?_
    rintro e w3 ⟨rfl, hb3⟩
    obtain ⟨f0, f1⟩ := keep2 hb3 e0 e1
    have HIR3 := Lib.hid (HIR2.out.below hb3)
    replace hb3 := hb2.trans (hb3.mono hb2.size)
    clear e0 e1 hb2
    go_wp2_with fail
    refine (HDG.out _ hb3).mono ?_
    rintro e w4 ⟨rfl, hb4⟩
    obtain ⟨g0, g1⟩ := keep2 hb4 f0 f1
    have HIR4 := Lib.hid (HIR3.out.below hb4)
    replace hb4 := hb3.trans (hb4.mono hb3.size)
    clear f0 f1 hb3
    go_wp2_with (go_at_call 6; refine (Within_any HWJ.out _).mono ?_; rintro e w' ⟨rfl, rfl⟩)
    refine (HRI.out h60 _ hb4).mono ?_
    rintro e w5 ⟨v5, rfl, hri, hb5⟩
    obtain ⟨A5, c5, rfl⟩ := hri.slice_ (n := E.length) (ml_length _ _)
    have hr5 := hri.room.2
    unfold maxLen at hr5
    have HRI5 := Lib.hid hri
    have HIR5 := Lib.hid (HIR4.out.below hb5)
    have hb5w := hb4.trans (hb5.mono hb4.size)
    have hnn : ((E.length : Int) != (E.length : Int)) = false := by simp
    clear g0 g1 hri hb4
    go_upto_region 16 with (go_at_call 12; refine (rOf_any 1 _ (by omega) (by omega)).mono ?_; rintro e w6 ⟨v6, rfl, hn6, hb6⟩; obtain ⟨neg6, A6, m6, c6, rfl, hn6'⟩ := hn6.shape)
    obtain ⟨wI, P, hwI, hP⟩ : ∃ wI P, wI = w6.alloc (.cells #[.bool neg6, .slice A6 m6 c6] 39) ∧ P = w6.heap.size := ⟨_, _, rfl, rfl⟩
    rw [← hwI, ← hP]
    have hbI : Below w6.heap.size w6 wI := by rw [hwI]; exact (Below.refl _ _).alloc (Nat.le_refl _) _
    have hiv : IVn wI P (rsm d 0) := by rw [hwI, hP]; exact IVn.new hn6'
    have hbIw := hb5w.trans ((hb6.trans (hbI.mono hb6.size)).mono hb5w.size)
    have HIRI := Lib.hid (((HIR5.out.below hb6).mono (D' := fun b => b < P) (fun b _ hl => by rw [hP]; exact hl)).below hbI)
    have HRII := Lib.hid (((HRI5.out.below hb6).mono (D' := fun b => b < P) (fun b _ hl => by rw [hP]; exact hl)).below hbI)
    have hPw : w.heap.size ≤ P := by rw [hP]; have := hb6.size; have := hb5w.size; omega
    clear hwI hP hn6 hn6' hbI hb6
    go_wp2_with fail
    go_loopw [11] (fun kv wr => ∃ k : Nat, 1 ≤ k ∧ k ≤ n + 1 ∧ kv = .int .i64 (k : Nat) ∧ IVn wr P (rsm d (k - 1)) ∧ Fr (· = P) wI wr) (fun kv _ => n + 1 - (intOf kv).toNat)
    case atStart => exact ⟨1, by omega, by omega, rfl, hiv, Fr.refl _ _⟩
    case round =>
      clear hiv
      obtain ⟨k, hk1, hkn, rfl, hiv, hfr⟩ := hrel
      by_cases hle : k ≤ n
      · have hlei : (k : Int) ≤ (n : Int) := by omega
        have hd0 : (0 : Int) ≤ (d : Int) := by omega
        have hPr := hiv.lt
        obtain ⟨neg, B, m, q, harP, hnv⟩ := hiv
        obtain ⟨p0, p1, z0, z1⟩ := harP.two
        have hwr : wl (rsm d (k - 1)).natAbs ≤ 1000000000000 := by have := wl_pow (rsm_le hd4 (k - 1)); omega
        have hrs : rsm d k = rsm d (k - 1) * byI d (k - 1) := by
          obtain ⟨j, rfl⟩ : ∃ j, k = j + 1 := ⟨k - 1, by omega⟩
          rfl
        have HMU := Lib.hid (fun w' (hb : Below wr.heap.size wr w') (y : Int) (hy : y.natAbs ≤ 1024) v0 D1 (h0 : NIntV w' D1 v0 y) => rMul_any ((hnv.below hb).b hwr) (h0.b (by have := wl_pow (x := y.natAbs) (M := 10) hy; omega)))
        have HRS := Lib.hid hrs
        have HAP := Lib.hid harP
        have hs0 := same_drew wr
        have hdr : Below wr.heap.size wr wr.drew := (Below.refl _ _).drew
        clear hnv hwr hrs harP
        by_cases h1 : k = 1
        · have hb1 : ((k : Int) == 1) = true := by simp [h1]
          have hby : (d : Int) = byI d (k - 1) := by rw [h1]; rfl
          have HBY := Lib.hid hby
          clear hby h1
          go_wp2_with fail
          refine wp_region_idx 4 [(0, true), (1, true), (2, false), (3, false), (4, false)] (by kernel_rfl) (by rfl) (by kernel_rfl) (by kernel_rfl) (by kernel_rfl) (fun _ _ _ _ _ h => h) (Same wr) ?_
          change goI _ _ _ _ _ _ wr.drew
          iterate 2
            refine goI_read hs0 (by rfl) ?_ (by rfl) (fun wz hSw => ?_) ?_
            rotate_left
            · (try obtain ⟨hs1, hs2⟩ := hSw)
              go_simp
              try with_reducible rfl
            simp only [Act.put, List.setIfInBounds_toArray]
          refine goI_step hs0 (by rfl) ?_
          go_wp2_with (go_at_call 12; refine (rOf_any (d : Int) _ (by omega) (by omega)).mono ?_; rintro e w7 ⟨v7, rfl, hn7, hb7⟩)
          have hB7 := hdr.trans (hb7.mono hdr.size)
          refine goI_step (same_below hB7) (by rfl) ?_
          go_wp2_with (go_at_call 13; refine (HMU.out w7 hB7 (d : Int) (by omega) _ _ hn7).mono ?_; rintro e w8 ⟨v8, rfl, ⟨A9, c9, rfl, hv9⟩, hb8⟩)
          have hB8 := hB7.trans (hb8.mono hB7.size)
          have t0 := (hB8.cell (p := ⟨P, 0, none⟩) hPr).trans p0
          have t1 := (hB8.cell (p := ⟨P, 1, none⟩) hPr).trans p1
          have zz0 := (hB8.frozen (p := ⟨P, 0, none⟩) hPr).trans z0
          have zz1 := (hB8.frozen (p := ⟨P, 1, none⟩) hPr).trans z1
          refine goI_step (same_below hB8) (by rfl) ?_
          go_wp2_with fail
          refine goI_nil ?_
          go_wp2_with fail
          go_roundw
          case rel =>
            have hn9 : NIntV w8 (· ≠ P) (.agg #[.bool _, .slice A9 _ c9]) (rsm d (k - 1) * (d : Int)) := ⟨A9, c9, rfl, hv9.mono fun b hb _ => by have h1 : w7.heap.size ≤ b := hb; have := hB7.size; show b ≠ P; omega⟩
            have hset := IVn.put (HAP.out.below' hB8) hn9
            refine ⟨k + 1, by omega, by omega, by go_num, ?_, ((hfr.trans (Fr.of_below' hB8)).trans (Fr.setCell (O := (· = P)) (p := ⟨P, 0, none⟩) (fun _ => rfl) _)).trans (Fr.setCell (O := (· = P)) (p := ⟨P, 1, none⟩) (fun _ => rfl) _)⟩
            show IVn _ P (rsm d k)
            rw [HRS.out, ← HBY.out]
            exact hset
          case measure => simp [intOf]; omega
        · have hb1 : ((k : Int) == 1) = false := beq_eq_false_iff_ne.2 (by omega)
          have hby : (d : Int) - 1 = byI d (k - 1) := by unfold byI; rw [if_neg (by omega)]
          have HBY := Lib.hid hby
          clear hby h1
          go_wp2_with fail
          refine wp_region_idx 4 [(0, true), (1, true), (2, false), (3, false), (4, false)] (by kernel_rfl) (by rfl) (by kernel_rfl) (by kernel_rfl) (by kernel_rfl) (fun _ _ _ _ _ h => h) (Same wr) ?_
          change goI _ _ _ _ _ _ wr.drew
          iterate 2
            refine goI_read hs0 (by rfl) ?_ (by rfl) (fun wz hSw => ?_) ?_
            rotate_left
            · (try obtain ⟨hs1, hs2⟩ := hSw)
              go_simp
              try with_reducible rfl
            simp only [Act.put, List.setIfInBounds_toArray]
          refine goI_step hs0 (by rfl) ?_
          go_wp2_with (go_at_call 12; refine (rOf_any ((d : Int) - 1) _ (by omega) (by omega)).mono ?_; rintro e w7 ⟨v7, rfl, hn7, hb7⟩)
          have hB7 := hdr.trans (hb7.mono hdr.size)
          refine goI_step (same_below hB7) (by rfl) ?_
          go_wp2_with (go_at_call 13; refine (HMU.out w7 hB7 ((d : Int) - 1) (by omega) _ _ hn7).mono ?_; rintro e w8 ⟨v8, rfl, ⟨A9, c9, rfl, hv9⟩, hb8⟩)
          have hB8 := hB7.trans (hb8.mono hB7.size)
          have t0 := (hB8.cell (p := ⟨P, 0, none⟩) hPr).trans p0
          have t1 := (hB8.cell (p := ⟨P, 1, none⟩) hPr).trans p1
          have zz0 := (hB8.frozen (p := ⟨P, 0, none⟩) hPr).trans z0
          have zz1 := (hB8.frozen (p := ⟨P, 1, none⟩) hPr).trans z1
          refine goI_step (same_below hB8) (by rfl) ?_
          go_wp2_with fail
          refine goI_nil ?_
          go_wp2_with fail
          go_roundw
          case rel =>
            have hn9 : NIntV w8 (· ≠ P) (.agg #[.bool _, .slice A9 _ c9]) (rsm d (k - 1) * ((d : Int) - 1)) := ⟨A9, c9, rfl, hv9.mono fun b hb _ => by have h1 : w7.heap.size ≤ b := hb; have := hB7.size; show b ≠ P; omega⟩
            have hset := IVn.put (HAP.out.below' hB8) hn9
            refine ⟨k + 1, by omega, by omega, by go_num, ?_, ((hfr.trans (Fr.of_below' hB8)).trans (Fr.setCell (O := (· = P)) (p := ⟨P, 0, none⟩) (fun _ => rfl) _)).trans (Fr.setCell (O := (· = P)) (p := ⟨P, 1, none⟩) (fun _ => rfl) _)⟩
            show IVn _ P (rsm d k)
            rw [HRS.out, ← HBY.out]
            exact hset
          case measure => simp [intOf]; omega
      · obtain rfl : k = n + 1 := by omega
        rw [Int.natCast_succ]
        have hiv2 : IVn wr P (rsm d n) := hiv
        have hbwr := hbIw.trans (hfr.below hbIw.size (fun b hb => by rw [hb]; exact hPw))
        have HIRL := Lib.hid (HIRI.out.keep (w' := wr) fun b hb hl => hfr.block b hl (fun e => by have h1 : b < P := hb; omega))
        have HRIL := Lib.hid (HRII.out.keep (w' := wr) fun b hb hl => hfr.block b hl (fun e => by have h1 : b < P := hb; omega))
        clear hiv hfr
        go_wp2_with fail
        obtain ⟨wx, hwx⟩ : ∃ wx : World, wx = wr := ⟨_, rfl⟩
        rw [← hwx] at hiv2 hbwr HIRL HRIL ⊢
        clear hwx wr
        go_loopw [13] (fun iv wr => ∃ (i : Nat), i ≤ E.length ∧ iv = .int .i64 (i : Nat) ∧ Below wx.heap.size wx wr) (fun iv _ => E.length - (intOf iv).toNat)
        case atStart => exact ⟨0, Nat.zero_le _, rfl, Below.refl _ _⟩
        case round =>
          obtain ⟨i, hil, rfl, hbr⟩ := hrel
          by_cases hit : i < E.length
          · have hii : (i : Int) < (E.length : Int) := by omega
            have hi0 : (0 : Int) ≤ (i : Int) := by omega
            obtain ⟨b7, o7, A7, c7, rfl, hu7, hpl7⟩ := PvD.at_ (HIRL.out.below hbr) hit
            obtain ⟨b8, o8, A8, c8, rfl, hu8, hpl8⟩ := PvD.at_ (HRIL.out.below hbr) hit
            have hp1 := hpl7.cap
            have hp2 := hpl7.room
            have hp3 := hpl8.cap
            have hp4 := hpl8.room
            unfold maxLen at hp2 hp4
            have hivP := hiv2.below hbr
            obtain ⟨wS, S, hwS, hS⟩ : ∃ wS S, wS = wr.alloc (.cells #[.bool false, .slice none 0 0] 39) ∧ S = wr.heap.size := ⟨_, _, rfl, rfl⟩
            have hbS : Below wr.heap.size wr wS := by rw [hwS]; exact (Below.refl _ _).alloc (Nat.le_refl _) _
            have hiS : IVn wS S (sm (irr E d n i) 0) := by rw [hwS, hS]; exact IVn.new (NIntV.zero _ _)
            have HPL7 := Lib.hid hpl7
            have HPL8 := Lib.hid hpl8
            have HWS := Lib.hid hwS
            have HS2 := Lib.hid hS
            have hSw : wr.heap.size ≤ S := by omega
            have l7 := cell_some_lt hu7
            have l8 := cell_some_lt hu8
            have lP := hivP.lt
            clear hpl7 hpl8 hwS hS
            go_upto_region 27 with (fail)
            rw [← HWS.out, ← HS2.out]
            clear HWS HS2
            go_wp2_with fail
            go_loopw [15] (fun kv wq => ∃ (k : Nat), k ≤ E.length ∧ kv = .int .i64 (k : Nat) ∧ IVn wq S (sm (irr E d n i) k) ∧ Fr (· = S) wS wq) (fun kv _ => E.length - (intOf kv).toNat)
            case atStart => exact ⟨0, Nat.zero_le _, rfl, hiS, Fr.refl _ _⟩
            case round =>
              clear hiS
              obtain ⟨k, hkl, rfl, hiv, hfr⟩ := hrel
              have hbk := hbS.trans (hfr.below hbS.size (fun b hb => by rw [hb]; exact hSw))
              have v7 := (hbk.cell (cell_some_lt hu7)).trans hu7
              have v8 := (hbk.cell (cell_some_lt hu8)).trans hu8
              have hSr := hiv.lt
              have lv7 := cell_some_lt v7
              have lv8 := cell_some_lt v8
              have hs0 := same_drew wr
              have hdr : Below wr.heap.size wr wr.drew := (Below.refl _ _).drew
              by_cases hkt : k < E.length
              · have hki : (k : Int) < (E.length : Int) := by omega
                have hk0 : (0 : Int) ≤ (k : Int) := by omega
                obtain ⟨b9, o9, rfl, _, hcell⟩ := HPL7.out.cells (by omega)
                obtain ⟨neg, B, m, q, k0, k1, hni⟩ := hcell k hkt
                rw [li_gz hkt] at hni
                have x0 := (hbk.cell (cell_some_lt k0)).trans k0
                have x1 := (hbk.cell (cell_some_lt k1)).trans k1
                have lx := cell_some_lt x0
                obtain ⟨negS, BS, mS, qS, harS, hnv⟩ := hiv
                obtain ⟨p0, p1, z0, z1⟩ := harS.two
                have hwi : wl (irr E d n i k).natAbs ≤ 1000000000000 := by have := wl_pow (HIL.out h60 i k hit hkt); unfold bigM at this; omega
                have hws : wl (sm (irr E d n i) k).natAbs ≤ 1000000000000 := by
                  have h1 := sm_le (h := irr E d n i) (B := 2 ^ bigM) k (fun j hj => HIL.out h60 i j hit (by omega))
                  have h2 : (sm (irr E d n i) k).natAbs ≤ 2 ^ (bigM + 6) := by
                    refine Nat.le_trans h1 ?_
                    rw [Nat.pow_add, Nat.mul_comm]
                    exact Nat.mul_le_mul_left _ (by omega)
                  have := wl_pow h2
                  unfold bigM at this
                  omega
                have HAD := Lib.hid (fun w' (hb : Below wr.heap.size wr w') => Add_any (hnv.below hb).int (NIntV.below (NIntV.below hni hbk) hb).int hws hwi)
                have HAS := Lib.hid harS
                clear hcell k0 k1 hni hnv hwi hws harS
                go_wp2_with fail
                refine wp_region_idx 9 [(0, true), (1, true), (2, true), (3, true), (4, true), (5, true), (6, true), (7, true), (8, false), (9, false)] (by kernel_rfl) (by rfl) (by kernel_rfl) (by kernel_rfl) (by kernel_rfl) (fun _ _ _ _ _ h => h) (Same wr) ?_
                change goI _ _ _ _ _ _ wr.drew
                iterate 8
                  refine goI_read hs0 (by rfl) ?_ (by rfl) (fun wz hSw2 => ?_) ?_
                  rotate_left
                  · (try obtain ⟨hs1, hs2⟩ := hSw2)
                    go_simp
                    try with_reducible rfl
                  simp only [Act.put, List.setIfInBounds_toArray]
                refine goI_step hs0 (by rfl) ?_
                go_wp2_with (go_at_call 14; refine (HAD.out _ hdr).mono ?_; rintro e w8 ⟨v9, rfl, ⟨A9, c9, rfl, hv9⟩, hb8⟩)
                have hB8 := hdr.trans (hb8.mono hdr.size)
                have t0 := (hB8.cell (p := ⟨S, 0, none⟩) hSr).trans p0
                have t1 := (hB8.cell (p := ⟨S, 1, none⟩) hSr).trans p1
                have zz0 := (hB8.frozen (p := ⟨S, 0, none⟩) hSr).trans z0
                have zz1 := (hB8.frozen (p := ⟨S, 1, none⟩) hSr).trans z1
                refine goI_step (same_below hB8) (by rfl) ?_
                go_wp2_with fail
                refine goI_nil ?_
                go_wp2_with fail
                go_roundw
                case rel =>
                  have hn9 : NIntV w8 (· ≠ S) (.agg #[.bool _, .slice A9 _ c9]) (sm (irr E d n i) k + irr E d n i k) := ⟨A9, c9, rfl, hv9.mono fun b hb _ => by have h1 : wr.heap.size ≤ b := hb; show b ≠ S; omega⟩
                  exact ⟨k + 1, by omega, by go_num, IVn.put (HAS.out.below' hB8) hn9, ((hfr.trans (Fr.of_below' hB8)).trans (Fr.setCell (O := (· = S)) (p := ⟨S, 0, none⟩) (fun _ => rfl) _)).trans (Fr.setCell (O := (· = S)) (p := ⟨S, 1, none⟩) (fun _ => rfl) _)⟩
                case measure => simp [intOf]; omega
              · obtain rfl : k = E.length := by omega
                have hivP2 := hivP.below hbk
                obtain ⟨negS, BS, mS, qS, harS, hnvS⟩ := hiv
                obtain ⟨negP, BP, mP, qP, harP, hnvP⟩ := hivP2
                obtain ⟨s0, s1, _, _⟩ := harS.two
                obtain ⟨p0, p1, _, _⟩ := harP.two
                have lPr := cell_some_lt p0
                have hrow := HROW.out i hit
                have HSI := Lib.hid (fun w' (hb : Below wr.heap.size wr w') => same_ints ((HPL7.out.below hbk).below hb) ((HPL8.out.below hbk).below hb))
                have HSS := Lib.hid (fun w' (hb : Below wr.heap.size wr w') => same_int (hnvS.below hb) ((hnvP.cast hrow.symm).below hb))
                clear hrow hnvS hnvP harS harP
                go_wp2_with fail
                refine wp_region_jdx [(0, true), (1, true), (2, true), (3, true), (4, true), (5, true), (6, true), (7, true), (8, false), (9, true), (10, true), (11, true), (12, true), (13, false), (14, true), (15, true)] (by kernel_rfl) (by rfl) (by kernel_rfl) (by kernel_rfl) (fun _ _ _ _ _ h => h) (Same wr) ?_
                change goJ _ _ _ _ _ _ wr.drew
                iterate 8
                  refine goJ_read hs0 (by rfl) ?_ (by rfl) (fun wz hSw2 => ?_) ?_
                  rotate_left
                  · (try obtain ⟨hs1, hs2⟩ := hSw2)
                    go_simp
                    try with_reducible rfl
                  simp only [Act.put, List.setIfInBounds_toArray]
                refine goJ_step hs0 (by rfl) ?_
                go_wp2_with (go_at_call 15; refine (HSI.out _ hdr).mono ?_; rintro e w8 ⟨rfl, hb8⟩)
                have hB8 := hdr.trans (hb8.mono hdr.size)
                iterate 4
                  refine goJ_read (same_below hB8) (by rfl) ?_ (by rfl) (fun wz hSw2 => ?_) ?_
                  rotate_left
                  · (try obtain ⟨hs1, hs2⟩ := hSw2)
                    go_simp
                    try with_reducible rfl
                  simp only [Act.put, List.setIfInBounds_toArray]
                refine goJ_step (same_below hB8) (by rfl) ?_
                go_wp2_with (go_at_call 16; refine (HSS.out _ hB8).mono ?_; rintro e w9 ⟨rfl, hb9⟩)
                have hB9 := hB8.trans (hb9.mono hB8.size)
                iterate 2
                  refine goJ_read (same_below hB9) (by rfl) ?_ (by rfl) (fun wz hSw2 => ?_) ?_
                  rotate_left
                  · (try obtain ⟨hs1, hs2⟩ := hSw2)
                    go_simp
                    try with_reducible rfl
                  simp only [Act.put, List.setIfInBounds_toArray]
                refine goJ_nil (same_below hB9) ?_
                go_wp2_with fail
                go_roundw
                case rel => exact ⟨i + 1, by omega, by go_num, hbr.trans ((hbk.trans (hB9.mono hbk.size)).mono hbr.size)⟩
                case measure => simp [intOf]; omega
          · obtain rfl : i = E.length := by omega
            have hbf := hbwr.trans (hbr.mono hbwr.size)
            go_wp2_with fail
            refine awake_any.mono ?_
            rintro e w9 ⟨rfl, hb9⟩
            go_wp2_with fail
            go_ret
            exact ⟨rfl, hbf.trans (hb9.mono hbf.size)⟩

/-- GraphIrreducible returns true, whatever the graph and the number. -/
theorem GraphIrreducible_true {w : World} {v : Value} {names : List ByteArray} {E : List (List Int)} (h : GrV w v names E) (x : Int) : Calls Tryz.prog 3 #[v, .int .i64 x] w (TrueR w) := by
  by_cases hx : 9 ≤ x ∧ x ≤ 20
  · exact lawI_skip h x (decide_eq_true hx)
  · by_cases hc : chk names E = 0
    · obtain ⟨E', rfl, hk⟩ := ok_of_chk hc
      obtain ⟨p, q, hd⟩ : ∃ p q, degP E' = (p, q) := ⟨_, _, rfl⟩
      by_cases hq : q = 0
      · subst hq
        by_cases hx2 : 0 ≤ x ∧ x ≤ 20
        · obtain ⟨n, rfl⟩ : ∃ n : Nat, x = (n : Int) := ⟨x.toNat, by omega⟩
          exact lawI_ok h n (by omega) hc hk hd
        · exact lawI_rng h x (decide_eq_false hx) (decide_eq_false hx2) hc hk hd
      · exact lawI_deg h x (decide_eq_false hx) hc hk hd hq
    · exact lawI_bad h x (decide_eq_false hx) hc
end Go.Proofs.YtpkjdnplmgfbbaaGreatDoor
