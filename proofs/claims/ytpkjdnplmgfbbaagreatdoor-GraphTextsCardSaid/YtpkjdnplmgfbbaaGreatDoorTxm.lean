/- base.Texts, base.Lists, ref.Same of equal things. -/
import Derived.Test.YtpkjdnplmgfbbaaGreatDoorTxt
namespace Go.Proofs.YtpkjdnplmgfbbaaGreatDoor
open Go.RowKit

def YesR (w : World) (e : Ending) (w' : World) : Prop := e = .returned (.bool true) ∧ Below w.heap.size w w'
theorem Ints_yes {w : World} {A B : Option Addr} {n c n' c' : Nat} {l : List Int} (h : Il w A n c l) (h' : Il w B n' c' l) : Calls Tryz.prog 26 #[.slice A n c, .slice B n' c'] w (YesR w) := by
  refine (Ints_any h h').mono ?_
  rintro e w' ⟨rfl, hb⟩
  exact ⟨by simp, hb⟩
set_option maxHeartbeats 1000000 in
theorem Texts_yes {w : World} {A B : Option Addr} {n c c' : Nat} {l : List ByteArray} (h : Sl w A n c l) (h' : Sl w B n c' l) :
    Calls Tryz.prog 53 #[.slice A n c, .slice B n c'] w (YesR w) := by
  have hl : l.length = n := h.len
  have hr := h.room
  have hr' := h'.room
  unfold maxLen at hr hr'
  have hb : ((n : Int) != (n : Int)) = false := by simp
  have HL := Lib.hid hl
  clear hl
  go_enter Tryz.func53, Tryz.ntmps53
  go_wp2_with fail
  go_loopw [5] (fun i wr => ∃ (k q : Nat), k ≤ n ∧ i = .int .i64 (k : Nat) ∧ wr = w.drewN q) (fun i _ => n - (intOf i).toNat)
  case atStart => exact ⟨0, 0, Nat.zero_le _, rfl, rfl⟩
  case round =>
    obtain ⟨k, q, hk, rfl, rfl⟩ := hrel
    by_cases hlt : k < n
    · obtain ⟨b, off, rfl, hc⟩ := h.cell (by omega)
      obtain ⟨b', off', rfl, hc'⟩ := h'.cell (by omega)
      obtain ⟨x, hx⟩ : ∃ x, l[k]? = some x := ⟨_, List.getElem?_eq_getElem (by rw [HL.out]; exact hlt)⟩
      have cx := hc k x hx
      have cy := hc' k x hx
      have hki : (k : Int) < (n : Int) := by omega
      have hk0 : (0 : Int) ≤ (k : Int) := by omega
      have hbx : (x.toList != x.toList) = false := by simp
      clear hc hc' hx
      go_wp2_with fail
      go_quiet (fail)
      go_wp2_with fail
      exact ⟨⟨k + 1, q + nq, by omega, by go_num, rfl⟩, by simp [intOf]; omega⟩
    · go_wp2_with fail
      go_ret
      exact ⟨rfl, below_drewN' (Below.refl _ _) _⟩

/-- A region that draws its order. -/
theorem wp_region_trg {P : Program} {Q : Exit → Act → World → Prop} {id : Nat} {a : Act} {w : World} {L : List Oper} (t : Trg) (Z : List Nat) (hm : P.follows .mixedOrders = true) (hl : t.deep = L.length) (hs : Region.noSelect L.toArray = true) (hB : planG .any L.toArray Z t (Array.replicate L.length false) = true)
    (hQ : ∀ c a t v w, Q (.panic c) (Act.put a (some t) v) w → Q (.panic c) a w) (S : World → Prop) (h : goG P L.toArray Q S Z t a w.drew) : (Code.region id L.toArray true).wp P Q a w := by
  refine wp_region_any hm (wpAny_of_G (S := S) (Z := Z) _ _ _ _ ?_)
  have hsz : L.toArray.size = L.length := by simp
  rw [hsz, ← hl]
  rw [← hl] at hB
  exact wpAnyG_tre hs hQ t _ a w.drew hB h
set_option maxHeartbeats 1000000 in
theorem Lists_yes {w : World} {A B : Option Addr} {n c c' : Nat} {E : List (List Nat)} (h : Gl w A n c (toI E)) (h' : Gl w B n c' (toI E)) :
    Calls Tryz.prog 54 #[.slice A n c, .slice B n c'] w (YesR w) := by
  have hl : E.length = n := by have := h.len; rw [toI_length] at this; exact this
  have hr := h.room
  have hr' := h'.room
  unfold maxLen at hr hr'
  have hb : ((n : Int) != (n : Int)) = false := by simp
  have HL := Lib.hid hl
  clear hl
  go_enter Tryz.func54, Tryz.ntmps54
  go_wp2_with fail
  go_loopw [5] (fun i wr => ∃ (k : Nat), k ≤ n ∧ i = .int .i64 (k : Nat) ∧ Below w.heap.size w wr) (fun i _ => n - (intOf i).toNat)
  case atStart => exact ⟨0, Nat.zero_le _, rfl, Below.refl _ _⟩
  case round =>
    obtain ⟨k, hk, rfl, hbr⟩ := hrel
    by_cases hlt : k < n
    · obtain ⟨b, off, A2, c2, rfl, cx', hr3, hr4, hil⟩ := h.row (i := k) (by rw [HL.out]; exact hlt)
      obtain ⟨b', off', A3, c3, rfl, cy', hr5, hr6, hil'⟩ := h'.row (i := k) (by rw [HL.out]; exact hlt)
      have HI := Lib.hid (fun wz (hb : Below w.heap.size w wz) => Ints_yes (hil.below hb) (hil'.below hb))
      have HX := Lib.hid (fun wz (hb : Below w.heap.size w wz) => ((bcell hb).1 _ _ (cell_some_lt cx')).trans cx')
      have HY := Lib.hid (fun wz (hb : Below w.heap.size w wz) => ((bcell hb).1 _ _ (cell_some_lt cy')).trans cy')
      have hki : (k : Int) < (n : Int) := by omega
      have hk0 : (0 : Int) ≤ (k : Int) := by omega
      clear cx' cy' hil hil'
      go_wp2_with fail
      refine wp_region_trg (.read 0 (.read 1 (.read 2 (.read 3 (.read 4 (.read 5 (.read 6 (.read 7 (.step 8 (.read 9 .nil)))))))))) [] (by kernel_rfl) (by rfl) (by kernel_rfl) (by kernel_rfl) (fun _ _ _ _ _ h => h) (fun W => Below w.heap.size w W) ?_
      have hs0 : Below w.heap.size w wr.drew := hbr.drew
      change goG _ _ _ _ _ _ _ wr.drew
      refine goG_read 17 hs0 (by rfl) (by rfl) ?_ (by rfl) (fun wz hSw => ?_) ?_
      rotate_left
      · have cx := HX.out wz hSw
        have cy := HY.out wz hSw
        go_simp
        try with_reducible rfl
      simp only [List.setIfInBounds_toArray]
      refine goG_read 18 hs0 (by rfl) (by rfl) ?_ (by rfl) (fun wz hSw => ?_) ?_
      rotate_left
      · have cx := HX.out wz hSw
        have cy := HY.out wz hSw
        go_simp
        try with_reducible rfl
      simp only [List.setIfInBounds_toArray]
      refine goG_read 19 hs0 (by rfl) (by rfl) ?_ (by rfl) (fun wz hSw => ?_) ?_
      rotate_left
      · have cx := HX.out wz hSw
        have cy := HY.out wz hSw
        go_simp
        try with_reducible rfl
      simp only [List.setIfInBounds_toArray]
      refine goG_read 20 hs0 (by rfl) (by rfl) ?_ (by rfl) (fun wz hSw => ?_) ?_
      rotate_left
      · have cx := HX.out wz hSw
        have cy := HY.out wz hSw
        go_simp
        try with_reducible rfl
      simp only [List.setIfInBounds_toArray]
      refine goG_read 21 hs0 (by rfl) (by rfl) ?_ (by rfl) (fun wz hSw => ?_) ?_
      rotate_left
      · have cx := HX.out wz hSw
        have cy := HY.out wz hSw
        go_simp
        try with_reducible rfl
      simp only [List.setIfInBounds_toArray]
      refine goG_read 22 hs0 (by rfl) (by rfl) ?_ (by rfl) (fun wz hSw => ?_) ?_
      rotate_left
      · have cx := HX.out wz hSw
        have cy := HY.out wz hSw
        go_simp
        try with_reducible rfl
      simp only [List.setIfInBounds_toArray]
      refine goG_read 23 hs0 (by rfl) (by rfl) ?_ (by rfl) (fun wz hSw => ?_) ?_
      rotate_left
      · have cx := HX.out wz hSw
        have cy := HY.out wz hSw
        go_simp
        try with_reducible rfl
      simp only [List.setIfInBounds_toArray]
      refine goG_read 24 hs0 (by rfl) (by rfl) ?_ (by rfl) (fun wz hSw => ?_) ?_
      rotate_left
      · have cx := HX.out wz hSw
        have cy := HY.out wz hSw
        go_simp
        try with_reducible rfl
      simp only [List.setIfInBounds_toArray]
      refine goG_step (by rfl) ?_
      clear hs0
      go_wp2_with (go_at_call 26; refine (HI.out _ hbr.drew).mono ?_; rintro e w1 ⟨rfl, hb1⟩; have hb2 := hbr.drew.trans (hb1.mono hbr.drew.size))
      refine ⟨fun _ => hb2, ?_⟩
      refine goG_read 26 hb2 (by rfl) (by rfl) ?_ (by rfl) (fun wz hSw => ?_) ?_
      rotate_left
      · go_simp
        try with_reducible rfl
      simp only [List.setIfInBounds_toArray]
      show Exit.then _ _ .normal _ _
      go_wp2_with fail
      exact ⟨⟨k + 1, by omega, by go_num, hb2⟩, by simp [intOf]; omega⟩
    · go_wp2_with fail
      go_ret
      exact ⟨rfl, hbr⟩
set_option maxHeartbeats 1000000 in
theorem Same_yes {w : World} {v v' : Value} {names : List ByteArray} {E : List (List Nat)} (h : GrV w v names (toI E)) (h' : GrV w v' names (toI E)) : Calls Tryz.prog 19 #[v, v'] w (YesR w) := by
  obtain ⟨A, c, A', c', rfl, hs, hg⟩ := h
  obtain ⟨B, d, B', d', rfl, hs', hg'⟩ := h'
  rw [toI_length] at *
  obtain ⟨W, G, hW, hG, hbW, c0, c1, hGl, hwG⟩ := gbox w (.slice A names.length c) (.slice A' E.length c')
  obtain ⟨V, H, hV, hH, hbV, e0, e1, hHl, hwH⟩ := gbox W (.slice B names.length d) (.slice B' E.length d')
  have HW := Lib.hid hW
  have HG := Lib.hid hG
  have HV := Lib.hid hV
  have HH := Lib.hid (show H = G + 1 by rw [hH, hW, World.size_alloc, hG])
  have hbb := hbW.trans (hbV.mono hbW.size)
  have x0 := ((bcell hbV).1 _ 0 hGl).trans c0
  have x1 := ((bcell hbV).1 _ 1 hGl).trans c1
  have HT := Lib.hid (fun wz (hb : Below w.heap.size w wz) => Texts_yes (hs.below hb) (hs'.below hb))
  have HL := Lib.hid (fun wz (hb : Below w.heap.size w wz) => Lists_yes (hg.below hb) (hg'.below hb))
  clear hW hG hV hH hs hs' hg hg' c0 c1
  go_enter Tryz.func19, Tryz.ntmps19
  go_wp2_with fail
  rw [← HW.out, ← HG.out, ← HV.out, ← HH.out]
  refine (HT.out _ hbb).mono ?_
  rintro e w1 ⟨rfl, hb1⟩
  have hb2 := hbb.trans (hb1.mono hbb.size)
  have y1 := ((bcell hb1).1 _ 1 (Nat.lt_of_lt_of_le hGl hbV.size)).trans x1
  have z1 := ((bcell hb1).1 _ 1 hHl).trans e1
  go_wp2_with fail
  refine (HL.out _ hb2).mono ?_
  rintro e w3 ⟨rfl, hb3⟩
  go_wp2_with fail
  go_ret
  exact ⟨rfl, hb2.trans (hb3.mono hb2.size)⟩
end Go.Proofs.YtpkjdnplmgfbbaaGreatDoor
