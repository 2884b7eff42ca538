/- graph.distances: the distances from a vertex, along lists of neighbours. -/
import Derived.Test.YtpkjdnplmgfbbaaDoorSrch
import Derived.Test.YtpkjdnplmgfbbaaDoorRep
import Derived.Test.YtpkjdnplmgfbbaaDoorGw
namespace Go.Proofs.YtpkjdnplmgfbbaaDoor
open Go.RowKit

theorem beq_cast {a b : Nat} : ((a : Int) == (b : Int)) = decide (a = b) := by
  by_cases h : a = b
  · subst h; simp
  · rw [decide_eq_false h]
    exact beq_eq_false_iff_ne.2 (by omega)

set_option maxHeartbeats 1000000 in
set_option maxRecDepth 100000 in
/-- The function that distances hands to search: one visit. -/
theorem dist1_any {W : World} {F U G n a : Nat} {l : List Int} (hF : W.cell? ⟨F, 0, none⟩ = some (.int .i64 (a : Nat))) (hU : W.cell? ⟨U, 0, none⟩ = some (.slice (some ⟨G, 0, none⟩) n n)) (hG : NArr W G l) (hl : l.length = n)
    (hs : ∀ v, -1 ≤ l.getD v 0 ∧ l.getD v 0 ≤ 100000) (x y : Nat) (hx : x < n) (hy : y < n) :
    Calls Tryd.prog 103 #[.int .i64 (x : Nat), .int .i64 (y : Nat), .pointer (some ⟨F, 0, none⟩), .pointer (some ⟨U, 0, none⟩)] W fun e W' => e = .returned (.bool true) ∧ NArr W' G (vis a l (y, x)) ∧ Fr (· = G) W W' := by
  have cx := hG.cell (i := x) (by omega)
  have cy := hG.cell (i := y) (by omega)
  have fx := hG.frozen x
  have HL := Lib.hid hl
  have hxi : (x : Int) < (n : Int) := by omega
  have hyi : (y : Int) < (n : Int) := by omega
  have hsy := hs y
  have HV : Hid (∀ u, u = vis a l (y, x) → (x = a → u = l.set x 0) ∧ (¬ x = a → u = l.set x (l.getD y 0 + 1))) := Lib.hid (fun u hu => by subst hu; unfold vis; exact ⟨fun h => if_pos h, fun h => if_neg h⟩)
  clear hl hs
  generalize hv : vis a l (y, x) = u at *
  have HVV := HV.out u rfl
  obtain ⟨z, hz⟩ : ∃ z, l.getD y 0 = z := ⟨_, rfl⟩
  rw [hz] at cy hsy HVV
  by_cases hxa : x = a
  · have hb : ((x : Int) == (a : Int)) = true := by rw [beq_cast]; simp [hxa]
    have HU2 := Lib.hid (HVV.1 hxa)
    clear HVV HV hv hz hxa
    go_enter Tryd.func103, Tryd.ntmps103
    go_wp2
    go_ret
    refine ⟨rfl, ?_, Fr.setCell (O := (· = G)) (p := ⟨G, x, none⟩) (fun _ => rfl) _⟩
    rw [HU2.out]
    exact hG.set_ x 0
  · have hb : ((x : Int) == (a : Int)) = false := by rw [beq_cast]; simp [hxa]
    have HU2 := Lib.hid (HVV.2 hxa)
    clear HVV HV hv hz hxa
    have hw : IntKind.i64.wrap (z + 1) = z + 1 := IntWalk.i64_in _ (by omega)
    go_enter Tryd.func103, Tryd.ntmps103
    go_wp2
    go_still_tail 8, (by kernel_rfl)
    have hG2 : NArr W.drew G l := hG
    have cx2 : W.drew.cell? ⟨G, x, none⟩ = _ := cx
    have fx2 : W.drew.frozen? ⟨G, x, none⟩ = false := fx
    have fr2 : Fr (· = G) W W.drew := (Fr.refl _ _).drew
    change wpList _ _ _ _ _ W.drew
    clear hG cx fx hF hU cy
    generalize W.drew = w3 at *
    go_wp2
    go_ret
    refine ⟨rfl, ?_, fr2.trans (Fr.setCell (O := (· = G)) (p := ⟨G, x, none⟩) (fun _ => rfl) _)⟩
    rw [HU2.out]
    exact hG2.set_ x _

/-- What distances leaves: an array of its own with the distances. -/
def DistsAt (w : World) (E : List (List Nat)) (a : Nat) (w' : World) (v : Value) : Prop := ∃ G, w.heap.size ≤ G ∧ v = .slice (some ⟨G, 0, none⟩) E.length E.length ∧ NArr w' G (dd E a)

theorem dl_take_small {E : List (List Nat)} (hE : Valid E) (hEn : E.length ≤ 2500) {a k : Nat} (ha : a < E.length) (hpr : ∀ i, i < k → ∃ p, (bs E a i).q[i]? = some p) : ∀ v, -1 ≤ (dl E.length a ((bs E a k).q.take k)).getD v 0 ∧ (dl E.length a ((bs E a k).q.take k)).getD v 0 ≤ 100000 := by
  intro v
  obtain ⟨dep, h⟩ := bs_inv hE ha k hpr
  have h1 := h.qlen
  have h2 := dl_small E.length a ((bs E a k).q.take k) v
  have h3 : ((bs E a k).q.take k).length ≤ (bs E a k).q.length := by rw [List.length_take]; omega
  omega
theorem par_lt {E : List (List Nat)} {a k : Nat} {pre : List Nat} {s : Bs} {dep : List Nat} (h : Srch E a k pre s dep) {j : Nat} {p : Nat × Nat} (hp : s.q[j]? = some p) : p.1 < E.length ∧ p.2 < E.length := by
  refine ⟨?_, h.small j p hp⟩
  by_cases h0 : j = 0
  · subst h0
    have := h.first
    rw [hp] at this
    cases this
    exact h.small 0 _ hp
  · obtain ⟨d, hd⟩ : ∃ d, dep[j]? = some d := ⟨_, List.getElem?_eq_getElem (by rw [h.dlen]; exact lt_of_some hp)⟩
    obtain ⟨i, di, _, _, h3, _⟩ := h.par j p d (by omega) hp hd
    obtain ⟨b, hb⟩ := snd_some h3
    exact h.small i _ hb

/-- The visits of distances. -/
theorem dist_visits {E : List (List Nat)} (hE : Valid E) (hEn : E.length ≤ 2500) {a : Nat} (ha : a < E.length) {w : World} {F U G : Nat} (hF : w.cell? ⟨F, 0, none⟩ = some (.int .i64 (a : Nat))) (hU : w.cell? ⟨U, 0, none⟩ = some (.slice (some ⟨G, 0, none⟩) E.length E.length)) (hFG : F ≠ G) (hUG : U ≠ G) :
    Visits E a (· = G) (fun done W => NArr W G (dl E.length a done)) (fun _ => False) w 103 #[.pointer (some ⟨F, 0, none⟩), .pointer (some ⟨U, 0, none⟩)] := by
  intro k p W hpr hp hv hfr
  obtain ⟨dep, h⟩ := bs_inv hE ha k hpr
  obtain ⟨h1, h2⟩ := par_lt h hp
  refine (dist1_any ((hfr.cell (cell_some_lt hF) hFG).trans hF) ((hfr.cell (cell_some_lt hU) hUG).trans hU) hv (dl_length _ _ _) (dl_take_small hE hEn ha hpr) p.2 p.1 h2 h1).mono ?_
  rintro e W' ⟨rfl, h3, h4⟩
  exact ⟨.inl ⟨rfl, by show NArr W' G (dl E.length a (_ ++ [p])); rw [dl_snoc]; exact h3⟩, h4⟩

/-- The boxes of distances. -/
theorem dbox (w : World) (a : Value) : ∃ W F S, W = (w.alloc (.cells #[a] 3)).alloc (.cells #[.int .i64 (-1)] 3) ∧ F = w.heap.size ∧ S = w.heap.size + 1 ∧ Below w.heap.size w W ∧ W.cell? ⟨F, 0, none⟩ = some a ∧ W.cell? ⟨S, 0, none⟩ = some (.int .i64 (-1)) ∧ F < W.heap.size ∧ w.heap.size ≤ F :=
  ⟨_, _, _, rfl, rfl, rfl, ((Below.refl _ _).alloc (Nat.le_refl _) _).alloc (by simp) _, by go_simp, by go_simp, by simp; omega, Nat.le_refl _⟩

set_option maxHeartbeats 1000000 in
set_option maxRecDepth 100000 in
theorem distances_any {E : List (List Nat)} (hE : Valid E) (hEn : E.length ≤ 2500) {a : Nat} (ha : a < E.length) {A : Option Addr} {c : Nat} {w : World} (hG : Gl w A E.length c (toI E)) :
    Calls Tryd.prog 58 #[.slice A E.length c, .int .i64 (a : Nat)] w (Gives w (DistsAt w E a)) := by
  have eg := enters_of Tryd.func103 (by kernel_rfl) rfl
  have EG := Lib.hid eg
  clear eg
  have hr := hG.room
  unfold maxLen at hr
  go_enter Tryd.func58, Tryd.ntmps58
  go_wp2_with fail
  obtain ⟨W, F, S, hW, hF, hS, hbW, cF, cS, hFl, hwF⟩ := dbox w (.int .i64 (a : Nat))
  rw [← hW, ← hS, ← hF]
  refine (Repeat_any cS E.length (by omega)).mono ?_
  rintro e w2 ⟨rfl, hna, hb2, hs2⟩
  clear hW hF hS cS
  obtain ⟨G, hG1⟩ : ∃ G, G = W.heap.size := ⟨_, rfl⟩
  rw [← hG1] at hna hs2 ⊢
  have hGW : W.heap.size ≤ G := by omega
  have hFG : F < G := by omega
  have cF2 := (hb2.cell (p := ⟨F, 0, none⟩) hFl).trans cF
  have hb3 := hbW.trans (hb2.mono hbW.size)
  clear hG1
  have hF2 : F < w2.heap.size := by omega
  go_wp2_with fail
  have hU : (w2.alloc (.cells #[.slice (some ⟨G, 0, none⟩) E.length E.length] 28)).cell? ⟨w2.heap.size, 0, none⟩ = some (.slice (some ⟨G, 0, none⟩) E.length E.length) := by go_simp
  have hF3 : (w2.alloc (.cells #[.slice (some ⟨G, 0, none⟩) E.length E.length] 28)).cell? ⟨F, 0, none⟩ = some (.int .i64 (a : Nat)) := by go_simp
  have hn3 : NArr (w2.alloc (.cells #[.slice (some ⟨G, 0, none⟩) E.length E.length] 28)) G (List.replicate E.length (-1)) := Arr.alloc hna _
  have hb4 : Below w.heap.size w (w2.alloc (.cells #[.slice (some ⟨G, 0, none⟩) E.length E.length] 28)) := hb3.alloc hb3.size _
  have hs4 : w2.heap.size < (w2.alloc (.cells #[.slice (some ⟨G, 0, none⟩) E.length E.length] 28)).heap.size := by simp
  clear hna hb3 cF2 cF
  obtain ⟨U, hUe⟩ : ∃ U, U = w2.heap.size := ⟨_, rfl⟩
  rw [← hUe] at hU hs4 hs2 ⊢
  clear hUe
  generalize w2.alloc (.cells #[.slice (some ⟨G, 0, none⟩) E.length E.length] 28) = w3 at *
  refine (search_any hE hEn ha (O := (· = G)) (V := fun done W => NArr W G (dl E.length a done)) (Stop := fun _ => False) (w0 := w) (dist_visits hE hEn ha hF3 hU (by omega) (by omega)) (fun b hb => by subst hb; have := hbW.size; omega) (fun done W W' h hb => Arr.below h hb (by omega)) (fun _ _ h _ => h) hG hb4 hn3 EG.out).mono ?_
  rintro e w5 ⟨rfl, hfr, ⟨k, hk, hpr, hv⟩ | hst⟩
  · have hds := dl_dists hE ha hk hpr
    have hv2 : NArr w5 G (dd E a) := by rw [← hds.eq]; exact hv
    have hU5 := (hfr.cell (cell_some_lt hU) (show ¬ U = G by omega)).trans hU
    have hb5 : Below w.heap.size w w5 := hb4.trans (hfr.below hb4.size (fun b hb => by subst hb; have := hbW.size; omega))
    clear hk hpr hv hds
    go_wp2_with fail
    go_ret
    exact ⟨_, rfl, ⟨G, by have := hbW.size; omega, rfl, hv2⟩, hb5⟩
  · exact hst.elim
end Go.Proofs.YtpkjdnplmgfbbaaDoor
