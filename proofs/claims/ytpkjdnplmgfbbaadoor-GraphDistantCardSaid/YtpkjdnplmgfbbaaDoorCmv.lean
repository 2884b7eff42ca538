/- graph.both, graph.marked, graph.Components. -/
import Derived.Test.YtpkjdnplmgfbbaaDoorSr2
import Derived.Test.YtpkjdnplmgfbbaaDoorCop
import Derived.Test.YtpkjdnplmgfbbaaDoorLawD
import Derived.Deep.CutBlock
import Derived.Deep.RegionHeld3
namespace Go.Proofs.YtpkjdnplmgfbbaaDoor
open Go.RowKit

theorem Rws.rows {w : World} {S : Nat} {R : List (List Nat)} {vs : List Value} (h : Rws w S S R vs) (hs : ∀ l ∈ R, ∀ x ∈ l, x ≤ 1000000) (hn : R.length ≤ 1000000) : RowsD IlD w (fun b => S ≤ b ∧ b < w.heap.size) (.slice (some ⟨S, 0, none⟩) R.length R.length) (toI R) := by
  refine ⟨some ⟨S, 0, none⟩, R.length, vs, by rw [toI_length], by rw [toI_length]; exact Nat.le_refl _, by unfold maxLen; omega, by rw [toI_length, h.len], fun _ => ⟨S, 0, rfl, ⟨Nat.le_refl _, h.arr.lt⟩, fun j u hu => by rw [Nat.zero_add, h.arr.cell]; exact hu⟩, fun i u x hu hx => ?_⟩
  unfold toI at hx
  rw [List.getElem?_map] at hx
  cases hr : R[i]? with
  | none => rw [hr] at hx; cases hx
  | some r =>
    rw [hr] at hx
    injection hx with hx
    subst hx
    have ho := h.own i u r hu hr
    obtain ⟨A, c, e, hil⟩ := ho.il (hs r (List.mem_of_getElem? hr))
    refine ⟨A, c, by rw [List.length_map]; exact e, by rw [List.length_map]; exact hil, fun hn => ?_⟩
    rw [List.length_map] at hn
    obtain ⟨g, cap, e2, hb, _, _, _, hc⟩ := own_cells ho hn
    rw [e] at e2
    injection e2 with e3 _ _
    refine ⟨g, 0, e3, hb, ?_⟩
    exact (ho.lt g (by rw [e, e3]; obtain ⟨m, hm⟩ : ∃ m, r.length = m + 1 := ⟨r.length - 1, by omega⟩; rw [hm]; rfl)).2

def BothR2 (w : World) (E : List (List Nat)) (e : Ending) (w' : World) : Prop := ∃ A, e = .returned (.slice A E.length E.length) ∧ RowsD IlD w' (fun b => w.heap.size ≤ b ∧ b < w'.heap.size) (.slice A E.length E.length) (toI (bth E)) ∧ Below w.heap.size w w'

set_option maxHeartbeats 4000000 in
set_option maxRecDepth 100000 in
theorem both_any {w : World} {v : Value} {names : List ByteArray} {E : List (List Nat)} (h : GrV w v names (toI E)) (hk : Ok names E) :
    Calls Tryd.prog 77 #[v] w (BothR2 w E) := by
  have hsm := hk.small
  obtain ⟨A, c, A', c', rfl, hs, hg⟩ := h
  rw [toI_length] at *
  have hr := hg.room
  unfold maxLen at hr
  obtain ⟨w3, G, hW, hG, hbW, c0, f1, hGl, hwG⟩ := gbox w (.slice A names.length c) (.slice A' E.length c')
  replace hg := hg.below hbW
  have HW := Lib.hid hW
  have HG := Lib.hid hG
  have HK := Lib.hid hk
  clear hW hG hs hk c0
  obtain ⟨S, hS⟩ : ∃ S, S = w3.heap.size := ⟨_, rfl⟩
  have HS := Lib.hid hS
  have hSW : w3.heap.size ≤ S := by omega
  have hGS : G < S := by omega
  clear hS
  go_enter Tryd.func77, Tryd.ntmps77
  go_wp2_with (refine wpList_make_arr _ rfl _ _ 23 rfl 28 (.slice none 0 0) 1 24 Tryd.underlying23 (by kernel_rfl) _ _ _ _ E.length rfl rfl rfl rfl (by omega) (by omega) ?_; rw [← HW.out, ← HG.out, ← HS.out]; intro w4 har hb7 hs4; have hrw := Rws.made (base := S) har; have HRW := Lib.hid hrw; have f2 := (hb7.cell (p := ⟨G, 1, none⟩) hGS).trans f1; clear har hrw hs4)
  go_loopw [15] (fun i wr => ∃ (k : Nat) (vs : List Value), k ≤ E.length ∧ i = .int .i64 (k : Nat) ∧ Rws wr S S (bo E k) vs ∧ Below S w3 wr) (fun i _ => E.length - (intOf i).toNat)
  case atStart => exact ⟨0, _, Nat.zero_le _, rfl, HRW.out, hb7⟩
  case round =>
    clear HRW hb7 f2 w4
    obtain ⟨k, vs, hkl, rfl, hrw, hbr⟩ := hrel
    by_cases hlt : k < E.length
    · have hb3 : ∀ w', Below S w3 w' → Below w3.heap.size w3 w' := fun w' hb => by rw [← HS.out]; exact hb
      obtain ⟨b, off, A2, c2, rfl, hrow3, hr1, hr2, hil3⟩ := hg.row hlt
      have hrow := ((bcell (hb3 _ hbr)).1 _ _ (cell_some_lt hrow3)).trans hrow3
      have HB3 := Lib.hid hb3
      clear hb3 hrow3
      have hki : (k : Int) < (E.length : Int) := by omega
      have hk0 : (0 : Int) ≤ (k : Int) := by omega
      go_wp2_with fail
      obtain ⟨wo, hwo⟩ : ∃ wo : World, wo = wr := ⟨_, rfl⟩
      rw [← hwo] at hbr hrow hrw ⊢
      clear hwo wr
      go_loopw [22] (fun i wr => ∃ (j : Nat) (vs : List Value), j ≤ (gr E k).length ∧ i = .int .i64 (j : Nat) ∧ Rws wr S S (bo1 (bo E k) k ((gr E k).take j)) vs ∧ Below S w3 wr) (fun i _ => (gr E k).length - (intOf i).toNat)
      case atStart => exact ⟨0, vs, Nat.zero_le _, rfl, hrw, hbr⟩
      case round =>
        clear hrow hrw hbr
        obtain ⟨j, vs, hjl, rfl, hrw, hbr⟩ := hrel
        by_cases hjt : j < (gr E k).length
        · obtain ⟨x, hx⟩ : ∃ x, (gr E k)[j]? = some x := ⟨_, List.getElem?_eq_getElem hjt⟩
          have hxl : x < E.length := HK.out.valid k hlt x (List.mem_of_getElem? hx)
          obtain ⟨b3, off3, rfl, hcx⟩ := (hil3.below (HB3.out _ hbr)).num hx
          have et : bo1 (bo E k) k ((gr E k).take (j + 1)) = ((bo1 (bo E k) k ((gr E k).take j)).set k (gr (bo1 (bo E k) k ((gr E k).take j)) k ++ [x])).set x (gr ((bo1 (bo E k) k ((gr E k).take j)).set k (gr (bo1 (bo E k) k ((gr E k).take j)) k ++ [x])) x ++ [k]) := by rw [List.take_add_one, hx]; exact bo1_snoc _ _ _ _
          have hRl : (bo1 (bo E k) k ((gr E k).take j)).length = E.length := by rw [bo1_length, bo_length]
          have hll : ∀ v, (gr (bo1 (bo E k) k ((gr E k).take j)) v).length ≤ 3000000 := fun v => by
            have h1 := bo1_len (R := bo E k) (i := k) (by rw [bo_length]; exact hlt) ((gr E k).take j) (fun y hy => by rw [bo_length]; exact HK.out.valid k hlt y (List.mem_of_mem_take hy)) (bo_len HK.out.valid HK.out.deg k (Nat.le_of_lt hlt)) v
            have h2 := HK.out.deg k
            rw [List.length_take] at h1
            omega
          have HT := Lib.hid et
          have HRL := Lib.hid hRl
          have HLL := Lib.hid hll
          clear et hx hRl hll
          generalize bo1 (bo E k) k ((gr E k).take j) = R at *
          obtain ⟨u, A4, c4, hu, rfl, hu1, hu2, hou, hcu, hfu⟩ := hrw.at (x := k) (by rw [HRL.out]; exact hlt)
          have hl1 := HLL.out k
          obtain ⟨R2, hR2⟩ : ∃ R2, R2 = R.set k (gr R k ++ [x]) := ⟨_, rfl⟩
          rw [← hR2] at HT
          have hl2 : (gr R2 x).length ≤ 3000001 := by
            rw [hR2, gr_set (by rw [HRL.out]; exact hlt)]
            split
            · rw [List.length_append]; simp; omega
            · have := HLL.out x; omega
          have HR2 := Lib.hid hR2
          clear hR2
          unfold maxLen at hu2
          have hxi : (x : Int) < (E.length : Int) := by omega
          have hx0 : (0 : Int) ≤ (x : Int) := by omega
          have HU := Lib.hid hu
          clear hu
          go_wp2_with (first
            | (at_builtin; ((refine wpList_pushN wr (by rfl) _ _ (by rfl) S _ (gr R k) (by rfl) hou x _ (by rfl) (by rfl) (by omega) (by have := hbr.size; have := HS.out; omega) ?_)); intro A5 c5 w6 hown6 hg6 hob6; obtain ⟨har6, hrw6⟩ := hrw.push HU.out hg6 hown6 hob6; have hc6 := (har6.cell k).trans HU.out; have hf6 := har6.frozen k; rw [← HR2.out] at hrw6; obtain ⟨u7, A7, c7, hu7, e7, hu71, hu72, hou7, hcu7, hfu7⟩ := hrw6.at (x := x) (by rw [HR2.out, List.length_set, HRL.out]; exact hxl); subst e7; have HU7 := Lib.hid hu7; have hs7 : (w6.setCell ⟨S, k, none⟩ (.slice A5 ((gr R k).length + 1) c5)).heap.size = w6.heap.size := (by simp [World.setCell]); have hb6' : Below S w3 w6 := (hbr.grown hg6 (by rw [HS.out]; exact hbr.size) (fun q hq => (hou.lt q hq).1)); have hb7' : Below S w3 (w6.setCell ⟨S, k, none⟩ (.slice A5 ((gr R k).length + 1) c5)) := hb6'.setCell (p := ⟨S, k, none⟩) (Nat.le_refl _) _; unfold maxLen at hu72; clear hu7)
            | (at_builtin; ((refine wpList_pushN (w6.setCell ⟨S, k, none⟩ (.slice A5 ((gr R k).length + 1) c5)) (by rfl) _ _ (by rfl) S _ (gr R2 x) (by rfl) hou7 k _ (by rfl) (by rw [hs7]; rfl) (by omega) (by have := hb7'.size; have := HS.out; omega) ?_)); intro A8 c8 w8 hown8 hg8 hob8; obtain ⟨har8, hrw8⟩ := hrw6.push HU7.out hg8 hown8 hob8; have hc8 := (har8.cell x).trans HU7.out; have hf8 := har8.frozen x))
          have hb8' : Below S w3 w8 := hb7'.grown hg8 (by have := hb7'.size; have := HS.out; omega) (fun q hq => (hou7.lt q hq).1)
          go_roundw
          case rel => exact ⟨j + 1, _, by omega, by go_num, by rw [HT.out]; exact hrw8, hb8'.setCell (p := ⟨S, x, none⟩) (Nat.le_refl _) _⟩
          case measure => simp [intOf]; omega
        · obtain rfl : j = (gr E k).length := by omega
          rw [List.take_length] at hrw
          go_wp2_with fail
          go_roundw
          case rel => exact ⟨k + 1, vs, by omega, by go_num, hrw, hbr⟩
          case measure => simp [intOf]; omega
    · obtain rfl : k = E.length := by omega
      have hrows := hrw.rows (fun l hl x hx => by
        obtain ⟨v, hv, e⟩ := gr_rows hl
        rw [bo_length] at hv
        rw [e] at hx
        have := bth_valid HK.out.valid v (by rw [bth_length]; exact hv) x hx
        rw [bth_length] at this
        omega) (by rw [bo_length]; omega)
      rw [bo_length] at hrows
      have hrows2 := hrows.mono (D' := fun b => w.heap.size ≤ b ∧ b < wr.heap.size) fun b hb _ => ⟨by have := hbW.size; omega, hb.2⟩
      clear hrows hrw
      go_wp2_with fail
      go_ret
      exact ⟨_, rfl, hrows2, hbW.trans (hbr.mono (by have := hbW.size; have := HS.out; omega))⟩

def MrkR (w : World) (n : Nat) (e : Ending) (w' : World) : Prop := ∃ G, e = .returned (.slice (some ⟨G, 0, none⟩) n n) ∧ NArr w' G (List.replicate n (-1)) ∧ w.heap.size ≤ G ∧ Below w.heap.size w w'
set_option maxHeartbeats 1000000 in
theorem marked_any {w : World} {v : Value} {names : List ByteArray} {E : List (List Nat)} (h : GrV w v names (toI E)) (hk : Ok names E) :
    Calls Tryd.prog 78 #[v] w (MrkR w E.length) := by
  have hsm := hk.small
  obtain ⟨A, c, A', c', rfl, hs, hg⟩ := h
  rw [toI_length] at *
  have hr := hg.room
  unfold maxLen at hr
  obtain ⟨W, G, hW, hG, hbW, c0, c1, hGl, hwG⟩ := gbox w (.slice A names.length c) (.slice A' E.length c')
  obtain ⟨w2, P, hw2, hP⟩ : ∃ w2 P, w2 = W.alloc (.cells #[.int .i64 (-1)] 3) ∧ P = W.heap.size := ⟨_, _, rfl, rfl⟩
  have p0 : w2.cell? ⟨P, 0, none⟩ = some (.int .i64 (-1)) := by rw [hw2, hP]; go_simp
  have hb2 : Below W.heap.size W w2 := by rw [hw2]; exact (Below.refl _ _).alloc (Nat.le_refl _) _
  have hPG : P = G + 1 := by rw [hP, hW, hG]; simp
  have HW := Lib.hid hW
  have HG := Lib.hid hG
  have HW2 := Lib.hid hw2
  have HPG := Lib.hid hPG
  clear hW hG hs hg hk hw2 hP hPG
  go_enter Tryd.func78, Tryd.ntmps78
  go_wp2_with fail
  rw [← HW.out, ← HW2.out, ← HG.out, ← HPG.out]
  refine (Repeat_any p0 E.length (by omega)).mono ?_
  rintro e w3 ⟨rfl, hna, hb3, hs3⟩
  go_wp2_with fail
  go_ret
  exact ⟨w2.heap.size, rfl, hna, Nat.le_trans hbW.size hb2.size, hbW.trans ((hb2.trans (hb3.mono hb2.size)).mono hbW.size)⟩

set_option maxHeartbeats 1000000 in
theorem Comp1_any {W : World} {N U G n : Nat} {l : List Int} {q : Int} (hN : W.cell? ⟨N, 0, none⟩ = some (.int .i64 q)) (hU : W.cell? ⟨U, 0, none⟩ = some (.slice (some ⟨G, 0, none⟩) n n)) (hG : NArr W G l) (hl : l.length = n) (x y : Nat) (hx : x < n) :
    Calls Tryd.prog 80 #[.int .i64 (x : Nat), .int .i64 (y : Nat), .pointer (some ⟨N, 0, none⟩), .pointer (some ⟨U, 0, none⟩)] W fun e W' => e = .returned (.bool true) ∧ NArr W' G (l.set x q) ∧ Fr (· = G) W W' := by
  have cx := hG.cell (i := x) (by omega)
  have fx := hG.frozen x
  have hxi : (x : Int) < (n : Int) := by omega
  have HL := Lib.hid hl
  clear hl
  go_enter Tryd.func80, Tryd.ntmps80
  go_wp2
  go_ret
  exact ⟨rfl, hG.set_ x q, Fr.setCell (O := (· = G)) (p := ⟨G, x, none⟩) (fun _ => rfl) _⟩

/-- The numbers after some visits. -/
def ClV (n : Nat) (l0 : List Int) (q : Int) (G : Nat) (done : List (Nat × Nat)) (w : World) : Prop :=
  ∃ l, NArr w G l ∧ l.length = n ∧ (∀ v, v < n → (∃ p ∈ done, p.2 = v) → l.getD v 0 = q) ∧ ∀ v, v < n → (¬ ∃ p ∈ done, p.2 = v) → l.getD v 0 = l0.getD v 0
theorem comp_visits {R : List (List Nat)} (hR : Valid R) {a : Nat} (ha : a < R.length) {w : World} {N U G : Nat} {q : Int} {l0 : List Int} (hN : w.cell? ⟨N, 0, none⟩ = some (.int .i64 q)) (hU : w.cell? ⟨U, 0, none⟩ = some (.slice (some ⟨G, 0, none⟩) R.length R.length)) (hNG : N ≠ G) (hUG : U ≠ G) :
    Visits R a (· = G) (ClV R.length l0 q G) (fun _ => False) w 80 #[.pointer (some ⟨N, 0, none⟩), .pointer (some ⟨U, 0, none⟩)] := by
  intro k p W hpr hp hv hfr
  obtain ⟨hp1, hp2, _⟩ := bs_next hR ha hpr hp
  obtain ⟨l, h1, h2, h3, h4⟩ := hv
  refine (Comp1_any ((hfr.cell (cell_some_lt hN) hNG).trans hN) ((hfr.cell (cell_some_lt hU) hUG).trans hU) h1 h2 p.2 p.1 hp2).mono ?_
  rintro e W' ⟨rfl, h5, h6⟩
  refine ⟨.inl ⟨rfl, l.set p.2 q, h5, by simp [h2], fun v hv hd => ?_, fun v hv hd => ?_⟩, h6⟩
  · rw [getD_set]
    by_cases e : p.2 = v
    · rw [if_pos ⟨e, by rw [h2]; exact hp2⟩]
    · rw [if_neg (fun h => e h.1)]
      obtain ⟨p', hp', e'⟩ := hd
      rcases List.mem_append.1 hp' with h | h
      · exact h3 v hv ⟨p', h, e'⟩
      · rw [List.mem_singleton] at h
        rw [h] at e'
        exact absurd e' e
  · rw [getD_set]
    by_cases e : p.2 = v
    · exact absurd ⟨p, List.mem_append_right _ (by simp), e⟩ hd
    · rw [if_neg (fun h => e h.1)]
      exact h4 v hv fun ⟨p', hp', e'⟩ => hd ⟨p', List.mem_append_left _ hp', e'⟩

theorem alloc_cellm {w : World} {p : Addr} {u : Value} (o : Obj) (h : w.cell? p = some u) : (w.alloc o).cell? p = some u := by
  rw [World.cell?_alloc_lt _ _ _ (World.block_lt_of_cell? w _ h)]; exact h
/-- A cell of one world, in the next one. -/
theorem keepc {B : Nat} {X w' : World} (h : Below B X w') {b : Nat} (hb : b < B) {u : Value} (hu : X.cell? ⟨b, 0, none⟩ = some u) (hf : X.frozen? ⟨b, 0, none⟩ = false) : w'.cell? ⟨b, 0, none⟩ = some u ∧ w'.frozen? ⟨b, 0, none⟩ = false :=
  ⟨(h.cell (p := ⟨b, 0, none⟩) hb).trans hu, (h.frozen (p := ⟨b, 0, none⟩) hb).trans hf⟩
theorem comp_visits_ {R : List (List Nat)} {n : Nat} (hn : R.length = n) (hR : Valid R) {a : Nat} (ha : a < n) {w : World} {N U G : Nat} {q : Int} {l0 : List Int} (hN : w.cell? ⟨N, 0, none⟩ = some (.int .i64 q)) (hU : w.cell? ⟨U, 0, none⟩ = some (.slice (some ⟨G, 0, none⟩) n n)) (hNG : N ≠ G) (hUG : U ≠ G) :
    Visits R a (· = G) (ClV n l0 q G) (fun _ => False) w 80 #[.pointer (some ⟨N, 0, none⟩), .pointer (some ⟨U, 0, none⟩)] := by
  subst hn
  exact comp_visits hR ha hN hU hNG hUG
theorem search2_n {E : List (List Nat)} {n : Nat} (hn : E.length = n) (hE : Valid E) (hEn : n ≤ 2500) {a : Nat} (ha : a < n) {O : Nat → Prop} {V : List (Nat × Nat) → World → Prop} {Stop : World → Prop} {D : Nat → Prop} {w : World} {f : FuncId} {lb : Array Value}
    (hV : Visits E a O V Stop w f lb) (hOb : ∀ b, O b → b < w.heap.size) (hDO : ∀ b, D b → ¬ O b) (hVs : ∀ done W W', V done W → Below w.heap.size W W' → V done W') (hSs : ∀ W W', Stop W → Below w.heap.size W W' → Stop W')
    {A : Option Addr} {c : Nat} (hG : RowsD IlD w D (.slice A n c) (toI E)) (h0 : V [] w)
    (eg : ∀ args w, (callFunc f args).run Tryd.prog w = .ok (.enter f args) w) :
    Calls Tryd.prog 79 #[.slice A n c, .int .i64 (a : Nat), .func (.func f) #[] lb] w (SrchR E a O V Stop w) := by
  subst hn
  exact search2_any hE hEn ha hV hOb hDO hVs hSs hG h0 eg
theorem ClV.keep {n : Nat} {l0 : List Int} {q : Int} {G : Nat} {done : List (Nat × Nat)} {B : Nat} {w w' : World} (h : ClV n l0 q G done w) (hG : G < B) (hb : Below B w w') : ClV n l0 q G done w' := by
  obtain ⟨l, h1, h2⟩ := h
  exact ⟨l, Arr.below h1 hb hG, h2⟩
theorem ClV.start {n : Nat} {l : List Int} {q : Int} {G : Nat} {w : World} (h : NArr w G l) (hl : l.length = n) : ClV n l q G [] w :=
  ⟨l, h, hl, fun v _ h => (by obtain ⟨p, hp, _⟩ := h; cases hp), fun v _ _ => rfl⟩
theorem Fr.frozen {O : Nat → Prop} {w w' : World} (h : Fr O w w') {b o : Nat} (hb : b < w.heap.size) (ho : ¬ O b) : w'.frozen? ⟨b, o, none⟩ = w.frozen? ⟨b, o, none⟩ := World.frozen?_of_block (w := w) (h.block b hb ho)
theorem below_alloc {w X : World} (h : Below w.heap.size w X) (o : Obj) : Below w.heap.size w (X.alloc o) := h.alloc h.size o
theorem below_next {w X Y : World} (h : Below w.heap.size w X) (k : Below X.heap.size X Y) : Below w.heap.size w Y := h.trans (k.mono h.size)
theorem cells_at {X w' : World} (h : Below X.heap.size X w') {p : Addr} {u : Value} (hu : X.cell? p = some u) : w'.cell? p = some u := (h.cell (World.block_lt_of_cell? X _ hu)).trans hu
theorem madeA {X w' : World} {u : Value} {T : TypeId} (h : Below (X.alloc (.cells #[u] T)).heap.size (X.alloc (.cells #[u] T)) w') : w'.cell? ⟨X.heap.size, 0, none⟩ = some u ∧ w'.frozen? ⟨X.heap.size, 0, none⟩ = false :=
  keepc h (b := X.heap.size) (u := u) (by go_simp) (by go_simp) (by go_simp)
theorem madeB {X w' : World} {u u2 : Value} {T T2 : TypeId} (h : Below ((X.alloc (.cells #[u] T)).alloc (.cells #[u2] T2)).heap.size ((X.alloc (.cells #[u] T)).alloc (.cells #[u2] T2)) w') : w'.cell? ⟨X.heap.size, 0, none⟩ = some u ∧ w'.frozen? ⟨X.heap.size, 0, none⟩ = false ∧ w'.cell? ⟨X.heap.size + 1, 0, none⟩ = some u2 ∧ w'.frozen? ⟨X.heap.size + 1, 0, none⟩ = false :=
  have h1 := keepc h (b := X.heap.size) (u := u) (by go_simp) (by go_simp) (by go_simp)
  have h2 := keepc h (b := X.heap.size + 1) (u := u2) (by go_simp) (by go_simp) (by go_simp)
  ⟨h1.1, h1.2, h2.1, h2.2⟩
theorem Kept.init (w1 : World) : (∀ b o, b < w1.heap.size → w1.drew.cell? ⟨b, o, none⟩ = w1.cell? ⟨b, o, none⟩) ∧ w1.heap.size ≤ w1.drew.heap.size := ⟨fun _ _ _ => rfl, Nat.le_refl _⟩
theorem Kept.alloc {w1 X : World} (h : ∀ b o, b < w1.heap.size → X.cell? ⟨b, o, none⟩ = w1.cell? ⟨b, o, none⟩) (hs : w1.heap.size ≤ X.heap.size) (o : Obj) : (∀ b k, b < w1.heap.size → (X.alloc o).cell? ⟨b, k, none⟩ = w1.cell? ⟨b, k, none⟩) ∧ w1.heap.size ≤ (X.alloc o).heap.size :=
  ⟨fun b k hb => (World.cell?_alloc_lt X o ⟨b, k, none⟩ (Nat.lt_of_lt_of_le hb hs)).trans (h b k hb), Nat.le_trans hs ((Below.refl X.heap.size X).alloc (Nat.le_refl _) o).size⟩
theorem Kept.call {w1 X Y : World} (h : ∀ b o, b < w1.heap.size → X.cell? ⟨b, o, none⟩ = w1.cell? ⟨b, o, none⟩) (hs : w1.heap.size ≤ X.heap.size) (hb : Below X.heap.size X Y) : (∀ b k, b < w1.heap.size → Y.cell? ⟨b, k, none⟩ = w1.cell? ⟨b, k, none⟩) ∧ w1.heap.size ≤ Y.heap.size :=
  ⟨fun b k hlt => (hb.cell (p := ⟨b, k, none⟩) (Nat.lt_of_lt_of_le hlt hs)).trans (h b k hlt), Nat.le_trans hs hb.size⟩
theorem Kept.store {w1 X : World} {p : Addr} {u : Value} (h : ∀ b o, b < w1.heap.size → X.cell? ⟨b, o, none⟩ = w1.cell? ⟨b, o, none⟩) (hs : w1.heap.size ≤ X.heap.size) (hp : w1.heap.size ≤ p.block) : (∀ b k, b < w1.heap.size → (X.setCell p u).cell? ⟨b, k, none⟩ = w1.cell? ⟨b, k, none⟩) ∧ w1.heap.size ≤ (X.setCell p u).heap.size := by
  have hb : Below w1.heap.size X (X.setCell p u) := (Below.refl _ _).setCell hp u
  exact ⟨fun b k hlt => (hb.cell (p := ⟨b, k, none⟩) hlt).trans (h b k hlt), Nat.le_trans hs hb.size⟩
theorem Kept.alloc2 {w1 X : World} (h : (∀ b o, b < w1.heap.size → X.cell? ⟨b, o, none⟩ = w1.cell? ⟨b, o, none⟩) ∧ w1.heap.size ≤ X.heap.size) (o : Obj) : (∀ b k, b < w1.heap.size → (X.alloc o).cell? ⟨b, k, none⟩ = w1.cell? ⟨b, k, none⟩) ∧ w1.heap.size ≤ (X.alloc o).heap.size := Kept.alloc h.1 h.2 o
theorem Kept.store2 {w1 X : World} {p : Addr} {u : Value} (h : (∀ b o, b < w1.heap.size → X.cell? ⟨b, o, none⟩ = w1.cell? ⟨b, o, none⟩) ∧ w1.heap.size ≤ X.heap.size) (hp : w1.heap.size ≤ p.block) : (∀ b k, b < w1.heap.size → (X.setCell p u).cell? ⟨b, k, none⟩ = w1.cell? ⟨b, k, none⟩) ∧ w1.heap.size ≤ (X.setCell p u).heap.size := Kept.store h.1 h.2 hp

/-- What Components and Bipartite begin with. -/
def CmpS (w : World) (E : List (List Nat)) (D : Nat → Prop) (G U : Nat) (A : Option Addr) (wc : World) : Prop :=
  RowsD IlD wc D (.slice A E.length E.length) (toI (bth E)) ∧ wc.cell? ⟨U, 0, none⟩ = some (.slice (some ⟨G, 0, none⟩) E.length E.length) ∧ NArr wc G (List.replicate E.length (-1)) ∧ (∀ b, D b → b ≠ G ∧ b ≠ U) ∧ U ≠ G ∧ w.heap.size ≤ G ∧ w.heap.size ≤ U ∧ Below w.heap.size w wc
def CompR (w : World) (E : List (List Nat)) (e : Ending) (w' : World) : Prop := ∃ G l, e = .returned (.tuple #[.slice (some ⟨G, 0, none⟩) E.length E.length, .int .i64 0]) ∧ NArr w' G l ∧ IsComp (bth E) l ∧ Below w.heap.size w w'

set_option maxHeartbeats 1000000 in
theorem Components_bad {w : World} {v : Value} {names : List ByteArray} {E : List (List Int)} (h : GrV w v names E) (hc : chk names E ≠ 0) :
    Calls Tryd.prog 37 #[v] w fun e w' => e = .returned (.tuple #[.slice none 0 0, .int .i64 (chk names E : Nat)]) ∧ Below w.heap.size w w' := by
  have HC := Lib.hid (fun w' hb => Check_any (h.at w' hb))
  generalize chk names E = q at *
  have hz : (((q : Nat) : Int) != 0) = true := by simp [hc]
  clear hc
  obtain ⟨A1, c1, A', c', rfl, hs, hg⟩ := h
  obtain ⟨W, G, hW, hG, hbW, c0, c1', hGl, hwG⟩ := gbox w (.slice A1 names.length c1) (.slice A' E.length c')
  have HW := Lib.hid hW
  have HG := Lib.hid hG
  clear hW hG hs hg
  go_enter Tryd.func37, Tryd.ntmps37
  go_wp2_with (go_at_call 34; rw [← HW.out]; refine (HC.out _ hbW).mono ?_; rintro e w1 ⟨rfl, hb1⟩)
  go_ret2
  exact ⟨rfl, hbW.trans (hb1.mono hbW.size)⟩
end Go.Proofs.YtpkjdnplmgfbbaaDoor
