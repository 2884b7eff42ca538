/- graph.both, graph.marked, graph.Components. graph.Components. graph.Bipartite. -/
import Derived.Test.YtefcdclmabdmbaaGreatDoorKe
import Derived.Test.YtefcdclmabdmbaaGreatDoorKj
import Derived.Test.YtefcdclmabdmbaaGreatDoorKf
import Derived.Deep.CutBlock
import Derived.Deep.RegionHeld3
import Derived.Test.YtefcdclmabdmbaaGreatDoorKk
namespace Go.Proofs.YtefcdclmabdmbaaGreatDoor
open Go.RowKit

theorem Rws.rows {w : World} {S : Nat} {R : List (List Nat)} {vs : List Value} (h : Rws w S S R vs) (hs : ∀ l ∈ R, ∀ x ∈ l, x ≤ 1000000) (hn : R.length ≤ 1000000) : RowsD IlD w (fun b => S ≤ b ∧ b < w.heap.size) (.slice (some ⟨S, 0, none⟩) R.length R.length) (toI R) := by
  refine ⟨some ⟨S, 0, none⟩, R.length, vs, by rw [toI_length], by rw [toI_length]; exact Nat.le_refl _, by unfold maxLen; omega, by rw [toI_length, h.len], fun _ => ⟨S, 0, rfl, ⟨Nat.le_refl _, h.arr.lt⟩, fun j u hu => by rw [Nat.zero_add, h.arr.cell]; exact hu⟩, fun i u x hu hx => ?_⟩
  unfold toI at hx
  rw [List.getElem?_map] at hx
  cases hr : R[i]? with
  | none => rw [hr] at hx; cases hx
  | some r =>
    rw [hr] at hx
    injection hx with hx
    subst hx
    have ho := h.own i u r hu hr
    obtain ⟨A, c, e, hil⟩ := ho.il (hs r (List.mem_of_getElem? hr))
    refine ⟨A, c, by rw [List.length_map]; exact e, by rw [List.length_map]; exact hil, fun hn => ?_⟩
    rw [List.length_map] at hn
    obtain ⟨g, cap, e2, hb, _, _, _, hc⟩ := own_cells ho hn
    rw [e] at e2
    injection e2 with e3 _ _
    refine ⟨g, 0, e3, hb, ?_⟩
    exact (ho.lt g (by rw [e, e3]; obtain ⟨m, hm⟩ : ∃ m, r.length = m + 1 := ⟨r.length - 1, by omega⟩; rw [hm]; rfl)).2

def BothR2 (w : World) (E : List (List Nat)) (e : Ending) (w' : World) : Prop := ∃ A, e = .returned (.slice A E.length E.length) ∧ RowsD IlD w' (fun b => w.heap.size ≤ b ∧ b < w'.heap.size) (.slice A E.length E.length) (toI (bth E)) ∧ Below w.heap.size w w'

set_option maxHeartbeats 4000000 in
set_option maxRecDepth 100000 in
theorem both_any {w : World} {v : Value} {names : List ByteArray} {E : List (List Nat)} (h : GrV w v names (toI E)) (hk : Ok names E) :
    Calls Tryz.prog 87 #[v] w (BothR2 w E) := by
  have hsm := hk.small
  obtain ⟨A, c, A', c', rfl, hs, hg⟩ := h
  rw [toI_length] at *
  have hr := hg.room
  unfold maxLen at hr
  obtain ⟨w3, G, hW, hG, hbW, c0, f1, hGl, hwG⟩ := gbox w (.slice A names.length c) (.slice A' E.length c')
  replace hg := hg.below hbW
  have HW := Lib.hid hW
  have HG := Lib.hid hG
  have HK := Lib.hid hk
  clear hW hG hs hk c0
  obtain ⟨S, hS⟩ : ∃ S, S = w3.heap.size := ⟨_, rfl⟩
  have HS := Lib.hid hS
  have hSW : w3.heap.size ≤ S := by omega
  have hGS : G < S := by omega
  clear hS
  go_enter Tryz.func87, Tryz.ntmps87
  go_wp2_with (refine wpList_make_arr _ rfl _ _ 23 rfl 55 (.slice none 0 0) 1 24 Tryz.underlying23 (by kernel_rfl) _ _ _ _ E.length rfl rfl rfl rfl (by omega) (by omega) ?_; rw [← HW.out, ← HG.out, ← HS.out]; intro w4 har hb7 hs4; have hrw := Rws.made (base := S) har; have HRW := Lib.hid hrw; have f2 := (hb7.cell (p := ⟨G, 1, none⟩) hGS).trans f1; clear har hrw hs4)
  go_loopw [15] (fun i wr => ∃ (k : Nat) (vs : List Value), k ≤ E.length ∧ i = .int .i64 (k : Nat) ∧ Rws wr S S (bo E k) vs ∧ Below S w3 wr) (fun i _ => E.length - (intOf i).toNat)
  case atStart => exact ⟨0, _, Nat.zero_le _, rfl, HRW.out, hb7⟩
  case round =>
    clear HRW hb7 f2 w4
    obtain ⟨k, vs, hkl, rfl, hrw, hbr⟩ := hrel
    by_cases hlt : k < E.length
    · have hb3 : ∀ w', Below S w3 w' → Below w3.heap.size w3 w' := fun w' hb => by rw [← HS.out]; exact hb
      obtain ⟨b, off, A2, c2, rfl, hrow3, hr1, hr2, hil3⟩ := hg.row hlt
      have hrow := ((bcell (hb3 _ hbr)).1 _ _ (cell_some_lt hrow3)).trans hrow3
      have HB3 := Lib.hid hb3
      clear hb3 hrow3
      have hki : (k : Int) < (E.length : Int) := by omega
      have hk0 : (0 : Int) ≤ (k : Int) := by omega
      go_wp2_with fail
      obtain ⟨wo, hwo⟩ : ∃ wo : World, wo = wr := ⟨_, rfl⟩
      rw [← hwo] at hbr hrow hrw ⊢
      clear hwo wr
      go_loopw [22] (fun i wr => ∃ (j : Nat) (vs : List Value), j ≤ (gr E k).length ∧ i = .int .i64 (j : Nat) ∧ Rws wr S S (bo1 (bo E k) k ((gr E k).take j)) vs ∧ Below S w3 wr) (fun i _ => (gr E k).length - (intOf i).toNat)
      case atStart => exact ⟨0, vs, Nat.zero_le _, rfl, hrw, hbr⟩
      case round =>
        clear hrow hrw hbr
        obtain ⟨j, vs, hjl, rfl, hrw, hbr⟩ := hrel
        by_cases hjt : j < (gr E k).length
        · obtain ⟨x, hx⟩ : ∃ x, (gr E k)[j]? = some x := ⟨_, List.getElem?_eq_getElem hjt⟩
          have hxl : x < E.length := HK.out.valid k hlt x (List.mem_of_getElem? hx)
          obtain ⟨b3, off3, rfl, hcx⟩ := (hil3.below (HB3.out _ hbr)).num hx
          have et : bo1 (bo E k) k ((gr E k).take (j + 1)) = ((bo1 (bo E k) k ((gr E k).take j)).set k (gr (bo1 (bo E k) k ((gr E k).take j)) k ++ [x])).set x (gr ((bo1 (bo E k) k ((gr E k).take j)).set k (gr (bo1 (bo E k) k ((gr E k).take j)) k ++ [x])) x ++ [k]) := by rw [List.take_add_one, hx]; exact bo1_snoc _ _ _ _
          have hRl : (bo1 (bo E k) k ((gr E k).take j)).length = E.length := by rw [bo1_length, bo_length]
          have hll : ∀ v, (gr (bo1 (bo E k) k ((gr E k).take j)) v).length ≤ 3000000 := fun v => by
            have h1 := bo1_len (R := bo E k) (i := k) (by rw [bo_length]; exact hlt) ((gr E k).take j) (fun y hy => by rw [bo_length]; exact HK.out.valid k hlt y (List.mem_of_mem_take hy)) (bo_len HK.out.valid HK.out.deg k (Nat.le_of_lt hlt)) v
            have h2 := HK.out.deg k
            rw [List.length_take] at h1
            omega
          have HT := Lib.hid et
          have HRL := Lib.hid hRl
          have HLL := Lib.hid hll
          clear et hx hRl hll
          generalize bo1 (bo E k) k ((gr E k).take j) = R at *
          obtain ⟨u, A4, c4, hu, rfl, hu1, hu2, hou, hcu, hfu⟩ := hrw.at (x := k) (by rw [HRL.out]; exact hlt)
          have hl1 := HLL.out k
          obtain ⟨R2, hR2⟩ : ∃ R2, R2 = R.set k (gr R k ++ [x]) := ⟨_, rfl⟩
          rw [← hR2] at HT
          have hl2 : (gr R2 x).length ≤ 3000001 := by
            rw [hR2, gr_set (by rw [HRL.out]; exact hlt)]
            split
            · rw [List.length_append]; simp; omega
            · have := HLL.out x; omega
          have HR2 := Lib.hid hR2
          clear hR2
          unfold maxLen at hu2
          have hxi : (x : Int) < (E.length : Int) := by omega
          have hx0 : (0 : Int) ≤ (x : Int) := by omega
          have HU := Lib.hid hu
          clear hu
          go_wp2_with (first
            | (at_builtin; ((refine wpList_pushN wr (by rfl) _ _ (by rfl) S _ (gr R k) (by rfl) hou x _ (by rfl) (by rfl) (by omega) (by have := hbr.size; have := HS.out; omega) ?_)); intro A5 c5 w6 hown6 hg6 hob6; obtain ⟨har6, hrw6⟩ := hrw.push HU.out hg6 hown6 hob6; have hc6 := (har6.cell k).trans HU.out; have hf6 := har6.frozen k; rw [← HR2.out] at hrw6; obtain ⟨u7, A7, c7, hu7, e7, hu71, hu72, hou7, hcu7, hfu7⟩ := hrw6.at (x := x) (by rw [HR2.out, List.length_set, HRL.out]; exact hxl); subst e7; have HU7 := Lib.hid hu7; have hs7 : (w6.setCell ⟨S, k, none⟩ (.slice A5 ((gr R k).length + 1) c5)).heap.size = w6.heap.size := (by simp [World.setCell]); have hb6' : Below S w3 w6 := (hbr.grown hg6 (by rw [HS.out]; exact hbr.size) (fun q hq => (hou.lt q hq).1)); have hb7' : Below S w3 (w6.setCell ⟨S, k, none⟩ (.slice A5 ((gr R k).length + 1) c5)) := hb6'.setCell (p := ⟨S, k, none⟩) (Nat.le_refl _) _; unfold maxLen at hu72; clear hu7)
            | (at_builtin; ((refine wpList_pushN (w6.setCell ⟨S, k, none⟩ (.slice A5 ((gr R k).length + 1) c5)) (by rfl) _ _ (by rfl) S _ (gr R2 x) (by rfl) hou7 k _ (by rfl) (by rw [hs7]; rfl) (by omega) (by have := hb7'.size; have := HS.out; omega) ?_)); intro A8 c8 w8 hown8 hg8 hob8; obtain ⟨har8, hrw8⟩ := hrw6.push HU7.out hg8 hown8 hob8; have hc8 := (har8.cell x).trans HU7.out; have hf8 := har8.frozen x))
          have hb8' : Below S w3 w8 := hb7'.grown hg8 (by have := hb7'.size; have := HS.out; omega) (fun q hq => (hou7.lt q hq).1)
          go_roundw
          case rel => exact ⟨j + 1, _, by omega, by go_num, by rw [HT.out]; exact hrw8, hb8'.setCell (p := ⟨S, x, none⟩) (Nat.le_refl _) _⟩
          case measure => simp [intOf]; omega
        · obtain rfl : j = (gr E k).length := by omega
          rw [List.take_length] at hrw
          go_wp2_with fail
          go_roundw
          case rel => exact ⟨k + 1, vs, by omega, by go_num, hrw, hbr⟩
          case measure => simp [intOf]; omega
    · obtain rfl : k = E.length := by omega
      have hrows := hrw.rows (fun l hl x hx => by
        obtain ⟨v, hv, e⟩ := gr_rows hl
        rw [bo_length] at hv
        rw [e] at hx
        have := bth_valid HK.out.valid v (by rw [bth_length]; exact hv) x hx
        rw [bth_length] at this
        omega) (by rw [bo_length]; omega)
      rw [bo_length] at hrows
      have hrows2 := hrows.mono (D' := fun b => w.heap.size ≤ b ∧ b < wr.heap.size) fun b hb _ => ⟨by have := hbW.size; omega, hb.2⟩
      clear hrows hrw
      go_wp2_with fail
      go_ret
      exact ⟨_, rfl, hrows2, hbW.trans (hbr.mono (by have := hbW.size; have := HS.out; omega))⟩

def MrkR (w : World) (n : Nat) (e : Ending) (w' : World) : Prop := ∃ G, e = .returned (.slice (some ⟨G, 0, none⟩) n n) ∧ NArr w' G (List.replicate n (-1)) ∧ w.heap.size ≤ G ∧ Below w.heap.size w w'
set_option maxHeartbeats 1000000 in
theorem marked_any {w : World} {v : Value} {names : List ByteArray} {E : List (List Nat)} (h : GrV w v names (toI E)) (hk : Ok names E) :
    Calls Tryz.prog 88 #[v] w (MrkR w E.length) := by
  have hsm := hk.small
  obtain ⟨A, c, A', c', rfl, hs, hg⟩ := h
  rw [toI_length] at *
  have hr := hg.room
  unfold maxLen at hr
  obtain ⟨W, G, hW, hG, hbW, c0, c1, hGl, hwG⟩ := gbox w (.slice A names.length c) (.slice A' E.length c')
  obtain ⟨w2, P, hw2, hP⟩ : ∃ w2 P, w2 = W.alloc (.cells #[.int .i64 (-1)] 3) ∧ P = W.heap.size := ⟨_, _, rfl, rfl⟩
  have p0 : w2.cell? ⟨P, 0, none⟩ = some (.int .i64 (-1)) := by rw [hw2, hP]; go_simp
  have hb2 : Below W.heap.size W w2 := by rw [hw2]; exact (Below.refl _ _).alloc (Nat.le_refl _) _
  have hPG : P = G + 1 := by rw [hP, hW, hG]; simp
  have HW := Lib.hid hW
  have HG := Lib.hid hG
  have HW2 := Lib.hid hw2
  have HPG := Lib.hid hPG
  clear hW hG hs hg hk hw2 hP hPG
  go_enter Tryz.func88, Tryz.ntmps88
  go_wp2_with fail
  rw [← HW.out, ← HW2.out, ← HG.out, ← HPG.out]
  refine (Repeat_any p0 E.length (by omega)).mono ?_
  rintro e w3 ⟨rfl, hna, hb3, hs3⟩
  go_wp2_with fail
  go_ret
  exact ⟨w2.heap.size, rfl, hna, Nat.le_trans hbW.size hb2.size, hbW.trans ((hb2.trans (hb3.mono hb2.size)).mono hbW.size)⟩

/-- The numbers after some visits. -/
def ClV (n : Nat) (l0 : List Int) (q : Int) (G : Nat) (done : List (Nat × Nat)) (w : World) : Prop :=
  ∃ l, NArr w G l ∧ l.length = n ∧ (∀ v, v < n → (∃ p ∈ done, p.2 = v) → l.getD v 0 = q) ∧ ∀ v, v < n → (¬ ∃ p ∈ done, p.2 = v) → l.getD v 0 = l0.getD v 0
/-- A cell of one world, in the next one. -/
theorem keepc {B : Nat} {X w' : World} (h : Below B X w') {b : Nat} (hb : b < B) {u : Value} (hu : X.cell? ⟨b, 0, none⟩ = some u) (hf : X.frozen? ⟨b, 0, none⟩ = false) : w'.cell? ⟨b, 0, none⟩ = some u ∧ w'.frozen? ⟨b, 0, none⟩ = false :=
  ⟨(h.cell (p := ⟨b, 0, none⟩) hb).trans hu, (h.frozen (p := ⟨b, 0, none⟩) hb).trans hf⟩
theorem search2_n {E : List (List Nat)} {n : Nat} (hn : E.length = n) (hE : Valid E) (hEn : n ≤ 2500) {a : Nat} (ha : a < n) {O : Nat → Prop} {V : List (Nat × Nat) → World → Prop} {Stop : World → Prop} {D : Nat → Prop} {w : World} {f : FuncId} {lb : Array Value}
    (hV : Visits E a O V Stop w f lb) (hOb : ∀ b, O b → b < w.heap.size) (hDO : ∀ b, D b → ¬ O b) (hVs : ∀ done W W', V done W → Below w.heap.size W W' → V done W') (hSs : ∀ W W', Stop W → Below w.heap.size W W' → Stop W')
    {A : Option Addr} {c : Nat} (hG : RowsD IlD w D (.slice A n c) (toI E)) (h0 : V [] w)
    (eg : ∀ args w, (callFunc f args).run Tryz.prog w = .ok (.enter f args) w) :
    Calls Tryz.prog 89 #[.slice A n c, .int .i64 (a : Nat), .func (.func f) #[] lb] w (SrchR E a O V Stop w) := by
  subst hn
  exact search2_any hE hEn ha hV hOb hDO hVs hSs hG h0 eg
theorem ClV.keep {n : Nat} {l0 : List Int} {q : Int} {G : Nat} {done : List (Nat × Nat)} {B : Nat} {w w' : World} (h : ClV n l0 q G done w) (hG : G < B) (hb : Below B w w') : ClV n l0 q G done w' := by
  obtain ⟨l, h1, h2⟩ := h
  exact ⟨l, Arr.below h1 hb hG, h2⟩
theorem ClV.start {n : Nat} {l : List Int} {q : Int} {G : Nat} {w : World} (h : NArr w G l) (hl : l.length = n) : ClV n l q G [] w :=
  ⟨l, h, hl, fun v _ h => (by obtain ⟨p, hp, _⟩ := h; cases hp), fun v _ _ => rfl⟩
theorem Fr.frozen {O : Nat → Prop} {w w' : World} (h : Fr O w w') {b o : Nat} (hb : b < w.heap.size) (ho : ¬ O b) : w'.frozen? ⟨b, o, none⟩ = w.frozen? ⟨b, o, none⟩ := World.frozen?_of_block (w := w) (h.block b hb ho)
theorem below_alloc {w X : World} (h : Below w.heap.size w X) (o : Obj) : Below w.heap.size w (X.alloc o) := h.alloc h.size o
theorem below_next {w X Y : World} (h : Below w.heap.size w X) (k : Below X.heap.size X Y) : Below w.heap.size w Y := h.trans (k.mono h.size)
theorem madeA {X w' : World} {u : Value} {T : TypeId} (h : Below (X.alloc (.cells #[u] T)).heap.size (X.alloc (.cells #[u] T)) w') : w'.cell? ⟨X.heap.size, 0, none⟩ = some u ∧ w'.frozen? ⟨X.heap.size, 0, none⟩ = false :=
  keepc h (b := X.heap.size) (u := u) (by go_simp) (by go_simp) (by go_simp)
theorem madeB {X w' : World} {u u2 : Value} {T T2 : TypeId} (h : Below ((X.alloc (.cells #[u] T)).alloc (.cells #[u2] T2)).heap.size ((X.alloc (.cells #[u] T)).alloc (.cells #[u2] T2)) w') : w'.cell? ⟨X.heap.size, 0, none⟩ = some u ∧ w'.frozen? ⟨X.heap.size, 0, none⟩ = false ∧ w'.cell? ⟨X.heap.size + 1, 0, none⟩ = some u2 ∧ w'.frozen? ⟨X.heap.size + 1, 0, none⟩ = false :=
  have h1 := keepc h (b := X.heap.size) (u := u) (by go_simp) (by go_simp) (by go_simp)
  have h2 := keepc h (b := X.heap.size + 1) (u := u2) (by go_simp) (by go_simp) (by go_simp)
  ⟨h1.1, h1.2, h2.1, h2.2⟩
theorem Kept.init (w1 : World) : (∀ b o, b < w1.heap.size → w1.drew.cell? ⟨b, o, none⟩ = w1.cell? ⟨b, o, none⟩) ∧ w1.heap.size ≤ w1.drew.heap.size := ⟨fun _ _ _ => rfl, Nat.le_refl _⟩
theorem Kept.alloc {w1 X : World} (h : ∀ b o, b < w1.heap.size → X.cell? ⟨b, o, none⟩ = w1.cell? ⟨b, o, none⟩) (hs : w1.heap.size ≤ X.heap.size) (o : Obj) : (∀ b k, b < w1.heap.size → (X.alloc o).cell? ⟨b, k, none⟩ = w1.cell? ⟨b, k, none⟩) ∧ w1.heap.size ≤ (X.alloc o).heap.size :=
  ⟨fun b k hb => (World.cell?_alloc_lt X o ⟨b, k, none⟩ (Nat.lt_of_lt_of_le hb hs)).trans (h b k hb), Nat.le_trans hs ((Below.refl X.heap.size X).alloc (Nat.le_refl _) o).size⟩
theorem Kept.call {w1 X Y : World} (h : ∀ b o, b < w1.heap.size → X.cell? ⟨b, o, none⟩ = w1.cell? ⟨b, o, none⟩) (hs : w1.heap.size ≤ X.heap.size) (hb : Below X.heap.size X Y) : (∀ b k, b < w1.heap.size → Y.cell? ⟨b, k, none⟩ = w1.cell? ⟨b, k, none⟩) ∧ w1.heap.size ≤ Y.heap.size :=
  ⟨fun b k hlt => (hb.cell (p := ⟨b, k, none⟩) (Nat.lt_of_lt_of_le hlt hs)).trans (h b k hlt), Nat.le_trans hs hb.size⟩
theorem Kept.store {w1 X : World} {p : Addr} {u : Value} (h : ∀ b o, b < w1.heap.size → X.cell? ⟨b, o, none⟩ = w1.cell? ⟨b, o, none⟩) (hs : w1.heap.size ≤ X.heap.size) (hp : w1.heap.size ≤ p.block) : (∀ b k, b < w1.heap.size → (X.setCell p u).cell? ⟨b, k, none⟩ = w1.cell? ⟨b, k, none⟩) ∧ w1.heap.size ≤ (X.setCell p u).heap.size := by
  have hb : Below w1.heap.size X (X.setCell p u) := (Below.refl _ _).setCell hp u
  exact ⟨fun b k hlt => (hb.cell (p := ⟨b, k, none⟩) hlt).trans (h b k hlt), Nat.le_trans hs hb.size⟩
theorem Kept.alloc2 {w1 X : World} (h : (∀ b o, b < w1.heap.size → X.cell? ⟨b, o, none⟩ = w1.cell? ⟨b, o, none⟩) ∧ w1.heap.size ≤ X.heap.size) (o : Obj) : (∀ b k, b < w1.heap.size → (X.alloc o).cell? ⟨b, k, none⟩ = w1.cell? ⟨b, k, none⟩) ∧ w1.heap.size ≤ (X.alloc o).heap.size := Kept.alloc h.1 h.2 o
theorem Kept.store2 {w1 X : World} {p : Addr} {u : Value} (h : (∀ b o, b < w1.heap.size → X.cell? ⟨b, o, none⟩ = w1.cell? ⟨b, o, none⟩) ∧ w1.heap.size ≤ X.heap.size) (hp : w1.heap.size ≤ p.block) : (∀ b k, b < w1.heap.size → (X.setCell p u).cell? ⟨b, k, none⟩ = w1.cell? ⟨b, k, none⟩) ∧ w1.heap.size ≤ (X.setCell p u).heap.size := Kept.store h.1 h.2 hp

/-- What Components and Bipartite begin with. -/
def CmpS (w : World) (E : List (List Nat)) (D : Nat → Prop) (G U : Nat) (A : Option Addr) (wc : World) : Prop :=
  RowsD IlD wc D (.slice A E.length E.length) (toI (bth E)) ∧ wc.cell? ⟨U, 0, none⟩ = some (.slice (some ⟨G, 0, none⟩) E.length E.length) ∧ NArr wc G (List.replicate E.length (-1)) ∧ (∀ b, D b → b ≠ G ∧ b ≠ U) ∧ U ≠ G ∧ w.heap.size ≤ G ∧ w.heap.size ≤ U ∧ Below w.heap.size w wc
end Go.Proofs.YtefcdclmabdmbaaGreatDoor

namespace Go.Proofs.YtefcdclmabdmbaaGreatDoor
open Go.RowKit
/-- Nothing but two blocks has changed. -/
def Kp (wm : World) (U N : Nat) (X : World) : Prop := wm.heap.size ≤ X.heap.size ∧ ∀ b, b < wm.heap.size → b ≠ U → b ≠ N → X.heap[b]? = wm.heap[b]?
theorem Kp.refl (wm : World) (U N : Nat) : Kp wm U N wm := ⟨Nat.le_refl _, fun _ _ _ _ => rfl⟩
theorem Kp.alloc {wm X : World} {U N : Nat} (h : Kp wm U N X) (o : Obj) : Kp wm U N (X.alloc o) := by
  have hb : Below X.heap.size X (X.alloc o) := (Below.refl _ _).alloc (Nat.le_refl _) o
  exact ⟨Nat.le_trans h.1 hb.size, fun b h1 h2 h3 => (hb.block b (Nat.lt_of_lt_of_le h1 h.1)).trans (h.2 b h1 h2 h3)⟩
theorem Kp.setU {wm X : World} {U N : Nat} (h : Kp wm U N X) (k : Nat) (v : Value) : Kp wm U N (X.setCell ⟨U, k, none⟩ v) :=
  ⟨by simpa [World.setCell] using h.1, fun b h1 h2 h3 => (Below.heap_setCell _ _ _ _ (fun e => h2 e)).trans (h.2 b h1 h2 h3)⟩
end Go.Proofs.YtefcdclmabdmbaaGreatDoor

namespace Go.Proofs.YtefcdclmabdmbaaGreatDoor
open Go.RowKit

/-- One visit of a search that colours. -/
def bvis (a : Nat) (l : List Int) (p : Nat × Nat) : List Int := if p.2 = a then l else l.set p.2 (1 - l.getD p.1 0)
theorem bne_castN {a b : Nat} : ((a : Int) != (b : Int)) = decide (¬ a = b) := by
  by_cases h : a = b
  · subst h; simp
  · rw [decide_eq_true h]
    exact bne_iff_ne.2 (by omega)

set_option maxHeartbeats 1000000 in
set_option maxRecDepth 100000 in
theorem Bip1_any {W : World} {F U G n a : Nat} {l : List Int} (hF : W.cell? ⟨F, 0, none⟩ = some (.int .i64 (a : Nat))) (hU : W.cell? ⟨U, 0, none⟩ = some (.slice (some ⟨G, 0, none⟩) n n)) (hG : NArr W G l) (hl : l.length = n)
    (hs : ∀ v, v < n → -1 ≤ l.getD v 0 ∧ l.getD v 0 ≤ 1) (x y : Nat) (hx : x < n) (hy : y < n) :
    Calls Tryz.prog 90 #[.int .i64 (x : Nat), .int .i64 (y : Nat), .pointer (some ⟨F, 0, none⟩), .pointer (some ⟨U, 0, none⟩)] W fun e W' => e = .returned (.bool true) ∧ NArr W' G (bvis a l (y, x)) ∧ Fr (· = G) W W' := by
  have cx := hG.cell (i := x) (by omega)
  have cy := hG.cell (i := y) (by omega)
  have fx := hG.frozen x
  have HL := Lib.hid hl
  have hxi : (x : Int) < (n : Int) := by omega
  have hyi : (y : Int) < (n : Int) := by omega
  have hsy := hs y hy
  have HV : Hid (∀ u, u = bvis a l (y, x) → (x = a → u = l) ∧ (¬ x = a → u = l.set x (1 - l.getD y 0))) := Lib.hid (fun u hu => by subst hu; unfold bvis; exact ⟨fun h => if_pos h, fun h => if_neg h⟩)
  clear hl hs
  generalize hv : bvis a l (y, x) = u at *
  have HVV := HV.out u rfl
  obtain ⟨z, hz⟩ : ∃ z, l.getD y 0 = z := ⟨_, rfl⟩
  rw [hz] at cy hsy HVV
  by_cases hxa : x = a
  · have hb : ((x : Int) != (a : Int)) = false := by rw [bne_castN]; simp [hxa]
    have HU2 := Lib.hid (HVV.1 hxa)
    clear HVV HV hv hz hxa
    go_enter Tryz.func90, Tryz.ntmps90
    go_wp2
    go_ret
    refine ⟨rfl, ?_, Fr.refl _ _⟩
    rw [HU2.out]
    exact hG
  · have hb : ((x : Int) != (a : Int)) = true := by rw [bne_castN]; simp [hxa]
    have HU2 := Lib.hid (HVV.2 hxa)
    clear HVV HV hv hz hxa
    have hw : IntKind.i64.wrap (1 - z) = 1 - z := IntWalk.i64_in _ (by omega)
    go_enter Tryz.func90, Tryz.ntmps90
    go_wp2
    go_still_tail 8, (by kernel_rfl)
    have hG2 : NArr W.drew G l := hG
    have cx2 : W.drew.cell? ⟨G, x, none⟩ = _ := cx
    have fx2 : W.drew.frozen? ⟨G, x, none⟩ = false := fx
    have fr2 : Fr (· = G) W W.drew := (Fr.refl _ _).drew
    change wpList _ _ _ _ _ W.drew
    clear hG cx fx hF hU cy
    generalize W.drew = w3 at *
    go_wp2
    go_ret
    refine ⟨rfl, ?_, fr2.trans (Fr.setCell (O := (· = G)) (p := ⟨G, x, none⟩) (fun _ => rfl) _)⟩
    rw [HU2.out]
    exact hG2.set_ x _

set_option maxHeartbeats 1000000 in
set_option maxRecDepth 100000 in
theorem Bip2_any {W : World} {U B G n x y : Nat} {l : List Int} (hU : W.cell? ⟨U, 0, none⟩ = some (.slice (some ⟨G, 0, none⟩) n n)) (hB : W.cell? ⟨B, 0, none⟩ = some (.int .i64 (y : Nat))) (hG : NArr W G l) (hl : l.length = n) (hx : x < n) (hy : y < n) :
    Calls Tryz.prog 92 #[.int .i64 (x : Nat), .pointer (some ⟨U, 0, none⟩), .pointer (some ⟨B, 0, none⟩)] W fun e W' => e = .returned (.bool (l.getD x 0 == l.getD y 0)) ∧ Below W.heap.size W W' := by
  have cx := hG.cell (i := x) (by omega)
  have cy := hG.cell (i := y) (by omega)
  have hxi : (x : Int) < (n : Int) := by omega
  have hyi : (y : Int) < (n : Int) := by omega
  generalize l.getD x 0 = u at *
  generalize l.getD y 0 = z at *
  clear hl hG
  go_enter Tryz.func92, Tryz.ntmps92
  go_wp2_with fail
  go_quiet (fail)
  go_wp2_with fail
  go_ret
  exact ⟨rfl, below_drewN' (Below.refl _ _) _⟩

/-- The colours after some visits. -/
def BlV (R : List (List Nat)) (i G : Nat) (done : List (Nat × Nat)) (w : World) : Prop :=
  ∃ l, NArr w G l ∧ ColI R (fun v => Under R i v ∨ v = i ∨ ∃ p ∈ done, p.2 = v) l
theorem bip_visits {R : List (List Nat)} {n : Nat} (hn : R.length = n) (hR : Valid R) {a : Nat} (ha : a < n) {w : World} {F U G : Nat} (hF : w.cell? ⟨F, 0, none⟩ = some (.int .i64 (a : Nat))) (hU : w.cell? ⟨U, 0, none⟩ = some (.slice (some ⟨G, 0, none⟩) n n)) (hFG : F ≠ G) (hUG : U ≠ G) :
    Visits R a (· = G) (BlV R a G) (fun _ => False) w 90 #[.pointer (some ⟨F, 0, none⟩), .pointer (some ⟨U, 0, none⟩)] := by
  subst hn
  intro k p W hpr hp hv hfr
  obtain ⟨hp1, hp2, hp3⟩ := bs_next hR ha hpr hp
  obtain ⟨l, h1, h2⟩ := hv
  refine (Bip1_any ((hfr.cell (cell_some_lt hF) hFG).trans hF) ((hfr.cell (cell_some_lt hU) hUG).trans hU) h1 h2.1 (fun v hv => h2.small hv) p.2 p.1 hp2 hp1).mono ?_
  rintro e W' ⟨rfl, h5, h6⟩
  refine ⟨.inl ⟨rfl, bvis a l (p.1, p.2), h5, ?_⟩, h6⟩
  unfold bvis
  rcases hp3 with ⟨_, e⟩ | ⟨h7, h8, ⟨q, hq, hq2⟩, _⟩
  · rw [if_pos (by rw [e])]
    refine h2.imp fun v _ => ⟨fun h => ?_, fun h => ?_⟩
    · rcases h with h | h | ⟨p', h, h'⟩
      · exact .inl h
      · exact .inr (.inl h)
      · exact .inr (.inr ⟨p', List.mem_append_left _ h, h'⟩)
    · rcases h with h | h | ⟨p', h, h'⟩
      · exact .inl h
      · exact .inr (.inl h)
      · rcases List.mem_append.1 h with h | h
        · exact .inr (.inr ⟨p', h, h'⟩)
        · rw [List.mem_singleton] at h
          rw [h, e] at h'
          exact .inr (.inl h'.symm)
  · rw [if_neg h7]
    refine (h2.edge hp1 hp2 (.inr (.inr ⟨q, hq, hq2⟩)) h8).imp fun v _ => ⟨fun h => ?_, fun h => ?_⟩
    · rcases h with (h | h | ⟨p', h, h'⟩) | h
      · exact .inl h
      · exact .inr (.inl h)
      · exact .inr (.inr ⟨p', List.mem_append_left _ h, h'⟩)
      · exact .inr (.inr ⟨p, List.mem_append_right _ (by simp), h.symm⟩)
    · rcases h with h | h | ⟨p', h, h'⟩
      · exact .inl (.inl h)
      · exact .inl (.inr (.inl h))
      · rcases List.mem_append.1 h with h | h
        · exact .inl (.inr (.inr ⟨p', h, h'⟩))
        · rw [List.mem_singleton] at h
          rw [h] at h'
          exact .inr h'.symm
theorem BlV.keep {R : List (List Nat)} {i G : Nat} {done : List (Nat × Nat)} {B : Nat} {w w' : World} (h : BlV R i G done w) (hG : G < B) (hb : Below B w w') : BlV R i G done w' := by
  obtain ⟨l, h1, h2⟩ := h
  exact ⟨l, Arr.below h1 hb hG, h2⟩
theorem BlV.start {R : List (List Nat)} {i G : Nat} {l : List Int} {w : World} (h : NArr w G l) (hc : ColI R (fun v => Under R i v ∨ v = i) l) : BlV R i G [] w :=
  ⟨l, h, hc.imp fun v _ => ⟨fun h => h.elim .inl (fun h => .inr (.inl h)), fun h => h.elim .inl (fun h => h.elim .inr (fun ⟨_, hp, _⟩ => by cases hp))⟩⟩
theorem BlV.done {R : List (List Nat)} (hR : Valid R) {i k G : Nat} {w : World} (hi : i < R.length) (hq : (bs R i k).q.length = k) (hpr : ∀ j, j < k → ∃ p, (bs R i j).q[j]? = some p) (h : BlV R i G (bs R i k).q w) : ∃ l, NArr w G l ∧ ColI R (Under R (i + 1)) l := by
  obtain ⟨l, h1, h2⟩ := h
  refine ⟨l, h1, h2.imp fun v _ => ?_⟩
  rw [under_succ, bs_con hR hi hq hpr v]
  constructor
  · rintro (h | h | h)
    · exact .inl h
    · rw [h]; exact .inr (Con.refl R i)
    · exact .inr h
  · rintro (h | h)
    · exact .inl h
    · exact .inr (.inr h)

theorem bip_fin {w wm wf : World} {E : List (List Nat)} {G U G0 : Nat} {A2 : Option Addr} {v0 : Value} {D : Nat → Prop} (hrw : RowsD IlD wm D (.slice A2 E.length E.length) (toI (bth E))) (hna : NArr wm G (List.replicate E.length (-1))) (hkp : Kp wm U U wf)
    (hU : wf.cell? ⟨U, 0, none⟩ = some (.slice (some ⟨G, 0, none⟩) E.length E.length)) (h0 : wm.cell? ⟨G0, 1, none⟩ = some v0) (hb : Below w.heap.size w wf)
    (hs : w.heap.size ≤ G ∧ w.heap.size ≤ U ∧ U ≠ G ∧ G0 ≠ G ∧ G0 ≠ U) (hd : ∀ b, D b → b ≠ G ∧ b ≠ U) :
    ∃ (A : Option Addr) (U' G' : Nat) (D : Nat → Prop), (Value.slice A2 E.length E.length) = .slice A E.length E.length ∧ (Value.pointer (some ⟨U, 0, none⟩)) = .pointer (some ⟨U', 0, none⟩) ∧ wf.cell? ⟨G0, 1, none⟩ = some v0 ∧ Hid (CmpS w E D G' U' A wf) ∧ Hid (G0 ≠ G' ∧ G0 ≠ U') := by
  obtain ⟨h1, h2, h3, h4, h5⟩ := hs
  refine ⟨A2, U, G, D, rfl, rfl, (World.cell?_of_block (w := wm) (hkp.2 G0 (cell_some_lt h0) h5 h5)).trans h0, Lib.hid ⟨hrw.keep fun b hb hl => hkp.2 b hl (hd b hb).2 (hd b hb).2, hU, ?_, fun b hb => hd b hb, h3, h1, h2, hb⟩, Lib.hid ⟨h4, h5⟩⟩
  have hl := hna.lt
  exact (hkp.2 G hl h3.symm h3.symm).trans hna

set_option maxHeartbeats 4000000 in
set_option maxRecDepth 100000 in
theorem Bipartite_ok {w : World} {v : Value} {names : List ByteArray} {E : List (List Nat)} (h : GrV w v names (toI E)) (hc : chk names (toI E) = 0) (hk : Ok names E) :
    Calls Tryz.prog 24 #[v] w (BipR w E) := by
  have hsm := hk.small
  have HC := Lib.hid (fun w' hb => Check_any (h.at w' hb))
  rw [hc] at HC
  have HB := Lib.hid (fun w' hb => both_any (h.at w' hb) hk)
  have HM := Lib.hid (fun w' hb => marked_any (h.at w' hb) hk)
  have eg := enters_of Tryz.func90 (by kernel_rfl) rfl
  have EG := Lib.hid eg
  have eg2 := enters_of Tryz.func92 (by kernel_rfl) rfl
  have EG2 := Lib.hid eg2
  have HK := Lib.hid hk
  clear hc eg eg2 hk
  obtain ⟨A1, c1, A', c', hv, hs, hg⟩ := h
  rw [toI_length] at hv hg
  subst hv
  have HGL := Lib.hid (fun w' (hb : Below w.heap.size w w') => hg.below hb)
  have hrg := hg.room
  unfold maxLen at hrg
  obtain ⟨W, G0, hW, hG, hbW, c0, c1', hGl, hwG⟩ := gbox w (.slice A1 names.length c1) (.slice A' E.length c')
  have HW := Lib.hid hW
  have HG := Lib.hid hG
  clear hW hG hs hg
  go_enter Tryz.func24, Tryz.ntmps24
  go_upto_region 4 with (go_at_call 83; rw [← HW.out, ← HG.out]; refine (HC.out _ hbW).mono ?_; rintro e w1 ⟨rfl, hb1⟩; obtain ⟨d0, d1⟩ := keep2 hb1 c0 c1'; have hb2 := hbW.trans (hb1.mono hbW.size))
  go_cut [5, 6] (fun a b wx => ∃ (A : Option Addr) (U G : Nat) (D : Nat → Prop), a = .slice A E.length E.length ∧ b = .pointer (some ⟨U, 0, none⟩) ∧ wx.cell? ⟨G0, 1, none⟩ = some (.slice A' E.length c') ∧ Hid (CmpS w E D G U A wx) ∧ Hid (G0 ≠ G ∧ G0 ≠ U))
  case first =>
    rename_i K0 h0 J0 K1 hJ hK
    clear h0 HC HW HG hGl hb1 c0 c1' hbW hrg
    have dd0 : w1.drew.cell? ⟨G0, 0, none⟩ = some (.slice A1 names.length c1) := d0
    have dd1 : w1.drew.cell? ⟨G0, 1, none⟩ = some (.slice A' E.length c') := d1
    have gl := cell_some_lt d0
    have gl2 := Nat.lt_succ_of_lt gl
    go_region_held3 (fun w' => (∀ b o, b < w1.heap.size → w'.cell? ⟨b, o, none⟩ = w1.cell? ⟨b, o, none⟩) ∧ w1.heap.size ≤ w'.heap.size)
      (first | exact Kept.init w1 | (go_split_ands; exact Kept.alloc (by assumption) (by assumption) _) | (go_split_ands; exact Kept.call (by assumption) (by assumption) (by assumption)) | (go_split_ands; exact Kept.store (by assumption) (by assumption) (by omega)) | (go_split_ands; (repeat' (first | assumption | exact ⟨by assumption, by assumption⟩ | exact Kept.init _ | refine Kept.alloc2 ?_ _ | refine Kept.store2 ?_ (by show _ ≤ _; simp only []; omega) | refine Kept.store2 ?_ (by omega))); done))
      (first
      | (go_at_call 87; refine (HB.out _ (by (first | exact hb2 | exact Below.drew hb2 | exact below_alloc hb2 _ | exact below_alloc (below_alloc hb2 _) _ | exact below_alloc (Below.drew hb2) _ | exact below_alloc (below_alloc (Below.drew hb2) _) _))).mono ?_; rintro e wb ⟨A2, rfl, hrows, hbb⟩; have hb3 := below_next (by (first | exact hb2 | exact Below.drew hb2 | exact below_alloc hb2 _ | exact below_alloc (below_alloc hb2 _) _ | exact below_alloc (Below.drew hb2) _ | exact below_alloc (below_alloc (Below.drew hb2) _) _)) hbb; have hb1b := below_next (w := w1) (by (first | exact (Below.refl w1.heap.size w1) | exact Below.drew (Below.refl w1.heap.size w1) | exact below_alloc (Below.refl w1.heap.size w1) _ | exact below_alloc (below_alloc (Below.refl w1.heap.size w1) _) _ | exact below_alloc (Below.drew (Below.refl w1.heap.size w1)) _ | exact below_alloc (below_alloc (Below.drew (Below.refl w1.heap.size w1)) _) _)) hbb; have kwb : (∀ b o, b < w1.heap.size → wb.cell? ⟨b, o, none⟩ = w1.cell? ⟨b, o, none⟩) ∧ w1.heap.size ≤ wb.heap.size := ⟨fun b o hlt => hb1b.cell (p := ⟨b, o, none⟩) hlt, hb1b.size⟩; (first | (have hm := madeB (X := w1.drew) hbb; obtain ⟨m0, mf0, m1, mf1⟩ := hm; change wb.cell? ⟨w1.heap.size, 0, none⟩ = _ at m0; change wb.frozen? ⟨w1.heap.size, 0, none⟩ = _ at mf0; change wb.cell? ⟨w1.heap.size + 1, 0, none⟩ = _ at m1; change wb.frozen? ⟨w1.heap.size + 1, 0, none⟩ = _ at mf1) | (have hm := madeA (X := w1.drew) hbb; obtain ⟨m0, mf0⟩ := hm; change wb.cell? ⟨w1.heap.size, 0, none⟩ = _ at m0; change wb.frozen? ⟨w1.heap.size, 0, none⟩ = _ at mf0) | skip))
      | (go_at_call 88; refine (HM.out _ (by (first | exact hb3 | exact Below.drew hb3 | exact below_alloc hb3 _ | exact below_alloc (below_alloc hb3 _) _ | exact below_alloc (Below.drew hb3) _ | exact below_alloc (below_alloc (Below.drew hb3) _) _))).mono ?_; rintro e wm ⟨G, rfl, hna, hGb, hbm⟩; have hb4 := below_next (by (first | exact hb3 | exact Below.drew hb3 | exact below_alloc hb3 _ | exact below_alloc (below_alloc hb3 _) _ | exact below_alloc (Below.drew hb3) _ | exact below_alloc (below_alloc (Below.drew hb3) _) _)) hbm; have hbw := below_next (w := wb) (by (first | exact (Below.refl _ _) | exact Below.drew (Below.refl _ _) | exact below_alloc (Below.refl _ _) _ | exact below_alloc (below_alloc (Below.refl _ _) _) _ | exact below_alloc (Below.drew (Below.refl _ _)) _ | exact below_alloc (below_alloc (Below.drew (Below.refl _ _)) _) _)) hbm; have hb1m := below_next hb1b hbw; have kwm : (∀ b o, b < w1.heap.size → wm.cell? ⟨b, o, none⟩ = w1.cell? ⟨b, o, none⟩) ∧ w1.heap.size ≤ wm.heap.size := ⟨fun b o hlt => hb1m.cell (p := ⟨b, o, none⟩) hlt, hb1m.size⟩; have hrw := hrows.below hbw; have hsb := hbb.size; have hG2 : wb.heap.size ≤ G := Nat.le_trans (by first | exact Nat.le_refl _ | exact (Below.size (below_alloc (Below.refl wb.heap.size wb) _)) | exact (Below.size (below_alloc (below_alloc (Below.refl wb.heap.size wb) _) _))) hGb; have hGl2 := hna.lt; (try (have hm := keepc hbw (cell_some_lt m0) m0 mf0; obtain ⟨n0, nf0⟩ := hm; have q0 := cell_some_lt m0; have q1 := cell_some_lt n0; have s0 := Nat.ne_of_lt q0; have s1 := Nat.ne_of_lt q1; have s2 := s0.symm; have s3 := s1.symm)); (try (have hm := keepc hbw (cell_some_lt m1) m1 mf1; obtain ⟨n1, nf1⟩ := hm; have q2 := cell_some_lt n1)); (first | (have hm := madeB (X := wb) hbm; obtain ⟨o0, of0, o1, of1⟩ := hm) | (have hm := madeA (X := wb) hbm; obtain ⟨o0, of0⟩ := hm; have q5 := cell_some_lt o0; have s5 := Nat.ne_of_lt q5; have s6 := s5.symm) | skip)))
    all_goals
      go_wp2_with fail
      go_meet
      have e1 := hb2.size
      have k1 := (kwm.1 G0 1 gl).trans d1
      refine bip_fin hrw hna ?_ ?_ k1 ?_ ?_ ?_
      · (repeat' (first | exact Kp.refl _ _ _ | refine Kp.alloc ?_ _ | refine Kp.setU ?_ _ _))
      · go_simp
      · (repeat' (first | exact hb4 | refine below_alloc ?_ _ | refine Below.setCell ?_ (by dsimp only; (try simp at hsb); omega) _))
      · clear hrw hrows hna
        simp at hsb hGb hG2 ⊢
        omega
      · intro b hb
        simp at hb hsb hGb hG2 ⊢
        omega
  case rest =>
    obtain ⟨A, U, G, D, rfl, rfl, hd1, hS, hG0⟩ := hcut
    obtain ⟨hR, hU, hGa, hDG, hUG, hwG2, hwU, hbc⟩ := hS.out
    obtain ⟨hG0G, hG0U⟩ := hG0.out
    clear hS hG0
    have hbl := bth_length E
    have HD := Lib.hid hDG
    have HE := Lib.hid (And.intro (bth_valid HK.out.valid) (bth_sym HK.out.valid))
    have HR := Lib.hid hR
    have HU := Lib.hid hU
    have HD1 := Lib.hid hd1
    have HBL := Lib.hid hbl
    have lU := cell_some_lt hU
    have l0 := cell_some_lt hd1
    have lG := hGa.lt
    have h0 : ColI (bth E) (Under (bth E) 0) (List.replicate E.length (-1)) := by rw [← hbl]; exact colI_first
    have H0 := Lib.hid h0
    clear hR hDG hbl h0 hd1
    go_wp2_with fail
    go_loopw [21] (fun i wr => ∃ (k : Nat) (l : List Int), k ≤ E.length ∧ i = .int .i64 (k : Nat) ∧ NArr wr G l ∧ Hid (ColI (bth E) (Under (bth E) k) l) ∧ Fr (· = G) wc wr) (fun i _ => E.length - (intOf i).toNat)
    case atStart => exact ⟨0, _, Nat.zero_le _, rfl, hGa, H0, Fr.refl _ _⟩
    case round =>
      clear hU hGa H0
      obtain ⟨k, l, hkl, rfl, hna, hco, hfr⟩ := hrel
      have hU := (hfr.cell (o := 0) lU hUG).trans HU.out
      have hll := hco.out.1
      rw [HBL.out] at hll
      by_cases hlt : k < E.length
      · have hki : (k : Int) < (E.length : Int) := by omega
        have hk0 : (0 : Int) ≤ (k : Int) := by omega
        obtain ⟨wI, I, hwI, hI⟩ : ∃ wI I, wI = wr.alloc (.cells #[.int .i64 (k : Nat)] 3) ∧ I = wr.heap.size := ⟨_, _, rfl, rfl⟩
        have hbI : Below wr.heap.size wr wI := by rw [hwI]; exact (Below.refl _ _).alloc (Nat.le_refl _) _
        have hcI : wI.cell? ⟨I, 0, none⟩ = some (.int .i64 (k : Nat)) := by rw [hwI, hI]; go_simp
        have hnaI := hna.below hbI
        have hUI := (hbI.cell (p := ⟨U, 0, none⟩) (cell_some_lt hU)).trans hU
        have hGr := hna.lt
        have hIG : I ≠ G := by omega
        have hfrI : Fr (· = G) wc wI := hfr.over (hbI.mono hfr.size)
        have HWI := Lib.hid hwI
        have HI := Lib.hid hI
        clear hwI hI hU hna hfr hbI hGr
        go_upto_region 8 with (fail)
        rw [← HWI.out, ← HI.out]
        clear HWI HI
        have ck := hnaI.cell (i := k) (by omega)
        have fk := hnaI.frozen k
        obtain ⟨y, hy⟩ : ∃ y, y = l.getD k 0 := ⟨_, rfl⟩
        rw [← hy] at ck
        have HY := Lib.hid hy
        clear hy
        by_cases hneg : y < 0
        · have cn : decide (y < 0) = true := decide_eq_true hneg
          have hcol := hco.out.root (i := k) (by rw [HBL.out]; exact hlt) (under_root fun hu => (by have := (hco.out.iff (v := k) (by rw [HBL.out]; exact hlt)).2 hu; rw [← HY.out] at this; omega))
          have HCOL := Lib.hid hcol
          clear hneg hcol hco
          obtain ⟨w2, hw2⟩ : ∃ w2, w2 = wI.setCell ⟨G, k, none⟩ (.int .i64 0) := ⟨_, rfl⟩
          have hna2 : NArr w2 G (l.set k 0) := by rw [hw2]; exact hnaI.set_ k 0
          have hcI2 : w2.cell? ⟨I, 0, none⟩ = some (.int .i64 (k : Nat)) := by rw [hw2, World.cell?_of_block (Below.heap_setCell _ _ _ _ (fun e => hIG e))]; exact hcI
          have hUI2 : w2.cell? ⟨U, 0, none⟩ = some (.slice (some ⟨G, 0, none⟩) E.length E.length) := by rw [hw2, World.cell?_of_block (Below.heap_setCell _ _ _ _ (fun e => hUG e))]; exact hUI
          have hfr2 : Fr (· = G) wc w2 := by rw [hw2]; exact hfrI.trans (Fr.setCell (O := (· = G)) (p := ⟨G, k, none⟩) (fun _ => rfl) _)
          have HW2 := Lib.hid hw2
          clear hw2
          go_upto_region 10 with (fail)
          rw [← HW2.out]
          clear HW2 hnaI hcI hUI hfrI ck fk cn
          have hR := HR.out.keep (w' := w2) fun b hb hl => hfr2.block b hl (HD.out b hb).1
          have HRr := Lib.hid hR
          have hcv := bip_visits HBL.out HE.out.1 (a := k) hlt hcI2 hUI2 hIG hUG
          have HCV := Lib.hid hcv
          have hcs := BlV.start hna2 HCOL.out
          have HCS := Lib.hid hcs
          clear hR hcv hcs
          go_wp2_with (go_at_call 89; refine (search2_n HBL.out HE.out.1 hsm hlt HCV.out (fun b hb => by rw [hb]; exact hna2.lt) (fun b hb => (HD.out b hb).1) (fun done W' W'' h hb => h.keep hna2.lt hb) (fun _ _ h _ => h) HRr.out HCS.out EG.out).mono ?_; rintro e ws ⟨rfl, hfs, hvs⟩)
          go_roundw
          case rel =>
            obtain ⟨kk, hq, hpr, hv⟩ := hvs.resolve_right (fun h => h)
            obtain ⟨l2, hn2, hc2⟩ := hv.done HE.out.1 (by rw [HBL.out]; exact hlt) hq hpr
            exact ⟨k + 1, l2, by omega, by go_num, hn2, Lib.hid hc2, hfr2.trans hfs⟩
          case measure => simp [intOf]; omega
        · have cn : decide (y < 0) = false := decide_eq_false hneg
          have hcol := colI_skip hco.out (by rw [HBL.out]; exact hlt) (by rw [← HY.out]; omega)
          have HCOL := Lib.hid hcol
          clear hneg hcol hco
          go_wp2_with fail
          go_roundw
          case rel => exact ⟨k + 1, l, by omega, by go_num, hnaI, HCOL, hfrI⟩
          case measure => simp [intOf]; omega
      · obtain rfl : k = E.length := by omega
        have hcol := colI_all (R := bth E) (l := l) (by rw [HBL.out]; exact hco.out)
        have HCO := Lib.hid hcol
        have hd1 := (hfr.cell (o := 1) l0 hG0G).trans HD1.out
        have hbr : Below w.heap.size w wr := hbc.trans (hfr.below hbc.size (by rintro b rfl; exact hwG2))
        have hgl := HGL.out wr hbr
        have lU2 := Nat.lt_of_lt_of_le lU hfr.size
        clear hcol hco hfr HR HU HD1 hlt hkl
        go_wp2_with fail
        obtain ⟨wx, hwx⟩ : ∃ wx : World, wx = wr := ⟨_, rfl⟩
        rw [← hwx] at hna hU hd1 hbr hgl lU2 ⊢
        clear hwx wr
        go_loopw [40] (fun i wr => ∃ k : Nat, k ≤ E.length ∧ i = .int .i64 (k : Nat) ∧ Hid (∀ u, u < k → ∀ v ∈ gr E u, l.getD v 0 ≠ l.getD u 0) ∧ Below wx.heap.size wx wr) (fun i _ => E.length - (intOf i).toNat)
        case atStart => exact ⟨0, Nat.zero_le _, rfl, Lib.hid (fun u hu => absurd hu (by omega)), Below.refl _ _⟩
        case round =>
          obtain ⟨k, hkl, rfl, hpr, hbx⟩ := hrel
          have hUr := (hbx.cell (p := ⟨U, 0, none⟩) lU2).trans hU
          have hnar := Arr.below hna hbx hna.lt
          by_cases hlt : k < E.length
          · obtain ⟨b, off, A2, c2, rfl, hrow, hr1, hr2, hil⟩ := hgl.row hlt
            have hrowr := (hbx.cell (p := ⟨b, off + k, none⟩) (cell_some_lt hrow)).trans hrow
            have hki : (k : Int) < (E.length : Int) := by omega
            have hk0 : (0 : Int) ≤ (k : Int) := by omega
            obtain ⟨wI, I, hwI, hI⟩ : ∃ wI I, wI = wr.alloc (.cells #[.int .i64 (k : Nat)] 3) ∧ I = wr.heap.size := ⟨_, _, rfl, rfl⟩
            have hbI : Below wr.heap.size wr wI := by rw [hwI]; exact (Below.refl _ _).alloc (Nat.le_refl _) _
            have hcI : wI.cell? ⟨I, 0, none⟩ = some (.int .i64 (k : Nat)) := by rw [hwI, hI]; go_simp
            have hbI2 := hbx.trans (hbI.mono hbx.size)
            have hilI := (hil.below hbI2)
            have hUI := (hbI2.cell (p := ⟨U, 0, none⟩) lU2).trans hU
            have hnaI := Arr.below hna hbI2 hna.lt
            have hask : Asks wI 92 #[.pointer (some ⟨U, 0, none⟩), .pointer (some ⟨I, 0, none⟩)] ((gr E k).map fun x : Nat => (x : Int)) (fun x => l.getD x.toNat 0 == l.getD k 0) := by
              intro x hx W' hb
              obtain ⟨z, hz, rfl⟩ := List.mem_map.1 hx
              refine (Bip2_any (l := l) (x := z) (y := k) ((hb.cell (p := ⟨U, 0, none⟩) (cell_some_lt hUI)).trans hUI) ((hb.cell (p := ⟨I, 0, none⟩) (cell_some_lt hcI)).trans hcI) (Arr.below hnaI hb hnaI.lt) hll (HK.out.valid k hlt z hz) hlt).mono ?_
              rintro e w' ⟨rfl, h2⟩
              exact ⟨by simp, h2⟩
            have hcf := ContainsFunc_any hilI hask EG2.out
            have HCF := Lib.hid hcf
            have HWI := Lib.hid hwI
            have HI := Lib.hid hI
            have hrr := (hil).room
            unfold maxLen at hrr
            clear hwI hI hask hcf hilI hUr hnar hrow hil
            cases hany : (((gr E k).map fun x : Nat => (x : Int)).any fun x => l.getD x.toNat 0 == l.getD k 0)
            · rw [hany] at HCF
              have HANY := Lib.hid hany
              clear hany
              go_upto_region 15 with (fail)
              rw [← HWI.out, ← HI.out]
              clear HWI HI
              go_wp2_with (go_at_call 91; refine HCF.out.mono ?_; rintro e ws ⟨rfl, hbs⟩)
              go_roundw
              case rel =>
                refine ⟨k + 1, by omega, by go_num, Lib.hid (fun u hu v hv => ?_), hbI2.trans (hbs.mono hbI2.size)⟩
                rcases Nat.lt_or_ge u k with h1 | h1
                · exact hpr.out u h1 v hv
                · obtain rfl : u = k := by omega
                  have h2 := List.any_eq_false.1 HANY.out (v : Int) (List.mem_map.2 ⟨v, hv, rfl⟩)
                  simpa using h2
              case measure => simp [intOf]; omega
            · rw [hany] at HCF
              have HANY := Lib.hid hany
              clear hany
              go_upto_region 15 with (fail)
              rw [← HWI.out, ← HI.out]
              clear HWI HI
              go_wp2_with (go_at_call 91; refine HCF.out.mono ?_; rintro e ws ⟨rfl, hbs⟩)
              go_ret2
              refine .inr ⟨rfl, ⟨l, HCO.out, fun hp => ?_⟩, hbr.trans ((hbI2.trans (hbs.mono hbI2.size)).mono hbr.size)⟩
              obtain ⟨x, hx, hx2⟩ := List.any_eq_true.1 HANY.out
              obtain ⟨z, hz, rfl⟩ := List.mem_map.1 hx
              exact hp k z (by rw [HBL.out]; exact hlt) ((bth_mem HK.out.valid z k).2 (.inr hz)) (by have h3 := eq_of_beq hx2; simpa using h3.symm)
          · obtain rfl : k = E.length := by omega
            go_wp2_with fail
            go_ret2
            refine .inl ⟨G, l, rfl, hnar, HCO.out, fun u v hu hv => ?_, hbr.trans (hbx.mono hbr.size)⟩
            rcases (bth_mem HK.out.valid v u).1 hv with h1 | h1
            · exact hpr.out v (gr_mem h1) u h1
            · exact fun e => hpr.out u (gr_mem h1) v h1 e.symm
end Go.Proofs.YtefcdclmabdmbaaGreatDoor
