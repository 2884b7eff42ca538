/- graph.Components. -/
import Derived.Test.YtpkjdnplmgfbbaaDoorCmv
namespace Go.Proofs.YtpkjdnplmgfbbaaDoor
open Go.RowKit
/-- Nothing but two blocks has changed. -/
def Kp (wm : World) (U N : Nat) (X : World) : Prop := wm.heap.size ≤ X.heap.size ∧ ∀ b, b < wm.heap.size → b ≠ U → b ≠ N → X.heap[b]? = wm.heap[b]?
theorem Kp.refl (wm : World) (U N : Nat) : Kp wm U N wm := ⟨Nat.le_refl _, fun _ _ _ _ => rfl⟩
theorem Kp.alloc {wm X : World} {U N : Nat} (h : Kp wm U N X) (o : Obj) : Kp wm U N (X.alloc o) := by
  have hb : Below X.heap.size X (X.alloc o) := (Below.refl _ _).alloc (Nat.le_refl _) o
  exact ⟨Nat.le_trans h.1 hb.size, fun b h1 h2 h3 => (hb.block b (Nat.lt_of_lt_of_le h1 h.1)).trans (h.2 b h1 h2 h3)⟩
theorem Kp.setU {wm X : World} {U N : Nat} (h : Kp wm U N X) (k : Nat) (v : Value) : Kp wm U N (X.setCell ⟨U, k, none⟩ v) :=
  ⟨by simpa [World.setCell] using h.1, fun b h1 h2 h3 => (Below.heap_setCell _ _ _ _ (fun e => h2 e)).trans (h.2 b h1 h2 h3)⟩
theorem Kp.setN {wm X : World} {U N : Nat} (h : Kp wm U N X) (k : Nat) (v : Value) : Kp wm U N (X.setCell ⟨N, k, none⟩ v) :=
  ⟨by simpa [World.setCell] using h.1, fun b h1 h2 h3 => (Below.heap_setCell _ _ _ _ (fun e => h3 e)).trans (h.2 b h1 h2 h3)⟩
theorem cmp_fin {w wm wf : World} {E : List (List Nat)} {G U N : Nat} {A2 : Option Addr} {D : Nat → Prop} (hrw : RowsD IlD wm D (.slice A2 E.length E.length) (toI (bth E))) (hna : NArr wm G (List.replicate E.length (-1))) (hkp : Kp wm U N wf)
    (hU : wf.cell? ⟨U, 0, none⟩ = some (.slice (some ⟨G, 0, none⟩) E.length E.length)) (hN : wf.cell? ⟨N, 0, none⟩ = some (.int .i64 0)) (fN : wf.frozen? ⟨N, 0, none⟩ = false) (hb : Below w.heap.size w wf)
    (hs : w.heap.size ≤ G ∧ w.heap.size ≤ U ∧ w.heap.size ≤ N ∧ U ≠ G ∧ N ≠ G ∧ U ≠ N) (hd : ∀ b, D b → b ≠ G ∧ b ≠ U ∧ b ≠ N) :
    ∃ (A : Option Addr) (U' N' G' : Nat) (D : Nat → Prop), (Value.slice A2 E.length E.length) = .slice A E.length E.length ∧ (Value.pointer (some ⟨U, 0, none⟩)) = .pointer (some ⟨U', 0, none⟩) ∧ (Value.pointer (some ⟨N, 0, none⟩)) = .pointer (some ⟨N', 0, none⟩) ∧ wf.cell? ⟨N', 0, none⟩ = some (.int .i64 0) ∧ wf.frozen? ⟨N', 0, none⟩ = false ∧ Hid (CmpS w E D G' U' A wf) ∧ Hid (N' ≠ G' ∧ U' ≠ N' ∧ w.heap.size ≤ N' ∧ ∀ b, D b → b ≠ N') := by
  obtain ⟨h1, h2, h3, h4, h5, h6⟩ := hs
  refine ⟨A2, U, N, G, D, rfl, rfl, rfl, hN, fN, Lib.hid ⟨hrw.keep fun b hb hl => hkp.2 b hl (hd b hb).2.1 (hd b hb).2.2, hU, ?_, fun b hb => ⟨(hd b hb).1, (hd b hb).2.1⟩, h4, h1, h2, hb⟩, Lib.hid ⟨h5, h6, h3, fun b hb => (hd b hb).2.2⟩⟩
  have hl := hna.lt
  exact (hkp.2 G hl h4.symm h5.symm).trans hna

set_option maxHeartbeats 4000000 in
set_option maxRecDepth 100000 in
theorem Components_ok {w : World} {v : Value} {names : List ByteArray} {E : List (List Nat)} (h : GrV w v names (toI E)) (hc : chk names (toI E) = 0) (hk : Ok names E) :
    Calls Tryd.prog 37 #[v] w (CompR w E) := by
  have hsm := hk.small
  have HC := Lib.hid (fun w' hb => Check_any (h.at w' hb))
  rw [hc] at HC
  have HB := Lib.hid (fun w' hb => both_any (h.at w' hb) hk)
  have HM := Lib.hid (fun w' hb => marked_any (h.at w' hb) hk)
  have eg := enters_of Tryd.func80 (by kernel_rfl) rfl
  have EG := Lib.hid eg
  have HK := Lib.hid hk
  clear hc eg hk
  obtain ⟨A1, c1, A', c', hv, hs, hg⟩ := h
  rw [toI_length] at hv
  subst hv
  obtain ⟨W, G0, hW, hG, hbW, c0, c1', hGl, hwG⟩ := gbox w (.slice A1 names.length c1) (.slice A' E.length c')
  have HW := Lib.hid hW
  have HG := Lib.hid hG
  clear hW hG hs hg
  go_enter Tryd.func37, Tryd.ntmps37
  go_upto_region 4 with (go_at_call 34; rw [← HW.out, ← HG.out]; refine (HC.out _ hbW).mono ?_; rintro e w1 ⟨rfl, hb1⟩; obtain ⟨d0, d1⟩ := keep2 hb1 c0 c1'; have hb2 := hbW.trans (hb1.mono hbW.size))
  go_cut [5, 6, 7] (fun a b c wx => ∃ (A : Option Addr) (U N G : Nat) (D : Nat → Prop), a = .slice A E.length E.length ∧ b = .pointer (some ⟨U, 0, none⟩) ∧ c = .pointer (some ⟨N, 0, none⟩) ∧ wx.cell? ⟨N, 0, none⟩ = some (.int .i64 0) ∧ wx.frozen? ⟨N, 0, none⟩ = false ∧ Hid (CmpS w E D G U A wx) ∧ Hid (N ≠ G ∧ U ≠ N ∧ w.heap.size ≤ N ∧ ∀ b, D b → b ≠ N))
  case first =>
    rename_i K0 h0 J0 K1 hJ hK
    clear h0 HC HW HG hGl hwG hb1 c0 c1' hbW
    have dd0 : w1.drew.cell? ⟨G0, 0, none⟩ = some (.slice A1 names.length c1) := d0
    have dd1 : w1.drew.cell? ⟨G0, 1, none⟩ = some (.slice A' E.length c') := d1
    have gl := cell_some_lt d0
    have gl2 := Nat.lt_succ_of_lt gl
    go_region_held3 (fun w' => (∀ b o, b < w1.heap.size → w'.cell? ⟨b, o, none⟩ = w1.cell? ⟨b, o, none⟩) ∧ w1.heap.size ≤ w'.heap.size)
      (first | exact Kept.init w1 | (go_split_ands; exact Kept.alloc (by assumption) (by assumption) _) | (go_split_ands; exact Kept.call (by assumption) (by assumption) (by assumption)) | (go_split_ands; exact Kept.store (by assumption) (by assumption) (by omega)) | (go_split_ands; (repeat' (first | assumption | exact ⟨by assumption, by assumption⟩ | exact Kept.init _ | refine Kept.alloc2 ?_ _ | refine Kept.store2 ?_ (by show _ ≤ _; simp only []; omega) | refine Kept.store2 ?_ (by omega))); done))
      (first
      | (go_at_call 77; refine (HB.out _ (by (first | exact hb2 | exact Below.drew hb2 | exact below_alloc hb2 _ | exact below_alloc (below_alloc hb2 _) _ | exact below_alloc (Below.drew hb2) _ | exact below_alloc (below_alloc (Below.drew hb2) _) _))).mono ?_; rintro e wb ⟨A2, rfl, hrows, hbb⟩; have hb3 := below_next (by (first | exact hb2 | exact Below.drew hb2 | exact below_alloc hb2 _ | exact below_alloc (below_alloc hb2 _) _ | exact below_alloc (Below.drew hb2) _ | exact below_alloc (below_alloc (Below.drew hb2) _) _)) hbb; have hb1b := below_next (w := w1) (by (first | exact (Below.refl w1.heap.size w1) | exact Below.drew (Below.refl w1.heap.size w1) | exact below_alloc (Below.refl w1.heap.size w1) _ | exact below_alloc (below_alloc (Below.refl w1.heap.size w1) _) _ | exact below_alloc (Below.drew (Below.refl w1.heap.size w1)) _ | exact below_alloc (below_alloc (Below.drew (Below.refl w1.heap.size w1)) _) _)) hbb; have kwb : (∀ b o, b < w1.heap.size → wb.cell? ⟨b, o, none⟩ = w1.cell? ⟨b, o, none⟩) ∧ w1.heap.size ≤ wb.heap.size := ⟨fun b o hlt => hb1b.cell (p := ⟨b, o, none⟩) hlt, hb1b.size⟩; (first | (have hm := madeB (X := w1.drew) hbb; obtain ⟨m0, mf0, m1, mf1⟩ := hm; change wb.cell? ⟨w1.heap.size, 0, none⟩ = _ at m0; change wb.frozen? ⟨w1.heap.size, 0, none⟩ = _ at mf0; change wb.cell? ⟨w1.heap.size + 1, 0, none⟩ = _ at m1; change wb.frozen? ⟨w1.heap.size + 1, 0, none⟩ = _ at mf1) | (have hm := madeA (X := w1.drew) hbb; obtain ⟨m0, mf0⟩ := hm; change wb.cell? ⟨w1.heap.size, 0, none⟩ = _ at m0; change wb.frozen? ⟨w1.heap.size, 0, none⟩ = _ at mf0) | skip))
      | (go_at_call 78; refine (HM.out _ (by (first | exact hb3 | exact Below.drew hb3 | exact below_alloc hb3 _ | exact below_alloc (below_alloc hb3 _) _ | exact below_alloc (Below.drew hb3) _ | exact below_alloc (below_alloc (Below.drew hb3) _) _))).mono ?_; rintro e wm ⟨G, rfl, hna, hGb, hbm⟩; have hb4 := below_next (by (first | exact hb3 | exact Below.drew hb3 | exact below_alloc hb3 _ | exact below_alloc (below_alloc hb3 _) _ | exact below_alloc (Below.drew hb3) _ | exact below_alloc (below_alloc (Below.drew hb3) _) _)) hbm; have hbw := below_next (w := wb) (by (first | exact (Below.refl _ _) | exact Below.drew (Below.refl _ _) | exact below_alloc (Below.refl _ _) _ | exact below_alloc (below_alloc (Below.refl _ _) _) _ | exact below_alloc (Below.drew (Below.refl _ _)) _ | exact below_alloc (below_alloc (Below.drew (Below.refl _ _)) _) _)) hbm; have hb1m := below_next hb1b hbw; have kwm : (∀ b o, b < w1.heap.size → wm.cell? ⟨b, o, none⟩ = w1.cell? ⟨b, o, none⟩) ∧ w1.heap.size ≤ wm.heap.size := ⟨fun b o hlt => hb1m.cell (p := ⟨b, o, none⟩) hlt, hb1m.size⟩; have hrw := hrows.below hbw; have hsb := hbb.size; have hG2 : wb.heap.size ≤ G := Nat.le_trans (by first | exact Nat.le_refl _ | exact (Below.size (below_alloc (Below.refl wb.heap.size wb) _)) | exact (Below.size (below_alloc (below_alloc (Below.refl wb.heap.size wb) _) _))) hGb; have hGl2 := hna.lt; (try (have hm := keepc hbw (cell_some_lt m0) m0 mf0; obtain ⟨n0, nf0⟩ := hm; have q0 := cell_some_lt m0; have q1 := cell_some_lt n0; have s0 := Nat.ne_of_lt q0; have s1 := Nat.ne_of_lt q1; have s2 := s0.symm; have s3 := s1.symm)); (try (have hm := keepc hbw (cell_some_lt m1) m1 mf1; obtain ⟨n1, nf1⟩ := hm; have q2 := cell_some_lt n1)); (first | (have hm := madeB (X := wb) hbm; obtain ⟨o0, of0, o1, of1⟩ := hm) | (have hm := madeA (X := wb) hbm; obtain ⟨o0, of0⟩ := hm; have q5 := cell_some_lt o0; have s5 := Nat.ne_of_lt q5; have s6 := s5.symm) | skip)))
    all_goals
      go_wp2_with fail
      go_meet
      have e1 := hb2.size
      refine cmp_fin hrw hna ?_ ?_ ?_ ?_ ?_ ?_ ?_
      · (repeat' (first | exact Kp.refl _ _ _ | refine Kp.alloc ?_ _ | refine Kp.setU ?_ _ _ | refine Kp.setN ?_ _ _))
      · go_simp
      · go_simp
      · go_simp
      · (repeat' (first | exact hb4 | refine below_alloc ?_ _ | refine Below.setCell ?_ (by dsimp only; (try simp at hsb); omega) _))
      · clear hrw hrows hna
        simp at hsb hGb hG2 ⊢
        omega
      · intro b hb
        simp at hb hsb hGb hG2 ⊢
        omega
  case rest =>
    obtain ⟨A, U, N, G, D, rfl, rfl, rfl, hN, hfN, hS, hNN⟩ := hcut
    obtain ⟨hR, hU, hGa, hDG, hUG, hwG2, hwU, hbc⟩ := hS.out
    obtain ⟨hNG, hUN, hwN, hDN⟩ := hNN.out
    clear hS hNN
    have hbl := bth_length E
    have HD := Lib.hid (And.intro hDG hDN)
    have HE := Lib.hid (And.intro (bth_valid HK.out.valid) (bth_sym HK.out.valid))
    have HR := Lib.hid hR
    have HU := Lib.hid hU
    have HBL := Lib.hid hbl
    have lU := cell_some_lt hU
    have lN := cell_some_lt hN
    have lG := hGa.lt
    have h0 : CompI (bth E) 0 (List.replicate E.length (-1)) := by rw [← hbl]; exact CompI.zero _
    have H0 := Lib.hid h0
    clear hR hDG hDN hbl h0
    go_wp2_with fail
    go_loopw [20] (fun i wr => ∃ (k : Nat) (l : List Int), k ≤ E.length ∧ i = .int .i64 (k : Nat) ∧ NArr wr G l ∧ wr.cell? ⟨N, 0, none⟩ = some (.int .i64 ((rts (bth E) k).length : Nat)) ∧ wr.frozen? ⟨N, 0, none⟩ = false ∧ Hid (CompI (bth E) k l) ∧ Fr (fun b => b = G ∨ b = N) wc wr) (fun i _ => E.length - (intOf i).toNat)
    case atStart => exact ⟨0, _, Nat.zero_le _, rfl, hGa, hN, hfN, H0, Fr.refl _ _⟩
    case round =>
      clear hU hN hfN hGa H0
      obtain ⟨k, l, hkl, rfl, hna, hN, hfN, hco, hfr⟩ := hrel
      have hU := (hfr.cell (o := 0) lU (by rintro (h | h); exact hUG h; exact hUN h)).trans HU.out
      have hll := hco.out.1
      rw [HBL.out] at hll
      have hrl := rts_len (R := bth E) k
      by_cases hlt : k < E.length
      · have hki : (k : Int) < (E.length : Int) := by omega
        have hk0 : (0 : Int) ≤ (k : Int) := by omega
        have ck := hna.cell (i := k) (by omega)
        have hR := HR.out.keep (w' := wr) fun b hb hl => hfr.block b hl (by rintro (h | h); exact (HD.out.1 b hb).1 h; exact HD.out.2 b hb h)
        have HRr := Lib.hid hR
        clear hR
        obtain ⟨y, hy⟩ : ∃ y, y = l.getD k 0 := ⟨_, rfl⟩
        rw [← hy] at ck
        have HY := Lib.hid hy
        clear hy
        by_cases hneg : y < 0
        · have cn : decide (y < 0) = true := decide_eq_true hneg
          have HNE := Lib.hid hneg
          clear hneg
          have lN2 := cell_some_lt hN
          have hcv := comp_visits_ HBL.out HE.out.1 (a := k) hlt hN hU hNG hUG (l0 := l)
          have HCV := Lib.hid hcv
          have hcs := ClV.start (q := ((rts (bth E) k).length : Nat)) hna hll
          have HCS := Lib.hid hcs
          clear hcv hcs
          go_wp2_with (go_at_call 79; refine (search2_n HBL.out HE.out.1 hsm hlt HCV.out (fun b hb => by rw [hb]; exact hna.lt) (fun b hb => (HD.out.1 b hb).1) (fun done W' W'' h hb => h.keep hna.lt hb) (fun _ _ h _ => h) HRr.out HCS.out EG.out).mono ?_; rintro e ws ⟨rfl, hfs, hvs⟩; have hN2 := (hfs.cell (o := 0) lN2 hNG).trans hN; have fN2 := (hfs.frozen (o := 0) lN2 hNG).trans hfN)
          go_roundw
          case rel =>
            obtain ⟨kk, hq, hpr, l2, hn2, hl2, hv1, hv2⟩ := hvs.resolve_right (fun h => h)
            have hcon := bs_con HE.out.1 (a := k) (by rw [HBL.out]; exact hlt) hq hpr
            obtain ⟨h1, h2⟩ := hco.out.step (m := l2) (by rw [HBL.out]; exact hlt) (by rw [← HY.out]; exact HNE.out) (by rw [hl2, hll]) (fun v hv hc => hv1 v (by rw [← HBL.out]; exact hv) ((hcon v).2 hc)) (fun v hv hc => hv2 v (by rw [← HBL.out]; exact hv) (fun h => hc ((hcon v).1 h)))
            refine ⟨k + 1, l2, by omega, by go_num, ?_, ?_, ?_, Lib.hid h1, ?_⟩
            · exact (Fr.setCell (O := (· = N)) (fun _ => rfl) _).arr hn2 hNG.symm
            · rw [h2, Int.natCast_succ]
              exact World.cell?_setCell_same _ _ _ hN2
            · rw [World.frozen?_setCell]
              exact fN2
            · exact (hfr.trans (hfs.mono fun b _ h => .inl h)).trans (Fr.setCell (p := ⟨N, 0, none⟩) (fun _ => .inr rfl) _)
          case measure => simp [intOf]; omega
        · have cn : decide (y < 0) = false := decide_eq_false hneg
          have HNE := Lib.hid hneg
          clear hneg
          go_wp2_with fail
          go_roundw
          case rel =>
            obtain ⟨h1, h2⟩ := hco.out.skip (by rw [HBL.out]; exact hlt) (by rw [← HY.out]; exact HNE.out)
            exact ⟨k + 1, l, by omega, by go_num, hna, by rw [h2]; exact hN, hfN, Lib.hid h1, hfr⟩
          case measure => simp [intOf]; omega
      · obtain rfl : k = E.length := by omega
        go_wp2_with fail
        go_ret2
        have h1 := hco.out
        rw [← HBL.out] at h1
        exact ⟨G, l, rfl, hna, h1.done, hbc.trans (hfr.below hbc.size (by rintro b (h | h); exact h ▸ hwG2; exact h ▸ hwN))⟩
end Go.Proofs.YtpkjdnplmgfbbaaDoor
