/- ref.Parse. -/
import Derived.Test.YtpkjdnplmgfbbaaGreatDoorTxm
namespace Go.Proofs.YtpkjdnplmgfbbaaGreatDoor
open Go.RowKit
section
variable (w0 : World)
/-- append(own, x). -/
theorem wpList_pushZ {ops : Array Oper} {rest : List Oper} {o : Oper} {a : Act} {Q : Exit → Act → World → Prop} (hgd : o.guard = none) (s x : Operand)
    (ho : o.op = .call { callee := .builtin .append, args := #[s, x], argTypes := #[55, 55] })
    (base : Nat) (A : Option Addr) (n c : Nat) (l : List Int) (hs : a.eval s = .slice A n c) (hown : OwnZ w0 base (.slice A n c) l)
    (y : Int) (hy : -9223372036854775808 ≤ y ∧ y ≤ 9223372036854775807) (hx : a.eval x = .slice (some ⟨w0.heap.size, 0, none⟩) 1 1) (h63 : n + 1 ≤ 1000000000) (hbase : base ≤ w0.heap.size)
    (h : ∀ A' c' w', OwnZ w' base (.slice A' (n + 1) c') (l ++ [y]) → Below base w0 w' → wpList Tryz.prog ops Q rest (a.put o.dst (.slice A' (n + 1) c')) w') :
    wpList Tryz.prog ops Q (o :: rest) a (w0.alloc (.cells #[.int .i64 y] 3)) := by
  obtain rfl := hown.len
  refine wpList_app _ hgd s x 55 55 ho base 3 3 (.int .i64 0) 1 8 Tryz.underlying55 Tryz.underlying55 info_intZ rfl (by omega) _ l.length (l.map (Value.int .i64)) hs (World.ownsRow.alloc hown.1 _) _ 1 1 [.int .i64 y] hx (src_block (heap_alloc_new w0 _) 1 1 rfl) (by simp [Value.oneCell']) (by unfold maxLen; omega) (by omega) (by simp; omega) ?_
  intro v' w' hown' hg hob
  obtain ⟨A', c', rfl, _, _⟩ := own_slice hown'
  have hg0 : w0.grownBy w' (Value.slice A l.length c).ownBlock := grownBy_trans (World.grownBy_alloc w0 _ _) hg
  refine h A' c' w' ⟨?_, fun z hz => ?_⟩ ((Below.refl _ _).grown hg0 hbase (fun k hk => (World.ownsRow.lt hown.1 k hk).1))
  · rw [List.length_append, List.map_append]; exact hown'
  · rcases List.mem_append.1 hz with h1 | h1
    · exact hown.2 z h1
    · rw [List.mem_singleton] at h1; rw [h1]; exact hy
end
/-! what a good text's pieces are -/
theorem good_pieces {s : ByteArray} {n2 : List ByteArray} {E2 : List (List Nat)} (h : Good s n2 E2) : ctL 10 s.data.toList = ((List.range E2.length).map (lnOf n2 E2)) ++ [[]] := by
  rw [h.txt, prn_lines]
  exact ctL_lines fun l hl => by
    obtain ⟨k, hk, rfl⟩ := List.mem_map.1 hl
    exact line_no10 h.ok (List.mem_range.1 hk)
theorem good_words {s : ByteArray} {n2 : List ByteArray} {E2 : List (List Nat)} (h : Good s n2 E2) {i : Nat} (hi : i < E2.length) : ctL 32 (lnOf n2 E2 i) = (n2.getD i ByteArray.empty).data.toList :: (gr E2 i).map Lib.decDigits := by
  unfold lnOf
  refine ctL_words (name_no h.ok hi).1 fun x hx => ?_
  obtain ⟨v, _, rfl⟩ := List.mem_map.1 hx
  exact fun hm => (dig_no (dec_dig v 32 hm)).1 rfl
/-- At piece i there stands, if the text is good, that vertex. -/
theorem good_at {s : ByteArray} {n2 : List ByteArray} {E2 : List (List Nat)} (h : Good s n2 E2) {i : Nat} {p : List UInt8} (hn : i + 1 < (ctL 10 s.data.toList).length) (hp : (ctL 10 s.data.toList)[i]? = some p) : i < E2.length ∧ p = lnOf n2 E2 i ∧ ctL 32 p = (n2.getD i ByteArray.empty).data.toList :: (gr E2 i).map Lib.decDigits := by
  rw [good_pieces h] at hn hp
  simp only [List.length_append, List.length_map, List.length_range, List.length_singleton] at hn
  have hi : i < E2.length := by omega
  have e : p = lnOf n2 E2 i := by
    rw [List.getElem?_append_left (by simpa using hi), List.getElem?_map, List.getElem?_range hi] at hp
    simpa using hp.symm
  exact ⟨hi, e, by rw [e]; exact good_words h hi⟩
theorem good_count {s : ByteArray} {n2 : List ByteArray} {E2 : List (List Nat)} (h : Good s n2 E2) : (ctL 10 s.data.toList).length = E2.length + 1 := by
  rw [good_pieces h]; simp

/-- Between two lines. M: the graph's cell. -/
def LpI (s : ByteArray) (M i : Nat) (A1 A2 : Option Addr) (c1 c2 : Nat) (names : List ByteArray) (E : List (List Int)) (W1 wr : World) : Prop :=
  GB wr (M + 1) (.slice A1 i c1) (.slice A2 i c2) names E ∧ names.length = i ∧ E.length = i ∧ wr.heap[M]? = some (.cells #[.slice A1 i c1, .slice A2 i c2] 25 (0, 0)) ∧ Below M W1 wr ∧ Hid (∀ n2 E2, Good s n2 E2 → names = n2.take i ∧ E = (toI E2).take i)

set_option maxHeartbeats 8000000 in
set_option maxRecDepth 100000 in
theorem rParse_any {w : World} (s : ByteArray) (hs : s.size ≤ 2000) : Calls Tryz.prog 18 #[.string s] w (PrsR s w) := by
  have z1 : decide ((20000 : Int) < (s.size : Int)) = false := decide_eq_false (by omega)
  obtain ⟨hps1, hps2⟩ := ctL_size 10 s.data.toList
  rw [← Lib.size_eq] at hps1 hps2
  obtain ⟨P, hP⟩ : ∃ P, P = ctL 10 s.data.toList := ⟨_, rfl⟩
  have hPne : 0 < P.length := by rw [hP]; exact List.length_pos_iff.2 (ctL_ne _ _)
  rw [← hP] at hps1 hps2
  have HP := Lib.hid hP
  have HPS := Lib.hid hps1
  clear hps1
  obtain ⟨W0, N, hW0, hN⟩ : ∃ W0 N, W0 = w.alloc (.cells #[.slice none 0 0, .slice none 0 0] 25) ∧ N = w.heap.size := ⟨_, _, rfl, rfl⟩
  have k0 : W0.heap[N]? = some (.cells #[.slice none 0 0, .slice none 0 0] 25 (0, 0)) := by rw [hW0, hN]; exact World.alloc_heap_new _ _
  have hb0 : Below N w W0 := by rw [hW0, hN]; exact (Below.refl _ _).alloc (Nat.le_refl _) _
  have hs0 : W0.heap.size = N + 1 := by rw [hW0, hN]; simp
  have HW0 := Lib.hid hW0
  have HN := Lib.hid hN
  clear hW0 hN hP
  go_enter Tryz.func18, Tryz.ntmps18
  go_wp2_with fail
  rw [← HW0.out, ← HN.out]
  refine (Cut_any s 10 10 (by rfl) (by omega)).mono ?_
  rintro e W1 ⟨A, n, c, rfl, hown, hb1⟩
  rw [hs0] at hown hb1
  rw [← HP.out] at hown
  have hn := hown.len
  rw [List.length_map] at hn
  subst hn
  obtain ⟨g, rfl, hg1, hg2, hfz, hcl⟩ := hown.cells hPne
  have k1 : W1.heap[N]? = some (.cells #[.slice none 0 0, .slice none 0 0] 25 (0, 0)) := (hb1.block N (by omega)).trans k0
  have hbw1 : Below N w W1 := hb0.trans (hb1.mono (by omega))
  have hNW1 : N + 1 ≤ W1.heap.size := by have := hb1.size; omega
  clear hfz hown hb0 hb1 k0 hs0
  obtain ⟨W2, M, hW2, hM⟩ : ∃ W2 M, W2 = W1.alloc (.cells #[.slice none 0 0, .slice none 0 0] 25) ∧ M = W1.heap.size := ⟨_, _, rfl, rfl⟩
  have m0 : W2.heap[M]? = some (.cells #[.slice none 0 0, .slice none 0 0] 25 (0, 0)) := by rw [hW2, hM]; exact World.alloc_heap_new _ _
  have hb2 : Below M W1 W2 := by rw [hW2, hM]; exact (Below.refl _ _).alloc (Nat.le_refl _) _
  have hs2 : M + 1 ≤ W2.heap.size := by rw [hW2, hM]; simp
  have HW2 := Lib.hid hW2
  have HM := Lib.hid hM
  have hNM : N + 1 ≤ M := by omega
  have hgM : g < M := by omega
  clear hW2 hM hg1 hg2 hNW1
  go_wp2_with fail
  rw [← HW2.out, ← HM.out]
  go_loopw [6] (fun iv wr => ∃ (i : Nat) (A1 A2 : Option Addr) (c1 c2 : Nat) (names : List ByteArray) (E : List (List Int)), i + 1 ≤ P.length ∧ iv = .int .i64 (i : Nat) ∧ LpI s M i A1 A2 c1 c2 names E W1 wr) (fun iv _ => P.length - (intOf iv).toNat)
  case atStart => exact ⟨0, none, none, 0, 0, [], [], by omega, rfl, GB.nil _ _, rfl, rfl, m0, hb2, Lib.hid (fun _ _ _ => ⟨rfl, rfl⟩)⟩
  case round =>
    clear m0 hb2 hs2
    obtain ⟨i, A1, A2, c1, c2, names, E, hi, rfl, hgb, hnl, hel, m0, hbr, HI⟩ := hrel
    have hMr : M < wr.heap.size := (Array.getElem?_eq_some_iff.1 m0).1
    by_cases hlt : i + 1 < P.length
    · obtain ⟨y, hy⟩ : ∃ y, P[i]? = some y := ⟨_, List.getElem?_eq_getElem (by omega)⟩
      have hcy0 := hcl i (mkB y) (by rw [List.getElem?_map, hy]; rfl)
      have hcy : wr.cell? ⟨g, i, none⟩ = some (.string (mkB y)) := (hbr.cell (p := ⟨g, i, none⟩) hgM).trans hcy0
      have hyl := HPS.out y (List.mem_of_getElem? hy)
      have hyz : (mkB y).size ≤ 2000 := by rw [mkB_size]; omega
      have HY := Lib.hid hy
      have hiI : (i : Int) < (P.length : Int) := by omega
      have hiI2 : (i : Int) + 1 < (P.length : Int) := by omega
      clear hcy0 hy hyl
      go_wp2_with fail
      refine (Cut_any (mkB y) 32 32 (by rfl) (by omega)).mono ?_
      rintro e V1 ⟨A3, m, c3, rfl, hown, hbv⟩
      rw [mkB_data] at hown
      obtain ⟨Y, hY⟩ : ∃ Y, Y = ctL 32 y := ⟨_, rfl⟩
      obtain ⟨hys1, hys2⟩ := ctL_size 32 y
      have hYl : 0 < Y.length := by rw [hY]; exact List.length_pos_iff.2 (ctL_ne _ _)
      rw [← hY] at hown hys1 hys2
      have hm := hown.len
      rw [List.length_map] at hm
      subst hm
      have hyl2 : y.length ≤ 2000 := by rw [mkB_size] at hyz; exact hyz
      have hm2 : Y.length ≤ 2001 := by omega
      have HYS := Lib.hid hys1
      have HYY := Lib.hid hY
      obtain ⟨q, rfl, hq1, hq2, _, hcq⟩ := hown.cells hYl
      obtain ⟨y0, hy0⟩ : ∃ y0, Y[0]? = some y0 := ⟨_, List.getElem?_eq_getElem hYl⟩
      have hcw0 := hcq 0 (mkB y0) (by rw [List.getElem?_map, hy0]; rfl)
      have hy0z : (mkB y0).size ≤ maxLen := by
        have := hys1 y0 (List.mem_of_getElem? hy0)
        rw [mkB_size]; unfold maxLen; omega
      have hoq : ∀ b, (Value.slice A1 i c1).ownBlock = some b → b < q := fun b hb => by have := World.ownsRow.lt hgb.nm b hb; omega
      have m1 := (hbv.block M hMr).trans m0
      have hgb1 := hgb.below hbv
      have hbr1 := hbr.trans (hbv.mono (by omega))
      have hMq : M < q := by omega
      obtain ⟨V2, hV2⟩ : ∃ V2, V2 = V1.drew := ⟨_, rfl⟩
      have bd : Below V1.heap.size V1 V2 := by rw [hV2]; exact (Below.refl _ _).drew
      have hq3 : q < V2.heap.size := Nat.lt_of_lt_of_le hq2 bd.size
      have m2 := (bd.block M (by omega)).trans m1
      have hgb2 := hgb1.below bd
      have hbr2 := hbr1.trans (bd.mono (by omega))
      have hcw1 := (bd.cell (p := ⟨q, 0, none⟩) hq2).trans hcw0
      have HCQ := Lib.hid (fun j z h => (bd.cell (p := ⟨q, j, none⟩) hq2).trans (hcq j z h))
      have HV2 := Lib.hid hV2
      have HY0 := Lib.hid hy0
      clear hcq hown hys1 hy0 hY hcw0 m0 m1 hgb hgb1 hbr hbr1 hbv bd hV2 hcy hq1
      go_wp2_with fail
      refine wp_region_trg (.pure 0 (.pure 2 (.pure 3 (.read 1 (.read 4 (.step 5 (.step 6 (.pure 7 (.step 8 .nil))))))))) [0, 2, 3, 7, 8] (by kernel_rfl) (by rfl) (by kernel_rfl) (by kernel_rfl) (fun _ _ _ _ _ h => h) (fun V => V.cell? ⟨M, 0, none⟩ = some (.slice A1 i c1) ∧ V.cell? ⟨q, 0, none⟩ = some (.string (mkB y0))) ?_
      change goG _ _ _ _ _ _ _ V1.drew
      rw [← HV2.out]
      have hS0 : V2.cell? ⟨M, 0, none⟩ = some (.slice A1 i c1) ∧ V2.cell? ⟨q, 0, none⟩ = some (.string (mkB y0)) := ⟨by rw [Lib.cell_of_heap m2]; rfl, hcw1⟩
      refine goG_pure 30 (by rfl) (by rfl) ?_ (by rfl) (fun wz => ?_) ?_
      rotate_left
      · go_simp
        try with_reducible rfl
      try simp only [List.setIfInBounds_toArray, List.set]
      refine goG_pure 32 (by rfl) (by rfl) ?_ (by rfl) (fun wz => ?_) ?_
      rotate_left
      · go_simp
        try with_reducible rfl
      try simp only [List.setIfInBounds_toArray, List.set]
      refine goG_pure 33 (by rfl) (by rfl) ?_ (by rfl) (fun wz => ?_) ?_
      rotate_left
      · go_simp
        try with_reducible rfl
      try simp only [List.setIfInBounds_toArray, List.set]
      refine goG_read 31 hS0 (by rfl) (by rfl) ?_ (by rfl) (fun wz hSw => ?_) ?_
      rotate_left
      · obtain ⟨hs1, hs2⟩ := hSw
        go_simp
        try with_reducible rfl
      try simp only [List.setIfInBounds_toArray, List.set]
      refine goG_read 34 hS0 (by rfl) (by rfl) ?_ (by rfl) (fun wz hSw => ?_) ?_
      rotate_left
      · obtain ⟨hs1, hs2⟩ := hSw
        go_simp
        try with_reducible rfl
      try simp only [List.setIfInBounds_toArray, List.set]
      obtain ⟨s1, s2⟩ := hS0
      refine goG_step (by rfl) ?_
      go_wp2_with fail
      obtain ⟨V3, hV3⟩ : ∃ V3, V3 = V2.alloc (.cells #[.string (mkB y0)] 9) := ⟨_, rfl⟩
      rw [← hV3]
      have b3 : Below V2.heap.size V2 V3 := by rw [hV3]; exact (Below.refl _ _).alloc (Nat.le_refl _) _
      have eA : V3.heap[V2.heap.size]? = some (.cells #[.string (mkB y0)] 9 (0, 0)) := by rw [hV3]; exact World.alloc_heap_new _ _
      have g3 := hgb2.below b3
      have t1 := (b3.cell (p := ⟨M, 0, none⟩) (by show M < V2.heap.size; omega)).trans s1
      have t2 := (b3.cell (p := ⟨q, 0, none⟩) hq3).trans s2
      have m3 := (b3.block M (by omega)).trans m2
      have br3 := hbr2.trans (b3.mono (by omega))
      have HB3 := Lib.hid b3
      clear hV3
      refine ⟨fun _ => ⟨t1, t2⟩, ?_⟩
      refine goG_step (by rfl) ?_
      refine wpList_pushNm V3 (by rfl) _ _ (by rfl) (M + 1) A1 i c1 _ names E (by rfl) g3 (mkB y0) hy0z _ eA (by rfl) (by omega) (by have := b3.size; omega) ?_
      intro A4 c4 V4 gb4 hg4 ho4 hb4
      have m4 := (hg4.block M (by have := b3.size; omega) (fun e => by have := World.ownsRow.lt g3.nm M e.symm; omega)).trans m3
      have ob4 : ∀ b, (Value.slice A4 (i + 1) c4).ownBlock = some b → b < V4.heap.size := fun b hb => (World.ownsRow.lt gb4.nm b hb).2
      have br4 := br3.trans (hb4.mono (by omega))
      have hM4 : M < V4.heap.size := (Array.getElem?_eq_some_iff.1 m4).1
      have f4 := Lib.frozen_of_heap m4 0
      have H34 := Lib.hid (show V4.heap[q]? = V3.heap[q]? from hg4.block q (by have := b3.size; omega) (fun e => by have := hoq q e.symm; omega))
      have c4q : V4.cell? ⟨q, 0, none⟩ = some (.string (mkB y0)) := (World.cell?_of_block (hg4.block q (by have := b3.size; omega) (fun e => by have := hoq q e.symm; omega))).trans t2
      have c40 : V4.cell? ⟨M, 0, none⟩ = some (.slice A1 i c1) := by rw [Lib.cell_of_heap m4]; rfl
      have HB4 := Lib.hid hb4
      clear hg4 ho4 hb4 t1 t2 s1 s2 m3 m2 eA g3 hgb2 br3 hbr2 b3
      go_wp2_with fail
      refine ⟨fun _ => ⟨c40, c4q⟩, ?_⟩
      refine goG_pure 37 (by rfl) (by rfl) ?_ (by rfl) (fun wz => ?_) ?_
      rotate_left
      · go_simp
        try with_reducible rfl
      try simp only [List.setIfInBounds_toArray, List.set]
      refine goG_step (by rfl) ?_
      go_wp2_with fail
      refine ⟨fun h => (by cases h), ?_⟩
      show Exit.then _ _ .normal _ _
      obtain ⟨V5, hV5⟩ : ∃ V5, V5 = V4.setCell ⟨M, 0, none⟩ (.slice A4 (i + 1) c4) := ⟨_, rfl⟩
      have hu5 : Upd (fun b => b = M) V4 V5 := by rw [hV5]; exact Upd.setCell (S := fun b => b = M) _ (p := ⟨M, 0, none⟩) rfl _
      have m5 : V5.heap[M]? = some (.cells #[.slice A4 (i + 1) c4, .slice A2 i c2] 25 (0, 0)) := by rw [hV5]; exact Go.Joins.block_setCell (i := 0) m4 (.slice A4 (i + 1) c4)
      have gb5 := gb4.upd hu5 (fun k hk => by omega)
      have br5 := br4.trans (hu5.below (by omega) (fun k hk => by omega))
      have hq5 : q < V5.heap.size := by have := HB3.out.size; have := HB4.out.size; have := hu5.size; omega
      have HC5 := Lib.hid (fun j z (h : (Y.map mkB)[j]? = some z) => show V5.cell? ⟨q, j, none⟩ = some (.string z) from (World.cell?_of_block ((hu5.block q (by have := HB3.out.size; have := HB4.out.size; omega) (fun e => by omega)).trans (H34.out.trans (HB3.out.block q hq3)))).trans (HCQ.out j z h))
      have HB5 := Lib.hid hV5
      clear hV5 hu5 gb4 br4 m4 c40 c4q f4 hcw1 hq2 hq3 ob4 hM4
      obtain ⟨Z, hZ⟩ : ∃ Z, Z = V5.heap.size := ⟨_, rfl⟩
      rw [← hZ] at hq5
      have hMZ : M < Z := by rw [hZ]; exact (Array.getElem?_eq_some_iff.1 m5).1
      have HZ := Lib.hid hZ
      clear hZ
      rw [← HB5.out]
      go_wp2_with fail
      go_loopw [8, 9] (fun sl jv wr => ∃ (t r : Nat) (A5 : Option Addr) (c5 : Nat) (l : List Int), t ≤ Y.length ∧ t = r + 1 ∧ jv = .int .i64 (t : Nat) ∧ sl = .slice A5 r c5 ∧ OwnZ wr Z (.slice A5 r c5) l ∧ Below Z V5 wr ∧ Hid (∀ n2 E2, Good s n2 E2 → l = ((gr E2 i).map fun x : Nat => (x : Int)).take r)) (fun _ jv _ => Y.length - (intOf jv).toNat)
      case atStart => exact ⟨1, 0, none, 0, [], by omega, rfl, rfl, rfl, OwnZ.nil _ _, Below.refl _ _, Lib.hid (fun _ _ _ => by simp)⟩
      case round =>
        obtain ⟨t, r, A5, c5, l, ht, htr, rfl, rfl, hoz, hbz, HJ⟩ := hrel
        have hZs : Z ≤ wr.heap.size := by rw [HZ.out]; exact hbz.size
        have hrl : r ≤ 2001 := by omega
        have HTR := Lib.hid htr
        clear htr
        by_cases htl : t < Y.length
        · obtain ⟨z, hz⟩ : ∃ z, Y[t]? = some z := ⟨_, List.getElem?_eq_getElem htl⟩
          have hcz5 := HC5.out t (mkB z) (by rw [List.getElem?_map, hz]; rfl)
          have hcz := (hbz.cell (p := ⟨q, t, none⟩) hq5).trans hcz5
          have hzl := HYS.out z (List.mem_of_getElem? hz)
          have hzz : (mkB z).size ≤ 1000000 := by rw [mkB_size]; omega
          have HZZ := Lib.hid hz
          have htI : (t : Int) < (Y.length : Int) := by omega
          clear hz hcz5 hzl
          go_wp2_with fail
          refine (Number_any (mkB z) hzz).mono ?_
          rintro e w3 ⟨v, b, rfl, ⟨hv1, hv2⟩, hgo, rfl⟩
          rw [mkB_data] at hgo
          have HGO := Lib.hid (show ∀ n2 E2, Good s n2 E2 → ∃ x : Nat, (gr E2 i)[r]? = some x ∧ v = (x : Int) ∧ b = true from fun n2 E2 h => by
            obtain ⟨g1, g2, g3⟩ := good_at h (by rw [← HP.out]; exact hlt) (by rw [← HP.out]; exact HY.out)
            have h1 := HZZ.out
            rw [HYY.out, g3, HTR.out, List.getElem?_cons_succ, List.getElem?_map] at h1
            cases hx : (gr E2 i)[r]? with
            | none => rw [hx] at h1; cases h1
            | some x =>
              rw [hx] at h1
              injection h1 with h1
              have hk := h.ok
              have hx2 := hk.valid i g1 x (List.mem_of_getElem? hx)
              have hx3 := hgo x (by have := hk.small; omega) h1.symm
              exact ⟨x, rfl, hx3.1, hx3.2⟩)
          clear hgo
          cases b with
          | true =>
            have HJ' := Lib.hid (show ∀ n2 E2, Good s n2 E2 → l ++ [v] = ((gr E2 i).map fun x : Nat => (x : Int)).take (r + 1) from fun n2 E2 h => by
              obtain ⟨x, h1, h2, _⟩ := HGO.out n2 E2 h
              rw [List.take_add_one, List.getElem?_map, h1, ← HJ.out n2 E2 h, h2]
              rfl)
            go_wp2_with (at_builtin; (refine wpList_pushZ wr (by rfl) _ _ (by rfl) Z A5 r c5 l (by rfl) hoz v ⟨by omega, by omega⟩ (by rfl) (by omega) hZs ?_); intro A6 c6 w4 hoz4 hb4)
            go_roundw
            case rel => exact ⟨t + 1, r + 1, A6, c6, l ++ [v], by omega, by rw [HTR.out], by go_num, rfl, hoz4, hbz.trans hb4, HJ'⟩
            case measure => simp [intOf]; omega
          | false =>
            have j0 := (hbz.block N (by omega)).trans ((br5.block N (by omega)).trans k1)
            have hbN : Below N w wr := hbw1.trans ((br5.mono (by omega)).trans (hbz.mono (by omega)))
            have n0 : wr.cell? ⟨N, 0, none⟩ = some (.slice none 0 0) := by rw [Lib.cell_of_heap j0]; rfl
            have n1 : wr.cell? ⟨N, 1, none⟩ = some (.slice none 0 0) := by rw [Lib.cell_of_heap j0]; rfl
            have f0 := Lib.frozen_of_heap j0 0
            have f1 := Lib.frozen_of_heap j0 1
            obtain ⟨W6, hW6⟩ : ∃ W6, W6 = (wr.setCell ⟨N, 0, none⟩ (.slice none 0 0)).setCell ⟨N, 1, none⟩ (.slice none 0 0) := ⟨_, rfl⟩
            have m6 : W6.heap[N]? = some (.cells #[.slice none 0 0, .slice none 0 0] 25 (0, 0)) := by
              rw [hW6]
              exact Go.Joins.block_setCell (i := 1) (Go.Joins.block_setCell (i := 0) j0 (.slice none 0 0)) (.slice none 0 0)
            have hu6 : Upd (fun b => b = N) wr W6 := by
              rw [hW6]
              exact (Upd.setCell (S := fun b => b = N) _ (p := ⟨N, 0, none⟩) rfl _).trans (Upd.setCell (S := fun b => b = N) _ (p := ⟨N, 1, none⟩) rfl _)
            have a0 : W6.cell? ⟨N, 0, none⟩ = some (.slice none 0 0) := by rw [Lib.cell_of_heap m6]; rfl
            have a1 : W6.cell? ⟨N, 1, none⟩ = some (.slice none 0 0) := by rw [Lib.cell_of_heap m6]; rfl
            have HW6 := Lib.hid hW6
            have hbf := hbN.trans (hu6.below (by omega) (fun k hk => by omega))
            clear hW6 m6 hu6 j0 hbN
            go_wp2_with fail
            rw [← HW6.out]
            (try simp only [Exit.inBlock, Exit.then])
            refine bodyPost_ret (v := .tuple #[.agg #[.slice none 0 0, .slice none 0 0], .int .i64 7]) (by simp [results, Tryz.results18, go_sem, a0, a1]) rfl ?_
            refine .inr ⟨rfl, fun n2 E2 h => ?_, by rw [← HN.out]; exact hbf⟩
            obtain ⟨x, _, _, h3⟩ := HGO.out n2 E2 h
            cases h3
        · obtain rfl : t = Y.length := by omega
          have mz := (hbz.block M hMZ).trans m5
          have gz := gb5.below (by rw [← HZ.out]; exact hbz)
          have brz := br5.trans (hbz.mono (by omega))
          have hoN : ∀ b, (Value.slice A4 (i + 1) c4).ownBlock = some b → b < Z := fun b hb => by have := World.ownsRow.lt gb5.nm b hb; have := HZ.out; omega
          have hoE : ∀ b, (Value.slice A2 i c2).ownBlock = some b → M + 1 ≤ b ∧ b < Z := fun b hb => by
            obtain ⟨vs, h2, _⟩ := gb5.ed
            have := World.ownsRow.lt h2 b hb
            have := HZ.out
            omega
          have hrow : IlD wr (fun b => M + 1 ≤ b ∧ some b ≠ (Value.slice A2 i c2).ownBlock ∧ some b ≠ (Value.slice A4 (i + 1) c4).ownBlock) (.slice A5 r c5) l := hoz.row (fun b h1 h2 => ⟨by omega, fun e => by have := hoE b e.symm; omega, fun e => by have := hoN b e.symm; omega⟩)
          have HI' := Lib.hid (show ∀ n2 E2, Good s n2 E2 → names ++ [mkB y0] = n2.take (i + 1) ∧ E ++ [l] = (toI E2).take (i + 1) from fun n2 E2 h => by
            obtain ⟨g1, g2, g3⟩ := good_at h (by rw [← HP.out]; exact hlt) (by rw [← HP.out]; exact HY.out)
            obtain ⟨h1, h2⟩ := HI.out n2 E2 h
            have hY := HYY.out
            rw [g3] at hY
            have hr : (gr E2 i).length = r := by
              have h3 := HTR.out
              rw [hY] at h3
              simp at h3
              omega
            have hy0 := HY0.out
            rw [hY] at hy0
            simp at hy0
            have hn2 : i < n2.length := by have := h.ok.len; omega
            refine ⟨?_, ?_⟩
            · rw [List.take_add_one, ← h1, List.getElem?_eq_getElem hn2, ← hy0, mkB_of, List.getElem?_eq_getElem hn2]
              rfl
            · rw [List.take_add_one, ← h2, toI_get g1, HJ.out n2 E2 h, List.take_of_length_le (by rw [List.length_map]; omega)]
              rfl)
          have hMw : M < wr.heap.size := by omega
          obtain ⟨V7, hV7⟩ : ∃ V7, V7 = wr.alloc (.cells #[.slice A5 r c5] 55) := ⟨_, rfl⟩
          have b7 : Below wr.heap.size wr V7 := by rw [hV7]; exact (Below.refl _ _).alloc (Nat.le_refl _) _
          have eA : V7.heap[wr.heap.size]? = some (.cells #[.slice A5 r c5] 55 (0, 0)) := by rw [hV7]; exact World.alloc_heap_new _ _
          have g7 := gz.below b7
          have m7 := (b7.block M hMw).trans mz
          have br7 := brz.trans (b7.mono (by omega))
          have row7 := Foot.below hrow b7
          have hs7 := b7.size
          have cM : wr.cell? ⟨M, 1, none⟩ = some (.slice A2 i c2) := by rw [Lib.cell_of_heap mz]; rfl
          have HV7 := Lib.hid hV7
          clear hV7 b7 mz gz brz hrow hoz hbz
          go_wp2_with (at_builtin; rw [← HV7.out]; (refine wpList_pushEd V7 (by rfl) _ _ (by rfl) (M + 1) _ A2 i c2 _ E (by rfl) g7 (.slice A5 r c5) l row7 _ eA (by rfl) (by omega) (by omega) ?_); intro A6 c6 V8 gb8 hg8 hb8; have m8 := (hg8.block M (by omega) (fun e => by have := hoE M e.symm; omega)).trans m7; have br8 := br7.trans (hb8.mono (by omega)); have hs8 := hb8.size; have f8 := Lib.frozen_of_heap m8 1; have c81 : V8.cell? ⟨M, 1, none⟩ = some (.slice A2 i c2) := (by rw [Lib.cell_of_heap m8]; rfl); clear hg8 hb8 m7 eA g7 br7 row7)
          obtain ⟨V9, hV9⟩ : ∃ V9, V9 = V8.setCell ⟨M, 1, none⟩ (.slice A6 (i + 1) c6) := ⟨_, rfl⟩
          have hu9 : Upd (fun b => b = M) V8 V9 := by rw [hV9]; exact Upd.setCell (S := fun b => b = M) _ (p := ⟨M, 1, none⟩) rfl _
          have m9 : V9.heap[M]? = some (.cells #[.slice A4 (i + 1) c4, .slice A6 (i + 1) c6] 25 (0, 0)) := by rw [hV9]; exact Go.Joins.block_setCell (i := 1) m8 (.slice A6 (i + 1) c6)
          have gb9 := gb8.upd hu9 (fun k hk => by omega)
          have br9 := br8.trans (hu9.below (by omega) (fun k hk => by omega))
          rw [← hV9]
          clear hV9 hu9 gb8 br8 m8 c81 f8
          go_roundw
          case rel => exact ⟨i + 1, A4, A6, c4, c6, names ++ [mkB y0], E ++ [l], by omega, by go_num, gb9, by simp [hnl], by simp [hel], m9, br9, HI'⟩
          case measure => simp [intOf]; omega
    · have HF := Lib.hid (show ∀ n2 E2, Good s n2 E2 → names = n2 ∧ E = toI E2 from fun n2 E2 h => by
        have h1 := good_count h
        rw [← HP.out] at h1
        obtain ⟨h2, h3⟩ := HI.out n2 E2 h
        have h4 := h.ok.len
        rw [List.take_of_length_le (by omega)] at h2
        rw [List.take_of_length_le (by rw [toI_length]; omega)] at h3
        exact ⟨h2, h3⟩)
      have hgr := hgb.gr
      have cM0 : wr.cell? ⟨M, 0, none⟩ = some (.slice A1 i c1) := by rw [Lib.cell_of_heap m0]; rfl
      have cM1 : wr.cell? ⟨M, 1, none⟩ = some (.slice A2 i c2) := by rw [Lib.cell_of_heap m0]; rfl
      have j0 := (hbr.block N (by omega)).trans k1
      have hbn := hbw1.trans (hbr.mono (by omega))
      have hNr : N < wr.heap.size := by omega
      have HGB := Lib.hid hgb
      have HEI := Lib.hid (And.intro hnl hel)
      clear hgb m0 hbr HI hnl hel
      by_cases hc : chk names E = 0
      · obtain ⟨E', rfl, hk⟩ := ok_of_chk hc
        have HCK := Lib.hid (rCheck_any hgr)
        rw [hc] at HCK
        have HPR := Lib.hid (fun w' hb => rPrint_any (hgr.at w' hb) hk)
        by_cases htx : s.data.toList = prn names E' E'.length
        · have ht : mkB (prn names E' E'.length) = s := by rw [← htx, mkB_of]
          rw [ht] at HPR
          have HGG := Lib.hid (show Good s names E' from ⟨hc, hk, htx⟩)
          have hse : (s.toList != s.toList) = false := by simp
          clear hc htx ht hk hgr
          go_wp2_with fail
          refine HCK.out.mono ?_
          rintro e w5 ⟨rfl, hb5⟩
          have d0 := (hb5.cell (p := ⟨M, 0, none⟩) (cell_some_lt cM0)).trans cM0
          have d1 := (hb5.cell (p := ⟨M, 1, none⟩) (cell_some_lt cM1)).trans cM1
          go_wp2_with fail
          refine (HPR.out _ hb5).mono ?_
          rintro e w6 ⟨rfl, hb6⟩
          have hb7 := hb5.trans (hb6.mono hb5.size)
          have e0 := (hb7.cell (p := ⟨M, 0, none⟩) (cell_some_lt cM0)).trans cM0
          have e1 := (hb7.cell (p := ⟨M, 1, none⟩) (cell_some_lt cM1)).trans cM1
          have j5 := (hb7.block N hNr).trans j0
          have hbn5 := hbn.trans (hb7.mono (by omega))
          have hs6 := hb7.size
          have HB7 := Lib.hid hb7
          clear hb5 hb6 hb7 d0 d1
          have n0 : w6.cell? ⟨N, 0, none⟩ = some (.slice none 0 0) := by rw [Lib.cell_of_heap j5]; rfl
          have n1 : w6.cell? ⟨N, 1, none⟩ = some (.slice none 0 0) := by rw [Lib.cell_of_heap j5]; rfl
          have f0 := Lib.frozen_of_heap j5 0
          have f1 := Lib.frozen_of_heap j5 1
          obtain ⟨W6, hW6⟩ : ∃ W6, W6 = (w6.setCell ⟨N, 0, none⟩ (.slice A1 i c1)).setCell ⟨N, 1, none⟩ (.slice A2 i c2) := ⟨_, rfl⟩
          have m6 : W6.heap[N]? = some (.cells #[.slice A1 i c1, .slice A2 i c2] 25 (0, 0)) := by
            rw [hW6]
            exact Go.Joins.block_setCell (i := 1) (Go.Joins.block_setCell (i := 0) j5 (.slice A1 i c1)) (.slice A2 i c2)
          have hu6 : Upd (fun b => b = N) w6 W6 := by
            rw [hW6]
            exact (Upd.setCell (S := fun b => b = N) _ (p := ⟨N, 0, none⟩) rfl _).trans (Upd.setCell (S := fun b => b = N) _ (p := ⟨N, 1, none⟩) rfl _)
          have a0 : W6.cell? ⟨N, 0, none⟩ = some (.slice A1 i c1) := by rw [Lib.cell_of_heap m6]; rfl
          have a1 : W6.cell? ⟨N, 1, none⟩ = some (.slice A2 i c2) := by rw [Lib.cell_of_heap m6]; rfl
          have HW6 := Lib.hid hW6
          have hbf := hbn5.trans (hu6.below (by omega) (fun k hk => by omega))
          clear hW6 m6 j5 hbn5
          go_wp2_with fail
          rw [← HW6.out]
          (try simp only [Exit.inBlock, Exit.then])
          refine bodyPost_ret (v := .tuple #[.agg #[.slice A1 i c1, .slice A2 i c2], .int .i64 0]) (by simp [results, Tryz.results18, go_sem, a0, a1]) rfl ?_
          refine .inl ⟨_, names, E', rfl, ?_, HGG.out, by rw [← HN.out]; exact hbf⟩
          have g5 := (HGB.out.below HB7.out).upd hu6 (fun k hk => by omega)
          have g6 := g5.gr
          exact g6
        · have HNG := Lib.hid (show ∀ n2 E2, ¬ Good s n2 E2 from fun n2 E2 h => by
            obtain ⟨e1, e2⟩ := HF.out n2 E2 h
            have e3 := toI_inj e2
            subst e1 e3
            exact htx h.txt)
          obtain ⟨z, hz⟩ : ∃ z, z = mkB (prn names E' E'.length) := ⟨_, rfl⟩
          rw [← hz] at HPR
          have hne : z.toList ≠ s.toList := fun e => htx (by
            rw [Lib.toList_data, Lib.toList_data, hz, mkB_data] at e
            exact e.symm)
          have hse : (z.toList != s.toList) = true := by simp [hne]
          have hse2 : (z.toList == s.toList) = false := by simp [hne]
          clear hc htx hz hk hgr hne
          go_wp2_with fail
          refine HCK.out.mono ?_
          rintro e w5 ⟨rfl, hb5⟩
          have d0 := (hb5.cell (p := ⟨M, 0, none⟩) (cell_some_lt cM0)).trans cM0
          have d1 := (hb5.cell (p := ⟨M, 1, none⟩) (cell_some_lt cM1)).trans cM1
          go_wp2_with fail
          refine (HPR.out _ hb5).mono ?_
          rintro e w6 ⟨rfl, hb6⟩
          have hb7 := hb5.trans (hb6.mono hb5.size)
          have j5 := (hb7.block N hNr).trans j0
          have hbn5 := hbn.trans (hb7.mono (by omega))
          have hs6 := hb7.size
          clear hb5 hb6 hb7 d0 d1
          have n0 : w6.cell? ⟨N, 0, none⟩ = some (.slice none 0 0) := by rw [Lib.cell_of_heap j5]; rfl
          have n1 : w6.cell? ⟨N, 1, none⟩ = some (.slice none 0 0) := by rw [Lib.cell_of_heap j5]; rfl
          have f0 := Lib.frozen_of_heap j5 0
          have f1 := Lib.frozen_of_heap j5 1
          obtain ⟨W6, hW6⟩ : ∃ W6, W6 = (w6.setCell ⟨N, 0, none⟩ (.slice none 0 0)).setCell ⟨N, 1, none⟩ (.slice none 0 0) := ⟨_, rfl⟩
          have m6 : W6.heap[N]? = some (.cells #[.slice none 0 0, .slice none 0 0] 25 (0, 0)) := by
            rw [hW6]
            exact Go.Joins.block_setCell (i := 1) (Go.Joins.block_setCell (i := 0) j5 (.slice none 0 0)) (.slice none 0 0)
          have hu6 : Upd (fun b => b = N) w6 W6 := by
            rw [hW6]
            exact (Upd.setCell (S := fun b => b = N) _ (p := ⟨N, 0, none⟩) rfl _).trans (Upd.setCell (S := fun b => b = N) _ (p := ⟨N, 1, none⟩) rfl _)
          have a0 : W6.cell? ⟨N, 0, none⟩ = some (.slice none 0 0) := by rw [Lib.cell_of_heap m6]; rfl
          have a1 : W6.cell? ⟨N, 1, none⟩ = some (.slice none 0 0) := by rw [Lib.cell_of_heap m6]; rfl
          have HW6 := Lib.hid hW6
          have hbf := hbn5.trans (hu6.below (by omega) (fun k hk => by omega))
          clear hW6 m6 j5 hbn5
          go_wp2_with fail
          rw [← HW6.out]
          (try simp only [Exit.inBlock, Exit.then])
          refine bodyPost_ret (v := .tuple #[.agg #[.slice none 0 0, .slice none 0 0], .int .i64 7]) (by simp [results, Tryz.results18, go_sem, a0, a1]) rfl ?_
          exact .inr ⟨rfl, HNG.out, by rw [← HN.out]; exact hbf⟩
      · have HCK := Lib.hid (rCheck_any hgr)
        have hz : (((chk names E : Nat) : Int) != 0) = true := by simp [hc]
        have HNG := Lib.hid (show ∀ n2 E2, ¬ Good s n2 E2 from fun n2 E2 h => by
          obtain ⟨e1, e2⟩ := HF.out n2 E2 h
          subst e1 e2
          exact hc h.chk0)
        generalize chk names E = qq at *
        clear hc hgr
        go_wp2_with fail
        refine HCK.out.mono ?_
        rintro e w6 ⟨rfl, hb7⟩
        have j5 := (hb7.block N hNr).trans j0
        have hbn5 := hbn.trans (hb7.mono (by omega))
        have hs6 := hb7.size
        clear hb7
        have n0 : w6.cell? ⟨N, 0, none⟩ = some (.slice none 0 0) := by rw [Lib.cell_of_heap j5]; rfl
        have n1 : w6.cell? ⟨N, 1, none⟩ = some (.slice none 0 0) := by rw [Lib.cell_of_heap j5]; rfl
        have f0 := Lib.frozen_of_heap j5 0
        have f1 := Lib.frozen_of_heap j5 1
        obtain ⟨W6, hW6⟩ : ∃ W6, W6 = (w6.setCell ⟨N, 0, none⟩ (.slice none 0 0)).setCell ⟨N, 1, none⟩ (.slice none 0 0) := ⟨_, rfl⟩
        have m6 : W6.heap[N]? = some (.cells #[.slice none 0 0, .slice none 0 0] 25 (0, 0)) := by
          rw [hW6]
          exact Go.Joins.block_setCell (i := 1) (Go.Joins.block_setCell (i := 0) j5 (.slice none 0 0)) (.slice none 0 0)
        have hu6 : Upd (fun b => b = N) w6 W6 := by
          rw [hW6]
          exact (Upd.setCell (S := fun b => b = N) _ (p := ⟨N, 0, none⟩) rfl _).trans (Upd.setCell (S := fun b => b = N) _ (p := ⟨N, 1, none⟩) rfl _)
        have a0 : W6.cell? ⟨N, 0, none⟩ = some (.slice none 0 0) := by rw [Lib.cell_of_heap m6]; rfl
        have a1 : W6.cell? ⟨N, 1, none⟩ = some (.slice none 0 0) := by rw [Lib.cell_of_heap m6]; rfl
        have HW6 := Lib.hid hW6
        have hbf := hbn5.trans (hu6.below (by omega) (fun k hk => by omega))
        clear hW6 m6 j5 hbn5
        go_wp2_with fail
        rw [← HW6.out]
        (try simp only [Exit.inBlock, Exit.then])
        refine bodyPost_ret (v := .tuple #[.agg #[.slice none 0 0, .slice none 0 0], .int .i64 7]) (by simp [results, Tryz.results18, go_sem, a0, a1]) rfl ?_
        exact .inr ⟨rfl, HNG.out, by rw [← HN.out]; exact hbf⟩
end Go.Proofs.YtpkjdnplmgfbbaaGreatDoor
