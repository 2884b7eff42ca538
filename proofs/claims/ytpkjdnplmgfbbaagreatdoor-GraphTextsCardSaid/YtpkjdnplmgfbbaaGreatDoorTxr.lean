/- base.Cut; base.Decimal, base.Number. -/
import Derived.Test.YtpkjdnplmgfbbaaGreatDoorTxp
import Derived.Test.YtpkjdnplmgfbbaaGreatDoorZt
namespace Go.Proofs.YtpkjdnplmgfbbaaGreatDoor
open Go.RowKit

/-- A list of texts of the call's own. -/
def OwnT (w : World) (base : Nat) (v : Value) (L : List ByteArray) : Prop := w.ownsRow base 9 1 v L.length (L.map Value.string) ∧ ∀ s ∈ L, s.size ≤ maxLen
theorem OwnT.below {w w' : World} {base : Nat} {v : Value} {L : List ByteArray} (h : OwnT w base v L) (hb : Below w.heap.size w w') : OwnT w' base v L := ⟨own_below h.1 hb, h.2⟩
theorem OwnT.drew {w : World} {base : Nat} {v : Value} {L : List ByteArray} (h : OwnT w base v L) : OwnT w.drew base v L := h
theorem OwnT.len {w : World} {base : Nat} {A : Option Addr} {n c : Nat} {L : List ByteArray} (h : OwnT w base (.slice A n c) L) : n = L.length := by
  obtain ⟨A', c', e, _⟩ := own_slice h.1
  injection e
theorem OwnT.cells {w : World} {base : Nat} {A : Option Addr} {n c : Nat} {L : List ByteArray} (h : OwnT w base (.slice A n c) L) (hn : 0 < n) : ∃ g, A = some ⟨g, 0, none⟩ ∧ base ≤ g ∧ g < w.heap.size ∧ (∀ i, w.frozen? ⟨g, i, none⟩ = false) ∧ ∀ j y, L[j]? = some y → w.cell? ⟨g, j, none⟩ = some (.string y) := by
  obtain rfl := h.len
  obtain ⟨g, cap, e, hb, _, _, hf, hc⟩ := own_cells h.1 hn
  injection e with e1 e2 e3
  subst e1
  exact ⟨g, rfl, hb, (World.ownsRow.lt h.1 g rfl).2, hf, fun j y hy => hc j _ (by rw [List.getElem?_map, hy]; rfl)⟩
theorem own_made {w : World} {base : Nat} (hb : base ≤ w.heap.size) (y : ByteArray) (hy : y.size ≤ maxLen) : OwnT (w.alloc (.cells #[.string y] 9)) base (.slice (some ⟨w.heap.size, 0, none⟩) 1 1) [y] := by
  refine ⟨⟨rfl, .inr ⟨w.heap.size, 1, #[.string y], rfl, hb, heap_alloc_new w _, Nat.le_refl _, by unfold maxLen; omega, rfl, rfl⟩⟩, fun s hs => ?_⟩
  rw [List.mem_singleton] at hs
  rw [hs]; exact hy
section
variable (w0 : World)
theorem wpList_pushT {ops : Array Oper} {rest : List Oper} {o : Oper} {a : Act} {Q : Exit → Act → World → Prop} (hgd : o.guard = none) (s x : Operand)
    (ho : o.op = .call { callee := .builtin .append, args := #[s, x], argTypes := #[22, 22] })
    (base : Nat) (A : Option Addr) (n c : Nat) (L : List ByteArray) (hs : a.eval s = .slice A n c) (h0 : OwnT w0 base (.slice A n c) L)
    (y : ByteArray) (hy : y.size ≤ maxLen) (hx : a.eval x = .slice (some ⟨w0.heap.size, 0, none⟩) 1 1) (h63 : n + 1 ≤ 1000000000) (hbase : base ≤ w0.heap.size)
    (h : ∀ A' c' w', OwnT w' base (.slice A' (n + 1) c') (L ++ [y]) → Below base w0 w' → wpList Tryz.prog ops Q rest (a.put o.dst (.slice A' (n + 1) c')) w') :
    wpList Tryz.prog ops Q (o :: rest) a (w0.alloc (.cells #[.string y] 9)) := by
  obtain rfl := h0.len
  refine wpList_app _ hgd s x 22 22 ho base 9 9 (.string ⟨#[]⟩) 1 16 Tryz.underlying22 Tryz.underlying22 info_str rfl (by omega) _ L.length (L.map Value.string) hs (World.ownsRow.alloc h0.1 _) _ 1 1 [.string y] hx (src_block (heap_alloc_new w0 _) 1 1 rfl) (by simp [Value.oneCell']) (by unfold maxLen; omega) (by omega) (by simp; omega) ?_
  intro v' w' hown' hg hob
  obtain ⟨A', c', rfl, _, _⟩ := own_slice hown'
  have hg0 : w0.grownBy w' (Value.slice A L.length c).ownBlock := grownBy_trans (World.grownBy_alloc w0 _ _) hg
  refine h A' c' w' ⟨?_, fun s hs => ?_⟩ ((Below.refl _ _).grown hg0 hbase (fun k hk => (World.ownsRow.lt h0.1 k hk).1))
  · rw [List.length_append, List.map_append]; exact hown'
  · rcases List.mem_append.1 hs with h1 | h1
    · exact h0.2 s h1
    · rw [List.mem_singleton] at h1; rw [h1]; exact hy
end

/-! the pieces, from the left -/
def ctS (c : UInt8) (L : List (List UInt8)) (b : UInt8) : List (List UInt8) := if b = c then L ++ [[]] else L.dropLast ++ [L.getLastD [] ++ [b]]
def ctL (c : UInt8) (l : List UInt8) : List (List UInt8) := l.foldl (ctS c) [[]]
theorem ctL_snoc (c : UInt8) (l : List UInt8) (b : UInt8) : ctL c (l ++ [b]) = ctS c (ctL c l) b := by simp [ctL, List.foldl_append]
theorem ctS_ne {c : UInt8} {L : List (List UInt8)} {b : UInt8} : ctS c L b ≠ [] := by unfold ctS; split <;> simp
theorem ctL_ne (c : UInt8) (l : List UInt8) : ctL c l ≠ [] := by
  rcases List.eq_nil_or_concat l with rfl | ⟨l', b, rfl⟩
  · simp [ctL]
  · rw [List.concat_eq_append, ctL_snoc]; exact ctS_ne
theorem ct_piece {c : UInt8} : ∀ (p r : List UInt8) (L : List (List UInt8)) (q : List UInt8), c ∉ p → (p ++ r).foldl (ctS c) (L ++ [q]) = r.foldl (ctS c) (L ++ [q ++ p])
  | [], r, L, q, _ => by simp
  | b :: p, r, L, q, h => by
    have hb : b ≠ c := fun e => h (by simp [e])
    rw [List.cons_append, List.foldl_cons]
    have e : ctS c (L ++ [q]) b = L ++ [q ++ [b]] := by unfold ctS; rw [if_neg hb]; simp
    rw [e, ct_piece p r L (q ++ [b]) (fun hm => h (by simp [hm]))]
    simp
theorem ct_at {c : UInt8} (r : List UInt8) (L : List (List UInt8)) : (c :: r).foldl (ctS c) L = r.foldl (ctS c) (L ++ [[]]) := by
  rw [List.foldl_cons]
  unfold ctS
  rw [if_pos rfl]
theorem ct_lines {c : UInt8} : ∀ (ls : List (List UInt8)) (L : List (List UInt8)), (∀ l ∈ ls, c ∉ l) → (ls.flatMap fun l => l ++ [c]).foldl (ctS c) (L ++ [[]]) = L ++ ls ++ [[]]
  | [], L, _ => by simp
  | l :: ls, L, h => by
    rw [List.flatMap_cons, List.append_assoc, ct_piece l _ L [] (h l (by simp)), List.singleton_append, ct_at, List.nil_append, ct_lines ls (L ++ [l]) (fun x hx => h x (by simp [hx]))]
    simp
theorem ct_words {c : UInt8} : ∀ (ws : List (List UInt8)) (L : List (List UInt8)) (q : List UInt8), (∀ x ∈ ws, c ∉ x) → (ws.flatMap fun w => c :: w).foldl (ctS c) (L ++ [q]) = L ++ [q] ++ ws
  | [], L, q, _ => by simp
  | w :: ws, L, q, h => by
    rw [List.flatMap_cons, List.cons_append, ct_at, ct_piece w _ (L ++ [q]) [] (h w (by simp)), List.nil_append, ct_words ws (L ++ [q]) w (fun x hx => h x (by simp [hx]))]
    simp
theorem ctL_lines {c : UInt8} {ls : List (List UInt8)} (h : ∀ l ∈ ls, c ∉ l) : ctL c (ls.flatMap fun l => l ++ [c]) = ls ++ [[]] := by
  have := ct_lines ls [] h
  simpa [ctL] using this
theorem ctL_words {ws : List (List UInt8)} {w : List UInt8} (hw : 32 ∉ w) (h : ∀ x ∈ ws, 32 ∉ x) : ctL 32 (w ++ sps ws) = w :: ws := by
  have h1 := ct_piece (c := 32) w (sps ws) [] [] hw
  have h2 := ct_words (c := 32) ws [] w h
  unfold ctL
  simp only [List.nil_append] at h1 h2
  rw [h1]
  unfold sps
  rw [h2]
  rfl
theorem ctL_size_step (c : UInt8) (l : List UInt8) (b : UInt8) (ih : (∀ x ∈ ctL c l, x.length ≤ l.length) ∧ (ctL c l).length ≤ l.length + 1) : (∀ x ∈ ctL c (l ++ [b]), x.length ≤ (l ++ [b]).length) ∧ (ctL c (l ++ [b])).length ≤ (l ++ [b]).length + 1 := by
    obtain ⟨h1, h2⟩ := ih
    rw [ctL_snoc]
    unfold ctS
    split
    · refine ⟨fun x hx => ?_, by simp; omega⟩
      rcases List.mem_append.1 hx with hx | hx
      · have := h1 x hx; simp; omega
      · rw [List.mem_singleton] at hx; rw [hx]; simp
    · refine ⟨fun x hx => ?_, by simp; omega⟩
      rcases List.mem_append.1 hx with hx | hx
      · have := h1 x ((List.dropLast_sublist _).subset hx); simp; omega
      · rw [List.mem_singleton] at hx
        rw [hx]
        have h3 : (ctL c l).getLastD [] ∈ ctL c l := by
          rw [List.getLastD_eq_getLast?, List.getLast?_eq_some_getLast (ctL_ne c l)]
          exact List.getLast_mem _
        have := h1 _ h3
        simp only [List.length_append, List.length_singleton]
        omega
theorem ctL_size (c : UInt8) : ∀ l : List UInt8, (∀ x ∈ ctL c l, x.length ≤ l.length) ∧ (ctL c l).length ≤ l.length + 1 := by
  have key : ∀ (n : Nat) (l : List UInt8), l.length = n → (∀ x ∈ ctL c l, x.length ≤ l.length) ∧ (ctL c l).length ≤ l.length + 1 := by
    intro n
    induction n with
    | zero =>
      intro l hl
      rw [List.eq_nil_of_length_eq_zero hl]
      simp [ctL]
    | succ n ih =>
      intro l hl
      rcases List.eq_nil_or_concat l with rfl | ⟨l', b, rfl⟩
      · simp at hl
      · rw [List.concat_eq_append] at hl ⊢
        exact ctL_size_step c l' b (ih l' (by simp at hl; exact hl))
  exact fun l => key l.length l rfl

def CutR (s : ByteArray) (c : UInt8) (w : World) (e : Ending) (w' : World) : Prop := ∃ A n k, e = .returned (.slice A n k) ∧ OwnT w' w.heap.size (.slice A n k) ((ctL c s.data.toList).map mkB) ∧ Below w.heap.size w w'
set_option maxHeartbeats 4000000 in
set_option maxRecDepth 100000 in
theorem Cut_any {w : World} (s : ByteArray) (c : UInt8) (cI : Int) (hcI : cI = (c.toNat : Int)) (hs : s.size ≤ 1000000) : Calls Tryz.prog 51 #[.string s, .int .u8 cI] w (CutR s c w) := by
  subst hcI
  go_enter Tryz.func51, Tryz.ntmps51
  go_wp2_with fail
  have hown0 := own_made (w := w) (base := w.heap.size) (Nat.le_refl _) ⟨#[]⟩ (by decide)
  have hb0 : Below w.heap.size w (w.alloc (.cells #[.string ⟨#[]⟩] 9)) := (Below.refl _ _).alloc (Nat.le_refl _) _
  go_loopw [5, 6] (fun o i wr => ∃ (k n cp : Nat) (A : Option Addr) (L : List (List UInt8)), k ≤ s.size ∧ i = .int .i64 (k : Nat) ∧ o = .slice A n cp ∧ OwnT wr w.heap.size (.slice A n cp) (L.map mkB) ∧ Hid (L = ctL c (s.data.toList.take k)) ∧ Below w.heap.size w wr) (fun _ i _ => s.size - (intOf i).toNat)
  case atStart => exact ⟨0, 1, 1, _, [[]], by omega, rfl, rfl, hown0, Lib.hid rfl, hb0⟩
  case round =>
    clear hown0 hb0
    obtain ⟨k, n, cp, A, L, hk, rfl, rfl, hown, HL, hbr⟩ := hrel
    have hln := hown.len
    rw [List.length_map] at hln
    have hLs := ctL_size c (s.data.toList.take k)
    rw [← HL.out] at hLs
    obtain ⟨hL1, hL2⟩ := hLs
    have hLne : L ≠ [] := by rw [HL.out]; exact ctL_ne _ _
    obtain ⟨m, rfl⟩ : ∃ m, n = m + 1 := ⟨n - 1, by have := List.length_pos_iff.2 hLne; omega⟩
    have hn1 : m ≤ 1000001 := by rw [List.length_take] at hL2; omega
    have HLN := Lib.hid hln
    clear hln
    by_cases hks : k < s.size
    · obtain ⟨b, hb⟩ : ∃ b, s[k] = b := ⟨_, rfl⟩
      have hget : s.data.toList[k]? = some b := by
        rw [← hb, List.getElem?_eq_getElem (by rw [← Lib.size_eq]; exact hks)]
        rfl
      have htk : s.data.toList.take (k + 1) = s.data.toList.take k ++ [b] := by rw [List.take_add_one, hget]; rfl
      have HTK := Lib.hid (show ctS c L b = ctL c (s.data.toList.take (k + 1)) by rw [htk, ctL_snoc, HL.out])
      have HG := Lib.hid hget
      have HBB := Lib.hid hb
      clear hget htk
      by_cases hbc : b = c
      · have z1 : (s[k].toNat == c.toNat) = true := by simp [hb, hbc]
        have z2 : ((s[k].toNat : Int) == (c.toNat : Int)) = true := by simp [hb, hbc]
        have HTK' := Lib.hid (show (L.map mkB) ++ [⟨#[]⟩] = (ctL c (s.data.toList.take (k + 1))).map mkB by
          rw [← HTK.out]
          unfold ctS
          rw [if_pos hbc, List.map_append]
          rfl)
        have HLB := Lib.hid (show ctS c L b = L ++ [[]] by unfold ctS; rw [if_pos hbc])
        clear hb hbc
        go_wp2_with (at_builtin; (refine wpList_pushT wr (by rfl) _ _ (by rfl) w.heap.size A (m + 1) cp (L.map mkB) (by rfl) hown ⟨#[]⟩ (by decide) (by rfl) (by omega) hbr.size ?_); intro A1 c1 w1 hown1 hb1)
        go_roundw
        case rel => exact ⟨k + 1, m + 1 + 1, c1, A1, _, by omega, by go_num, rfl, by rw [HTK'.out] at hown1; exact hown1, Lib.hid rfl, hbr.trans hb1⟩
        case measure => simp [intOf]; omega
      · have z1 : (s[k].toNat == c.toNat) = false := beq_eq_false_iff_ne.2 (fun e => hbc (by rw [← hb]; exact UInt8.toNat_inj.1 e))
        have z2 : ((s[k].toNat : Int) == (c.toNat : Int)) = false := beq_eq_false_iff_ne.2 (fun e => hbc (by rw [← hb]; exact UInt8.toNat_inj.1 (by omega)))
        obtain ⟨g, rfl, hg1, hg2, hfz, hcl⟩ := hown.cells (by omega)
        obtain ⟨y, hy⟩ : ∃ y, L[m]? = some y := ⟨_, List.getElem?_eq_getElem (by have := HLN.out; omega)⟩
        have hcy := hcl m (mkB y) (by rw [List.getElem?_map, hy]; rfl)
        have hfm := hfz m
        have hst0 : wr.ownsRow w.heap.size 9 1 (.slice (some ⟨g, 0, none⟩) (m + 1) cp) (m + 1) ((L.map mkB).map Value.string) := by
          have h9 := hown.1
          rw [List.length_map, ← HLN.out] at h9
          exact h9
        have hst := (hst0.stored m (.string (mkB (y ++ [b])))).1
        have hys := hL1 y (List.mem_of_getElem? hy)
        have hyl : y.length ≤ 1000000 := by rw [List.length_take] at hys; omega
        have hLs : (L.map mkB).set m (mkB (y ++ [b])) = (ctL c (s.data.toList.take (k + 1))).map mkB := by
          rw [← HTK.out]
          unfold ctS
          rw [if_neg hbc]
          have e1 : L = L.dropLast ++ [y] := by
            have h1 := List.dropLast_concat_getLast hLne
            have h2 : L.getLast hLne = y := by
              rw [List.getLast_eq_getElem]
              have h3 := HLN.out
              have h4 := List.getElem?_eq_some_iff.1 hy
              obtain ⟨h5, h6⟩ := h4
              have h7 : L.length - 1 = m := by omega
              simp only [h7]
              exact h6
            rw [h2] at h1
            exact h1.symm
          have e2 : L.getLastD [] = y := by rw [e1]; simp
          have e3 : L.dropLast.length = m := by rw [List.length_dropLast]; have := HLN.out; omega
          rw [e2]
          conv => lhs; rw [e1]
          rw [List.map_append, List.set_append_right _ _ (by rw [List.length_map]; omega), List.length_map, e3]
          simp
        have hown' : OwnT (wr.setCell ⟨g, m, none⟩ (.string (mkB (y ++ [b])))) w.heap.size (.slice (some ⟨g, 0, none⟩) (m + 1) cp) ((ctL c (s.data.toList.take (k + 1))).map mkB) := by
          rw [← hLs]
          refine ⟨by rw [List.length_set, List.length_map, ← HLN.out, List.map_set]; exact hst, fun z hz => ?_⟩
          rcases List.mem_or_eq_of_mem_set hz with h1 | h1
          · exact hown.2 z h1
          · rw [h1, mkB_size]; unfold maxLen; simp; omega
        have hcat : mkB y ++ s.extract k (k + 1) = mkB (y ++ [b]) := by
          refine eq_mkB ?_
          rw [ByteArray.data_append, Array.toList_append, mkB_data, Lib.extract_data]
          congr 1
          have h8 := List.getElem?_eq_some_iff.1 HG.out
          obtain ⟨h8, h9⟩ := h8
          rw [List.drop_eq_getElem_cons h8, h9, show k + 1 - k = 1 by omega]
          rfl
        rw [← hcat] at hown'
        have HOWN := Lib.hid hown'
        have hbw := hbr.setCell (p := ⟨g, m, none⟩) hg1 (.string (mkB y ++ s.extract k (k + 1)))
        have HBW := Lib.hid hbw
        have hks1 : (0 : Int) ≤ (k : Int) := by omega
        have hks2 : (k : Int) + 1 ≤ (s.size : Int) := by omega
        have hs0 := same_drew wr
        have hmy : (mkB y).size ≤ 1000000 := by rw [mkB_size]; exact hyl
        have hm0 : (0 : Int) ≤ (m : Int) := by omega
        have hm1 : (m : Int) < (m : Int) + 1 := by omega
        have tk : ((k : Int) + 1).toNat = k + 1 := by omega
        have kk0 : (0 : Int) ≤ (k : Int) + 1 := by omega
        have kk1 : (k : Int) ≤ (k : Int) + 1 := by omega
        have hkn : k + 1 ≤ s.size := by omega
        have hms : s.size - (k + 1) < s.size - k := by omega
        have hgn : Value.int .i64 ((k : Int) + 1) = .int .i64 ((k + 1 : Nat) : Int) := by go_num
        have HGN := Lib.hid hgn
        have HMS := Lib.hid hms
        clear hgn hms
        have WM := Lib.hid (show IntKind.i64.wrap (m : Int) = (m : Int) from IntWalk.i64_in _ (by omega))
        have WK := Lib.hid (show IntKind.i64.wrap ((k : Int) + 1) = (k : Int) + 1 from IntWalk.i64_in _ (by omega))
        have hkk : (k : Int) + 1 ≤ (s.size : Int) := by omega
        clear hb hbc hown hcl hst hst0 hown' hcat hLs hbw hy hfz
        go_wp2_with fail
        refine wp_region_idx 17 [(0, true), (1, true), (2, true), (3, true), (4, true), (5, true), (6, true), (7, true), (8, true), (9, true), (10, true), (11, true), (12, true), (13, true), (14, true), (15, true), (16, true), (17, false)] (by kernel_rfl) (by rfl) (by kernel_rfl) (by kernel_rfl) (by kernel_rfl) (fun _ _ _ _ _ h => h) (Same wr) ?_
        change goI _ _ _ _ _ _ wr.drew
        iterate 15
          refine goI_read hs0 (by rfl) ?_ (by rfl) (fun wz hSw => ?_) ?_
          rotate_left
          · (try obtain ⟨hs1, hs2⟩ := hSw)
            go_simp
            try rw [WM.out]
            try rw [WK.out]
            try with_reducible rfl
          simp only [Act.put, List.setIfInBounds_toArray]
        refine goI_read hs0 (by rfl) ?_ (by rfl) (fun wz hSw => ?_) ?_
        rotate_left
        · (try obtain ⟨hs1, hs2⟩ := hSw)
          go_simp
          rw [if_neg (show ¬ (9223372036854775807 < (mkB y).size + 1) by omega)]
        simp only [Act.put]
        refine goI_read hs0 (by rfl) ?_ (by rfl) (fun wz hSw => ?_) ?_
        rotate_left
        · (try obtain ⟨hs1, hs2⟩ := hSw)
          go_simp
          try rw [WM.out]
          try with_reducible rfl
        simp only [Act.put]
        refine goI_step hs0 (by rfl) ?_
        go_wp2_with fail
        refine goI_nil ?_
        go_wp2_with fail
        go_roundw
        case rel => exact ⟨k + 1, m + 1, cp, _, _, hkn, HGN.out, rfl, OwnT.drew HOWN.out, Lib.hid rfl, HBW.out.drew⟩
        case measure => simp [intOf]; exact HMS.out
    · obtain rfl : k = s.size := by omega
      go_wp2_with fail
      go_ret
      exact ⟨A, m + 1, cp, rfl, by rw [HL.out, List.take_of_length_le (by rw [← Lib.size_eq]; exact Nat.le_refl _)] at hown; exact hown, hbr⟩
end Go.Proofs.YtpkjdnplmgfbbaaGreatDoor
