/- Package brandt: each coefficient changed. Package brandt: the primitive part. Package brandt: leading coefficients, the positive primitive part. Package brandt: the derivative. slices.Clone of a polynomial; package brandt's less. Package brandt: a polynomial less a multiple of another one. -/
import Derived.Test.YtdmdagilopckgaaGreatG8
import Derived.Deep.RegionWith
import Derived.Laws.OwnMore
namespace Go.Proofs.YtdmdagilopckgaaGreat
open Go.RowKit

theorem each_step {l : List Int} {f : Int → Int} {n k : Nat} (hl : k < l.length) (hn : k < n) : ((l.take k).map f ++ List.replicate (n - k) 0).set k (f (gz l k)) = (l.take (k + 1)).map f ++ List.replicate (n - (k + 1)) 0 := by
  rw [take_succ_gz hl, List.map_append]
  obtain ⟨m, hm⟩ : ∃ m, n - k = m + 1 := ⟨n - k - 1, by omega⟩
  have hm2 : n - (k + 1) = m := by omega
  rw [hm, hm2, List.replicate_succ, List.set_append]
  simp [Nat.min_eq_left (Nat.le_of_lt hl)]

set_option maxHeartbeats 1000000 in
theorem eachD_prim {A : Option Addr} {n c : Nat} {l : List Int} {w : World} (h : Pl NI w (fun _ => True) A n c l) (hn : n ≤ 1000000) (P : Value) (f : Int → Int)
    (hf : ∀ w' v x, Below w.heap.size w w' → x ∈ l → NI w' v x → Calls Tryz.prog 104 #[v, P] w' (Gives w' fun w'' v' => NIntV w'' (w'.heap.size ≤ ·) v' (f x)))
    (hw : ∀ x ∈ l, wl (f x).natAbs ≤ 1000000000000) :
    Calls Tryz.prog 71 #[.slice A n c, .func (.func 104) #[] #[P]] w (Gives w fun w' v => PvD w' (w.heap.size ≤ ·) v (tz (l.map f))) := by
  have hm := h.room
  have hc := h.cap
  have hl := Lib.hid h.len
  go_enter Tryz.func71, Tryz.ntmps71
  go_wp2_with (at_make; go_must (refine wpList_make_arr _ rfl _ _ _ rfl 63 (.agg #[.bool false, .slice none 0 0]) 2 32 Tryz.underlying22 info_Int _ _ _ _ n rfl rfl (by go_num) (by go_num) (by omega) (by omega) ?_); intro w1 harr1 hb1 hs1)
  replace harr1 := IArr.made harr1
  go_loopw [13] (fun iv wr => ∃ k : Nat, iv = .int .i64 k ∧ k ≤ n ∧ IArr wr w.heap.size ((l.take k).map f ++ List.replicate (n - k) 0) ∧ Below w.heap.size w wr) (fun iv _ => n - (intOf iv).toNat)
  case atStart => exact ⟨0, rfl, by omega, by simpa using harr1, hb1⟩
  case round =>
    obtain ⟨k, rfl, hk, harr, hbr⟩ := hrel
    rcases Nat.lt_or_ge k n with hkn | hkn
    · obtain ⟨b, off, rfl, _, hcell⟩ := (h.below hbr).cells (by omega)
      obtain ⟨neg, B, m, q, e0, e1, e2⟩ := hcell k hkn
      clear hcell
      have hlt := harr.lt
      have HBW : Below wr.heap.size wr (wr.alloc (.cells #[.bool neg, .slice B m q] 63)) := (Below.refl _ _).alloc (Nat.le_refl _) _
      have hcall := hf _ _ _ (hbr.trans (HBW.mono hbr.size)) (gz_mem (by rw [hl.out]; exact hkn)) (e2.below HBW)
      have HC := Lib.hid hcall
      clear hcall hf h hw
      go_wp2_with (go_at_call 104; go_must (refine HC.out.mono ?_); rintro e w2 ⟨v2, rfl, ⟨A2, c2, rfl, hw2⟩, hb2⟩; have hb3 := HBW.trans (hb2.mono HBW.size); have harr2 := harr.below hb3; obtain ⟨neg3, B3, m3, q3, a0, a1, _⟩ := harr2.cells (j := k) (by rw [List.length_append, List.length_map, List.length_take, hl.out, List.length_replicate]; omega); have z0 := harr2.frozen (k * 2); have z1 := harr2.frozen (k * 2 + 1); have hlt2 := harr2.lt)
      go_round
      case rel =>
        refine ⟨k + 1, by go_num, by omega, ?_, (((hbr.trans (hb3.mono hbr.size))).setCell (by simp) _).setCell (by simp) _⟩
        have hset := harr2.set (i := k) (by rw [List.length_append, List.length_map, List.length_take, hl.out, List.length_replicate]; omega) (x := f (gz l k)) ⟨A2, c2, rfl, hw2.mono (fun b hb _ => by have : (wr.alloc _).heap.size ≤ b := hb; simp at this; omega)⟩
        rw [each_step (by rw [hl.out]; exact hkn) hkn] at hset
        exact hset
      case measure => simp [intOf]; omega
    · obtain rfl : k = n := by omega
      have e1 : ((l.take k).map f ++ List.replicate (k - k) 0) = l.map f := by simp [List.take_of_length_le (show l.length ≤ k by rw [hl.out]; exact Nat.le_refl _)]
      rw [e1] at harr
      have e2 : (l.map f).length = k := by rw [List.length_map, hl.out]
      have hpl := (harr.pl (D := fun _ => True) trivial (by rw [e2]; unfold maxLen; omega)).imp (E' := IntB) fun v x hx hv => hv.b (by
        obtain ⟨y, hy, rfl⟩ := List.mem_map.1 hx
        exact hw y hy)
      rw [e2] at hpl
      clear e1 e2 hf hw h
      go_wp2_with (go_at_call 67; go_must (refine (normalD_any hpl hn).mono ?_); rintro e w2 ⟨v2, rfl, hv2, hb2⟩; obtain ⟨A2, c2, rfl⟩ := hv2.slice_)
      go_ret
      exact ⟨_, rfl, hv2.mono fun b hb _ => by have : wr.heap.size ≤ b := hb; have := hbr.size; show w.heap.size ≤ b; omega, hbr.trans (hb2.mono hbr.size)⟩

theorem each_prim {A : Option Addr} {n c : Nat} {l : List Int} {w : World} (h : Pl NI w (fun _ => True) A n c l) (hn : n ≤ 1000000) (P : Value) (f : Int → Int)
    (hf : ∀ w' v x, Below w.heap.size w w' → x ∈ l → NI w' v x → Calls Tryz.prog 104 #[v, P] w' (Gives w' fun w'' v' => NIntV w'' (w'.heap.size ≤ ·) v' (f x)))
    (hw : ∀ x ∈ l, wl (f x).natAbs ≤ 1000000000000) :
    Calls Tryz.prog 71 #[.slice A n c, .func (.func 104) #[] #[P]] w (Gives w fun w' v => PV w' (w.heap.size ≤ ·) v (tz (l.map f))) := by
  refine (eachD_prim h hn P f hf hw).mono ?_
  rintro e w2 ⟨v2, rfl, hv2, hb2⟩
  exact ⟨v2, rfl, hv2.pv, hb2⟩

set_option maxHeartbeats 1000000 in
theorem each_rest {A : Option Addr} {n c : Nat} {l : List Int} {w : World} (h : Pl NI w (fun _ => True) A n c l) (hn : n ≤ 1000000) (P : Value) (f : Int → Int)
    (hf : ∀ w' v x, Below w.heap.size w w' → x ∈ l → NI w' v x → Calls Tryz.prog 106 #[v, P] w' (Gives w' fun w'' v' => NIntV w'' (w'.heap.size ≤ ·) v' (f x)))
    (hw : ∀ x ∈ l, wl (f x).natAbs ≤ 1000000000000) :
    Calls Tryz.prog 71 #[.slice A n c, .func (.func 106) #[] #[P]] w (Gives w fun w' v => PV w' (w.heap.size ≤ ·) v (tz (l.map f))) := by
  have hm := h.room
  have hc := h.cap
  have hl := Lib.hid h.len
  go_enter Tryz.func71, Tryz.ntmps71
  go_wp2_with (at_make; go_must (refine wpList_make_arr _ rfl _ _ _ rfl 63 (.agg #[.bool false, .slice none 0 0]) 2 32 Tryz.underlying22 info_Int _ _ _ _ n rfl rfl (by go_num) (by go_num) (by omega) (by omega) ?_); intro w1 harr1 hb1 hs1)
  replace harr1 := IArr.made harr1
  go_loopw [13] (fun iv wr => ∃ k : Nat, iv = .int .i64 k ∧ k ≤ n ∧ IArr wr w.heap.size ((l.take k).map f ++ List.replicate (n - k) 0) ∧ Below w.heap.size w wr) (fun iv _ => n - (intOf iv).toNat)
  case atStart => exact ⟨0, rfl, by omega, by simpa using harr1, hb1⟩
  case round =>
    obtain ⟨k, rfl, hk, harr, hbr⟩ := hrel
    rcases Nat.lt_or_ge k n with hkn | hkn
    · obtain ⟨b, off, rfl, _, hcell⟩ := (h.below hbr).cells (by omega)
      obtain ⟨neg, B, m, q, e0, e1, e2⟩ := hcell k hkn
      clear hcell
      have hlt := harr.lt
      have HBW : Below wr.heap.size wr (wr.alloc (.cells #[.bool neg, .slice B m q] 63)) := (Below.refl _ _).alloc (Nat.le_refl _) _
      have hcall := hf _ _ _ (hbr.trans (HBW.mono hbr.size)) (gz_mem (by rw [hl.out]; exact hkn)) (e2.below HBW)
      have HC := Lib.hid hcall
      clear hcall hf h hw
      go_wp2_with (go_at_call 106; go_must (refine HC.out.mono ?_); rintro e w2 ⟨v2, rfl, ⟨A2, c2, rfl, hw2⟩, hb2⟩; have hb3 := HBW.trans (hb2.mono HBW.size); have harr2 := harr.below hb3; obtain ⟨neg3, B3, m3, q3, a0, a1, _⟩ := harr2.cells (j := k) (by rw [List.length_append, List.length_map, List.length_take, hl.out, List.length_replicate]; omega); have z0 := harr2.frozen (k * 2); have z1 := harr2.frozen (k * 2 + 1); have hlt2 := harr2.lt)
      go_round
      case rel =>
        refine ⟨k + 1, by go_num, by omega, ?_, (((hbr.trans (hb3.mono hbr.size))).setCell (by simp) _).setCell (by simp) _⟩
        have hset := harr2.set (i := k) (by rw [List.length_append, List.length_map, List.length_take, hl.out, List.length_replicate]; omega) (x := f (gz l k)) ⟨A2, c2, rfl, hw2.mono (fun b hb _ => by have : (wr.alloc _).heap.size ≤ b := hb; simp at this; omega)⟩
        rw [each_step (by rw [hl.out]; exact hkn) hkn] at hset
        exact hset
      case measure => simp [intOf]; omega
    · obtain rfl : k = n := by omega
      have e1 : ((l.take k).map f ++ List.replicate (k - k) 0) = l.map f := by simp [List.take_of_length_le (show l.length ≤ k by rw [hl.out]; exact Nat.le_refl _)]
      rw [e1] at harr
      have e2 : (l.map f).length = k := by rw [List.length_map, hl.out]
      have hpl := (harr.pl (D := fun _ => True) trivial (by rw [e2]; unfold maxLen; omega)).imp (E' := IntB) fun v x hx hv => hv.b (by
        obtain ⟨y, hy, rfl⟩ := List.mem_map.1 hx
        exact hw y hy)
      rw [e2] at hpl
      clear e1 e2 hf hw h
      go_wp2_with (go_at_call 67; go_must (refine (normal_any hpl hn).mono ?_); rintro e w2 ⟨v2, rfl, hv2, hb2⟩)
      go_ret
      obtain ⟨A2, c2, rfl, hv2⟩ := hv2
      exact ⟨_, rfl, ⟨A2, c2, rfl, hv2.mono fun b hb _ => by have : wr.heap.size ≤ b := hb; have := hbr.size; show w.heap.size ≤ b; omega⟩, hbr.trans (hb2.mono hbr.size)⟩

set_option maxHeartbeats 1000000 in
theorem each_neg {A : Option Addr} {n c : Nat} {l : List Int} {w : World} (h : Pl NI w (fun _ => True) A n c l) (hn : n ≤ 1000000) (f : Int → Int)
    (hf : ∀ w' v x, Below w.heap.size w w' → x ∈ l → NI w' v x → Calls Tryz.prog 72 #[v] w' (Gives w' fun w'' v' => NIntV w'' (w'.heap.size ≤ ·) v' (f x)))
    (hw : ∀ x ∈ l, wl (f x).natAbs ≤ 1000000000000) :
    Calls Tryz.prog 71 #[.slice A n c, .func (.func 72) #[] #[]] w (Gives w fun w' v => PV w' (w.heap.size ≤ ·) v (tz (l.map f))) := by
  have hm := h.room
  have hc := h.cap
  have hl := Lib.hid h.len
  go_enter Tryz.func71, Tryz.ntmps71
  go_wp2_with (at_make; go_must (refine wpList_make_arr _ rfl _ _ _ rfl 63 (.agg #[.bool false, .slice none 0 0]) 2 32 Tryz.underlying22 info_Int _ _ _ _ n rfl rfl (by go_num) (by go_num) (by omega) (by omega) ?_); intro w1 harr1 hb1 hs1)
  replace harr1 := IArr.made harr1
  go_loopw [13] (fun iv wr => ∃ k : Nat, iv = .int .i64 k ∧ k ≤ n ∧ IArr wr w.heap.size ((l.take k).map f ++ List.replicate (n - k) 0) ∧ Below w.heap.size w wr) (fun iv _ => n - (intOf iv).toNat)
  case atStart => exact ⟨0, rfl, by omega, by simpa using harr1, hb1⟩
  case round =>
    obtain ⟨k, rfl, hk, harr, hbr⟩ := hrel
    rcases Nat.lt_or_ge k n with hkn | hkn
    · obtain ⟨b, off, rfl, _, hcell⟩ := (h.below hbr).cells (by omega)
      obtain ⟨neg, B, m, q, e0, e1, e2⟩ := hcell k hkn
      clear hcell
      have hlt := harr.lt
      have HBW : Below wr.heap.size wr (wr.alloc (.cells #[.bool neg, .slice B m q] 63)) := (Below.refl _ _).alloc (Nat.le_refl _) _
      have hcall := hf _ _ _ (hbr.trans (HBW.mono hbr.size)) (gz_mem (by rw [hl.out]; exact hkn)) (e2.below HBW)
      have HC := Lib.hid hcall
      clear hcall hf h hw
      go_wp2_with (go_at_call 72; go_must (refine HC.out.mono ?_); rintro e w2 ⟨v2, rfl, ⟨A2, c2, rfl, hw2⟩, hb2⟩; have hb3 := HBW.trans (hb2.mono HBW.size); have harr2 := harr.below hb3; obtain ⟨neg3, B3, m3, q3, a0, a1, _⟩ := harr2.cells (j := k) (by rw [List.length_append, List.length_map, List.length_take, hl.out, List.length_replicate]; omega); have z0 := harr2.frozen (k * 2); have z1 := harr2.frozen (k * 2 + 1); have hlt2 := harr2.lt)
      go_round
      case rel =>
        refine ⟨k + 1, by go_num, by omega, ?_, (((hbr.trans (hb3.mono hbr.size))).setCell (by simp) _).setCell (by simp) _⟩
        have hset := harr2.set (i := k) (by rw [List.length_append, List.length_map, List.length_take, hl.out, List.length_replicate]; omega) (x := f (gz l k)) ⟨A2, c2, rfl, hw2.mono (fun b hb _ => by have : (wr.alloc _).heap.size ≤ b := hb; simp at this; omega)⟩
        rw [each_step (by rw [hl.out]; exact hkn) hkn] at hset
        exact hset
      case measure => simp [intOf]; omega
    · obtain rfl : k = n := by omega
      have e1 : ((l.take k).map f ++ List.replicate (k - k) 0) = l.map f := by simp [List.take_of_length_le (show l.length ≤ k by rw [hl.out]; exact Nat.le_refl _)]
      rw [e1] at harr
      have e2 : (l.map f).length = k := by rw [List.length_map, hl.out]
      have hpl := (harr.pl (D := fun _ => True) trivial (by rw [e2]; unfold maxLen; omega)).imp (E' := IntB) fun v x hx hv => hv.b (by
        obtain ⟨y, hy, rfl⟩ := List.mem_map.1 hx
        exact hw y hy)
      rw [e2] at hpl
      clear e1 e2 hf hw h
      go_wp2_with (go_at_call 67; go_must (refine (normal_any hpl hn).mono ?_); rintro e w2 ⟨v2, rfl, hv2, hb2⟩)
      go_ret
      obtain ⟨A2, c2, rfl, hv2⟩ := hv2
      exact ⟨_, rfl, ⟨A2, c2, rfl, hv2.mono fun b hb _ => by have : wr.heap.size ≤ b := hb; have := hbr.size; show w.heap.size ≤ b; omega⟩, hbr.trans (hb2.mono hbr.size)⟩

end Go.Proofs.YtdmdagilopckgaaGreat

namespace Go.Proofs.YtdmdagilopckgaaGreat
open Go.RowKit

/-- The content. -/
def ct (l : List Int) : Int := l.foldl (fun g x => (Int.gcd g x : Int)) 0
theorem ct_snoc (l : List Int) (x : Int) : ct (l ++ [x]) = (Int.gcd (ct l) x : Int) := by simp [ct]
/-- The primitive part. -/
def pp (l : List Int) : List Int := tz (l.map (· / ct l))

theorem wl_gcd (a b : Int) {B : Nat} (ha : wl a.natAbs ≤ B) (hb : wl b.natAbs ≤ B) : wl (Int.gcd a b) ≤ B := by
  unfold Int.gcd
  rcases Nat.eq_zero_or_pos a.natAbs with h | h
  · rw [h, Nat.gcd_zero_left]; exact hb
  · exact Nat.le_trans (wl_le (Nat.le_of_dvd h (Nat.gcd_dvd_left _ _))) ha
theorem wl_ct {B : Nat} (l : List Int) (h : ∀ x ∈ l, wl x.natAbs ≤ B) (k : Nat) : wl (ct (l.take k)).natAbs ≤ B := by
  induction k with
  | zero => simp [ct, wl_zero]
  | succ k ih =>
    rcases Nat.lt_or_ge k l.length with hk | hk
    · rw [take_succ_gz hk, ct_snoc]
      exact wl_gcd _ _ ih (h _ (gz_mem hk))
    · rw [List.take_of_length_le (by omega)]
      rw [List.take_of_length_le hk] at ih
      exact ih
theorem wl_div (a b : Int) : wl (a / b).natAbs ≤ wl a.natAbs := wl_le (Int.natAbs_ediv_le_natAbs a b)

/-- The captured variable: block P holds an integer g in normal form. -/
def Cap (w : World) (P : Nat) (g : Int) : Prop := ∃ neg B m k, w.cell? ⟨P, 0, none⟩ = some (.bool neg) ∧ w.cell? ⟨P, 1, none⟩ = some (.slice B m k) ∧ NI w (.agg #[.bool neg, .slice B m k]) g
theorem Cap.below {w w' : World} {P : Nat} {g : Int} (h : Cap w P g) (hb : Below w.heap.size w w') : Cap w' P g := by
  obtain ⟨neg, B, m, k, h0, h1, h2⟩ := h
  exact ⟨neg, B, m, k, ((bcell hb).1 _ _ (cell_lt h0)).trans h0, ((bcell hb).1 _ _ (cell_lt h1)).trans h1, h2.below hb⟩

set_option maxHeartbeats 1000000 in
theorem prim1_any {v : Value} {x g : Int} {w : World} {P : Nat} (h : NI w v x) (hp : Cap w P g) (hl : wl x.natAbs ≤ 900000000000) (hl' : wl g.natAbs ≤ 900000000000) (hg : g ≠ 0) :
    Calls Tryz.prog 104 #[v, .pointer (some ⟨P, 0, none⟩)] w (Gives w fun w' v => NIntV w' (w.heap.size ≤ ·) v (x / g)) := by
  obtain ⟨ng, Bg, mg, kg, p0, p1, hgi⟩ := hp
  have hq := fun w' (hb : Below w.heap.size w w') => wQuo_any (h.below hb).int (hgi.below hb).int hl hl' hg
  generalize x / g = q at *
  have HQ := Lib.hid hq
  clear hq hl hl' hg
  obtain ⟨A, c, rfl, h⟩ := h
  clear h hgi
  generalize decide (x < 0) = neg at *
  generalize wl x.natAbs = n at *
  obtain ⟨W, R, hW, hR, hbW, HR, c0, c1, hlt⟩ := boxes1 w (.bool neg) (.slice A n c)
  have hPl := cell_lt p0
  have p0' := ((bcell hbW).1 _ _ hPl).trans p0
  have p1' := ((bcell hbW).1 _ _ hPl).trans p1
  have HWW := Lib.hid hW
  have HRR := Lib.hid hR
  clear hW hR p0 p1
  rw [HWW.out] at c0 c1 p0' p1'
  go_enter Tryz.func104, Tryz.ntmps104
  go_wp2_with (go_at_call 105; rw [← HWW.out, ← HRR.out]; go_must (refine (HQ.out _ hbW).mono ?_); rintro e w2 ⟨v2, rfl, ⟨A2, c2, rfl, hwd2⟩, hb2⟩; have hh1 := Held.self HR.out; have hl2 := hh1.lt; have hh := (Held.call hb2 hh1).2; obtain ⟨u0, u1, hr0, hr1, hf0, hf1⟩ := hh.cells)
  refine bodyPost_ret (v := .agg #[.bool _, .slice A2 _ c2]) (by simp [results, Tryz.results104, go_sem, hr0, hr1]; exact ⟨rfl, rfl⟩) rfl ⟨_, rfl, ?_, hh.put hbW (by omega) _ _⟩
  exact nint_put (w := w) hl2 hwd2 (by omega) _ _

set_option maxHeartbeats 1000000 in
theorem primitiveD_any {A : Option Addr} {n c : Nat} {l : List Int} {w : World} (h : Pl NI w (fun _ => True) A n c l) (hn : n ≤ 1000000) (hw : ∀ x ∈ l, wl x.natAbs ≤ 900000000000) (hct : l ≠ [] → ct l ≠ 0) :
    Calls Tryz.prog 69 #[.slice A n c] w (Gives w fun w' v => PvD w' (w.heap.size ≤ ·) v (pp l)) := by
  have hm := h.room
  have hc := h.cap
  have hl := Lib.hid h.len
  obtain ⟨W, hW⟩ : ∃ W, W = w.alloc (.cells #[.bool false, .slice none 0 0] 63) := ⟨_, rfl⟩
  have hbW : Below w.heap.size w W := by rw [hW]; exact (Below.refl _ _).alloc (Nat.le_refl _) _
  have harW : Arr W w.heap.size 63 [.bool false, .slice none 0 0] := by rw [hW]; exact Arr.new _ _ [_, _]
  have HWW := Lib.hid hW
  clear hW
  go_enter Tryz.func69, Tryz.ntmps69
  go_wp2_with fail
  rw [← HWW.out]
  go_loopw [9] (fun iv wr => ∃ (k : Nat) (ng : Bool) (Bg : Option Addr) (mg kg : Nat), iv = .int .i64 k ∧ k ≤ n ∧ Arr wr w.heap.size 63 [.bool ng, .slice Bg mg kg] ∧ NIntV wr (· ≠ w.heap.size) (.agg #[.bool ng, .slice Bg mg kg]) (ct (l.take k)) ∧ Below w.heap.size w wr) (fun iv _ => n - (intOf iv).toNat)
  case atStart => exact ⟨0, _, _, _, _, rfl, by omega, harW, NIntV.zero _ _, hbW⟩
  case round =>
    obtain ⟨k, ng, Bg, mg, kg, rfl, hk, harr, hg, hbr⟩ := hrel
    have f0 := harr.cell 0
    have f1 := harr.cell 1
    have z0 := harr.frozen 0
    have z1 := harr.frozen 1
    simp only [List.getElem?_cons_zero, List.getElem?_cons_succ] at f0 f1
    have hlt := harr.lt
    rcases Nat.lt_or_ge k n with hkn | hkn
    · obtain ⟨b, off, rfl, _, hcell⟩ := (h.below hbr).cells (by omega)
      obtain ⟨neg, B, m, q, e0, e1, e2⟩ := hcell k hkn
      clear hcell
      have HBW : Below wr.heap.size wr (wr.alloc (.cells #[.bool neg, .slice B m q] 63)) := (Below.refl _ _).alloc (Nat.le_refl _) _
      have hwk := hw _ (gz_mem (show k < l.length by rw [hl.out]; exact hkn))
      have hwg := wl_ct l hw k
      have hgc := Gcd_any (hg.below HBW).int (e2.below HBW).int hwg hwk
      have HG := Lib.hid hgc
      clear hgc hwk hwg hw hct
      go_wp2_with (go_at_call 103; go_must (refine HG.out.mono ?_); rintro e w2 ⟨v2, rfl, ⟨A2, c2, rfl, hw2⟩, hb2⟩; have hb3 := HBW.trans (hb2.mono HBW.size); have harr2 := harr.below' hb3; have y0 := harr2.cell 0; have y1 := harr2.cell 1; have x0 := harr2.frozen 0; have x1 := harr2.frozen 1; simp only [List.getElem?_cons_zero, List.getElem?_cons_succ] at y0 y1; have hlt2 := harr2.lt)
      go_round
      case rel =>
        refine ⟨k + 1, _, A2, _, c2, by go_num, by omega, (harr2.set_ 0 _).set_ 1 _, ?_, ((hbr.trans (hb3.mono hbr.size)).setCell (by simp) _).setCell (by simp) _⟩
        rw [take_succ_gz (by rw [hl.out]; exact hkn), ct_snoc]
        have hn2 : NIntV w2 (· ≠ w.heap.size) (.agg #[.bool _, .slice A2 _ c2]) _ := ⟨A2, c2, rfl, hw2.mono (fun b hb _ => by have : (wr.alloc _).heap.size ≤ b := hb; simp at this; omega)⟩
        exact (hn2.setCell (by simp) _).setCell (by simp) _
      case measure => simp [intOf]; omega
    · obtain rfl : k = n := by omega
      rw [List.take_of_length_le (by rw [hl.out]; exact Nat.le_refl _)] at hg
      have hcap : Cap wr w.heap.size (ct l) := ⟨_, _, _, _, f0, f1, hg.mono fun _ _ _ => trivial⟩
      have hwg := wl_ct l hw k
      rw [List.take_of_length_le (by rw [hl.out]; exact Nat.le_refl _)] at hwg
      have hea := eachD_prim (h.below hbr) hn (.pointer (some ⟨w.heap.size, 0, none⟩)) (· / ct l) (fun w' v x hb hx hv => prim1_any hv (hcap.below hb) (hw x hx) hwg (hct (List.ne_nil_of_mem hx))) (fun x hx => Nat.le_trans (wl_div _ _) (Nat.le_trans (hw x hx) (by omega)))
      have HE := Lib.hid hea
      clear hea hw hwg hct h
      go_wp2_with (go_at_call 71; go_must (refine HE.out.mono ?_); rintro e w2 ⟨v2, rfl, hv2, hb2⟩; obtain ⟨A2, c2, rfl⟩ := hv2.slice_)
      go_ret
      exact ⟨_, rfl, hv2.mono fun b hb _ => by have : wr.heap.size ≤ b := hb; have := hbr.size; show w.heap.size ≤ b; omega, hbr.trans (hb2.mono hbr.size)⟩

theorem primitive_any {A : Option Addr} {n c : Nat} {l : List Int} {w : World} (h : Pl NI w (fun _ => True) A n c l) (hn : n ≤ 1000000) (hw : ∀ x ∈ l, wl x.natAbs ≤ 900000000000) (hct : l ≠ [] → ct l ≠ 0) :
    Calls Tryz.prog 69 #[.slice A n c] w (Gives w fun w' v => PV w' (w.heap.size ≤ ·) v (pp l)) := by
  refine (primitiveD_any h hn hw hct).mono ?_
  rintro e w2 ⟨v2, rfl, hv2, hb2⟩
  exact ⟨v2, rfl, hv2.pv, hb2⟩

end Go.Proofs.YtdmdagilopckgaaGreat

namespace Go.Proofs.YtdmdagilopckgaaGreat
open Go.RowKit

set_option maxHeartbeats 1000000 in
theorem rest1_any {v : Value} {x g : Int} {w : World} {P : Nat} (h : NI w v x) (hp : Cap w P g) (hl : wl x.natAbs ≤ 900000000000) (hl' : wl g.natAbs ≤ 900000000000) :
    Calls Tryz.prog 106 #[v, .pointer (some ⟨P, 0, none⟩)] w (Gives w fun w' v => NIntV w' (w.heap.size ≤ ·) v (x * g)) := by
  obtain ⟨ng, Bg, mg, kg, p0, p1, hgi⟩ := hp
  have hq := fun w' (hb : Below w.heap.size w w') => Mul_any (h.below hb).int (hgi.below hb).int (by omega) (by omega)
  generalize x * g = q at *
  have HQ := Lib.hid hq
  clear hq hl hl'
  obtain ⟨A, c, rfl, h⟩ := h
  clear h hgi
  generalize decide (x < 0) = neg at *
  generalize wl x.natAbs = n at *
  obtain ⟨W, R, hW, hR, hbW, HR, c0, c1, hlt⟩ := boxes1 w (.bool neg) (.slice A n c)
  have hPl := cell_lt p0
  have p0' := ((bcell hbW).1 _ _ hPl).trans p0
  have p1' := ((bcell hbW).1 _ _ hPl).trans p1
  have HWW := Lib.hid hW
  have HRR := Lib.hid hR
  clear hW hR p0 p1
  rw [HWW.out] at c0 c1 p0' p1'
  go_enter Tryz.func106, Tryz.ntmps106
  go_wp2_with (go_at_call 79; rw [← HWW.out, ← HRR.out]; go_must (refine (HQ.out _ hbW).mono ?_); rintro e w2 ⟨v2, rfl, ⟨A2, c2, rfl, hwd2⟩, hb2⟩; have hh1 := Held.self HR.out; have hl2 := hh1.lt; have hh := (Held.call hb2 hh1).2; obtain ⟨u0, u1, hr0, hr1, hf0, hf1⟩ := hh.cells)
  refine bodyPost_ret (v := .agg #[.bool _, .slice A2 _ c2]) (by simp [results, Tryz.results106, go_sem, hr0, hr1]; exact ⟨rfl, rfl⟩) rfl ⟨_, rfl, ?_, hh.put hbW (by omega) _ _⟩
  exact nint_put (w := w) hl2 hwd2 (by omega) _ _

/-- The last coefficient. -/
def ld (l : List Int) : Int := gz l (l.length - 1)

theorem lead_any {A : Option Addr} {n c : Nat} {l : List Int} {w : World} (h : Pl NI w (fun _ => True) A n c l) (hn : 0 < n) :
    Calls Tryz.prog 82 #[.slice A n c] w (Gives w fun w' v => NI w' v (ld l)) := by
  have hm := h.room
  unfold maxLen at hm
  have hc := h.cap
  obtain ⟨n, rfl⟩ : ∃ k, n = k + 1 := ⟨n - 1, by omega⟩
  have hl := Lib.hid h.len
  obtain ⟨b, off, rfl, _, hcell⟩ := h.cells (by omega)
  obtain ⟨neg, B, m, q, e0, e1, e2⟩ := hcell n (by omega)
  clear hcell
  have hlt := cell_lt e0
  go_enter Tryz.func82, Tryz.ntmps82
  go_wp2_with fail
  refine bodyPost_ret (v := .agg #[.bool neg, .slice B m q]) (by simp [results, Tryz.results82, go_sem]) rfl ⟨_, rfl, ?_, (Below.refl _ _).alloc (Nat.le_refl _) _⟩
  have e : ld l = gz l n := by unfold ld; rw [hl.out]; rfl
  rw [e]
  exact e2.below ((Below.refl _ _).alloc (Nat.le_refl _) _)

/-- The opposite polynomial. -/
def ng (l : List Int) : List Int := tz (l.map (- ·))
/-- The primitive part with a positive leading coefficient. -/
def ps (l : List Int) : List Int := if ld (pp l) < 0 then ng (pp l) else pp l

theorem PV.up {w : World} {D D' : Nat → Prop} {v : Value} {l : List Int} (h : PV w D v l) (hd : ∀ b, D b → D' b) : PV w D' v l := by
  obtain ⟨A, c, e, h⟩ := h
  exact ⟨A, c, e, h.mono fun b hb _ => hd b hb⟩
theorem PV.below {w w' : World} {D : Nat → Prop} {v : Value} {l : List Int} (h : PV w D v l) (hb : Below w.heap.size w w') : PV w' D v l := by
  obtain ⟨A, c, e, h⟩ := h
  exact ⟨A, c, e, h.below hb⟩
theorem wl_pp {B : Nat} {l : List Int} (h : ∀ x ∈ l, wl x.natAbs ≤ B) : ∀ x ∈ pp l, wl x.natAbs ≤ B := by
  intro x hx
  obtain ⟨y, hy, rfl⟩ := List.mem_map.1 (tz_mem hx)
  exact Nat.le_trans (wl_div _ _) (h y hy)
theorem pp_length (l : List Int) : (pp l).length ≤ l.length := by
  have := tz_length_le (l.map (· / ct l))
  rw [List.length_map] at this
  exact this
theorem ld_mem {l : List Int} (h : 0 < l.length) : ld l ∈ l := gz_mem (by omega)
theorem cmpI_zero (x : Int) : (cmpI x 0 < 0) = (x < 0) := by unfold cmpI; split <;> (try split) <;> simp <;> omega

set_option maxHeartbeats 1000000 in
theorem positive_any {A : Option Addr} {n c : Nat} {l : List Int} {w : World} (h : Pl NI w (fun _ => True) A n c l) (hn : n ≤ 1000000) (hw : ∀ x ∈ l, wl x.natAbs ≤ 900000000000) (hct : l ≠ [] → ct l ≠ 0) (hpos : 0 < (pp l).length) :
    Calls Tryz.prog 86 #[.slice A n c] w (Gives w fun w' v => PV w' (w.heap.size ≤ ·) v (ps l)) := by
  have HP := Lib.hid (primitive_any h hn hw hct)
  have hpl := pp_length l
  rw [h.len] at hpl
  have hwp := wl_pp hw
  have hwl := hwp _ (ld_mem hpos)
  have HWP := Lib.hid hwp
  have HWL := Lib.hid hwl
  clear hwp hwl hw hct h
  by_cases h0 : ld (pp l) < 0
  · have e : ps l = ng (pp l) := by unfold ps; rw [if_pos h0]
    rw [e]
    have t1 : cmpI (ld (pp l)) 0 < 0 := by rw [cmpI_zero]; exact h0
    generalize pp l = p at *
    clear e h0
    go_enter Tryz.func86, Tryz.ntmps86
    go_wp2_with (first
      | (go_at_call 69; go_must (refine HP.out.mono ?_); rintro e w1 ⟨v1, rfl, ⟨A1, c1, rfl, hv1⟩, hb1⟩)
      | (go_at_call 82; go_must (refine (lead_any (hv1.mono fun _ _ _ => trivial) hpos).mono ?_); rintro e w2 ⟨v2, rfl, hv2, hb2⟩)
      | (go_at_call 80; go_must (refine (Sign_any hv2.int (Nat.le_trans HWL.out (by omega))).mono ?_); rintro e w3 ⟨rfl, hb3⟩)
      | (go_at_call 71; go_must (refine (each_neg (f := fun x => -x) (((hv1.below hb2).below hb3).mono fun _ _ _ => trivial) (by omega) (fun w' v x hb hx hv => wNeg_any hv.int (Nat.le_trans (HWP.out x hx) (by omega))) (fun x hx => by rw [Int.natAbs_neg]; exact Nat.le_trans (HWP.out x hx) (by omega))).mono ?_); rintro e w4 ⟨v4, rfl, hv4, hb4⟩))
    go_ret
    refine ⟨_, rfl, hv4.up fun b hb => ?_, ((hb1.trans (hb2.mono hb1.size)).trans (hb3.mono (Nat.le_trans hb1.size hb2.size))).trans (hb4.mono (Nat.le_trans hb1.size (Nat.le_trans hb2.size hb3.size)))⟩
    exact Nat.le_trans (Nat.le_trans hb1.size (Nat.le_trans hb2.size hb3.size)) hb
  · have e : ps l = pp l := by unfold ps; rw [if_neg h0]
    rw [e]
    have t1 : ¬ (cmpI (ld (pp l)) 0 < 0) := by rw [cmpI_zero]; exact h0
    generalize pp l = p at *
    clear e h0
    go_enter Tryz.func86, Tryz.ntmps86
    go_wp2_with (first
      | (go_at_call 69; go_must (refine HP.out.mono ?_); rintro e w1 ⟨v1, rfl, ⟨A1, c1, rfl, hv1⟩, hb1⟩)
      | (go_at_call 82; go_must (refine (lead_any (hv1.mono fun _ _ _ => trivial) hpos).mono ?_); rintro e w2 ⟨v2, rfl, hv2, hb2⟩)
      | (go_at_call 80; go_must (refine (Sign_any hv2.int (Nat.le_trans HWL.out (by omega))).mono ?_); rintro e w3 ⟨rfl, hb3⟩))
    go_ret
    exact ⟨_, rfl, ⟨A1, c1, rfl, (hv1.below hb2).below hb3⟩, (hb1.trans (hb2.mono hb1.size)).trans (hb3.mono (Nat.le_trans hb1.size hb2.size))⟩

end Go.Proofs.YtdmdagilopckgaaGreat

namespace Go.Proofs.YtdmdagilopckgaaGreat
open Go.RowKit

theorem keepB {W w1 : World} {P o : Nat} {u : Value} (hb : Below W.heap.size W w1) (h : W.cell? ⟨P, o, none⟩ = some u) : w1.cell? ⟨P, o, none⟩ = some u := ((bcell hb).1 _ _ (cell_lt h)).trans h

theorem keepG {W w1 : World} {P o : Nat} {u : Value} {row : Option Nat} (hg : W.grownBy w1 row) (hp : some P ≠ row) (h : W.cell? ⟨P, o, none⟩ = some u) : w1.cell? ⟨P, o, none⟩ = some u := (World.cell?_of_block (hg.block P (cell_lt h) hp)).trans h

/-- Each coefficient times its place. -/
def dvF : Nat → List Int → List Int
  | _, [] => []
  | i, x :: r => ((i : Int) * x) :: dvF (i + 1) r
theorem dvF_length (i : Nat) (l : List Int) : (dvF i l).length = l.length := by
  induction l generalizing i with
  | nil => rfl
  | cons x r ih => simp [dvF, ih]
theorem dvF_gz (i : Nat) (l : List Int) (j : Nat) : gz (dvF i l) j = ((i + j : Nat) : Int) * gz l j := by
  induction l generalizing i j with
  | nil => simp [dvF, gz_nil]
  | cons x r ih =>
    cases j with
    | zero => simp [dvF, gz_cons_zero]
    | succ j => rw [dvF, gz_cons_succ, gz_cons_succ, ih, show i + 1 + j = i + (j + 1) by omega]
/-- The derivative. -/
def dv (l : List Int) : List Int := tz (dvF 1 (l.drop 1))

theorem wl_small {k : Nat} (h : k ≤ 1000000) : wl k ≤ 1 := dig_length_le (by omega) (by omega)
theorem wl_dvF {l : List Int} (h : ∀ x ∈ l, wl x.natAbs ≤ 900000000000) (hn : l.length ≤ 1000000) : ∀ x ∈ dvF 1 (l.drop 1), wl x.natAbs ≤ 1000000000000 := by
  intro x hx
  obtain ⟨j, hj⟩ := List.getElem?_of_mem hx
  have hlt : j < (dvF 1 (l.drop 1)).length := by
    rcases Nat.lt_or_ge j (dvF 1 (l.drop 1)).length with h1 | h1
    · exact h1
    · rw [List.getElem?_eq_none h1] at hj; cases hj
  rw [gz_lt hlt, dvF_gz, gz_drop] at hj
  injection hj with hj
  rw [dvF_length, List.length_drop] at hlt
  have h1 := h _ (gz_mem (l := l) (j := 1 + j) (by omega))
  rw [← hj, Int.natAbs_mul, Int.natAbs_natCast]
  have h2 := wl_mul (1 + j) (gz l (1 + j)).natAbs
  have h3 := wl_small (k := 1 + j) (by omega)
  omega

section
variable (w0 : World)
/-- append(own, x) of one integer, inside a region that draws its order. -/
theorem step_pushI {ops : Array Oper} {o : Oper} {a : Act} {K : Act → World → Prop} {Q : Exit → Act → World → Prop} {E : Prop} (hgd : o.guard = none) (s x : Operand) (t t' : TypeId)
    (ho : o.op = .call { callee := .builtin .append, args := #[s, x], argTypes := #[t, t'] })
    (base : Nat) (ht : Tryz.prog.underlying t = some (.slice 63)) (ht' : Tryz.prog.underlying t' = some (.slice 63))
    (v : Value) (l : List Int) (n : Nat) (hln : l.length = n) (hs : a.eval s = v) (hown : OwnI w0 base v l)
    (neg : Bool) (B : Option Addr) (m k : Nat) (y : Int) (hx : a.eval x = .slice (some ⟨w0.heap.size, 0, none⟩) 1 1) (hy : NIntV w0 (fun b => some b ≠ v.ownBlock) (.agg #[.bool neg, .slice B m k]) y)
    (h63 : n + 1 ≤ 1000000000) (hbase : base ≤ w0.heap.size)
    (h : ∀ A' c' w', OwnI w' base (.slice A' (n + 1) c') (l ++ [y]) → w0.grownBy w' v.ownBlock → Below base w0 w' → K (a.put o.dst (.slice A' (n + 1) c')) w') :
    if Region.wanted o (yielded ops a.tmps) = true then Oper.wp Tryz.prog o a (w0.alloc (.cells #[.bool neg, .slice B m k] 63)) K Q else E := by
  subst hln
  obtain ⟨xs, hrow, hcs⟩ := hown
  refine step_app _ hgd s x t t' ho base 63 63 (.agg #[.bool false, .slice none 0 0]) 2 32 ht ht' info_Int rfl (by omega) v l.length xs hs (hrow.alloc _) _ 1 1 [.bool neg, .slice B m k] hx (src_block (heap_alloc_new w0 _) 1 2 rfl) (by simp [Value.oneCell']) (by unfold maxLen; omega) (by omega) (by simp; omega) ?_
  intro v' w' hown' hg hob
  obtain ⟨A', c', rfl, _, _⟩ := own_slice hown'
  have hg0 : w0.grownBy w' v.ownBlock := grownBy_trans (World.grownBy_alloc w0 _ _) hg
  refine h A' c' w' ⟨_, by rw [List.length_append]; exact hown', ?_⟩ hg0 ((Below.refl _ _).grown hg0 hbase (fun k hk => (hrow.lt k hk).1))
  have hk : ∀ b o, some b ≠ v.ownBlock → b < w0.heap.size → w'.cell? ⟨b, o, none⟩ = w0.cell? ⟨b, o, none⟩ := fun b o hd hb => World.cell?_of_block (hg0.block b hb hd)
  have hc2 : Cs w0 (fun b => some b ≠ v.ownBlock) (xs ++ [.bool neg, .slice B m k]) (l ++ [y]) := hcs.snoc hy
  have hc3 : Cs w0 (fun b => some b ≠ v.ownBlock ∧ b < w0.heap.size) (xs ++ [.bool neg, .slice B m k]) (l ++ [y]) := hc2.mono fun b h1 h2 => ⟨h1, h2⟩
  refine (hc3.keep (w' := w') fun b o hd hb => hk b o hd.1 hb).mono fun b hd _ => ?_
  rcases hob with e | e
  · rw [e]; exact hd.1
  · rw [e]
    intro e2
    have := hd.2
    simp at e2
    omega
end

set_option maxRecDepth 100000 in
set_option maxHeartbeats 4000000 in
theorem derivative_any {A : Option Addr} {n c : Nat} {l : List Int} {w : World} (h : Pl NI w (fun _ => True) A n c l) (hn : n ≤ 1000000) (hw : ∀ x ∈ l, wl x.natAbs ≤ 900000000000) :
    Calls Tryz.prog 68 #[.slice A n c] w (Gives w fun w' v => PV w' (w.heap.size ≤ ·) v (dv l)) := by
  have hm := h.room
  unfold maxLen at hm
  have hc := h.cap
  have hl := Lib.hid h.len
  have HNIL := Lib.hid (fun w' => normal_any (w := w') (Pl.nil (A := none) 0 (by unfold maxLen; omega)) (by omega))
  rcases Nat.lt_or_ge n 2 with h0 | h0
  · have hdv : dv l = [] := by
      unfold dv
      rw [List.drop_eq_nil_of_le (by rw [hl.out]; omega)]
      rfl
    rw [hdv]
    have h1 : n = 0 ∨ n = 1 := by omega
    clear hw hn hdv h0
    rcases h1 with rfl | rfl
    · go_enter Tryz.func68, Tryz.ntmps68
      go_wp2_with fail
      refine wp_loop_rounds 1 ?_
      rw [rounds_succ]
      go_wp2_with (go_at_call 67; go_must (refine (HNIL.out _).mono ?_); rintro e w2 ⟨v2, rfl, hv2, hb2⟩)
      go_ret
      exact ⟨_, rfl, hv2, hb2⟩
    · obtain ⟨b, off, rfl, _, hcell⟩ := h.cells (by omega)
      clear hcell
      go_enter Tryz.func68, Tryz.ntmps68
      go_wp2_with fail
      all_goals
        refine wp_loop_rounds 1 ?_
        rw [rounds_succ]
        go_wp2_with (go_at_call 67; go_must (refine (HNIL.out _).mono ?_); rintro e w2 ⟨v2, rfl, hv2, hb2⟩)
        go_ret
        exact ⟨_, rfl, hv2, hb2⟩
  · obtain ⟨n, rfl⟩ : ∃ k, n = k + 1 := ⟨n - 1, by omega⟩
    obtain ⟨c, rfl⟩ : ∃ k, c = k + 1 := ⟨c - 1, by omega⟩
    have hc1 : 1 ≤ c := by omega
    have HW := Lib.hid hw
    have hdl : (dvF 1 (l.drop 1)).length = n := by rw [dvF_length, List.length_drop, hl.out]; rfl
    have HDL := Lib.hid hdl
    obtain ⟨b, off, rfl, _, hcell⟩ := h.cells (by omega)
    clear hcell hw hdl
    go_enter Tryz.func68, Tryz.ntmps68
    go_wp2_with fail
    go_loopw [3, 12] (fun ov iv wr => ∃ k : Nat, iv = .int .i64 k ∧ k ≤ n ∧ OwnI wr w.heap.size ov ((dvF 1 (l.drop 1)).take k) ∧ Below w.heap.size w wr) (fun _ iv _ => n - (intOf iv).toNat)
    case atStart => exact ⟨0, rfl, by omega, OwnI.nil _ _, Below.refl _ _⟩
    case round =>
      obtain ⟨k, rfl, hk, hown, hbr⟩ := hrel
      rcases Nat.lt_or_ge k n with hkn | hkn
      · obtain ⟨b', off', hbb, _, hcell⟩ := (h.below hbr).cells (by omega)
        cases hbb
        obtain ⟨neg, B, m, q, e0, e1, e2⟩ := hcell (k + 1) (by omega)
        rw [show off + (k + 1) * 2 = off + 2 + k * 2 by omega] at e0 e1
        clear hcell
        have HBW : Below wr.heap.size wr (wr.alloc (.cells #[.bool neg, .slice B m q] 63)) := (Below.refl _ _).alloc (Nat.le_refl _) _
        have hwk := HW.out _ (gz_mem (show k + 1 < l.length by rw [hl.out]; omega))
        have hwk1 : wl ((k : Int) + 1).natAbs ≤ 1000000000000 := by rw [show ((k : Int) + 1).natAbs = k + 1 by omega]; have := wl_small (k := k + 1) (by omega); omega
        have hwk2 : wl (gz l (k + 1)).natAbs ≤ 1000000000000 := by omega
        clear hwk
        have hk0 : -9223372036854775808 ≤ (k : Int) + 1 := by omega
        have hk1 : (k : Int) + 1 ≤ 9223372036854775807 := by omega
        have a1 : IntKind.i64.wrap ((k : Int) + 1) = (k : Int) + 1 := IntWalk.i64_in _ (by omega)
        go_wp2_with fail
        obtain ⟨W, hW⟩ : ∃ W, W = wr.alloc (.cells #[.bool neg, .slice B m q] 63) := ⟨_, rfl⟩
        have x0 : W.cell? ⟨wr.heap.size, 0, none⟩ = some (.bool neg) := by rw [hW]; go_simp
        have x1 : W.cell? ⟨wr.heap.size, 1, none⟩ = some (.slice B m q) := by rw [hW]; go_simp
        rw [← hW] at HBW ⊢
        clear hW
        have hfr := hown.fresh (Nat.le_refl wr.heap.size)
        have hlk : ((dvF 1 (l.drop 1)).take k).length = k := by rw [List.length_take, HDL.out]; omega
        have hk9 : k + 1 ≤ 1000000000 := by omega
        have hsz9 : w.heap.size ≤ W.drew.heap.size := Nat.le_trans hbr.size HBW.size
        have hdr : Below W.heap.size W W.drew := (Below.refl _ _).drew
        go_region_held3 (fun w' => w'.cell? ⟨wr.heap.size, 0, none⟩ = some (.bool neg) ∧ w'.cell? ⟨wr.heap.size, 1, none⟩ = some (.slice B m q))
          (first
            | exact ⟨x0, x1⟩
            | (go_split_ands; exact ⟨keepB (by assumption) (by assumption), keepB (by assumption) (by assumption)⟩)
            | (go_split_ands; exact ⟨keepB ((Below.refl _ _).alloc (Nat.le_refl _) _) (by assumption), keepB ((Below.refl _ _).alloc (Nat.le_refl _) _) (by assumption)⟩)
            | (go_split_ands; exact ⟨keepG hgr4 hfr s0, keepG hgr4 hfr s1⟩))
          (first
            | (go_at_call 76; go_split_ands; go_must ((with_reducible refine (Of_any _ _ hk0 hk1).mono ?_)); rintro e w1 ⟨v1, rfl, ⟨A1, c1, rfl, hv1⟩, hb1⟩; have n1 : NIntV w1 (W.drew.heap.size ≤ ·) _ ((k : Int) + 1) := ⟨A1, c1, rfl, hv1⟩; have n2 : NIntV w1 (fun _ => True) _ (gz l (k + 1)) := ((e2.below HBW).below hdr).below hb1)
            | (go_at_call 79; go_split_ands; ((with_reducible refine (Mul_any (D := (W.drew.heap.size ≤ ·)) (D' := fun _ => True) (x := (k : Int) + 1) (y := gz l (k + 1)) n1.int n2.int hwk1 hwk2).mono ?_)); rintro e w2 ⟨v2, rfl, ⟨A2, c2, rfl, hv2⟩, hb2⟩; have n3 : NIntV w2 (fun b => some b ≠ u3.ownBlock) (.agg #[.bool _, .slice A2 _ c2]) _ := ⟨A2, c2, rfl, hv2.mono fun b hb _ => hown.fresh (Nat.le_trans HBW.size (Nat.le_trans (Nat.le_trans hdr.size hb1.size) hb))⟩; have s0 := keepB hb2 (keepB hb1 (keepB hdr x0)); have s1 := keepB hb2 (keepB hb1 (keepB hdr x1)); have ho9 := ((hown.below HBW).below (hdr.trans (hb1.mono hdr.size))).below hb2)
            | (go_split_ands; (refine step_pushI _ (by rfl) _ _ _ _ (by rfl) w.heap.size Tryz.underlying22 Tryz.underlying22 u3 _ k hlk (by rfl) ho9 _ A2 _ c2 _ (by rfl) n3 hk9 (Nat.le_trans hsz9 (Nat.le_trans hb1.size hb2.size)) ?_); intro A4 c4 w4 hown4 hgr4 hb4))
        clear a1
        go_split_ands
        go_wp2_with fail
        go_round
        case rel =>
          refine ⟨k + 1, by go_num, by omega, ?_, (((hbr.trans (HBW.mono hbr.size)).trans (hdr.mono (by have := hbr.size; have := HBW.size; omega))).trans (hb1.mono (by have := hbr.size; have := HBW.size; have := hdr.size; omega))).trans (((hb2.mono (by have := hbr.size; have := HBW.size; have := hdr.size; have := hb1.size; omega))).trans hb4)⟩
          rw [take_succ_gz (by rw [HDL.out]; exact hkn), dvF_gz, gz_drop, show 1 + k = k + 1 by omega]
          exact hown4
        case measure => simp [intOf]; omega
      · obtain rfl : k = n := by omega
        rw [List.take_of_length_le (by rw [HDL.out]; exact Nat.le_refl _)] at hown
        obtain ⟨A1, c1, hu3, hpl⟩ := hown.pl (by rw [HDL.out]; unfold maxLen; omega)
        rw [HDL.out] at hu3 hpl
        subst hu3
        have hpb : Pl IntB wr (fun _ => True) A1 k c1 (dvF 1 (l.drop 1)) := (hpl.mono (D' := fun _ => True) fun _ _ _ => trivial).imp fun v x hx hv => hv.b (wl_dvF HW.out (by rw [hl.out]; omega) x hx)
        clear hpl hown h
        go_wp2_with (go_at_call 67; go_must (refine (normal_any hpb (by omega)).mono ?_); rintro e w2 ⟨v2, rfl, hv2, hb2⟩)
        go_ret
        exact ⟨_, rfl, hv2.up fun b hb => Nat.le_trans hbr.size hb, hbr.trans (hb2.mono hbr.size)⟩

end Go.Proofs.YtdmdagilopckgaaGreat

namespace Go.Proofs.YtdmdagilopckgaaGreat
open Go.RowKit

/-- The cells of a list of integers. -/
theorem Pl.src {w : World} {D : Nat → Prop} {A : Option Addr} {n c : Nat} {l : List Int} (h : Pl NI w D A n c l) :
    ∃ xs, Cs w (fun b => b < w.heap.size) xs l ∧ Src w 2 A n xs ∧ ∀ u ∈ xs, u.oneCell' = true := by
  rcases Nat.eq_zero_or_pos n with h0 | h0
  · subst h0
    obtain rfl := List.eq_nil_of_length_eq_zero h.len
    exact ⟨[], Cs.nil, ⟨rfl, fun h => absurd h (by omega)⟩, fun u hu => by cases hu⟩
  · obtain ⟨b, off, rfl, hd, hc⟩ := h.cells h0
    have hl := h.len
    let xs : List Value := (List.range (n * 2)).map fun j => (w.cell? ⟨b, off + j, none⟩).getD (.bool false)
    have hx : ∀ j, j < n * 2 → xs[j]? = some ((w.cell? ⟨b, off + j, none⟩).getD (.bool false)) := by
      intro j hj
      simp only [xs, List.getElem?_map, List.getElem?_range hj, Option.map_some]
    have hxl : xs.length = n * 2 := by simp [xs]
    have hcell : ∀ j, j < n * 2 → ∃ u, w.cell? ⟨b, off + j, none⟩ = some u ∧ u.oneCell' = true := by
      intro j hj
      obtain ⟨neg, B, m, k, e0, e1, _⟩ := hc (j / 2) (by omega)
      rcases Nat.mod_two_eq_zero_or_one j with h2 | h2
      · rw [show off + j = off + j / 2 * 2 by omega]; exact ⟨_, e0, rfl⟩
      · rw [show off + j = off + j / 2 * 2 + 1 by omega]; exact ⟨_, e1, rfl⟩
    refine ⟨xs, ⟨by rw [hxl, hl], fun j hj => ?_⟩, ⟨hxl, fun _ => ⟨_, rfl, fun j u hu => ?_⟩⟩, fun u hu => ?_⟩
    · obtain ⟨neg, B, m, k, e0, e1, e2⟩ := hc j (by omega)
      refine ⟨neg, B, m, k, ?_, ?_, NIntV.mono e2 fun b _ hb => hb⟩
      · rw [hx _ (by omega), e0]; rfl
      · rw [hx _ (by omega), show off + (j * 2 + 1) = off + j * 2 + 1 by omega, e1]; rfl
    · have hj : j < n * 2 := by
        rcases Nat.lt_or_ge j (n * 2) with h1 | h1
        · exact h1
        · rw [List.getElem?_eq_none (by omega)] at hu; cases hu
      rw [hx j hj] at hu
      obtain ⟨u', e, _⟩ := hcell j hj
      rw [e] at hu
      injection hu with hu
      simp only [Option.getD_some] at hu
      subst hu
      unfold Addr.add
      split
      · rename_i hz; subst hz; exact e
      · exact e
    · obtain ⟨j, hu⟩ := List.getElem?_of_mem hu
      have hj : j < n * 2 := by
        rcases Nat.lt_or_ge j (n * 2) with h1 | h1
        · exact h1
        · rw [List.getElem?_eq_none (by omega)] at hu; cases hu
      rw [hx j hj] at hu
      obtain ⟨u', e, h1⟩ := hcell j hj
      rw [e] at hu
      injection hu with hu
      simp only [Option.getD_some] at hu
      subst hu
      exact h1

theorem Src.below {w w' : World} {size : Nat} {A : Option Addr} {m : Nat} {xs : List Value} (h : Src w size A m xs) (hb : Below w.heap.size w w') : Src w' size A m xs :=
  ⟨h.1, fun hm => by
    obtain ⟨ad, e, hc⟩ := h.2 hm
    exact ⟨ad, e, fun j u hu => by
      have h1 := hc j u hu
      rw [hb.cell (World.block_lt_of_cell? w _ h1)]
      exact h1⟩⟩
theorem nil_true (w : World) (n c : Nat) : (binOp .eql 66 (.slice none n c) (.slice none 0 0)).run Tryz.prog w = .ok (.bool true) w := by
  have h : ∀ d : Nat, (Op.equalIn (d + 1) 66 (.slice none n c) (.slice none 0 0)).run Tryz.prog w = .ok true w := fun d => by simp [Op.equalIn, run_underlying Tryz.underlying66]
  simp only [binOp]
  simp [Op.equal, Op.maxDepth, h 9999]
theorem nil_false (w : World) (a : Addr) (n c : Nat) : (binOp .eql 66 (.slice (some a) n c) (.slice none 0 0)).run Tryz.prog w = .ok (.bool false) w := by
  have h : ∀ d : Nat, (Op.equalIn (d + 1) 66 (.slice (some a) n c) (.slice none 0 0)).run Tryz.prog w = .ok false w := fun d => by simp [Op.equalIn, run_underlying Tryz.underlying66]
  simp only [binOp]
  simp [Op.equal, Op.maxDepth, h 9999]

set_option maxRecDepth 100000 in
set_option maxHeartbeats 1000000 in
theorem clone_any {A : Option Addr} {n c : Nat} {l : List Int} {w : World} (h : Pl NI w (fun _ => True) A n c l) (hn : n ≤ 1000000) :
    Calls Tryz.prog 47 #[.slice A n c] w (Gives w fun w' v => OwnI w' w.heap.size v l) := by
  obtain ⟨xs, hcs, hsrc, hone⟩ := h.src
  have HS := Lib.hid hsrc
  have HC := Lib.hid hcs
  have HO := Lib.hid hone
  clear hsrc hcs hone
  have hl := Lib.hid h.len
  rcases A with _ | ad
  · have h0 : n = 0 := by
      rcases Nat.eq_zero_or_pos n with h0 | h0
      · exact h0
      · obtain ⟨b, off, e, _⟩ := h.cells h0; cases e
    subst h0
    obtain rfl := List.eq_nil_of_length_eq_zero hl.out
    have HN := nil_true
    go_enter Tryz.func47, Tryz.ntmps47
    go_wp2_with fail
    go_ret
    exact ⟨_, rfl, OwnI.nil _ _, Below.refl _ _⟩
  · have HN := nil_false
    have hrow : (w.alloc (.cells #[] 63)).ownsRow w.heap.size 63 2 (.slice (some ⟨w.heap.size, 0, none⟩) 0 0) 0 [] := ⟨rfl, .inr ⟨w.heap.size, 0, #[], rfl, Nat.le_refl _, heap_alloc_new w _, Nat.le_refl _, by unfold maxLen; omega, rfl, rfl⟩⟩
    have hbW : Below w.heap.size w (w.alloc (.cells #[] 63)) := (Below.refl _ _).alloc (Nat.le_refl _) _
    have HR := Lib.hid hrow
    have HB := Lib.hid hbW
    clear hrow hbW h
    go_enter Tryz.func47, Tryz.ntmps47
    go_wp2_with (at_builtin; go_must (refine wpList_app _ rfl _ _ _ _ rfl w.heap.size 63 63 (.agg #[.bool false, .slice none 0 0]) 2 32 Tryz.underlying66 Tryz.underlying66 info_Int rfl (by omega) _ 0 [] rfl HR.out (some ad) n c xs rfl (Src.below HS.out HB.out) HO.out (by unfold maxLen; omega) (by omega) (by simp) ?_); intro v' w' hown' hg hob)
    go_ret
    rw [Nat.zero_add, List.nil_append] at hown'
    have hg0 : w.grownBy w' (some w.heap.size) := grownBy_trans (World.grownBy_alloc w _ _) hg
    have hbb : Below w.heap.size w w' := (Below.refl _ _).grown hg0 (Nat.le_refl _) (fun k hk => by injection hk with hk; omega)
    refine ⟨_, rfl, ⟨xs, by rw [hl.out]; exact hown', (HC.out.below hbb).mono fun b hb _ e => ?_⟩, hbb⟩
    have := (hown'.lt b e.symm).1
    omega

end Go.Proofs.YtdmdagilopckgaaGreat

namespace Go.Proofs.YtdmdagilopckgaaGreat
open Go.RowKit

/-- p, from place f on less by y times q. -/
def lsF (y : Int) : List Int → Nat → List Int → List Int
  | [], _, p => p
  | x :: r, f, p => lsF y r (f + 1) (p.set f (gz p f - y * x))
/-- The same, without zeros at the end. -/
def ls (p : List Int) (y : Int) (q : List Int) (f : Nat) : List Int := tz (lsF y q f p)

theorem lsF_length (y : Int) (q : List Int) (f : Nat) (p : List Int) : (lsF y q f p).length = p.length := by
  induction q generalizing f p with
  | nil => rfl
  | cons x r ih => rw [lsF, ih, List.length_set]
theorem lsF_snoc (y : Int) (q : List Int) (f : Nat) (p : List Int) (x : Int) : lsF y (q ++ [x]) f p = (lsF y q f p).set (f + q.length) (gz (lsF y q f p) (f + q.length) - y * x) := by
  induction q generalizing f p with
  | nil => simp [lsF]
  | cons z r ih => rw [List.cons_append, lsF, lsF, ih, List.length_cons, show f + 1 + r.length = f + (r.length + 1) by omega]

section
variable {w w' : World} {base g n cap : Nat} {l : List Int} {v : Value}
theorem OwnI.cells2 (h : OwnI w base (.slice (some ⟨g, 0, none⟩) n cap) l) (hn : l.length = n) {j : Nat} (hj : j < n) : ∃ neg B m k, w.cell? ⟨g, j * 2, none⟩ = some (.bool neg) ∧ w.cell? ⟨g, j * 2 + 1, none⟩ = some (.slice B m k) ∧ NI w (.agg #[.bool neg, .slice B m k]) (gz l j) := by
  obtain ⟨xs, h1, h2⟩ := h
  rw [hn] at h1
  obtain ⟨neg, B, m, k, e0, e1, e2⟩ := h2.2 j (by omega)
  exact ⟨neg, B, m, k, (h1.cellAt _ (by omega)).trans e0, (h1.cellAt _ (by omega)).trans e1, e2.mono fun _ _ _ => trivial⟩
theorem OwnI.frozen2 (h : OwnI w base (.slice (some ⟨g, 0, none⟩) n cap) l) (hn : l.length = n) (j : Nat) : w.frozen? ⟨g, j, none⟩ = false := by
  obtain ⟨xs, h1, h2⟩ := h
  rw [hn] at h1
  exact h1.frozenAt j
theorem OwnI.set2 (h : OwnI w base (.slice (some ⟨g, 0, none⟩) n cap) l) (hn : l.length = n) {i : Nat} (hi : i < n) {neg : Bool} {B : Option Addr} {m k : Nat} {x : Int} (hx : NIntV w (· ≠ g) (.agg #[.bool neg, .slice B m k]) x) :
    OwnI ((w.setCell ⟨g, i * 2, none⟩ (.bool neg)).setCell ⟨g, i * 2 + 1, none⟩ (.slice B m k)) base (.slice (some ⟨g, 0, none⟩) n cap) (l.set i x) := by
  obtain ⟨xs, h1, h2⟩ := h
  rw [hn] at h1
  have hd : ∀ b, (some b ≠ (Value.slice (some ⟨g, 0, none⟩) n cap).ownBlock) ↔ b ≠ g := fun b => by simp [Value.ownBlock]
  refine ⟨_, by rw [List.length_set, hn]; exact (((h1.stored (i * 2) (.bool neg)).1).stored (i * 2 + 1) (.slice B m k)).1, ?_⟩
  have hx' : NIntV w (fun b => some b ≠ (Value.slice (some ⟨g, 0, none⟩) n cap).ownBlock) (.agg #[.bool neg, .slice B m k]) x := hx.mono fun b hb _ => (hd b).2 hb
  exact ((h2.set (by omega) hx').setCell (by simp [Value.ownBlock]) _).setCell (by simp [Value.ownBlock]) _
theorem OwnI.where_ (h : OwnI w base v l) (hl : 0 < l.length) : ∃ g cap, v = .slice (some ⟨g, 0, none⟩) l.length cap ∧ base ≤ g ∧ g < w.heap.size ∧ l.length ≤ cap ∧ cap ≤ maxLen := by
  obtain ⟨xs, h1, h2⟩ := h
  obtain ⟨g, cap, e, hb, hc, hm, hf, hcell⟩ := own_cells h1 hl
  exact ⟨g, cap, e, hb, (h1.lt g (by rw [e]; rfl)).2, hc, hm⟩
end

theorem lsF_gz (y : Int) (q : List Int) (f : Nat) (p : List Int) (j : Nat) (hf : f + q.length ≤ p.length) : gz (lsF y q f p) j = if f ≤ j ∧ j < f + q.length then gz p j - y * gz q (j - f) else gz p j := by
  induction q generalizing f p with
  | nil => rw [lsF, if_neg (by simp)]
  | cons x r ih =>
    simp only [List.length_cons] at hf
    rw [lsF, ih _ _ (by rw [List.length_set]; omega), gz_set (by omega)]
    rcases Nat.lt_trichotomy j f with h | h | h
    · rw [if_neg (by omega), if_neg (by omega), if_neg (by omega)]
    · subst h
      rw [if_neg (by omega), if_pos rfl, if_pos (by simp only [List.length_cons]; omega), Nat.sub_self, gz_cons_zero]
    · simp only [if_neg (show ¬ f = j by omega)]
      by_cases h2 : j < f + (r.length + 1)
      · rw [if_pos (by omega), if_pos (by simp only [List.length_cons]; omega), show j - f = (j - (f + 1)) + 1 by omega, gz_cons_succ]
      · rw [if_neg (by omega), if_neg (by simp only [List.length_cons]; omega)]
theorem wl_sub (a b : Int) : wl (a - b).natAbs ≤ max (wl a.natAbs) (wl b.natAbs) + 1 := by
  have h1 : (a - b).natAbs ≤ a.natAbs + b.natAbs := by omega
  exact Nat.le_trans (wl_le h1) (wl_add _ _)
/-- Bounds of what less gives. -/
theorem wl_lsF {B C Y : Nat} (y : Int) (q : List Int) (f : Nat) (p : List Int) (hp : ∀ x ∈ p, wl x.natAbs ≤ B) (hq : ∀ x ∈ q, wl x.natAbs ≤ C) (hy : wl y.natAbs ≤ Y) (hf : f + q.length ≤ p.length) : ∀ x ∈ lsF y q f p, wl x.natAbs ≤ max B (Y + C) + 1 := by
  intro x hx
  obtain ⟨j, hj⟩ := List.getElem?_of_mem hx
  have hlt : j < (lsF y q f p).length := by
    rcases Nat.lt_or_ge j (lsF y q f p).length with h1 | h1
    · exact h1
    · rw [List.getElem?_eq_none h1] at hj; cases hj
  rw [gz_lt hlt, lsF_gz _ _ _ _ _ hf] at hj
  injection hj with hj
  rw [lsF_length] at hlt
  have h1 := hp _ (gz_mem hlt)
  split at hj
  · rename_i h2
    have h3 := hq _ (gz_mem (l := q) (j := j - f) (by omega))
    have h4 := wl_sub (gz p j) (y * gz q (j - f))
    have h5 := wl_mul y.natAbs (gz q (j - f)).natAbs
    rw [← Int.natAbs_mul] at h5
    rw [← hj]
    omega
  · rw [← hj]; omega

set_option maxRecDepth 100000 in
set_option maxHeartbeats 4000000 in
theorem less_any {A A' : Option Addr} {n c n' c' f : Nat} {l l' : List Int} {v : Value} {y : Int} {w : World} (h : Pl NI w (fun _ => True) A n c l) (h' : Pl NI w (fun _ => True) A' n' c' l') (hv : NI w v y) (hn : n ≤ 1000000) (hn0 : 0 < n) (hf : f + n' ≤ n)
    (hw : ∀ x ∈ l, wl x.natAbs ≤ 400000000000) (hw' : ∀ x ∈ l', wl x.natAbs ≤ 400000000000) (hwy : wl y.natAbs ≤ 400000000000) :
    Calls Tryz.prog 89 #[.slice A n c, v, .slice A' n' c', .int .i64 (f : Int)] w (Gives w fun w' v => PV w' (w.heap.size ≤ ·) v (ls l y l' f)) := by
  obtain ⟨Ay, cy, rfl, hv⟩ := hv
  have hvy : NI w (.agg #[.bool (decide (y < 0)), .slice Ay (wl y.natAbs) cy]) y := ⟨Ay, cy, rfl, hv⟩
  clear hv
  generalize decide (y < 0) = ny at *
  generalize hwle : wl y.natAbs = my at *
  have HWY := Lib.hid hwle
  clear hwle
  obtain ⟨W, hW⟩ : ∃ W, W = w.alloc (.cells #[.bool ny, .slice Ay my cy] 63) := ⟨_, rfl⟩
  have hbW : Below w.heap.size w W := by rw [hW]; exact (Below.refl _ _).alloc (Nat.le_refl _) _
  have b0 : W.cell? ⟨w.heap.size, 0, none⟩ = some (.bool ny) := by rw [hW]; go_simp
  have b1 : W.cell? ⟨w.heap.size, 1, none⟩ = some (.slice Ay my cy) := by rw [hW]; go_simp
  have hsW : w.heap.size < W.heap.size := cell_lt b0
  have HWW := Lib.hid hW
  clear hW
  have hl := Lib.hid h.len
  have hl' := Lib.hid h'.len
  have hm' := h'.room
  have hc' := h'.cap
  go_enter Tryz.func89, Tryz.ntmps89
  go_wp2_with (go_at_call 47; rw [← HWW.out]; go_must (refine (clone_any (h.below hbW) hn).mono ?_); rintro e w1 ⟨v1, rfl, hown1, hb1⟩)
  · obtain ⟨g, cap, rfl, hbg, hg1, hcap, hcm⟩ := hown1.where_ (by rw [hl.out]; exact hn0)
    rw [hl.out] at hcap hown1 ⊢
    go_loopw [16] (fun iv wr => ∃ k : Nat, iv = .int .i64 k ∧ k ≤ n' ∧ OwnI wr W.heap.size (.slice (some ⟨g, 0, none⟩) n cap) (lsF y (l'.take k) f l) ∧ Below W.heap.size W wr ∧ g < wr.heap.size) (fun iv _ => n' - (intOf iv).toNat)
    case atStart => exact ⟨0, rfl, by omega, hown1, hb1, hg1⟩
    case round =>
      obtain ⟨k, rfl, hk, hown, hbr, hglt⟩ := hrel
      rcases Nat.lt_or_ge k n' with hkn | hkn
      · obtain ⟨b, off, rfl, _, hcell⟩ := (h'.below (hbW.trans (hbr.mono (Nat.le_of_lt hsW)))).cells (by omega)
        obtain ⟨neg, B, m, q, e0, e1, e2⟩ := hcell k hkn
        clear hcell
        have hlen : (lsF y (l'.take k) f l).length = n := by rw [lsF_length, hl.out]
        obtain ⟨neg3, B3, m3, q3, o0, o1, o2⟩ := hown.cells2 hlen (j := f + k) (by omega)
        have z0 := hown.frozen2 hlen ((f + k) * 2)
        have z1 := hown.frozen2 hlen ((f + k) * 2 + 1)
        have hold : gz (lsF y (l'.take k) f l) (f + k) = gz l (f + k) := by rw [lsF_gz _ _ _ _ _ (by rw [List.length_take, hl.out, hl'.out]; omega), if_neg (by rw [List.length_take, hl'.out]; omega)]
        have bb0 := keepB hbr b0
        have bb1 := keepB hbr b1
        rw [hold] at o2
        have hw1 := hw _ (gz_mem (show f + k < l.length by rw [hl.out]; omega))
        have hw2 := hw' _ (gz_mem (show k < l'.length by rw [hl'.out]; omega))
        have hw3 : wl (y * gz l' k).natAbs ≤ 800000000000 := by
          have := wl_mul y.natAbs (gz l' k).natAbs
          rw [← Int.natAbs_mul] at this
          have h3 := HWY.out
          omega
        have hwy2 : wl y.natAbs ≤ 400000000000 := by rw [HWY.out]; exact hwy
        go_wp2_with fail
        obtain ⟨W2, hW2⟩ : ∃ W2, W2 = wr.alloc (.cells #[.bool neg, .slice B m q] 63) := ⟨_, rfl⟩
        have HB2 : Below wr.heap.size wr W2 := by rw [hW2]; exact (Below.refl _ _).alloc (Nat.le_refl _) _
        have x0 : W2.cell? ⟨wr.heap.size, 0, none⟩ = some (.bool neg) := by rw [hW2]; go_simp
        have x1 : W2.cell? ⟨wr.heap.size, 1, none⟩ = some (.slice B m q) := by rw [hW2]; go_simp
        rw [← hW2]
        clear hW2 e0 e1
        replace bb0 := keepB HB2 bb0
        replace bb1 := keepB HB2 bb1
        replace o0 := keepB HB2 o0
        replace o1 := keepB HB2 o1
        rw [← (bcell HB2).2 _ _ hglt] at z0 z1
        have hgl2 : g < W2.heap.size := Nat.lt_of_lt_of_le hglt HB2.size
        have hM := fun w' (hb : Below W2.heap.size W2 w') => Mul_any ((hvy.below (hbW.trans ((hbr.trans (HB2.mono hbr.size)).mono (Nat.le_of_lt hsW)))).below hb).int ((e2.below HB2).below hb).int (by omega) (by omega)
        have hS := fun w' v (hb : Below W2.heap.size W2 w') (hv : NI w' v (y * gz l' k)) => Sub_any ((o2.below HB2).below hb).int hv.int (by omega) (by omega)
        have HM := Lib.hid hM
        have HS := Lib.hid hS
        have HOWN := Lib.hid (hown.below HB2)
        clear hM hS hw1 hw2 hw3 hwy2 hown e2 o2 hw hw' h h' hvy hold
        have a1 : IntKind.i64.wrap ((f : Int) + k) = (f : Int) + k := IntWalk.i64_in _ (by omega)
        have a2 : (0 : Int) ≤ (f : Int) + k := by omega
        have a3 : (f : Int) + k < n := by omega
        have a4 : ((f : Int) + k).toNat = f + k := by omega
        have hdr : Below W2.heap.size W2 W2.drew := (Below.refl _ _).drew
        go_region_with (first
          | (go_at_call 79; ((with_reducible refine (HM.out _ hdr).mono ?_)); rintro e w3 ⟨v3, rfl, ⟨A3, c3, rfl, hv3⟩, hb3⟩; have n3 : NI w3 _ (y * gz l' k) := ⟨A3, c3, rfl, hv3.mono fun _ _ _ => trivial⟩; have hB3 := hdr.trans (hb3.mono hdr.size); have p0 := keepB hB3 bb0; have p1 := keepB hB3 bb1; have r0 := keepB hB3 x0; have r1 := keepB hB3 x1; have s0 := keepB hB3 o0; have s1 := keepB hB3 o1)
          | (go_at_call 101; ((with_reducible refine (HS.out _ _ hB3 n3).mono ?_)); rintro e w4 ⟨v4, rfl, ⟨A4, c4, rfl, hv4⟩, hb4⟩; have hB4 := hB3.trans (hb4.mono hB3.size); have t0 := keepB hB4 o0; have t1 := keepB hB4 o1; have zz0 := ((bcell hB4).2 _ _ hgl2).trans z0; have zz1 := ((bcell hB4).2 _ _ hgl2).trans z1))
        all_goals
          clear a1 a2 a3 a4
          go_wp2_with fail
          go_round
          case rel =>
            have hn4 : NIntV w4 (· ≠ g) (.agg #[.bool _, .slice A4 _ c4]) (gz l (f + k) - y * gz l' k) := ⟨A4, c4, rfl, hv4.mono fun b hb _ => by have h1 : w3.heap.size ≤ b := hb; have h2 := hB3.size; omega⟩
            have hset := (HOWN.out.below hB4).set2 hlen (i := f + k) (by omega) hn4
            refine ⟨k + 1, by go_num, by omega, ?_, (((hbr.trans (HB2.mono hbr.size)).trans (hB4.mono (Nat.le_trans hbr.size HB2.size))).setCell hbg _).setCell hbg _, by simp; exact Nat.lt_of_lt_of_le hgl2 hB4.size⟩
            have e : lsF y (l'.take (k + 1)) f l = (lsF y (l'.take k) f l).set (f + k) (gz l (f + k) - y * gz l' k) := by
              have hlt : (l'.take k).length = k := by rw [List.length_take, hl'.out]; omega
              rw [take_succ_gz (by rw [hl'.out]; exact hkn), lsF_snoc, hlt, lsF_gz _ _ _ _ _ (by rw [hlt, hl.out]; omega), if_neg (by rw [hlt]; omega)]
            rw [e]
            exact hset
          case measure => simp [intOf]; omega
      · obtain rfl : k = n' := by omega
        rw [List.take_of_length_le (by rw [hl'.out]; exact Nat.le_refl _)] at hown
        have hlen : (lsF y l' f l).length = n := by rw [lsF_length, hl.out]
        obtain ⟨A5, c5, e5, hpl⟩ := hown.pl (by rw [hlen]; unfold maxLen; omega)
        rw [hlen] at e5 hpl
        injection e5 with e5 _ e6
        subst e5 e6
        have hpb : Pl IntB wr (fun _ => True) (some ⟨g, 0, none⟩) n cap (lsF y l' f l) := (hpl.mono (D' := fun _ => True) fun _ _ _ => trivial).imp fun v x hx hv => hv.b (by
          have := wl_lsF (B := 400000000000) (C := 400000000000) (Y := 400000000000) y l' f l hw hw' (by rw [HWY.out]; exact hwy) (by rw [hl.out, hl'.out]; exact hf) x hx
          omega)
        clear hpl hown h h' hw hw' hvy
        go_wp2_with (go_at_call 67; go_must (refine (normal_any hpb hn).mono ?_); rintro e w2 ⟨v2, rfl, hv2, hb2⟩)
        go_ret
        have hB := hbW.trans (hbr.mono (Nat.le_of_lt hsW))
        exact ⟨_, rfl, hv2.up fun b hb => Nat.le_trans hB.size hb, hB.trans (hb2.mono hB.size)⟩

end Go.Proofs.YtdmdagilopckgaaGreat
