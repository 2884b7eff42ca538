/- Package brandt: limit, read. -/
import Derived.Test.YtdmdagilopckgaaGreatChn
namespace Go.Proofs.YtdmdagilopckgaaGreat
open Go.RowKit

/-- The first number with more than 1000 bits. -/
def Lm : Nat := 2 ^ 1000
theorem dig_limit : dig 4294967296 Lm = List.replicate 31 0 ++ [256] := by decide +kernel
theorem wl_limit : wl Lm = 32 := by unfold wl; rw [dig_limit]; rfl

set_option maxHeartbeats 1000000 in
theorem limit_any {w : World} : Calls Tryz.prog 62 #[] w (Gives w fun w' v => NIntV w' (w.heap.size ≤ ·) v (Lm : Nat)) := by
  go_enter Tryz.func62, Tryz.ntmps62
  go_wp2_with (at_make; go_must (refine wpList_make_arr _ rfl _ _ _ rfl 110 (.int .u32 0) 1 4 Tryz.underlying61 info_u32 _ _ _ _ 32 rfl rfl (by omega) (by omega) (by omega) (by omega) ?_); intro w1 ha hb hz; have harr := WArr.made ha; have hsz : w1.heap.size = w.heap.size + 1 + 1 := by {rw [hz]; simp}; have c31 : w1.cell? ⟨w.heap.size + 1, 31, none⟩ = some (.int .u32 0) := by {have h1 := harr.cell (i := 31) (by simp); rw [show gw (List.replicate 32 0) 31 = 0 from rfl] at h1; simpa using h1}; have z31 : w1.frozen? ⟨w.heap.size + 1, 31, none⟩ = false := by {have h1 := harr.frozen 31; simpa using h1}; have r0 : w1.cell? ⟨w.heap.size, 0, none⟩ = some (.bool false) := by {rw [World.cell?_of_block (hb.block w.heap.size (by simp))]; go_simp}; have r1 : w1.cell? ⟨w.heap.size, 1, none⟩ = some (.slice none 0 0) := by {rw [World.cell?_of_block (hb.block w.heap.size (by simp))]; go_simp}; have y0 : w1.frozen? ⟨w.heap.size, 0, none⟩ = false := by {rw [World.frozen?_of_block (hb.block w.heap.size (by simp))]; go_simp}; have y1 : w1.frozen? ⟨w.heap.size, 1, none⟩ = false := by {rw [World.frozen?_of_block (hb.block w.heap.size (by simp))]; go_simp}; clear ha hz)
  have hw : WArr (((((w1.setCell ⟨w.heap.size + 1, 31, none⟩ (.int .u32 256)).setCell ⟨w.heap.size, 0, none⟩ (.bool false)).setCell ⟨w.heap.size, 1, none⟩ (.slice (some ⟨w.heap.size + 1, 0, none⟩) 32 32)).alloc (.cells #[.bool false, .slice (some ⟨w.heap.size + 1, 0, none⟩) 32 32] 63))) (w.heap.size + 1) (List.replicate 31 0 ++ [256]) := by
    have h1 : WArr w1 (w.heap.size + 1) (List.replicate 32 0) := by simpa using harr
    have h2 := h1.set_ 31 256
    exact ((h2.far (by simp) _).far (by simp) _).alloc _
  have hbb : Below w.heap.size w w1 := ((Below.refl _ _).alloc (Nat.le_refl _) _).trans (hb.mono (by simp))
  have hb2 : Below w.heap.size w (((((w1.setCell ⟨w.heap.size + 1, 31, none⟩ (.int .u32 256)).setCell ⟨w.heap.size, 0, none⟩ (.bool false)).setCell ⟨w.heap.size, 1, none⟩ (.slice (some ⟨w.heap.size + 1, 0, none⟩) 32 32)).alloc (.cells #[.bool false, .slice (some ⟨w.heap.size + 1, 0, none⟩) 32 32] 63))) :=
    (((hbb.setCell (by simp) _).setCell (by simp) _).setCell (by simp) _).alloc (by simp [World.setCell]; omega) _
  obtain ⟨W, hW⟩ : ∃ W, W = (((((w1.setCell ⟨w.heap.size + 1, 31, none⟩ (.int .u32 256)).setCell ⟨w.heap.size, 0, none⟩ (.bool false)).setCell ⟨w.heap.size, 1, none⟩ (.slice (some ⟨w.heap.size + 1, 0, none⟩) 32 32)).alloc (.cells #[.bool false, .slice (some ⟨w.heap.size + 1, 0, none⟩) 32 32] 63))) := ⟨_, rfl⟩
  have q0 : W.cell? ⟨w.heap.size, 0, none⟩ = some (.bool false) := by rw [hW]; go_simp
  have q1 : W.cell? ⟨w.heap.size, 1, none⟩ = some (.slice (some ⟨w.heap.size + 1, 0, none⟩) 32 32) := by rw [hW]; go_simp
  rw [← hW] at hw hb2 ⊢
  refine bodyPost_ret (v := .agg #[.bool false, .slice (some ⟨w.heap.size + 1, 0, none⟩) 32 32]) (by simp [results, Tryz.results62, go_sem, q0, q1]) rfl ⟨_, rfl, ?_, hb2⟩
  have hwd := hw.wd (D := (w.heap.size ≤ ·)) (fun x hx => by
    rcases List.mem_append.1 hx with h | h
    · rw [(List.mem_replicate.1 h).2]; omega
    · rw [List.mem_singleton.1 h]; omega) (by unfold maxLen; simp) (Nat.le_succ _)
  refine ⟨some ⟨w.heap.size + 1, 0, none⟩, 32, ?_, ?_⟩
  · rw [Int.natAbs_natCast, wl_limit, show decide ((Lm : Int) < 0) = false from decide_eq_false (by omega)]
  · rw [Int.natAbs_natCast, wl_limit, dig_limit]
    exact hwd

set_option maxHeartbeats 2000000 in
set_option maxRecDepth 100000 in
theorem read1_any {v : Value} {x : Int} {w : World} {P : Nat} (h : IntB w v x) (hp : Cap w P (Lm : Nat)) :
    Calls Tryz.prog 64 #[v, .pointer (some ⟨P, 0, none⟩)] w fun e w' => e = .returned (.bool (decide (Lm ≤ x.natAbs))) ∧ Below w.heap.size w w' := by
  obtain ⟨ng, Bg, mg, kg, p0, p1, hgi⟩ := hp
  have hx := h.wl
  obtain ⟨neg, A, n, c, l, rfl, hwd, hxe, hn⟩ := h
  have hint := hwd.int neg
  rw [← hxe] at hint
  have HI := Lib.hid hint
  have HX := Lib.hid hx
  have HG := Lib.hid hgi
  have HC := Lib.hid (show decide ((0 : Int) ≤ cmpI (x.natAbs : Int) (Lm : Nat)) = decide (Lm ≤ x.natAbs) by
    unfold cmpI
    congr 1
    apply propext
    constructor
    · intro h1; split at h1 <;> (try split at h1) <;> omega
    · intro h1; split <;> (try split) <;> omega)
  clear hint hx hgi hxe hwd
  obtain ⟨W, hW, hbW, c0, c1⟩ := alloc_int w neg A n c
  have q0 := keepB hbW p0
  have q1 := keepB hbW p1
  clear p0 p1
  have HWW := Lib.hid hW
  clear hW
  generalize hR : w.heap.size = R at *
  have HR := Lib.hid hR
  clear hR
  go_enter Tryz.func64, Tryz.ntmps64
  go_upto_region 1 with fail
  rw [HR.out, ← HWW.out]
  have hs0 : Below W.heap.size W W.drew := (Below.refl _ _).drew
  have Q0 := Lib.hid q0
  have Q1 := Lib.hid q1
  have C0 := Lib.hid c0
  have C1 := Lib.hid c1
  have HB := Lib.hid (show ∀ W', Below W.heap.size W W' → Below w.heap.size w W' from fun W' h => btr (by rw [HR.out]; exact hbW) h)
  clear q0 q1 c0 c1 hbW
  refine wp_region_trg (.read 0 (.read 2 (.step 1 (.step 3 (.step 4 (.step 5 .nil)))))) [] (by kernel_rfl) (by rfl) (by kernel_rfl) (by kernel_rfl) (fun _ _ _ _ _ h => h) (fun W' => Below W.heap.size W W') ?_
  change goG _ _ _ _ _ _ _ W.drew
  refine goG_read 4 hs0 (by rfl) (by rfl) ?_ (by rfl) (fun wz hSw => ?_) ?_
  rotate_left
  · (have x0 := keepB hSw C0.out); (have x1 := keepB hSw C1.out); go_simp
    try with_reducible rfl
  simp only [List.setIfInBounds_toArray, List.set]
  refine goG_read 6 hs0 (by rfl) (by rfl) ?_ (by rfl) (fun wz hSw => ?_) ?_
  rotate_left
  · (have x0 := keepB hSw Q0.out); (have x1 := keepB hSw Q1.out); go_simp
    try with_reducible rfl
  simp only [List.setIfInBounds_toArray, List.set]
  refine goG_step (by rfl) ?_
  go_wp2_with (go_at_call 66; refine (Size_any (HI.out.below (HB.out _ hs0)) (Nat.le_trans HX.out (by omega))).mono ?_; rintro e w2 ⟨v2, rfl, hv2, hb2⟩)
  have hs1 := btr hs0 hb2
  refine ⟨fun _ => hs1, ?_⟩
  refine goG_step (by rfl) ?_
  go_wp2_with (go_at_call 65; refine (Cmp_any hv2.int (HG.out.below (HB.out _ hs1)).int (by rw [Int.natAbs_natCast]; exact Nat.le_trans HX.out (by omega)) (by rw [Int.natAbs_natCast, wl_limit]; omega)).mono ?_; rintro e w3 ⟨rfl, hb3⟩)
  have hs2 := btr hs1 hb3
  refine ⟨fun _ => hs2, ?_⟩
  refine goG_step (by rfl) ?_
  go_wp2_with fail
  refine ⟨fun _ => hs2, ?_⟩
  refine goG_step (by rfl) ?_
  go_wp2_with fail
  refine ⟨fun _ => hs2, ?_⟩
  rename_i hK
  refine hK _ _ ?_
  go_wp2_with fail
  go_ret
  exact ⟨by rw [← HC.out]; rfl, by rw [← HR.out]; exact HB.out _ hs2⟩

/-- What does not fit. -/
def big (x : Int) : Bool := decide (Lm ≤ x.natAbs)
theorem any_take_succ {l : List Int} {p : Int → Bool} {k : Nat} (hk : k < l.length) (h : (l.take k).any p = false) : (l.take (k + 1)).any p = p (gz l k) := by
  rw [take_succ_gz hk, List.any_append, h]
  simp

set_option maxHeartbeats 2000000 in
theorem IndexFunc_any {A : Option Addr} {n c P : Nat} {l : List Int} {w : World} (h : Pl IntB w (fun _ => True) A n c l) (hp : Cap w P (Lm : Nat)) :
    Calls Tryz.prog 100 #[.slice A n c, .func (.func 64) #[] #[.pointer (some ⟨P, 0, none⟩)]] w fun e w' => ∃ i : Int, e = .returned (.int .i64 i) ∧ decide (0 ≤ i) = l.any big ∧ Below w.heap.size w w' := by
  have hm := h.room
  unfold maxLen at hm
  have hc := h.cap
  have hl := Lib.hid h.len
  have HF := Lib.hid (fun w' v x (hb : Below w.heap.size w w') (hx : IntB w' v x) => read1_any hx (hp.below hb))
  clear hp
  go_enter Tryz.func100, Tryz.ntmps100
  go_wp2_with fail
  go_loopw [8] (fun iv wr => ∃ k : Nat, iv = .int .i64 k ∧ k ≤ n ∧ Hid ((l.take k).any big = false) ∧ Below w.heap.size w wr) (fun iv _ => n - (intOf iv).toNat)
  case atStart => exact ⟨0, rfl, by omega, Lib.hid rfl, Below.refl _ _⟩
  case round =>
    obtain ⟨k, rfl, hk, HN, hbr⟩ := hrel
    rcases Nat.lt_or_ge k n with hkn | hkn
    · obtain ⟨b, off, rfl, _, hcell⟩ := (h.below hbr).cells (by omega)
      obtain ⟨neg, B, m, q, e0, e1, e2⟩ := hcell k hkn
      clear hcell
      have HS := Lib.hid (any_take_succ (by rw [hl.out]; exact hkn) HN.out)
      have HC := Lib.hid (HF.out _ _ _ hbr e2)
      have HLL := Lib.hid (List.any_eq_true.2 ⟨gz l k, gz_mem (by rw [hl.out]; exact hkn), ·⟩ : big (gz l k) = true → l.any big = true)
      clear h e2
      cases hp : big (gz l k)
      · have HP := Lib.hid (show decide (Lm ≤ (gz l k).natAbs) = false from hp)
        clear hp
        go_wp2_with (go_at_call 64; go_must (refine HC.out.mono ?_); rintro e w2 ⟨rfl, hb2⟩; rw [HP.out])
        go_round
        case rel => exact ⟨k + 1, by go_num, by omega, Lib.hid (HS.out.trans HP.out), btr hbr hb2⟩
        case measure => simp [intOf]; omega
      · have HP := Lib.hid (show decide (Lm ≤ (gz l k).natAbs) = true from hp)
        clear hp
        go_wp2_with (go_at_call 64; go_must (refine HC.out.mono ?_); rintro e w2 ⟨rfl, hb2⟩; rw [HP.out])
        go_ret
        exact ⟨_, rfl, by rw [HLL.out HP.out]; exact decide_eq_true (by omega), btr hbr hb2⟩
    · obtain rfl : k = n := by omega
      have HN2 := Lib.hid (show l.any big = false by rw [← HN.out, List.take_of_length_le (by rw [hl.out]; exact Nat.le_refl _)])
      clear h
      go_wp2_with fail
      go_ret
      exact ⟨_, rfl, by rw [HN2.out]; rfl, hbr⟩

theorem ContainsFunc_any {A : Option Addr} {n c P : Nat} {l : List Int} {w : World} (h : Pl IntB w (fun _ => True) A n c l) (hp : Cap w P (Lm : Nat)) :
    Calls Tryz.prog 63 #[.slice A n c, .func (.func 64) #[] #[.pointer (some ⟨P, 0, none⟩)]] w fun e w' => e = .returned (.bool (l.any big)) ∧ Below w.heap.size w w' := by
  have HI := Lib.hid (IndexFunc_any h hp)
  have hm := h.room
  have hc := h.cap
  clear h hp
  generalize l.any big = y at *
  go_enter Tryz.func63, Tryz.ntmps63
  go_wp2_with (go_at_call 100; go_must (refine HI.out.mono ?_); rintro e w2 ⟨i, rfl, hi, hb2⟩)
  go_ret
  exact ⟨rfl, hb2⟩

/-- The error of a polynomial. -/
def rdE (l : List Int) : Int := if 61 < l.length then 8 else if l.any big = true then 8 else if tz l = [] then 10 else 0
/-- What read answers. -/
def RdR (w : World) (l : List Int) (e : Ending) (w' : World) : Prop :=
  ∃ v, e = .returned (.tuple #[v, .int .i64 (rdE l)]) ∧ (rdE l = 0 → PL w' v (tz l)) ∧ (rdE l ≠ 0 → v = .slice none 0 0) ∧ Below w.heap.size w w'

set_option maxHeartbeats 2000000 in
theorem read_any {A : Option Addr} {n c : Nat} {l : List Int} {w : World} (h : Pl IntB w (fun _ => True) A n c l) : Calls Tryz.prog 30 #[.slice A n c] w (RdR w l) := by
  have hm := h.room
  unfold maxLen at hm
  have hc := h.cap
  have hl := Lib.hid h.len
  have HA := fun (K : Bool) (hK : l.any big = K) => Lib.hid (fun w' P (hb : Below w.heap.size w w') (hp : Cap w' P (Lm : Nat)) => show Calls Tryz.prog 63 #[.slice A n c, .func (.func 64) #[] #[.pointer (some ⟨P, 0, none⟩)]] w' (fun e w'' => e = .returned (.bool K) ∧ Below w'.heap.size w' w'') from hK ▸ ContainsFunc_any (h.below hb) hp)
  by_cases h61 : 61 < n
  · have HE := Lib.hid (show rdE l = 8 by unfold rdE; rw [if_pos (by rw [hl.out]; exact h61)])
    have z1 : decide ((61 : Int) < (n : Int)) = true := decide_eq_true (by omega)
    clear h HA
    go_enter Tryz.func30, Tryz.ntmps30
    go_wp2_with fail
    go_ret2
    exact ⟨_, by rw [HE.out]; rfl, fun h => absurd (HE.out.symm.trans h) (by decide), fun _ => rfl, Below.refl _ _⟩
  · have z1 : decide ((61 : Int) < (n : Int)) = false := decide_eq_false (by omega)
    cases hb : l.any big
    · have HC := HA _ hb
      have HB := Lib.hid hb
      have HN := Lib.hid (fun w' (hb : Below w.heap.size w w') => normal_any (h.below hb) (by omega))
      clear hb HA
      clear h
      by_cases ht : (tz l).length = 0
      · have HE := Lib.hid (show rdE l = 10 by unfold rdE; rw [if_neg (by rw [hl.out]; exact h61), if_neg (by rw [HB.out]; decide), if_pos (List.eq_nil_of_length_eq_zero ht)])
        go_enter Tryz.func30, Tryz.ntmps30
        go_wp2_with (first
          | (go_at_call 62; go_must (refine limit_any.mono ?_); rintro e w1 ⟨v1, rfl, hv1, hb1⟩; obtain ⟨neg1, A1, m1, c1, rfl, hn1⟩ := (nint_ni hv1).shape; have hcap : Cap (w1.alloc (.cells #[.bool neg1, .slice A1 m1 c1] 63)) w1.heap.size (Lm : Nat) := ⟨_, _, _, _, (Bx.new w1 neg1 A1 m1 c1).1, (Bx.new w1 neg1 A1 m1 c1).2.1, hn1.below (below_al (Below.refl _ _) _)⟩)
          | (go_at_call 63; go_must (refine (HC.out _ _ (below_al hb1 _) hcap).mono ?_); rintro e w2 ⟨rfl, hb2⟩)
          | (go_at_call 67; go_must (refine (HN.out _ (btr (below_al hb1 _) hb2)).mono ?_); rintro e w3 ⟨v3, rfl, hv3, hb3⟩; obtain ⟨A3, c3, rfl, hp3⟩ := pv_shape (k := 0) hv3 rfl ht))
        go_ret2
        exact ⟨_, by rw [HE.out]; rfl, fun h => absurd (HE.out.symm.trans h) (by decide), fun _ => rfl, btr (btr (below_al hb1 _) hb2) hb3⟩
      · have HE := Lib.hid (show rdE l = 0 by unfold rdE; rw [if_neg (by rw [hl.out]; exact h61), if_neg (by rw [HB.out]; decide), if_neg (fun e => ht (by rw [e]; rfl))])
        have hpos : 0 < (tz l).length := by omega
        obtain ⟨m, hm2⟩ : ∃ m, (tz l).length = m := ⟨_, rfl⟩
        have ht2 : ¬ m = 0 := by omega
        have HM := Lib.hid hm2
        clear ht hpos hm2
        go_enter Tryz.func30, Tryz.ntmps30
        go_wp2_with (first
          | (go_at_call 62; go_must (refine limit_any.mono ?_); rintro e w1 ⟨v1, rfl, hv1, hb1⟩; obtain ⟨neg1, A1, m1, c1, rfl, hn1⟩ := (nint_ni hv1).shape; have hcap : Cap (w1.alloc (.cells #[.bool neg1, .slice A1 m1 c1] 63)) w1.heap.size (Lm : Nat) := ⟨_, _, _, _, (Bx.new w1 neg1 A1 m1 c1).1, (Bx.new w1 neg1 A1 m1 c1).2.1, hn1.below (below_al (Below.refl _ _) _)⟩)
          | (go_at_call 63; go_must (refine (HC.out _ _ (below_al hb1 _) hcap).mono ?_); rintro e w2 ⟨rfl, hb2⟩)
          | (go_at_call 67; go_must (refine (HN.out _ (btr (below_al hb1 _) hb2)).mono ?_); rintro e w3 ⟨v3, rfl, hv3, hb3⟩; obtain ⟨A3, c3, rfl, hp3⟩ := pv_shape (k := m) hv3 rfl HM.out; have hmc := hp3.cap; have hmr := hp3.room; unfold maxLen at hmr))
        go_ret2
        exact ⟨_, by rw [HE.out]; rfl, fun _ => hp3.v, fun h => absurd HE.out h, btr (btr (below_al hb1 _) hb2) hb3⟩
    · have HC := HA _ hb
      have HE := Lib.hid (show rdE l = 8 by unfold rdE; rw [if_neg (by rw [hl.out]; exact h61), if_pos hb])
      clear hb HA h
      go_enter Tryz.func30, Tryz.ntmps30
      go_wp2_with (first
        | (go_at_call 62; go_must (refine limit_any.mono ?_); rintro e w1 ⟨v1, rfl, hv1, hb1⟩; obtain ⟨neg1, A1, m1, c1, rfl, hn1⟩ := (nint_ni hv1).shape; have hcap : Cap (w1.alloc (.cells #[.bool neg1, .slice A1 m1 c1] 63)) w1.heap.size (Lm : Nat) := ⟨_, _, _, _, (Bx.new w1 neg1 A1 m1 c1).1, (Bx.new w1 neg1 A1 m1 c1).2.1, hn1.below (below_al (Below.refl _ _) _)⟩)
        | (go_at_call 63; go_must (refine (HC.out _ _ (below_al hb1 _) hcap).mono ?_); rintro e w2 ⟨rfl, hb2⟩))
      go_ret2
      exact ⟨_, by rw [HE.out]; rfl, fun h => absurd (HE.out.symm.trans h) (by decide), fun _ => rfl, btr (below_al hb1 _) hb2⟩
end Go.Proofs.YtdmdagilopckgaaGreat
