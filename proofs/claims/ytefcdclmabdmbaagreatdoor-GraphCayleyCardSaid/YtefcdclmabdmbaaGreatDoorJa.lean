/- The law GraphCayley: its walk. -/
import Derived.Test.YtefcdclmabdmbaaGreatDoorKr
import Derived.Test.YtefcdclmabdmbaaGreatDoorKq
import Derived.Test.YtefcdclmabdmbaaGreatDoorKs
import Derived.Test.YtefcdclmabdmbaaGreatDoorKf
namespace Go.Proofs.YtefcdclmabdmbaaGreatDoor
open Go.RowKit
attribute [local go_sem] Oper.semAt_some

/-- A colouring, or the error where none is proper. -/
theorem bip_two {w w' : World} {E : List (List Nat)} {e : Ending} (h : BipR w E e w') : ∃ (sl : Value) (er : Nat), e = .returned (.tuple #[sl, .int .i64 (er : Nat)]) ∧ Below w.heap.size w w' ∧ ((∀ l, ColI (bth E) (fun _ => True) l → Proper (bth E) l) → er = 0) := by
  rcases h with ⟨G, l, rfl, _, _, _, hb⟩ | ⟨rfl, ⟨l, h1, h2⟩, hb⟩
  · exact ⟨_, 0, rfl, hb, fun _ => rfl⟩
  · exact ⟨_, 12, rfl, hb, fun h => absurd (h l h1) h2⟩
set_option maxRecDepth 100000 in
set_option maxHeartbeats 8000000 in
theorem lawA_bad {w : World} {p q : Int} (h : chC p q ≠ 0) : Calls Tryz.prog 4 #[.int .i64 p, .int .i64 q] w fun e w' => e = .returned (.bool true) ∧ Below w.heap.size w w' := by
  have HCK := Lib.hid (rCheckCayley_any (w := w) p q)
  have HCB := Lib.hid (Cayley_bad (w := w) h)
  have HSN := Lib.hid (fun w => Same_nil (w := w))
  have HAW := Lib.hid (fun w => awake_any (w := w))
  unfold ChCR at HCK
  unfold CayB at HCB
  unfold YesR at HSN
  obtain ⟨c, hc⟩ : ∃ c, c = chC p q := ⟨_, rfl⟩
  rw [← hc] at HCK HCB h
  have hz1 : ¬ ((c : Nat) : Int) = 0 := by omega
  have hz2 : (((c : Nat) : Int) == 0) = false := beq_eq_false_iff_ne.2 hz1
  have hz3 : (((c : Nat) : Int) != 0) = true := bne_iff_ne.2 hz1
  have hz4 : (c == 0) = false := beq_eq_false_iff_ne.2 h
  have hz5 : (c != 0) = true := bne_iff_ne.2 h
  clear hc
  go_enter Tryz.func4, Tryz.ntmps4
  go_wp2_with (first
    | (go_at_call 18; go_must (refine HCK.out.mono ?_); rintro e w1 ⟨rfl, rfl⟩)
    | (go_at_call 19; go_must (refine HCB.out.mono ?_); rintro e w2 ⟨rfl, hb2⟩)
    | (go_at_call 20; go_must (refine (HSN.out _).mono ?_); rintro e w3 ⟨rfl, hb3⟩)
    | (go_at_call 6; go_must (refine (HAW.out _).mono ?_); rintro e w4 ⟨rfl, hb4⟩))
  go_ret
  have t1 := below_alP hb2 (.cells #[.slice none 0 0, .slice none 0 0] 25)
  exact ⟨rfl, btrP (btrP t1 hb3) hb4⟩
set_option maxRecDepth 100000 in
set_option maxHeartbeats 8000000 in
theorem lawA_far {w : World} {p q : Int} (h : chC p q = 0) (hf : q ≠ 5 ∨ 41 < p) : Calls Tryz.prog 4 #[.int .i64 p, .int .i64 q] w fun e w' => e = .returned (.bool true) ∧ Below w.heap.size w w' := by
  have HCK := Lib.hid (rCheckCayley_any (w := w) p q)
  have HAW := Lib.hid (fun w => awake_any (w := w))
  unfold ChCR at HCK
  rw [h] at HCK
  clear h
  by_cases hq : q = 5
  · subst hq
    have hp : 41 < p := by omega
    have hp2 : decide (41 < p) = true := decide_eq_true hp
    clear hf
    go_enter Tryz.func4, Tryz.ntmps4
    go_wp2_with (first
      | (go_at_call 18; go_must (refine HCK.out.mono ?_); rintro e w1 ⟨rfl, rfl⟩)
      | (go_at_call 6; go_must (refine (HAW.out _).mono ?_); rintro e w4 ⟨rfl, hb4⟩))
    go_ret
    exact ⟨rfl, hb4⟩
  · have hq2 : (q == 5) = false := beq_eq_false_iff_ne.2 hq
    have hq3 : (q != 5) = true := bne_iff_ne.2 hq
    clear hf
    go_enter Tryz.func4, Tryz.ntmps4
    go_wp2_with (first
      | (go_at_call 18; go_must (refine HCK.out.mono ?_); rintro e w1 ⟨rfl, rfl⟩)
      | (go_at_call 6; go_must (refine (HAW.out _).mono ?_); rintro e w4 ⟨rfl, hb4⟩))
    go_ret
    exact ⟨rfl, hb4⟩
set_option maxRecDepth 100000 in
set_option maxHeartbeats 8000000 in
theorem lawA_five {w : World} {P r : Nat} {A gs : List Nq} {R : List (List Nat)} (h : chC (P : Nat) 5 = 0) (hgp : gdI (P : Nat) = true) (hg5 : gdI 5 = true) (h5 : Five P A gs R r) : Calls Tryz.prog 4 #[.int .i64 (P : Nat), .int .i64 5] w fun e w' => e = .returned (.bool true) ∧ Below w.heap.size w w' := by
  obtain ⟨hp41, hp5, hall, hrl, hgs, hC, hgl, hr, hcase⟩ := h5
  have hok := hC.ok
  have hchk := chk_of_ok hok
  have HCK := Lib.hid (rCheckCayley_any (w := w) (P : Nat) 5)
  have HAW := Lib.hid (fun w => awake_any (w := w))
  have HCA := Lib.hid (Cayley_ok (w := w) hgp hg5 hp5 hp41 hall hgs hC (by omega))
  have HRC := Lib.hid (fun w => rCayley_any (w := w) hp41 hrl hgs hC (by omega))
  have HSY := Lib.hid (fun (w : World) (v v' : Value) (h : GrV w v (A.map nm5) (toI R)) (h' : GrV w v' (A.map nm5) (toI R)) => Same_yes h h')
  have HDG := Lib.hid (fun (w : World) (v : Value) (h : GrV w v (A.map nm5) (toI R)) => Degree_ok h hchk hok)
  have HUN := Lib.hid (fun (w : World) (v : Value) (h : GrV w v (A.map nm5) (toI R)) => Undirected_ok h hchk hok)
  have HBI := Lib.hid (fun (w : World) (v : Value) (h : GrV w v (A.map nm5) (toI R)) => Bipartite_ok h hchk hok)
  have HMD := mod5_any (x := ((P : Nat) : Int)) (r := r) (by rw [← hr]; rfl)
  unfold ChCR at HCK
  unfold CayR at HCA
  unfold YesR at HSY
  rw [hC.degp] at HDG
  rw [undB_true.2 hC.unds] at HUN
  unfold TwoR at HDG
  rw [h] at HCK
  have HPR := Lib.hid (show bipC gs A = true → ∀ l, ColI (bth R) (fun _ => True) l → Proper (bth R) l from fun hb l hc => hC.proper hb hc)
  have HLA := Lib.hid (show (A.map nm5).length = A.length by simp)
  have HGL := Lib.hid hgl
  have HCS := Lib.hid hcase
  have HC := Lib.hid hC
  have hp1 : ¬ (41 : Int) < (P : Nat) := by omega
  have hp2 : decide ((41 : Int) < (P : Nat)) = false := decide_eq_false hp1
  clear h hgp hg5 hall hrl hgs hC hgl hr hcase hok hchk
  go_enter Tryz.func4, Tryz.ntmps4
  go_upto_region 7 with (first
    | (go_at_call 18; go_must (refine HCK.out.mono ?_); rintro e w1 ⟨rfl, rfl⟩)
    | (go_at_call 19; go_must (refine HCA.out.mono ?_); rintro e w2 ⟨v, rfl, hgr, hb2⟩; obtain ⟨Ag, cg, Ae, ce, hv, _, _⟩ := id hgr; obtain ⟨nN, hnN⟩ : ∃ n, n = (A.map nm5).length := ⟨_, rfl⟩; obtain ⟨nE, hnE⟩ : ∃ n, n = (toI R).length := ⟨_, rfl⟩; rw [← hnN, ← hnE] at hv; subst hv; have HNN := Lib.hid hnN; have HGR := Lib.hid hgr; clear hnN hnE hgr))
  obtain ⟨Gb, hGb⟩ : ∃ Gb, Gb = w2.heap.size := ⟨_, rfl⟩
  obtain ⟨wg, hwg⟩ : ∃ wg, wg = w2.alloc (.cells #[.slice Ag nN cg, .slice Ae nE ce] 25) := ⟨_, rfl⟩
  have hbg : Below w2.heap.size w2 wg := by rw [hwg]; exact below_alP (Below.refl _ _) _
  have hg0 : wg.heap[Gb]? = some (.cells #[.slice Ag nN cg, .slice Ae nE ce] 25 (0, 0)) := by rw [hwg, hGb]; exact heap_alloc_new w2 _
  rw [← hwg, ← hGb]
  have HB := Lib.hid (btrP hb2 hbg)
  have HGG := Lib.hid (HGR.out.below hbg)
  have G0 := Lib.hid (show wg.cell? ⟨Gb, 0, none⟩ = some (.slice Ag nN cg) by rw [Lib.cell_of_heap hg0]; rfl)
  have G1 := Lib.hid (show wg.cell? ⟨Gb, 1, none⟩ = some (.slice Ae nE ce) by rw [Lib.cell_of_heap hg0]; rfl)
  have hs0 : Below wg.heap.size wg wg.drew := (Below.refl _ _).drew
  clear hwg hGb hbg hg0 hb2 HGR HCK HCA
  refine wp_region_trq (.read 0 (.read 1 (.read 2 (.read 3 (.read 4 (.read 5 (.step 6 (.step 7 (.read 8 (.read 9 .nil)))))))))) [] (by kernel_rfl) (by rfl) (by kernel_rfl) (by kernel_rfl) (fun V => Below wg.heap.size wg V) ?_
  change goG _ _ _ _ _ _ _ wg.drew
  refine goG_read 48 hs0 (by rfl) (by rfl) ?_ (by rfl) (fun wz hSw => ?_) ?_
  rotate_left
  · go_simp
    try with_reducible rfl
  simp only [List.setIfInBounds_toArray, List.set]
  refine goG_read 49 hs0 (by rfl) (by rfl) ?_ (by rfl) (fun wz hSw => ?_) ?_
  rotate_left
  · go_simp
    try with_reducible rfl
  simp only [List.setIfInBounds_toArray, List.set]
  refine goG_read 50 hs0 (by rfl) (by rfl) ?_ (by rfl) (fun wz hSw => ?_) ?_
  rotate_left
  · go_simp
    try with_reducible rfl
  simp only [List.setIfInBounds_toArray, List.set]
  refine goG_read 51 hs0 (by rfl) (by rfl) ?_ (by rfl) (fun wz hSw => ?_) ?_
  rotate_left
  · have x0 := keepP hSw G0.out; have x1 := keepP hSw G1.out; go_simp
    try with_reducible rfl
  simp only [List.setIfInBounds_toArray, List.set]
  refine goG_read 52 hs0 (by rfl) (by rfl) ?_ (by rfl) (fun wz hSw => ?_) ?_
  rotate_left
  · go_simp
    try with_reducible rfl
  simp only [List.setIfInBounds_toArray, List.set]
  refine goG_read 53 hs0 (by rfl) (by rfl) ?_ (by rfl) (fun wz hSw => ?_) ?_
  rotate_left
  · go_simp
    try with_reducible rfl
  simp only [List.setIfInBounds_toArray, List.set]
  refine goG_call 54 (by rfl) (by rfl) (by rfl) (by go_simp) (HRC.out _) ?_
  rintro e w4 ⟨v4, rfl, hgr4, hb4⟩
  have hs4 := btrP hs0 hb4
  refine ⟨_, rfl, fun _ => hs4, ?_⟩
  simp only [List.setIfInBounds_toArray, List.set]
  refine goG_call 55 (by rfl) (by rfl) (by rfl) (by go_simp) (HSY.out _ _ _ (HGG.out.below hs4) hgr4) ?_
  rintro e w5 ⟨rfl, hb5⟩
  have hs5 := btrP hs4 hb5
  refine ⟨_, rfl, fun _ => hs5, ?_⟩
  simp only [List.setIfInBounds_toArray, List.set]
  refine goG_read 56 hs5 (by rfl) (by rfl) ?_ (by rfl) (fun wz hSw => ?_) ?_
  rotate_left
  · go_simp
    try with_reducible rfl
  simp only [List.setIfInBounds_toArray, List.set]
  refine goG_read 57 hs5 (by rfl) (by rfl) ?_ (by rfl) (fun wz hSw => ?_) ?_
  rotate_left
  · go_simp
    try with_reducible rfl
  simp only [List.setIfInBounds_toArray, List.set]
  rename_i KX hKX
  refine hKX _ _ ?_
  have g0 := keepP hs5 G0.out
  have g1 := keepP hs5 G1.out
  have HG5 := Lib.hid (HGG.out.below hs5)
  have HB5 := Lib.hid (btrP HB.out hs5)
  clear hs0 hs4 hs5 hb4 hb5 hgr4 HGG HB G0 G1 HSY HRC
  go_upto_region 13 with (first
    | (go_at_call 22; go_must (refine (HDG.out _ _ HG5.out).mono ?_); rintro e w6 ⟨rfl, hb6⟩; have g0 := keepP hb6 g0; have g1 := keepP hb6 g1; have HG6 := Lib.hid (HG5.out.below hb6); have HB6 := Lib.hid (btrP HB5.out hb6))
    | (go_at_call 23; go_must (refine (HUN.out _ _ HG6.out).mono ?_); rintro e w7 ⟨rfl, hb7⟩; have g0 := keepP hb7 g0; have g1 := keepP hb7 g1; have HG7 := Lib.hid (HG6.out.below hb7); have HB7 := Lib.hid (btrP HB6.out hb7))
    | (go_at_call 24; go_must (refine (HBI.out _ _ HG7.out).mono ?_); rintro e w8 hbip; obtain ⟨sl, er, he, hb8, her⟩ := bip_two hbip; subst he; have g0 := keepP hb8 g0; have g1 := keepP hb8 g1; have HB8 := Lib.hid (btrP HB7.out hb8); have HER := Lib.hid her; clear hbip her))
  have hgl2 : (gs.length : Int) = (P : Int) + 1 := by have := HGL.out; omega
  have wp1 : IntKind.i64.wrap ((P : Int) + 1) = (P : Int) + 1 := IntWalk.i64_in _ (by omega)
  rcases HCS.out with ⟨h1 | h1, hn⟩ | ⟨h1, hn, hbp⟩
  · subst h1
    obtain rfl : nN = 60 := by rw [HNN.out, HLA.out, hn]
    go_wp2_with (first
      | (go_at_call 25; go_must (refine (HMD.out _).mono ?_); rintro e w9 ⟨rfl, rfl⟩)
      | (go_at_call 6; go_must (refine (HAW.out _).mono ?_); rintro e wA ⟨rfl, hbA⟩))
    go_ret
    exact ⟨rfl, btrP HB8.out hbA⟩
  · subst h1
    obtain rfl : nN = 60 := by rw [HNN.out, HLA.out, hn]
    go_wp2_with (first
      | (go_at_call 25; go_must (refine (HMD.out _).mono ?_); rintro e w9 ⟨rfl, rfl⟩)
      | (go_at_call 6; go_must (refine (HAW.out _).mono ?_); rintro e wA ⟨rfl, hbA⟩))
    go_ret
    exact ⟨rfl, btrP HB8.out hbA⟩
  · obtain rfl : nN = 120 := by rw [HNN.out, HLA.out, hn]
    obtain rfl : er = 0 := HER.out (HPR.out hbp)
    rcases h1 with h1 | h1
    · subst h1
      go_wp2_with (first
        | (go_at_call 25; go_must (refine (HMD.out _).mono ?_); rintro e w9 ⟨rfl, rfl⟩)
        | (go_at_call 6; go_must (refine (HAW.out _).mono ?_); rintro e wA ⟨rfl, hbA⟩))
      go_ret
      exact ⟨rfl, btrP HB8.out hbA⟩
    · subst h1
      go_wp2_with (first
        | (go_at_call 25; go_must (refine (HMD.out _).mono ?_); rintro e w9 ⟨rfl, rfl⟩)
        | (go_at_call 6; go_must (refine (HAW.out _).mono ?_); rintro e wA ⟨rfl, hbA⟩))
      go_ret
      exact ⟨rfl, btrP HB8.out hbA⟩
/-- Cayley graphs are as the statement says. -/
theorem GraphCayley_true {w : World} (p q : Int) : Calls Tryz.prog 4 #[.int .i64 p, .int .i64 q] w fun e w' => e = .returned (.bool true) ∧ Below w.heap.size w w' := by
  by_cases h : chC p q = 0
  · by_cases hf : q ≠ 5 ∨ 41 < p
    · exact lawA_far h hf
    · obtain rfl : q = 5 := by omega
      have hgd : gdI p = true ∧ gdI 5 = true ∧ p ≠ 5 := by
        refine Classical.byContradiction fun hn => ?_
        unfold chC at h
        rw [if_neg hn] at h
        cases h
      obtain ⟨P, A, gs, R, r, rfl, h5⟩ := five_any hgd.1 hgd.2.2 (by omega)
      exact lawA_five h hgd.1 hgd.2.1 h5
  · exact lawA_bad h
end Go.Proofs.YtefcdclmabdmbaaGreatDoor
