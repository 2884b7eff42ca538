/- Package graph: planeOf, normal at q = 5. References for Cayley graphs: class at q = 5. Maps from classes to numbers: their keys; the place of each class. Package graph: the classes of the plane of 5, one after the other: the iterator's law, and the law of the statement that ranges over it. -/
import Derived.Test.YtefcdclmabdmbaaGreatDoorKm
import Derived.Test.YtefcdclmabdmbaaGreatDoorKi
import Derived.Deep.CutBlock
import Derived.Deep.DeepCutAuto
import Derived.Lib.SmallJoins
import Derived.Maps.RangeWalk
import Derived.Maps.OwnSet
import Derived.WideKeyEntry
import Derived.DeepKeys4
import Derived.RangeFuncNested
import Derived.RangeFuncBound
import Derived.RangeFuncCalls
import Derived.RangeFuncLeaves
import Derived.Shelf.Abstract
import Derived.Shelf.RegionOpen
import Derived.WalkKit
import Derived.OwnWalkIn
import Derived.TacticsInMore
import Derived.LoopNIn
import Derived.LoopIn
namespace Go.Proofs.YtefcdclmabdmbaaGreatDoor
open Go.RowKit

/-- The plane of 5: q, and the inverses. -/
def PlI (w : World) (P : Nat) : Prop := Pla w P 5 ∧ ∃ B, w.cell? ⟨P, 1, none⟩ = some (.slice (some ⟨B, 0, none⟩) 5 5) ∧ NArr w B [0, 1, 3, 2, 4]
theorem PlI.below {w w' : World} {P : Nat} (h : PlI w P) (hb : Below w.heap.size w w') : PlI w' P := by
  obtain ⟨h1, B, h2, h3⟩ := h
  exact ⟨h1.below hb, B, (hb.cell (p := ⟨P, 1, none⟩) (cell_some_lt h2)).trans h2, h3.below hb⟩
theorem Pla.lt {w : World} {P q : Nat} (h : Pla w P q) : P < w.heap.size := by
  have h' : w.cell? ⟨P, 0, none⟩ = some (.int .i64 (q : Nat)) := h
  exact cell_some_lt h'
theorem PlI.lt {w : World} {P : Nat} (h : PlI w P) : P < w.heap.size := h.1.lt
/-- The inverses below n. -/
def ivs5 : Nat → List Int
  | 0 => [0, 0, 0, 0, 0]
  | 1 => [0, 0, 0, 0, 0]
  | 2 => [0, 1, 0, 0, 0]
  | 3 => [0, 1, 3, 0, 0]
  | 4 => [0, 1, 3, 2, 0]
  | _ => [0, 1, 3, 2, 4]
theorem info_intP : (Tryz.prog.info? 3).map (fun i => (i.zero, i.size, i.bytes)) = some (some (.int .i64 0), 1, 8) := by kernel_rfl

def POR (w : World) (e : Ending) (w' : World) : Prop := ∃ P, e = .returned (.pointer (some ⟨P, 0, none⟩)) ∧ PlI w' P ∧ w.heap.size ≤ P ∧ Below w.heap.size w w'
set_option maxRecDepth 100000 in
set_option maxHeartbeats 4000000 in
theorem planeOf_any {w : World} : Calls Tryz.prog 66 #[.int .i64 5] w (POR w) := by
  have HI := Lib.hid (fun (w : World) (n : Nat) (h1 : 1 ≤ n) (h2 : n ≤ 4) => show Calls Tryz.prog 135 #[.int .i64 (n : Nat), .int .i64 (5 : Nat)] w fun e w' => e = .returned (.tuple #[.int .i64 ((ivs5 (n + 1)).getD n 0), .int .i64 0]) ∧ Below w.heap.size w w' by
    have hc : n = 1 ∨ n = 2 ∨ n = 3 ∨ n = 4 := by omega
    rcases hc with rfl | rfl | rfl | rfl
    · exact iInverse_any (w := w) (a := 1) (m := 5) (f := 9) (r := 1) (by omega) (by omega) (by decide) (by decide)
    · exact iInverse_any (w := w) (a := 2) (m := 5) (f := 9) (r := -2) (by omega) (by omega) (by decide) (by decide)
    · exact iInverse_any (w := w) (a := 3) (m := 5) (f := 9) (r := 2) (by omega) (by omega) (by decide) (by decide)
    · exact iInverse_any (w := w) (a := 4) (m := 5) (f := 9) (r := -1) (by omega) (by omega) (by decide) (by decide))
  go_enter Tryz.func66, Tryz.ntmps66
  go_wp2_with (at_make; go_must (refine wpList_make_arr _ rfl _ _ _ rfl 3 (.int .i64 0) 1 8 Tryz.underlying55 info_intP _ _ _ _ 5 rfl rfl (by omega) (by omega) (by omega) (by omega) ?_); intro w1 ha1 hb1 hz1)
  have hn1 : NArr w1 w.heap.size (ivs5 1) := NArr.made (n := 5) ha1
  obtain ⟨B, hB⟩ : ∃ B, B = w.heap.size := ⟨_, rfl⟩
  obtain ⟨P, hP⟩ : ∃ P, P = w1.heap.size := ⟨_, rfl⟩
  obtain ⟨W, hW⟩ : ∃ W, W = w1.alloc (.cells #[.int .i64 5, .slice (some ⟨B, 0, none⟩) 5 5] 169) := ⟨_, rfl⟩
  have hbW : Below w1.heap.size w1 W := by rw [hW]; exact (Below.refl _ _).alloc (Nat.le_refl _) _
  have c0 : W.cell? ⟨P, 0, none⟩ = some (.int .i64 5) := by rw [hW, hP]; simp
  have c1 : W.cell? ⟨P, 1, none⟩ = some (.slice (some ⟨B, 0, none⟩) 5 5) := by rw [hW, hP]; simp
  have hbw : Below w.heap.size w W := hb1.trans (hbW.mono hb1.size)
  rw [← hB] at hn1 ⊢
  rw [← hW]
  have hPB : P = B + 1 := by omega
  rw [← hPB]
  have HPB := Lib.hid hPB
  have hnW := hn1.below hbW
  have hBP : B ≠ P := by omega
  have HBw := Lib.hid hB
  have hwP : w.heap.size ≤ P := by omega
  clear hW hP hB hn1 ha1 hb1 hz1 hbW hPB
  go_loopw [4] (fun uv wr => ∃ n : Nat, uv = .int .i64 (n : Nat) ∧ 1 ≤ n ∧ n ≤ 5 ∧ wr.cell? ⟨P, 0, none⟩ = some (.int .i64 5) ∧ wr.cell? ⟨P, 1, none⟩ = some (.slice (some ⟨B, 0, none⟩) 5 5) ∧ NArr wr B (ivs5 n) ∧ Below w.heap.size w wr) (fun uv _ => 5 - (intOf uv).toNat)
  case atStart => exact ⟨1, rfl, by omega, by omega, c0, c1, hnW, hbw⟩
  case round =>
    obtain ⟨n, rfl, hn1, hn5, c0r, c1r, hnr, hbr⟩ := hrel
    clear c0 c1 hnW hbw
    by_cases h5 : n < 5
    · have hk0 : (0 : Int) ≤ (n : Int) := by omega
      have hk1 : (n : Int) < 5 := by omega
      go_wp2_with fail
      have hs0 : Below wr.heap.size wr wr.drew := (Below.refl _ _).drew
      have Q0 := Lib.hid c0r
      have Q1 := Lib.hid c1r
      have HNR := Lib.hid hnr
      have HBR := Lib.hid hbr
      have hd0 : wr.drew.cell? ⟨P, 1, none⟩ = some (.slice (some ⟨B, 0, none⟩) 5 5) := keepP hs0 c1r
      clear c0r c1r hnr hbr
      refine wp_region_trg (.read 0 (.read 1 (.read 2 (.read 3 (.read 4 (.read 5 (.read 6 (.step 7 (.read 8 (.read 9 (.read 10 (.read 11 (.step 12 .nil))))))))))))) [] (by kernel_rfl) (by rfl) (by kernel_rfl) (by kernel_rfl) (fun _ _ _ _ _ h => h) (fun W' => W'.cell? ⟨P, 1, none⟩ = some (.slice (some ⟨B, 0, none⟩) 5 5)) ?_
      change goG _ _ _ _ _ _ _ wr.drew
      refine goG_read 16 hd0 (by rfl) (by rfl) ?_ (by rfl) (fun wz hSw => ?_) ?_
      rotate_left
      · go_simp
        try with_reducible rfl
      simp only [List.setIfInBounds_toArray, List.set]
      refine goG_read 17 hd0 (by rfl) (by rfl) ?_ (by rfl) (fun wz hSw => ?_) ?_
      rotate_left
      · go_simp
        try with_reducible rfl
      simp only [List.setIfInBounds_toArray, List.set]
      refine goG_read 18 hd0 (by rfl) (by rfl) ?_ (by rfl) (fun wz hSw => ?_) ?_
      rotate_left
      · go_simp
        try with_reducible rfl
      simp only [List.setIfInBounds_toArray, List.set]
      refine goG_read 19 hd0 (by rfl) (by rfl) ?_ (by rfl) (fun wz hSw => ?_) ?_
      rotate_left
      · go_simp
        try with_reducible rfl
      simp only [List.setIfInBounds_toArray, List.set]
      refine goG_read 20 hd0 (by rfl) (by rfl) ?_ (by rfl) (fun wz hSw => ?_) ?_
      rotate_left
      · go_simp
        try with_reducible rfl
      simp only [List.setIfInBounds_toArray, List.set]
      refine goG_read 21 hd0 (by rfl) (by rfl) ?_ (by rfl) (fun wz hSw => ?_) ?_
      rotate_left
      · go_simp
        try with_reducible rfl
      simp only [List.setIfInBounds_toArray, List.set]
      refine goG_read 22 hd0 (by rfl) (by rfl) ?_ (by rfl) (fun wz hSw => ?_) ?_
      rotate_left
      · go_simp
        try with_reducible rfl
      simp only [List.setIfInBounds_toArray, List.set]
      refine goG_step (by rfl) ?_
      go_wp2_with (go_at_call 135; go_must (refine (HI.out _ n hn1 (by omega)).mono ?_); rintro e w3 ⟨rfl, hb3⟩)
      have hs3 := btrP hs0 hb3
      have hd3 := keepP hs3 Q1.out
      refine ⟨fun _ => hd3, ?_⟩
      refine goG_read 15 hd3 (by rfl) (by rfl) ?_ (by rfl) (fun wz hSw => ?_) ?_
      rotate_left
      · go_simp
        try with_reducible rfl
      simp only [List.setIfInBounds_toArray, List.set]
      refine goG_read 24 hd3 (by rfl) (by rfl) ?_ (by rfl) (fun wz hSw => ?_) ?_
      rotate_left
      · go_simp
        try with_reducible rfl
      simp only [List.setIfInBounds_toArray, List.set]
      refine goG_read 25 hd3 (by rfl) (by rfl) ?_ (by rfl) (fun wz hSw => ?_) ?_
      rotate_left
      · go_simp
        try with_reducible rfl
      simp only [List.setIfInBounds_toArray, List.set]
      refine goG_read 26 hd3 (by rfl) (by rfl) ?_ (by rfl) (fun wz hSw => ?_) ?_
      rotate_left
      · go_simp
        try with_reducible rfl
      simp only [List.setIfInBounds_toArray, List.set]
      refine goG_step (by rfl) ?_
      have hn3 := HNR.out.below hs3
      have hc3 : w3.cell? ⟨B, n, none⟩ = some (.int .i64 ((ivs5 n).getD n 0)) := hn3.cell (i := n) (by
        have hc : n = 1 ∨ n = 2 ∨ n = 3 ∨ n = 4 := by omega
        rcases hc with rfl | rfl | rfl | rfl <;> decide)
      have hf3 := hn3.frozen n
      go_wp2_with fail
      have hBP' : P ≠ B := hBP.symm
      refine ⟨fun _ => by go_simp, ?_⟩
      have hev : (ivs5 n).set n ((ivs5 (n + 1))[n]?.getD 0) = ivs5 (n + 1) := by
        have hc : n = 1 ∨ n = 2 ∨ n = 3 ∨ n = 4 := by omega
        rcases hc with rfl | rfl | rfl | rfl <;> decide
      have hn5' := hn3.set_ n ((ivs5 (n + 1))[n]?.getD 0)
      rw [hev] at hn5'
      have hp0 := keepP hs3 Q0.out
      have hp1 := keepP hs3 Q1.out
      have hp0' : (w3.setCell ⟨B, n, none⟩ (.int .i64 ((ivs5 (n + 1))[n]?.getD 0))).cell? ⟨P, 0, none⟩ = some (.int .i64 5) := by go_simp
      have hp1' : (w3.setCell ⟨B, n, none⟩ (.int .i64 ((ivs5 (n + 1))[n]?.getD 0))).cell? ⟨P, 1, none⟩ = some (.slice (some ⟨B, 0, none⟩) 5 5) := by go_simp
      have hb6 : Below w.heap.size w (w3.setCell ⟨B, n, none⟩ (.int .i64 ((ivs5 (n + 1))[n]?.getD 0))) := (HBR.out.trans (hs3.mono HBR.out.size)).setCell (p := ⟨B, n, none⟩) (by rw [HBw.out]; exact Nat.le_refl _) _
      generalize w3.setCell ⟨B, n, none⟩ (.int .i64 ((ivs5 (n + 1))[n]?.getD 0)) = W5 at *
      rename_i K0 hK0 QQ K1 hK1
      refine hK1 _ _ ?_
      go_wp2_with fail
      go_roundw
      case rel => exact ⟨n + 1, by go_num, by omega, by omega, hp0', hp1', hn5', hb6⟩
      case measure => simp [intOf]; omega
    · obtain rfl : n = 5 := by omega
      go_wp2_with fail
      go_ret
      exact ⟨P, rfl, ⟨c0r, B, c1r, hnr⟩, hwP, hbr⟩

theorem ld5_0 {m : Nq} (h : m.1 ≠ 0) : ld5 m = m.1 := by
  unfold ld5
  have e : Nat.beq m.1 0 = false := by rw [Bool.eq_false_iff]; intro h2; exact h (Nat.eq_of_beq_eq_true h2)
  rw [e]; rfl
theorem ld5_1 {b c d : Nat} (h : b ≠ 0) : ld5 (0, b, c, d) = b := by
  unfold ld5
  have e : Nat.beq b 0 = false := by rw [Bool.eq_false_iff]; intro h2; exact h (Nat.eq_of_beq_eq_true h2)
  simp only [e]; rfl
theorem ld5_2 {c d : Nat} (h : c ≠ 0) : ld5 (0, 0, c, d) = c := by
  unfold ld5
  have e : Nat.beq c 0 = false := by rw [Bool.eq_false_iff]; intro h2; exact h (Nat.eq_of_beq_eq_true h2)
  simp only [e]; rfl
theorem ld5_3 {d : Nat} : ld5 (0, 0, 0, d) = d := rfl

/-- A class as a value. -/
def clV (m : Nq) : Value := .agg #[.int .i64 (m.1 : Nat), .int .i64 (m.2.1 : Nat), .int .i64 (m.2.2.1 : Nat), .int .i64 (m.2.2.2 : Nat)]
theorem inv_getD {n : Nat} (h : n < 5) : ([0, 1, 3, 2, 4] : List Int).getD n 0 = (inv5 n : Nat) := by
  have hc : n = 0 ∨ n = 1 ∨ n = 2 ∨ n = 3 ∨ n = 4 := by omega
  rcases hc with rfl | rfl | rfl | rfl | rfl <;> rfl
theorem cix0 (a b c d : Value) (w : World) : (Instr.index 105 (.agg #[a, b, c, d]) (.int .i64 0)).run Tryz.prog w = .ok a w := by kernel_rfl
theorem cix1 (a b c d : Value) (w : World) : (Instr.index 105 (.agg #[a, b, c, d]) (.int .i64 1)).run Tryz.prog w = .ok b w := by kernel_rfl
theorem cix2 (a b c d : Value) (w : World) : (Instr.index 105 (.agg #[a, b, c, d]) (.int .i64 2)).run Tryz.prog w = .ok c w := by kernel_rfl
theorem cix3 (a b c d : Value) (w : World) : (Instr.index 105 (.agg #[a, b, c, d]) (.int .i64 3)).run Tryz.prog w = .ok d w := by kernel_rfl
theorem mod5_nat (x y : Nat) : ((x : Int) * (y : Int)).tmod 5 = ((x * y % 5 : Nat) : Int) := by
  rw [← Int.natCast_mul, Int.tmod_eq_emod_of_nonneg (by omega)]
  rfl
set_option maxRecDepth 100000 in
set_option maxHeartbeats 4000000 in
theorem pnormal_any {w : World} {P a b c d : Nat} (hP : PlI w P) (hm : In5 (a, b, c, d)) :
    Calls Tryz.prog 73 #[.pointer (some ⟨P, 0, none⟩), .agg #[.int .i64 (a : Nat), .int .i64 (b : Nat), .int .i64 (c : Nat), .int .i64 (d : Nat)]] w fun e w' => e = .returned (clV (nrm5 (a, b, c, d))) ∧ Below w.heap.size w w' := by
  obtain ⟨ha, hb, hc, hd⟩ := hm
  simp only at ha hb hc hd
  have hPl := hP.lt
  obtain ⟨p0, B, p1, hB⟩ := hP
  have p0' : w.cell? ⟨P, 0, none⟩ = some (.int .i64 5) := p0
  have hBl := hB.lt
  obtain ⟨N, hN⟩ : ∃ N, N = w.heap.size := ⟨_, rfl⟩
  obtain ⟨W, hW⟩ : ∃ W, W = (w.alloc (.cells #[.int .i64 (a : Nat), .int .i64 (b : Nat), .int .i64 (c : Nat), .int .i64 (d : Nat)] 105)).alloc (.cells #[.int .i64 0, .int .i64 0, .int .i64 0, .int .i64 0] 105) := ⟨_, rfl⟩
  have hbW : Below w.heap.size w W := by rw [hW]; exact below_alP (below_alP (Below.refl _ _) _) _
  have c0 : W.heap[N]? = some (.cells #[.int .i64 (a : Nat), .int .i64 (b : Nat), .int .i64 (c : Nat), .int .i64 (d : Nat)] 105 (0, 0)) := by
    rw [hW, hN]
    exact (Below.heap_alloc _ _ _ (by simp)).trans (heap_alloc_new w _)
  have c1 : W.heap[N + 1]? = some (.cells #[.int .i64 0, .int .i64 0, .int .i64 0, .int .i64 0] 105 (0, 0)) := by
    rw [hW, hN]
    have := heap_alloc_new (w.alloc (.cells #[.int .i64 (a : Nat), .int .i64 (b : Nat), .int .i64 (c : Nat), .int .i64 (d : Nat)] 105)) (.cells #[.int .i64 0, .int .i64 0, .int .i64 0, .int .i64 0] 105)
    rwa [World.size_alloc] at this
  have q0 : W.cell? ⟨P, 0, none⟩ = some (.int .i64 5) := (hbW.cell (p := ⟨P, 0, none⟩) hPl).trans p0'
  have q1 : W.cell? ⟨P, 1, none⟩ = some (.slice (some ⟨B, 0, none⟩) 5 5) := (hbW.cell (p := ⟨P, 1, none⟩) hPl).trans p1
  have qB : NArr W B [0, 1, 3, 2, 4] := hB.below hbW
  have x0 : W.cell? ⟨N, 0, none⟩ = some (.int .i64 (a : Nat)) := by rw [Lib.cell_of_heap c0]; rfl
  have x1 : W.cell? ⟨N, 1, none⟩ = some (.int .i64 (b : Nat)) := by rw [Lib.cell_of_heap c0]; rfl
  have x2 : W.cell? ⟨N, 2, none⟩ = some (.int .i64 (c : Nat)) := by rw [Lib.cell_of_heap c0]; rfl
  have x3 : W.cell? ⟨N, 3, none⟩ = some (.int .i64 (d : Nat)) := by rw [Lib.cell_of_heap c0]; rfl
  have HI := Lib.hid (fun (n : Nat) (hn : n < 5) => (qB.cell (i := n) (by simpa using hn)).trans (by rw [inv_getD hn]))
  have HW := Lib.hid hW
  have HN := Lib.hid hN
  have hPN : P < N := by omega
  clear p0 p0' p1 hB hW hPl hBl qB hN
  go_enter Tryz.func73, Tryz.ntmps73
  go_upto_block 0 with (fail)
  rw [← HW.out]
  rw [← HN.out]
  go_cut [5] (fun v wx => v = .int .i64 (by5 (a, b, c, d) : Nat) ∧ wx = W)
  case first =>
    go_wp2_with fail
    go_loopw [5, 11] (fun bv kv wr => bv = .int .i64 0 ∧ wr = W ∧ ∃ k : Nat, kv = .int .i64 (k : Nat) ∧ k ≤ 4 ∧ Hid ((0 < k → a = 0) ∧ (1 < k → b = 0) ∧ (2 < k → c = 0) ∧ (3 < k → d = 0))) (fun _ kv _ => 4 - (intOf kv).toNat)
    case atStart => exact ⟨rfl, rfl, 0, rfl, by omega, Lib.hid ⟨by omega, by omega, by omega, by omega⟩⟩
    case round =>
      obtain ⟨rfl, rfl, k, rfl, hk, HZ⟩ := hrel
      have hc : k = 0 ∨ k = 1 ∨ k = 2 ∨ k = 3 ∨ k = 4 := by omega
      rcases hc with rfl | rfl | rfl | rfl | rfl
      · have e0 := cix0 (.int .i64 (a : Nat)) (.int .i64 (b : Nat)) (.int .i64 (c : Nat)) (.int .i64 (d : Nat)) wr
        by_cases h : a = 0
        · have hne : (((a : Nat) : Int) != 0) = false := by rw [h]; rfl
          have HA := Lib.hid h
          clear h
          go_wp2_with fail
          go_roundw
          case rel => exact ⟨rfl, trivial, 1, rfl, by omega, Lib.hid ⟨fun _ => HA.out, by omega, by omega, by omega⟩⟩
          case measure => simp [intOf]
        · have hne : (((a : Nat) : Int) != 0) = true := by rw [bne_iff_ne]; omega
          have hix := HI.out a ha
          have b0 : (0 : Int) ≤ (a : Nat) := by omega
          have b1 : ((a : Nat) : Int) < 5 := by omega
          have HBY := Lib.hid (show by5 (a, b, c, d) = inv5 a from by unfold by5; rw [ld5_0 h])
          clear h
          go_wp2_with fail
          go_meet
          exact ⟨by rw [HBY.out], rfl⟩
      · have e1 := cix1 (.int .i64 (a : Nat)) (.int .i64 (b : Nat)) (.int .i64 (c : Nat)) (.int .i64 (d : Nat)) wr
        by_cases h : b = 0
        · have hne : (((b : Nat) : Int) != 0) = false := by rw [h]; rfl
          have HA := Lib.hid h
          clear h
          go_wp2_with fail
          go_roundw
          case rel => exact ⟨rfl, trivial, 2, rfl, by omega, Lib.hid ⟨fun _ => HZ.out.1 (by omega), fun _ => HA.out, by omega, by omega⟩⟩
          case measure => simp [intOf]
        · have hne : (((b : Nat) : Int) != 0) = true := by rw [bne_iff_ne]; omega
          have hix := HI.out b hb
          have b0 : (0 : Int) ≤ (b : Nat) := by omega
          have b1 : ((b : Nat) : Int) < 5 := by omega
          have HBY := Lib.hid (show by5 (a, b, c, d) = inv5 b from by have ⟨hz0, hz1, hz2, hz3⟩ := HZ.out; have y0 : a = 0 := hz0 (by omega); subst y0; unfold by5; rw [ld5_1 h])
          clear h
          go_wp2_with fail
          go_meet
          exact ⟨by rw [HBY.out], rfl⟩
      · have e2 := cix2 (.int .i64 (a : Nat)) (.int .i64 (b : Nat)) (.int .i64 (c : Nat)) (.int .i64 (d : Nat)) wr
        by_cases h : c = 0
        · have hne : (((c : Nat) : Int) != 0) = false := by rw [h]; rfl
          have HA := Lib.hid h
          clear h
          go_wp2_with fail
          go_roundw
          case rel => exact ⟨rfl, trivial, 3, rfl, by omega, Lib.hid ⟨fun _ => HZ.out.1 (by omega), fun _ => HZ.out.2.1 (by omega), fun _ => HA.out, by omega⟩⟩
          case measure => simp [intOf]
        · have hne : (((c : Nat) : Int) != 0) = true := by rw [bne_iff_ne]; omega
          have hix := HI.out c hc
          have b0 : (0 : Int) ≤ (c : Nat) := by omega
          have b1 : ((c : Nat) : Int) < 5 := by omega
          have HBY := Lib.hid (show by5 (a, b, c, d) = inv5 c from by have ⟨hz0, hz1, hz2, hz3⟩ := HZ.out; have y0 : a = 0 := hz0 (by omega); subst y0; have y1 : b = 0 := hz1 (by omega); subst y1; unfold by5; rw [ld5_2 h])
          clear h
          go_wp2_with fail
          go_meet
          exact ⟨by rw [HBY.out], rfl⟩
      · have e3 := cix3 (.int .i64 (a : Nat)) (.int .i64 (b : Nat)) (.int .i64 (c : Nat)) (.int .i64 (d : Nat)) wr
        by_cases h : d = 0
        · have hne : (((d : Nat) : Int) != 0) = false := by rw [h]; rfl
          have HA := Lib.hid h
          clear h
          go_wp2_with fail
          go_roundw
          case rel => exact ⟨rfl, trivial, 4, rfl, by omega, Lib.hid ⟨fun _ => HZ.out.1 (by omega), fun _ => HZ.out.2.1 (by omega), fun _ => HZ.out.2.2.1 (by omega), fun _ => HA.out⟩⟩
          case measure => simp [intOf]
        · have hne : (((d : Nat) : Int) != 0) = true := by rw [bne_iff_ne]; omega
          have hix := HI.out d hd
          have b0 : (0 : Int) ≤ (d : Nat) := by omega
          have b1 : ((d : Nat) : Int) < 5 := by omega
          have HBY := Lib.hid (show by5 (a, b, c, d) = inv5 d from by have ⟨hz0, hz1, hz2, hz3⟩ := HZ.out; have y0 : a = 0 := hz0 (by omega); subst y0; have y1 : b = 0 := hz1 (by omega); subst y1; have y2 : c = 0 := hz2 (by omega); subst y2; unfold by5; rw [ld5_3])
          clear h
          go_wp2_with fail
          go_meet
          exact ⟨by rw [HBY.out], rfl⟩
      · have HBY := Lib.hid (show by5 (a, b, c, d) = 0 from by rw [HZ.out.1 (by omega), HZ.out.2.1 (by omega), HZ.out.2.2.1 (by omega), HZ.out.2.2.2 (by omega)]; rfl)
        go_wp2_with fail
        go_meet
        exact ⟨by rw [HBY.out]; rfl, rfl⟩
  case rest =>
    obtain ⟨rfl, rfl⟩ := hcut
    have hBY : by5 (a, b, c, d) < 5 := inv5_lt _
    obtain ⟨y, hy⟩ : ∃ y, y = by5 (a, b, c, d) := ⟨_, rfl⟩
    have HY := Lib.hid hy
    rw [← hy] at hBY ⊢
    clear hy
    have mm : ∀ x : Nat, x < 5 → IntKind.i64.wrap ((x : Int) * (y : Int)) = (x : Int) * (y : Int) ∧ ((x : Int) * (y : Int)).tmod 5 = ((x * y % 5 : Nat) : Int) := fun x hx => by
      have h1 : x * y ≤ 25 := Nat.mul_le_mul (show x ≤ 5 by omega) (show y ≤ 5 by omega)
      have h2 : ((x * y : Nat) : Int) = (x : Int) * (y : Int) := Int.natCast_mul x y
      exact ⟨IntWalk.i64_in _ (by omega), mod5_nat x y⟩
    obtain ⟨m0, n0⟩ := mm a ha
    obtain ⟨m1, n1⟩ := mm b hb
    obtain ⟨m2, n2⟩ := mm c hc
    obtain ⟨m3, n3⟩ := mm d hd
    have HR := Lib.hid (show nrm5 (a, b, c, d) = (a * y % 5, b * y % 5, c * y % 5, d * y % 5) by unfold nrm5; rw [← HY.out])
    obtain ⟨r0, hr0⟩ : ∃ r0, r0 = a * y % 5 := ⟨_, rfl⟩
    obtain ⟨r1, hr1⟩ : ∃ r1, r1 = b * y % 5 := ⟨_, rfl⟩
    obtain ⟨r2, hr2⟩ : ∃ r2, r2 = c * y % 5 := ⟨_, rfl⟩
    obtain ⟨r3, hr3⟩ : ∃ r3, r3 = d * y % 5 := ⟨_, rfl⟩
    rw [← hr0] at n0 HR
    rw [← hr1] at n1 HR
    rw [← hr2] at n2 HR
    rw [← hr3] at n3 HR
    have T0 := Lib.hid n0
    have T1 := Lib.hid n1
    have T2 := Lib.hid n2
    have T3 := Lib.hid n3
    clear n0 n1 n2 n3
    rename_i K hK
    refine hK _ _ ?_
    have HC0 := Lib.hid c0
    have HC1 := Lib.hid c1
    have HBW := Lib.hid hbW
    clear hr0 hr1 hr2 hr3 mm hBY c0 c1 hK hbW
    go_wp2_with fail
    clear x0 x1 x2 x3 HI q1
    go_loopw [25] (fun kv wr => ∃ (k e0 e1 e2 e3 : Nat), kv = .int .i64 (k : Nat) ∧ k ≤ 4 ∧ Hid (wr.heap[N]? = some (.cells #[.int .i64 (e0 : Nat), .int .i64 (e1 : Nat), .int .i64 (e2 : Nat), .int .i64 (e3 : Nat)] 105 (0, 0))) ∧ Hid (wr.heap[N + 1]? = some (.cells #[.int .i64 0, .int .i64 0, .int .i64 0, .int .i64 0] 105 (0, 0))) ∧ wr.cell? ⟨P, 0, none⟩ = some (.int .i64 5) ∧ Hid ((0 < k → e0 = r0) ∧ (1 < k → e1 = r1) ∧ (2 < k → e2 = r2) ∧ (3 < k → e3 = r3)) ∧ Hid (Below w.heap.size w wr)) (fun kv _ => 4 - (intOf kv).toNat)
    case atStart => exact ⟨0, a, b, c, d, rfl, by omega, HC0, HC1, q0, Lib.hid ⟨by omega, by omega, by omega, by omega⟩, HBW⟩
    case round =>
      clear HC0 HC1 HBW q0
      obtain ⟨k, e0, e1, e2, e3, rfl, hk, HC0, HC1, q0, HE, HB⟩ := hrel
      have hc : k = 0 ∨ k = 1 ∨ k = 2 ∨ k = 3 ∨ k = 4 := by omega
      have hPN1 : P ≠ N := by omega
      have hNP1 : N ≠ P := by omega
      rcases hc with rfl | rfl | rfl | rfl | rfl
      · have g := cix0 (.int .i64 (a : Nat)) (.int .i64 (b : Nat)) (.int .i64 (c : Nat)) (.int .i64 (d : Nat)) wr
        have hcl : wr.cell? ⟨N, 0, none⟩ = some (.int .i64 (e0 : Nat)) := by rw [Lib.cell_of_heap HC0.out]; rfl
        have hfz := Lib.frozen_of_heap HC0.out 0
        go_wp2_with fail
        rw [T0.out]
        have HJ := Lib.hid (show (wr.setCell ⟨N, 0, none⟩ (.int .i64 (r0 : Nat))).heap[N]? = some (.cells #[.int .i64 (r0 : Nat), .int .i64 (e1 : Nat), .int .i64 (e2 : Nat), .int .i64 (e3 : Nat)] 105 (0, 0)) from Go.Joins.block_setCell (i := 0) HC0.out (.int .i64 (r0 : Nat)))
        have HJ1 := Lib.hid ((Below.heap_setCell wr ⟨N, 0, none⟩ (.int .i64 (r0 : Nat)) (N + 1) (by show N + 1 ≠ N; omega)).trans HC1.out)
        have HJB := Lib.hid (HB.out.setCell (p := ⟨N, 0, none⟩) (by rw [HN.out]; exact Nat.le_refl _) (.int .i64 (r0 : Nat)))
        have hq : (wr.setCell ⟨N, 0, none⟩ (.int .i64 (r0 : Nat))).cell? ⟨P, 0, none⟩ = some (.int .i64 5) := by go_simp
        go_roundw
        case rel => exact ⟨1, r0, e1, e2, e3, rfl, by omega, HJ, HJ1, hq, Lib.hid ⟨fun _ => rfl, by omega, by omega, by omega⟩, HJB⟩
        case measure => simp [intOf]
      · have g := cix1 (.int .i64 (a : Nat)) (.int .i64 (b : Nat)) (.int .i64 (c : Nat)) (.int .i64 (d : Nat)) wr
        have hcl : wr.cell? ⟨N, 1, none⟩ = some (.int .i64 (e1 : Nat)) := by rw [Lib.cell_of_heap HC0.out]; rfl
        have hfz := Lib.frozen_of_heap HC0.out 1
        go_wp2_with fail
        rw [T1.out]
        have HJ := Lib.hid (show (wr.setCell ⟨N, 1, none⟩ (.int .i64 (r1 : Nat))).heap[N]? = some (.cells #[.int .i64 (e0 : Nat), .int .i64 (r1 : Nat), .int .i64 (e2 : Nat), .int .i64 (e3 : Nat)] 105 (0, 0)) from Go.Joins.block_setCell (i := 1) HC0.out (.int .i64 (r1 : Nat)))
        have HJ1 := Lib.hid ((Below.heap_setCell wr ⟨N, 1, none⟩ (.int .i64 (r1 : Nat)) (N + 1) (by show N + 1 ≠ N; omega)).trans HC1.out)
        have HJB := Lib.hid (HB.out.setCell (p := ⟨N, 1, none⟩) (by rw [HN.out]; exact Nat.le_refl _) (.int .i64 (r1 : Nat)))
        have hq : (wr.setCell ⟨N, 1, none⟩ (.int .i64 (r1 : Nat))).cell? ⟨P, 0, none⟩ = some (.int .i64 5) := by go_simp
        go_roundw
        case rel => exact ⟨2, e0, r1, e2, e3, rfl, by omega, HJ, HJ1, hq, Lib.hid ⟨fun _ => HE.out.1 (by omega), fun _ => rfl, by omega, by omega⟩, HJB⟩
        case measure => simp [intOf]
      · have g := cix2 (.int .i64 (a : Nat)) (.int .i64 (b : Nat)) (.int .i64 (c : Nat)) (.int .i64 (d : Nat)) wr
        have hcl : wr.cell? ⟨N, 2, none⟩ = some (.int .i64 (e2 : Nat)) := by rw [Lib.cell_of_heap HC0.out]; rfl
        have hfz := Lib.frozen_of_heap HC0.out 2
        go_wp2_with fail
        rw [T2.out]
        have HJ := Lib.hid (show (wr.setCell ⟨N, 2, none⟩ (.int .i64 (r2 : Nat))).heap[N]? = some (.cells #[.int .i64 (e0 : Nat), .int .i64 (e1 : Nat), .int .i64 (r2 : Nat), .int .i64 (e3 : Nat)] 105 (0, 0)) from Go.Joins.block_setCell (i := 2) HC0.out (.int .i64 (r2 : Nat)))
        have HJ1 := Lib.hid ((Below.heap_setCell wr ⟨N, 2, none⟩ (.int .i64 (r2 : Nat)) (N + 1) (by show N + 1 ≠ N; omega)).trans HC1.out)
        have HJB := Lib.hid (HB.out.setCell (p := ⟨N, 2, none⟩) (by rw [HN.out]; exact Nat.le_refl _) (.int .i64 (r2 : Nat)))
        have hq : (wr.setCell ⟨N, 2, none⟩ (.int .i64 (r2 : Nat))).cell? ⟨P, 0, none⟩ = some (.int .i64 5) := by go_simp
        go_roundw
        case rel => exact ⟨3, e0, e1, r2, e3, rfl, by omega, HJ, HJ1, hq, Lib.hid ⟨fun _ => HE.out.1 (by omega), fun _ => HE.out.2.1 (by omega), fun _ => rfl, by omega⟩, HJB⟩
        case measure => simp [intOf]
      · have g := cix3 (.int .i64 (a : Nat)) (.int .i64 (b : Nat)) (.int .i64 (c : Nat)) (.int .i64 (d : Nat)) wr
        have hcl : wr.cell? ⟨N, 3, none⟩ = some (.int .i64 (e3 : Nat)) := by rw [Lib.cell_of_heap HC0.out]; rfl
        have hfz := Lib.frozen_of_heap HC0.out 3
        go_wp2_with fail
        rw [T3.out]
        have HJ := Lib.hid (show (wr.setCell ⟨N, 3, none⟩ (.int .i64 (r3 : Nat))).heap[N]? = some (.cells #[.int .i64 (e0 : Nat), .int .i64 (e1 : Nat), .int .i64 (e2 : Nat), .int .i64 (r3 : Nat)] 105 (0, 0)) from Go.Joins.block_setCell (i := 3) HC0.out (.int .i64 (r3 : Nat)))
        have HJ1 := Lib.hid ((Below.heap_setCell wr ⟨N, 3, none⟩ (.int .i64 (r3 : Nat)) (N + 1) (by show N + 1 ≠ N; omega)).trans HC1.out)
        have HJB := Lib.hid (HB.out.setCell (p := ⟨N, 3, none⟩) (by rw [HN.out]; exact Nat.le_refl _) (.int .i64 (r3 : Nat)))
        have hq : (wr.setCell ⟨N, 3, none⟩ (.int .i64 (r3 : Nat))).cell? ⟨P, 0, none⟩ = some (.int .i64 5) := by go_simp
        go_roundw
        case rel => exact ⟨4, e0, e1, e2, r3, rfl, by omega, HJ, HJ1, hq, Lib.hid ⟨fun _ => HE.out.1 (by omega), fun _ => HE.out.2.1 (by omega), fun _ => HE.out.2.2.1 (by omega), fun _ => rfl⟩, HJB⟩
        case measure => simp [intOf]
      · have c0 : wr.cell? ⟨N, 0, none⟩ = some (.int .i64 (e0 : Nat)) := by rw [Lib.cell_of_heap HC0.out]; rfl
        have c1 : wr.cell? ⟨N, 1, none⟩ = some (.int .i64 (e1 : Nat)) := by rw [Lib.cell_of_heap HC0.out]; rfl
        have c2 : wr.cell? ⟨N, 2, none⟩ = some (.int .i64 (e2 : Nat)) := by rw [Lib.cell_of_heap HC0.out]; rfl
        have c3 : wr.cell? ⟨N, 3, none⟩ = some (.int .i64 (e3 : Nat)) := by rw [Lib.cell_of_heap HC0.out]; rfl
        have d0 : wr.cell? ⟨N + 1, 0, none⟩ = some (.int .i64 0) := by rw [Lib.cell_of_heap HC1.out]; rfl
        have d1 : wr.cell? ⟨N + 1, 1, none⟩ = some (.int .i64 0) := by rw [Lib.cell_of_heap HC1.out]; rfl
        have d2 : wr.cell? ⟨N + 1, 2, none⟩ = some (.int .i64 0) := by rw [Lib.cell_of_heap HC1.out]; rfl
        have d3 : wr.cell? ⟨N + 1, 3, none⟩ = some (.int .i64 0) := by rw [Lib.cell_of_heap HC1.out]; rfl
        have f0 := Lib.frozen_of_heap HC1.out 0
        have f1 := Lib.frozen_of_heap HC1.out 1
        have f2 := Lib.frozen_of_heap HC1.out 2
        have f3 := Lib.frozen_of_heap HC1.out 3
        go_wp2_with fail
        have g0 : ((((wr.setCell ⟨N + 1, 0, none⟩ (.int .i64 (e0 : Nat))).setCell ⟨N + 1, 1, none⟩ (.int .i64 (e1 : Nat))).setCell ⟨N + 1, 2, none⟩ (.int .i64 (e2 : Nat))).setCell ⟨N + 1, 3, none⟩ (.int .i64 (e3 : Nat))).cell? ⟨N + 1, 0, none⟩ = some (.int .i64 (e0 : Nat)) := by go_simp
        have g1 : ((((wr.setCell ⟨N + 1, 0, none⟩ (.int .i64 (e0 : Nat))).setCell ⟨N + 1, 1, none⟩ (.int .i64 (e1 : Nat))).setCell ⟨N + 1, 2, none⟩ (.int .i64 (e2 : Nat))).setCell ⟨N + 1, 3, none⟩ (.int .i64 (e3 : Nat))).cell? ⟨N + 1, 1, none⟩ = some (.int .i64 (e1 : Nat)) := by go_simp
        have g2 : ((((wr.setCell ⟨N + 1, 0, none⟩ (.int .i64 (e0 : Nat))).setCell ⟨N + 1, 1, none⟩ (.int .i64 (e1 : Nat))).setCell ⟨N + 1, 2, none⟩ (.int .i64 (e2 : Nat))).setCell ⟨N + 1, 3, none⟩ (.int .i64 (e3 : Nat))).cell? ⟨N + 1, 2, none⟩ = some (.int .i64 (e2 : Nat)) := by go_simp
        have g3 : ((((wr.setCell ⟨N + 1, 0, none⟩ (.int .i64 (e0 : Nat))).setCell ⟨N + 1, 1, none⟩ (.int .i64 (e1 : Nat))).setCell ⟨N + 1, 2, none⟩ (.int .i64 (e2 : Nat))).setCell ⟨N + 1, 3, none⟩ (.int .i64 (e3 : Nat))).cell? ⟨N + 1, 3, none⟩ = some (.int .i64 (e3 : Nat)) := by go_simp
        have hb6 : Below w.heap.size w ((((wr.setCell ⟨N + 1, 0, none⟩ (.int .i64 (e0 : Nat))).setCell ⟨N + 1, 1, none⟩ (.int .i64 (e1 : Nat))).setCell ⟨N + 1, 2, none⟩ (.int .i64 (e2 : Nat))).setCell ⟨N + 1, 3, none⟩ (.int .i64 (e3 : Nat))) := (((HB.out.setCell (p := ⟨N + 1, 0, none⟩) (by rw [HN.out]; exact Nat.le_succ _) _).setCell (p := ⟨N + 1, 1, none⟩) (by rw [HN.out]; exact Nat.le_succ _) _).setCell (p := ⟨N + 1, 2, none⟩) (by rw [HN.out]; exact Nat.le_succ _) _).setCell (p := ⟨N + 1, 3, none⟩) (by rw [HN.out]; exact Nat.le_succ _) _
        generalize ((((wr.setCell ⟨N + 1, 0, none⟩ (.int .i64 (e0 : Nat))).setCell ⟨N + 1, 1, none⟩ (.int .i64 (e1 : Nat))).setCell ⟨N + 1, 2, none⟩ (.int .i64 (e2 : Nat))).setCell ⟨N + 1, 3, none⟩ (.int .i64 (e3 : Nat))) = W5 at *
        refine bodyPost_ret (v := .agg #[.int .i64 (e0 : Nat), .int .i64 (e1 : Nat), .int .i64 (e2 : Nat), .int .i64 (e3 : Nat)]) (by simp [results, Tryz.results73, go_sem, g0, g1, g2, g3]) rfl ⟨?_, hb6⟩
        rw [HR.out, HE.out.1 (by omega), HE.out.2.1 (by omega), HE.out.2.2.1 (by omega), HE.out.2.2.2 (by omega)]
        rfl
end Go.Proofs.YtefcdclmabdmbaaGreatDoor

namespace Go.Proofs.YtefcdclmabdmbaaGreatDoor
open Go.RowKit

/-- The residues modulo 5. -/
def md5 (a b c d : Int) : Nq := ((a % 5).toNat, (b % 5).toNat, (c % 5).toNat, (d % 5).toNat)
theorem md5_nat {a b c d : Nat} (h : In5 (a, b, c, d)) : md5 a b c d = (a, b, c, d) := by
  obtain ⟨h1, h2, h3, h4⟩ := h
  simp only at h1 h2 h3 h4
  have key : ∀ x : Nat, x < 5 → (((x : Nat) : Int) % 5).toNat = x := fun x hx => by omega
  unfold md5
  rw [key a h1, key b h2, key c h3, key d h4]
/-- The inverse that the reference takes. -/
theorem rInv5_any {w : World} {a : Int} (h : a % 5 ≠ 0) : Calls Tryz.prog 141 #[.int .i64 a, .int .i64 5] w fun e w' => e = .returned (.tuple #[.int .i64 ((inv5 (a % 5).toNat : Nat) : Int), .int .i64 0]) ∧ w = w' := by
  have hc : a % 5 = 1 ∨ a % 5 = 2 ∨ a % 5 = 3 ∨ a % 5 = 4 := by omega
  rcases hc with e | e | e | e
  · have := rInverse_any (w := w) (a := a) (m := 5) (f := 9) (r := 1) (by omega) (by omega) (by rw [show ((5 : Nat) : Int) = 5 from rfl, e]; decide)
    rw [e]
    exact this
  · have := rInverse_any (w := w) (a := a) (m := 5) (f := 9) (r := -2) (by omega) (by omega) (by rw [show ((5 : Nat) : Int) = 5 from rfl, e]; decide)
    rw [e]
    exact this
  · have := rInverse_any (w := w) (a := a) (m := 5) (f := 9) (r := 2) (by omega) (by omega) (by rw [show ((5 : Nat) : Int) = 5 from rfl, e]; decide)
    rw [e]
    exact this
  · have := rInverse_any (w := w) (a := a) (m := 5) (f := 9) (r := -1) (by omega) (by omega) (by rw [show ((5 : Nat) : Int) = 5 from rfl, e]; decide)
    rw [e]
    exact this
set_option maxRecDepth 100000 in
set_option maxHeartbeats 4000000 in
theorem rclass5_any {w : World} {a b c d : Int} (hne : a % 5 ≠ 0 ∨ b % 5 ≠ 0 ∨ c % 5 ≠ 0 ∨ d % 5 ≠ 0) :
    Calls Tryz.prog 80 #[.agg #[.int .i64 a, .int .i64 b, .int .i64 c, .int .i64 d], .int .i64 5] w fun e w' => e = .returned (clV (nrm5 (md5 a b c d))) ∧ Below w.heap.size w w' := by
  obtain ⟨N, hN⟩ : ∃ N, N = w.heap.size := ⟨_, rfl⟩
  obtain ⟨W, hW⟩ : ∃ W, W = (w.alloc (.cells #[.int .i64 a, .int .i64 b, .int .i64 c, .int .i64 d] 104)).alloc (.cells #[.int .i64 0, .int .i64 0, .int .i64 0, .int .i64 0] 104) := ⟨_, rfl⟩
  have hbW : Below w.heap.size w W := by rw [hW]; exact below_alP (below_alP (Below.refl _ _) _) _
  have c0 : W.heap[N]? = some (.cells #[.int .i64 a, .int .i64 b, .int .i64 c, .int .i64 d] 104 (0, 0)) := by
    rw [hW, hN]
    exact (Below.heap_alloc _ _ _ (by simp)).trans (heap_alloc_new w _)
  have c1 : W.heap[N + 1]? = some (.cells #[.int .i64 0, .int .i64 0, .int .i64 0, .int .i64 0] 104 (0, 0)) := by
    rw [hW, hN]
    have := heap_alloc_new (w.alloc (.cells #[.int .i64 a, .int .i64 b, .int .i64 c, .int .i64 d] 104)) (.cells #[.int .i64 0, .int .i64 0, .int .i64 0, .int .i64 0] 104)
    rwa [World.size_alloc] at this
  have x0 : W.cell? ⟨N, 0, none⟩ = some (.int .i64 a) := by rw [Lib.cell_of_heap c0]; rfl
  have x1 : W.cell? ⟨N, 1, none⟩ = some (.int .i64 b) := by rw [Lib.cell_of_heap c0]; rfl
  have x2 : W.cell? ⟨N, 2, none⟩ = some (.int .i64 c) := by rw [Lib.cell_of_heap c0]; rfl
  have x3 : W.cell? ⟨N, 3, none⟩ = some (.int .i64 d) := by rw [Lib.cell_of_heap c0]; rfl
  have HNE := Lib.hid hne
  have HM := Lib.hid (fun (x : Int) (w : World) => show Calls Tryz.prog 25 #[.int .i64 x, .int .i64 5] w fun e w' => e = .returned (.int .i64 (x % 5)) ∧ w = w' from bMod_any (a := x) (m := 5) (by omega) (by omega))
  have HI := Lib.hid (fun (x : Int) (h : x % 5 ≠ 0) (w : World) => rInv5_any (w := w) h)
  have HW := Lib.hid hW
  have HN := Lib.hid hN
  have HC0 := Lib.hid c0
  have HC1 := Lib.hid c1
  have HBW := Lib.hid hbW
  clear hne hW hN c0 c1 hbW
  go_enter Tryz.func80, Tryz.ntmps80
  go_upto_block 0 with (fail)
  rw [← HW.out]
  rw [← HN.out]
  go_cut [5] (fun v wx => wx = W ∧ ∃ k : Nat, v = .int .i64 (k : Nat) ∧ Hid (by5 (md5 a b c d) = inv5 (([a, b, c, d].getD k 0) % 5).toNat ∧ ([a, b, c, d].getD k 0) % 5 ≠ 0) ∧ k < 4)
  case first =>
    go_wp2_with fail
    go_loopw [5] (fun kv wr => wr = W ∧ ∃ k : Nat, kv = .int .i64 (k : Nat) ∧ k ≤ 3 ∧ Hid ((0 < k → a % 5 = 0) ∧ (1 < k → b % 5 = 0) ∧ (2 < k → c % 5 = 0))) (fun kv _ => 4 - (intOf kv).toNat)
    case atStart => exact ⟨rfl, 0, rfl, by omega, Lib.hid ⟨by omega, by omega, by omega⟩⟩
    case round =>
      obtain ⟨rfl, k, rfl, hk, HZ⟩ := hrel
      have hc4 : k = 0 ∨ k = 1 ∨ k = 2 ∨ k = 3 := by omega
      rcases hc4 with rfl | rfl | rfl | rfl
      · by_cases h : a % 5 = 0
        · have HA := Lib.hid h
          have HMz := Lib.hid (fun w => by have := HM.out a w; rw [h] at this; exact this)
          clear h
          go_wp2_with (go_at_call 25; go_must (refine (HMz.out _).mono ?_); rintro e w1 ⟨rfl, rfl⟩)
          go_roundw
          case rel => exact ⟨trivial, 1, rfl, by omega, Lib.hid ⟨fun _ => HA.out, by omega, by omega⟩⟩
          case measure => simp [intOf]
        · have HA := Lib.hid h
          obtain ⟨z, hz⟩ : ∃ z, z = a % 5 := ⟨_, rfl⟩
          have HMz := Lib.hid (fun w => by have := HM.out a w; rw [← hz] at this; exact this)
          have hz0 : (z == 0) = false := by rw [beq_eq_false_iff_ne, hz]; exact h
          have HBY := Lib.hid (show by5 (md5 a b c d) = inv5 (a % 5).toNat by
            unfold by5 md5
            rw [ld5_0 (by show (a % 5).toNat ≠ 0; omega)])
          clear h hz
          go_wp2_with (go_at_call 25; go_must (refine (HMz.out _).mono ?_); rintro e w1 ⟨rfl, rfl⟩)
          go_meet
          exact ⟨rfl, 0, rfl, Lib.hid ⟨HBY.out, HA.out⟩, by omega⟩
      · by_cases h : b % 5 = 0
        · have HA := Lib.hid h
          have HMz := Lib.hid (fun w => by have := HM.out b w; rw [h] at this; exact this)
          clear h
          go_wp2_with (go_at_call 25; go_must (refine (HMz.out _).mono ?_); rintro e w1 ⟨rfl, rfl⟩)
          go_roundw
          case rel => exact ⟨trivial, 2, rfl, by omega, Lib.hid ⟨fun _ => HZ.out.1 (by omega), fun _ => HA.out, by omega⟩⟩
          case measure => simp [intOf]
        · have HA := Lib.hid h
          obtain ⟨z, hz⟩ : ∃ z, z = b % 5 := ⟨_, rfl⟩
          have HMz := Lib.hid (fun w => by have := HM.out b w; rw [← hz] at this; exact this)
          have hz0 : (z == 0) = false := by rw [beq_eq_false_iff_ne, hz]; exact h
          have HBY := Lib.hid (show by5 (md5 a b c d) = inv5 (b % 5).toNat by
            unfold by5 md5
            have e0 : (a % 5).toNat = 0 := by rw [HZ.out.1 (by omega)]; rfl
            rw [e0, ld5_1 (by omega)])
          clear h hz
          go_wp2_with (go_at_call 25; go_must (refine (HMz.out _).mono ?_); rintro e w1 ⟨rfl, rfl⟩)
          go_meet
          exact ⟨rfl, 1, rfl, Lib.hid ⟨HBY.out, HA.out⟩, by omega⟩
      · by_cases h : c % 5 = 0
        · have HA := Lib.hid h
          have HMz := Lib.hid (fun w => by have := HM.out c w; rw [h] at this; exact this)
          clear h
          go_wp2_with (go_at_call 25; go_must (refine (HMz.out _).mono ?_); rintro e w1 ⟨rfl, rfl⟩)
          go_roundw
          case rel => exact ⟨trivial, 3, rfl, by omega, Lib.hid ⟨fun _ => HZ.out.1 (by omega), fun _ => HZ.out.2.1 (by omega), fun _ => HA.out⟩⟩
          case measure => simp [intOf]
        · have HA := Lib.hid h
          obtain ⟨z, hz⟩ : ∃ z, z = c % 5 := ⟨_, rfl⟩
          have HMz := Lib.hid (fun w => by have := HM.out c w; rw [← hz] at this; exact this)
          have hz0 : (z == 0) = false := by rw [beq_eq_false_iff_ne, hz]; exact h
          have HBY := Lib.hid (show by5 (md5 a b c d) = inv5 (c % 5).toNat by
            unfold by5 md5
            have e0 : (a % 5).toNat = 0 := by rw [HZ.out.1 (by omega)]; rfl
            have e1 : (b % 5).toNat = 0 := by rw [HZ.out.2.1 (by omega)]; rfl
            rw [e0, e1, ld5_2 (by omega)])
          clear h hz
          go_wp2_with (go_at_call 25; go_must (refine (HMz.out _).mono ?_); rintro e w1 ⟨rfl, rfl⟩)
          go_meet
          exact ⟨rfl, 2, rfl, Lib.hid ⟨HBY.out, HA.out⟩, by omega⟩
      · have h : d % 5 ≠ 0 := by
          rcases HNE.out with e | e | e | e
          · exact absurd (HZ.out.1 (by omega)) e
          · exact absurd (HZ.out.2.1 (by omega)) e
          · exact absurd (HZ.out.2.2 (by omega)) e
          · exact e
        have HA := Lib.hid h
        obtain ⟨z, hz⟩ : ∃ z, z = d % 5 := ⟨_, rfl⟩
        have HMz := Lib.hid (fun w => by have := HM.out d w; rw [← hz] at this; exact this)
        have hz0 : (z == 0) = false := by rw [beq_eq_false_iff_ne, hz]; exact h
        have HBY := Lib.hid (show by5 (md5 a b c d) = inv5 (d % 5).toNat by
          unfold by5 md5
          have e0 : (a % 5).toNat = 0 := by rw [HZ.out.1 (by omega)]; rfl
          have e1 : (b % 5).toNat = 0 := by rw [HZ.out.2.1 (by omega)]; rfl
          have e2 : (c % 5).toNat = 0 := by rw [HZ.out.2.2 (by omega)]; rfl
          rw [e0, e1, e2, ld5_3])
        clear h hz
        go_wp2_with (go_at_call 25; go_must (refine (HMz.out _).mono ?_); rintro e w1 ⟨rfl, rfl⟩)
        go_meet
        exact ⟨rfl, 3, rfl, Lib.hid ⟨HBY.out, HA.out⟩, by omega⟩
  case rest =>
    obtain ⟨rfl, k, rfl, HB, hk⟩ := hcut
    obtain ⟨xk, hxk⟩ : ∃ xk, xk = [a, b, c, d].getD k 0 := ⟨_, rfl⟩
    rw [← hxk] at HB
    have hck : wc.cell? ⟨N, k, none⟩ = some (.int .i64 xk) := by
      have hc4 : k = 0 ∨ k = 1 ∨ k = 2 ∨ k = 3 := by omega
      rcases hc4 with rfl | rfl | rfl | rfl
      · rw [hxk]; exact x0
      · rw [hxk]; exact x1
      · rw [hxk]; exact x2
      · rw [hxk]; exact x3
    have hk0 : (0 : Int) ≤ (k : Int) := by omega
    have hk1 : (k : Int) < 4 := by omega
    have hBY : by5 (md5 a b c d) < 5 := inv5_lt _
    obtain ⟨y, hy⟩ : ∃ y, y = by5 (md5 a b c d) := ⟨_, rfl⟩
    have HIv := Lib.hid (fun w => by have := HI.out xk HB.out.2 w; rw [← HB.out.1, ← hy] at this; exact this)
    have HY := Lib.hid hy
    rw [← hy] at hBY
    clear hy hxk x0 x1 x2 x3
    have mm : ∀ x : Nat, x < 5 → IntKind.i64.wrap ((x : Int) * (y : Int)) = (x : Int) * (y : Int) ∧ ((x : Int) * (y : Int)).tmod 5 = ((x * y % 5 : Nat) : Int) := fun x hx => by
      have h1 : x * y ≤ 25 := Nat.mul_le_mul (show x ≤ 5 by omega) (show y ≤ 5 by omega)
      have h2 : ((x * y : Nat) : Int) = (x : Int) * (y : Int) := Int.natCast_mul x y
      exact ⟨IntWalk.i64_in _ (by omega), mod5_nat x y⟩
    obtain ⟨za, hza⟩ : ∃ z, z = (a % 5).toNat := ⟨_, rfl⟩
    have za5 : za < 5 := by omega
    have HM0 := Lib.hid (fun w => by have := HM.out a w; rw [show a % 5 = ((za : Nat) : Int) by omega] at this; exact this)
    obtain ⟨m0, n0⟩ := mm za za5
    obtain ⟨r0, hr0⟩ : ∃ r, r = za * y % 5 := ⟨_, rfl⟩
    rw [← hr0] at n0
    have T0 := Lib.hid n0
    obtain ⟨zb, hzb⟩ : ∃ z, z = (b % 5).toNat := ⟨_, rfl⟩
    have zb5 : zb < 5 := by omega
    have HM1 := Lib.hid (fun w => by have := HM.out b w; rw [show b % 5 = ((zb : Nat) : Int) by omega] at this; exact this)
    obtain ⟨m1, n1⟩ := mm zb zb5
    obtain ⟨r1, hr1⟩ : ∃ r, r = zb * y % 5 := ⟨_, rfl⟩
    rw [← hr1] at n1
    have T1 := Lib.hid n1
    obtain ⟨zc, hzc⟩ : ∃ z, z = (c % 5).toNat := ⟨_, rfl⟩
    have zc5 : zc < 5 := by omega
    have HM2 := Lib.hid (fun w => by have := HM.out c w; rw [show c % 5 = ((zc : Nat) : Int) by omega] at this; exact this)
    obtain ⟨m2, n2⟩ := mm zc zc5
    obtain ⟨r2, hr2⟩ : ∃ r, r = zc * y % 5 := ⟨_, rfl⟩
    rw [← hr2] at n2
    have T2 := Lib.hid n2
    obtain ⟨zd, hzd⟩ : ∃ z, z = (d % 5).toNat := ⟨_, rfl⟩
    have zd5 : zd < 5 := by omega
    have HM3 := Lib.hid (fun w => by have := HM.out d w; rw [show d % 5 = ((zd : Nat) : Int) by omega] at this; exact this)
    obtain ⟨m3, n3⟩ := mm zd zd5
    obtain ⟨r3, hr3⟩ : ∃ r, r = zd * y % 5 := ⟨_, rfl⟩
    rw [← hr3] at n3
    have T3 := Lib.hid n3
    have HR := Lib.hid (show nrm5 (md5 a b c d) = (r0, r1, r2, r3) by unfold nrm5; rw [← HY.out, hr0, hr1, hr2, hr3, hza, hzb, hzc, hzd]; rfl)
    clear hr0 hr1 hr2 hr3 hza hzb hzc hzd n0 n1 n2 n3 mm za5 zb5 zc5 zd5
    go_upto_block 2 with (go_at_call 141; go_must (refine (HIv.out _).mono ?_); rintro e w1 ⟨rfl, rfl⟩)
    go_wp2_with fail
    clear hck
    go_loopw [8] (fun kv wr => ∃ (k : Nat) (e0 e1 e2 e3 : Int), kv = .int .i64 (k : Nat) ∧ k ≤ 4 ∧ Hid (wr.heap[N]? = some (.cells #[.int .i64 e0, .int .i64 e1, .int .i64 e2, .int .i64 e3] 104 (0, 0))) ∧ Hid (wr.heap[N + 1]? = some (.cells #[.int .i64 0, .int .i64 0, .int .i64 0, .int .i64 0] 104 (0, 0))) ∧ Hid ((0 < k → e0 = (r0 : Nat)) ∧ (1 < k → e1 = (r1 : Nat)) ∧ (2 < k → e2 = (r2 : Nat)) ∧ (3 < k → e3 = (r3 : Nat))) ∧ Hid ((k ≤ 0 → e0 = a) ∧ (k ≤ 1 → e1 = b) ∧ (k ≤ 2 → e2 = c) ∧ (k ≤ 3 → e3 = d)) ∧ Hid (Below w.heap.size w wr)) (fun kv _ => 4 - (intOf kv).toNat)
    case atStart => exact ⟨0, a, b, c, d, rfl, by omega, HC0, HC1, Lib.hid ⟨by omega, by omega, by omega, by omega⟩, Lib.hid ⟨fun _ => rfl, fun _ => rfl, fun _ => rfl, fun _ => rfl⟩, HBW⟩
    case round =>
      clear HC0 HC1 HBW
      obtain ⟨k, e0, e1, e2, e3, rfl, hk, HC0, HC1, HE, HX, HBB⟩ := hrel
      have hc4 : k = 0 ∨ k = 1 ∨ k = 2 ∨ k = 3 ∨ k = 4 := by omega
      rcases hc4 with rfl | rfl | rfl | rfl | rfl
      · obtain rfl : e0 = a := HX.out.1 (by omega)
        have hcl : wr.cell? ⟨N, 0, none⟩ = some (.int .i64 e0) := by rw [Lib.cell_of_heap HC0.out]; rfl
        have hfz := Lib.frozen_of_heap HC0.out 0
        go_wp2_with (go_at_call 25; go_must (refine (HM0.out _).mono ?_); rintro en w1 ⟨rfl, rfl⟩)
        rw [T0.out]
        have HJ := Lib.hid (show (wr.setCell ⟨N, 0, none⟩ (.int .i64 (r0 : Nat))).heap[N]? = some (.cells #[.int .i64 (r0 : Nat), .int .i64 e1, .int .i64 e2, .int .i64 e3] 104 (0, 0)) from Go.Joins.block_setCell (i := 0) HC0.out (.int .i64 (r0 : Nat)))
        have HJ1 := Lib.hid ((Below.heap_setCell wr ⟨N, 0, none⟩ (.int .i64 (r0 : Nat)) (N + 1) (by show N + 1 ≠ N; omega)).trans HC1.out)
        have HJB := Lib.hid (HBB.out.setCell (p := ⟨N, 0, none⟩) (by rw [HN.out]; exact Nat.le_refl _) (.int .i64 (r0 : Nat)))
        go_roundw
        case rel => exact ⟨1, (r0 : Nat), e1, e2, e3, rfl, by omega, HJ, HJ1, Lib.hid ⟨fun _ => rfl, by omega, by omega, by omega⟩, Lib.hid ⟨by omega, fun _ => HX.out.2.1 (by omega), fun _ => HX.out.2.2.1 (by omega), fun _ => HX.out.2.2.2 (by omega)⟩, HJB⟩
        case measure => simp [intOf]
      · obtain rfl : e1 = b := HX.out.2.1 (by omega)
        have hcl : wr.cell? ⟨N, 1, none⟩ = some (.int .i64 e1) := by rw [Lib.cell_of_heap HC0.out]; rfl
        have hfz := Lib.frozen_of_heap HC0.out 1
        go_wp2_with (go_at_call 25; go_must (refine (HM1.out _).mono ?_); rintro en w1 ⟨rfl, rfl⟩)
        rw [T1.out]
        have HJ := Lib.hid (show (wr.setCell ⟨N, 1, none⟩ (.int .i64 (r1 : Nat))).heap[N]? = some (.cells #[.int .i64 e0, .int .i64 (r1 : Nat), .int .i64 e2, .int .i64 e3] 104 (0, 0)) from Go.Joins.block_setCell (i := 1) HC0.out (.int .i64 (r1 : Nat)))
        have HJ1 := Lib.hid ((Below.heap_setCell wr ⟨N, 1, none⟩ (.int .i64 (r1 : Nat)) (N + 1) (by show N + 1 ≠ N; omega)).trans HC1.out)
        have HJB := Lib.hid (HBB.out.setCell (p := ⟨N, 1, none⟩) (by rw [HN.out]; exact Nat.le_refl _) (.int .i64 (r1 : Nat)))
        go_roundw
        case rel => exact ⟨2, e0, (r1 : Nat), e2, e3, rfl, by omega, HJ, HJ1, Lib.hid ⟨fun _ => HE.out.1 (by omega), fun _ => rfl, by omega, by omega⟩, Lib.hid ⟨by omega, by omega, fun _ => HX.out.2.2.1 (by omega), fun _ => HX.out.2.2.2 (by omega)⟩, HJB⟩
        case measure => simp [intOf]
      · obtain rfl : e2 = c := HX.out.2.2.1 (by omega)
        have hcl : wr.cell? ⟨N, 2, none⟩ = some (.int .i64 e2) := by rw [Lib.cell_of_heap HC0.out]; rfl
        have hfz := Lib.frozen_of_heap HC0.out 2
        go_wp2_with (go_at_call 25; go_must (refine (HM2.out _).mono ?_); rintro en w1 ⟨rfl, rfl⟩)
        rw [T2.out]
        have HJ := Lib.hid (show (wr.setCell ⟨N, 2, none⟩ (.int .i64 (r2 : Nat))).heap[N]? = some (.cells #[.int .i64 e0, .int .i64 e1, .int .i64 (r2 : Nat), .int .i64 e3] 104 (0, 0)) from Go.Joins.block_setCell (i := 2) HC0.out (.int .i64 (r2 : Nat)))
        have HJ1 := Lib.hid ((Below.heap_setCell wr ⟨N, 2, none⟩ (.int .i64 (r2 : Nat)) (N + 1) (by show N + 1 ≠ N; omega)).trans HC1.out)
        have HJB := Lib.hid (HBB.out.setCell (p := ⟨N, 2, none⟩) (by rw [HN.out]; exact Nat.le_refl _) (.int .i64 (r2 : Nat)))
        go_roundw
        case rel => exact ⟨3, e0, e1, (r2 : Nat), e3, rfl, by omega, HJ, HJ1, Lib.hid ⟨fun _ => HE.out.1 (by omega), fun _ => HE.out.2.1 (by omega), fun _ => rfl, by omega⟩, Lib.hid ⟨by omega, by omega, by omega, fun _ => HX.out.2.2.2 (by omega)⟩, HJB⟩
        case measure => simp [intOf]
      · obtain rfl : e3 = d := HX.out.2.2.2 (by omega)
        have hcl : wr.cell? ⟨N, 3, none⟩ = some (.int .i64 e3) := by rw [Lib.cell_of_heap HC0.out]; rfl
        have hfz := Lib.frozen_of_heap HC0.out 3
        go_wp2_with (go_at_call 25; go_must (refine (HM3.out _).mono ?_); rintro en w1 ⟨rfl, rfl⟩)
        rw [T3.out]
        have HJ := Lib.hid (show (wr.setCell ⟨N, 3, none⟩ (.int .i64 (r3 : Nat))).heap[N]? = some (.cells #[.int .i64 e0, .int .i64 e1, .int .i64 e2, .int .i64 (r3 : Nat)] 104 (0, 0)) from Go.Joins.block_setCell (i := 3) HC0.out (.int .i64 (r3 : Nat)))
        have HJ1 := Lib.hid ((Below.heap_setCell wr ⟨N, 3, none⟩ (.int .i64 (r3 : Nat)) (N + 1) (by show N + 1 ≠ N; omega)).trans HC1.out)
        have HJB := Lib.hid (HBB.out.setCell (p := ⟨N, 3, none⟩) (by rw [HN.out]; exact Nat.le_refl _) (.int .i64 (r3 : Nat)))
        go_roundw
        case rel => exact ⟨4, e0, e1, e2, (r3 : Nat), rfl, by omega, HJ, HJ1, Lib.hid ⟨fun _ => HE.out.1 (by omega), fun _ => HE.out.2.1 (by omega), fun _ => HE.out.2.2.1 (by omega), fun _ => rfl⟩, Lib.hid ⟨by omega, by omega, by omega, by omega⟩, HJB⟩
        case measure => simp [intOf]
      · have c0 : wr.cell? ⟨N, 0, none⟩ = some (.int .i64 e0) := by rw [Lib.cell_of_heap HC0.out]; rfl
        have c1 : wr.cell? ⟨N, 1, none⟩ = some (.int .i64 e1) := by rw [Lib.cell_of_heap HC0.out]; rfl
        have c2 : wr.cell? ⟨N, 2, none⟩ = some (.int .i64 e2) := by rw [Lib.cell_of_heap HC0.out]; rfl
        have c3 : wr.cell? ⟨N, 3, none⟩ = some (.int .i64 e3) := by rw [Lib.cell_of_heap HC0.out]; rfl
        have d0 : wr.cell? ⟨N + 1, 0, none⟩ = some (.int .i64 0) := by rw [Lib.cell_of_heap HC1.out]; rfl
        have d1 : wr.cell? ⟨N + 1, 1, none⟩ = some (.int .i64 0) := by rw [Lib.cell_of_heap HC1.out]; rfl
        have d2 : wr.cell? ⟨N + 1, 2, none⟩ = some (.int .i64 0) := by rw [Lib.cell_of_heap HC1.out]; rfl
        have d3 : wr.cell? ⟨N + 1, 3, none⟩ = some (.int .i64 0) := by rw [Lib.cell_of_heap HC1.out]; rfl
        have f0 := Lib.frozen_of_heap HC1.out 0
        have f1 := Lib.frozen_of_heap HC1.out 1
        have f2 := Lib.frozen_of_heap HC1.out 2
        have f3 := Lib.frozen_of_heap HC1.out 3
        go_wp2_with fail
        have g0 : ((((wr.setCell ⟨N + 1, 0, none⟩ (.int .i64 e0)).setCell ⟨N + 1, 1, none⟩ (.int .i64 e1)).setCell ⟨N + 1, 2, none⟩ (.int .i64 e2)).setCell ⟨N + 1, 3, none⟩ (.int .i64 e3)).cell? ⟨N + 1, 0, none⟩ = some (.int .i64 e0) := by go_simp
        have g1 : ((((wr.setCell ⟨N + 1, 0, none⟩ (.int .i64 e0)).setCell ⟨N + 1, 1, none⟩ (.int .i64 e1)).setCell ⟨N + 1, 2, none⟩ (.int .i64 e2)).setCell ⟨N + 1, 3, none⟩ (.int .i64 e3)).cell? ⟨N + 1, 1, none⟩ = some (.int .i64 e1) := by go_simp
        have g2 : ((((wr.setCell ⟨N + 1, 0, none⟩ (.int .i64 e0)).setCell ⟨N + 1, 1, none⟩ (.int .i64 e1)).setCell ⟨N + 1, 2, none⟩ (.int .i64 e2)).setCell ⟨N + 1, 3, none⟩ (.int .i64 e3)).cell? ⟨N + 1, 2, none⟩ = some (.int .i64 e2) := by go_simp
        have g3 : ((((wr.setCell ⟨N + 1, 0, none⟩ (.int .i64 e0)).setCell ⟨N + 1, 1, none⟩ (.int .i64 e1)).setCell ⟨N + 1, 2, none⟩ (.int .i64 e2)).setCell ⟨N + 1, 3, none⟩ (.int .i64 e3)).cell? ⟨N + 1, 3, none⟩ = some (.int .i64 e3) := by go_simp
        have hb6 : Below w.heap.size w ((((wr.setCell ⟨N + 1, 0, none⟩ (.int .i64 e0)).setCell ⟨N + 1, 1, none⟩ (.int .i64 e1)).setCell ⟨N + 1, 2, none⟩ (.int .i64 e2)).setCell ⟨N + 1, 3, none⟩ (.int .i64 e3)) := (((HBB.out.setCell (p := ⟨N + 1, 0, none⟩) (by rw [HN.out]; exact Nat.le_succ _) _).setCell (p := ⟨N + 1, 1, none⟩) (by rw [HN.out]; exact Nat.le_succ _) _).setCell (p := ⟨N + 1, 2, none⟩) (by rw [HN.out]; exact Nat.le_succ _) _).setCell (p := ⟨N + 1, 3, none⟩) (by rw [HN.out]; exact Nat.le_succ _) _
        generalize ((((wr.setCell ⟨N + 1, 0, none⟩ (.int .i64 e0)).setCell ⟨N + 1, 1, none⟩ (.int .i64 e1)).setCell ⟨N + 1, 2, none⟩ (.int .i64 e2)).setCell ⟨N + 1, 3, none⟩ (.int .i64 e3)) = W5 at *
        refine bodyPost_ret (v := .agg #[.int .i64 e0, .int .i64 e1, .int .i64 e2, .int .i64 e3]) (by simp [results, Tryz.results80, go_sem, g0, g1, g2, g3]) rfl ⟨?_, hb6⟩
        rw [HR.out, HE.out.1 (by omega), HE.out.2.1 (by omega), HE.out.2.2.1 (by omega), HE.out.2.2.2 (by omega)]
        rfl
end Go.Proofs.YtefcdclmabdmbaaGreatDoor

namespace Go.Proofs.YtefcdclmabdmbaaGreatDoor
open Go.RowKit Go.Maps Go.WideElems Go.WideShapes Go.MapKept Go.ChangeMaps

theorem laid_outC : laidOutB Tryz.prog = true := by kernel_rfl
theorem class_row : 105 < Tryz.prog.types.size := of_decide_eq_true (by kernel_rfl)
theorem class_law : WideMaps.KeyLaw Tryz.prog 105 := deep_law_laid laid_outC (m := 2) (by omega) class_row (by kernel_rfl) (by kernel_rfl)
theorem class_keyed : Keyed Tryz.prog 105 := Keyed.of_law class_law
theorem cells_class : Tryz.prog.cellsOf 105 = 4 := by kernel_rfl
theorem cells_intC : Tryz.prog.cellsOf 3 = 1 := by kernel_rfl
theorem types_someC : ∃ m, Tryz.prog.types.size = m + 1 := ⟨Tryz.prog.types.size - 1, by kernel_rfl⟩
theorem class_type : Tryz.prog.keyType 105 = true := by kernel_rfl

/-- What a class reads as, as a key. -/
def ckL (m : Nq) : Lit := .string (keyBytes [.int .i64 (m.1 : Nat), .int .i64 (m.2.1 : Nat), .int .i64 (m.2.2.1 : Nat), .int .i64 (m.2.2.2 : Nat)])
theorem keyLits_mkC {m : Nat} {a : Int} (ha : (Lit.int .i64 a).wf = true) : Tryz.prog.keyLits (m + 1) 3 [.int .i64 a] = some [.int .i64 a] := by
  unfold Program.keyLits
  simp only [Tryz.underlying3]
  simp [ha]
theorem wf5 {a : Nat} (h : a < 5) : (Lit.int .i64 (a : Nat)).wf = true := by
  have hc : a = 0 ∨ a = 1 ∨ a = 2 ∨ a = 3 ∨ a = 4 := by omega
  rcases hc with rfl | rfl | rfl | rfl | rfl <;> decide
set_option maxRecDepth 100000 in
theorem keyOf_class {m : Nq} (hm : In5 m) : keyOf Tryz.prog 105 (clV m) = some (ckL m) := by
  obtain ⟨a, b, c, d⟩ := m
  obtain ⟨h1, h2, h3, h4⟩ := hm
  simp only at h1 h2 h3 h4
  obtain ⟨k, hk⟩ := types_someC
  unfold keyOf
  simp only [Tryz.underlying105]
  rw [class_type, hk, if_pos (by kernel_rfl)]
  unfold Program.keyLits
  simp only [Tryz.underlying105, cells_class]
  rw [if_pos (by rfl)]
  have hr4 : List.range 4 = [0, 1, 2, 3] := by decide
  simp [clV, Value.cells, cells_intC, hr4, keyLits_mkC (wf5 h1), keyLits_mkC (wf5 h2), keyLits_mkC (wf5 h3), keyLits_mkC (wf5 h4), ckL]
theorem ckL_inj {m n : Nq} (hm : In5 m) (hn : In5 n) (h : ckL m = ckL n) : m = n := by
  have h1 := keyOf_class hm
  have h2 := keyOf_class hn
  rw [h] at h1
  have := class_law.inj h1 h2
  obtain ⟨a, b, c, d⟩ := m
  obtain ⟨a', b', c', d'⟩ := n
  unfold clV at this
  simp only [Value.agg.injEq, Array.mk.injEq, List.cons.injEq, Value.int.injEq, and_true, true_and] at this
  obtain ⟨e1, e2, e3, e4⟩ := this
  have e1' : a = a' := by omega
  have e2' : b = b' := by omega
  have e3' : c = c' := by omega
  have e4' : d = d' := by omega
  rw [e1', e2', e3', e4']
theorem ckL_key (m : Nq) : WideAt.IsKeyLit (ckL m) := trivial

/-- The map tells the place of each class of a list, 0 of the others. -/
def CIn (A : List Nq) (D : DataW Unit) : Prop := ∀ m, In5 m → D.atKey (ckL m) (.lit (.int .i64 0)) = .lit (.int .i64 ((if m ∈ A then posC (A.map code5) (code5 m) else 0 : Nat) : Int))
theorem CIn.nil : CIn [] (.map [] : DataW Unit) := fun m _ => by simp [DataW.atKey]
theorem posC_new {A : List Nq} {m : Nq} (hA : ∀ x ∈ A, In5 x) (hm : In5 m) (hn : m ∉ A) : posC ((A ++ [m]).map code5) (code5 m) = A.length := by
  induction A with
  | nil => simp [posC]
  | cons x l ih =>
    have hne : Nat.beq (code5 x) (code5 m) = false := by
      rw [Bool.eq_false_iff]
      intro e
      exact hn (by rw [code5_inj (hA x (by simp)) hm (Nat.eq_of_beq_eq_true e)]; simp)
    simp only [List.cons_append, List.map_cons, List.length_cons]
    unfold posC
    rw [hne]
    simp only [cond_false]
    rw [ih (fun y hy => hA y (by simp [hy])) (fun hh => hn (by simp [hh]))]
theorem posC_old {l : List Nat} {c x : Nat} (h : c ∈ l) : posC (l ++ [x]) c = posC l c := by
  induction l with
  | nil => cases h
  | cons y l ih =>
    simp only [List.cons_append]
    unfold posC
    cases e : Nat.beq y c
    · simp only [cond_false]
      rw [ih]
      rcases List.mem_cons.1 h with h1 | h1
      · rw [h1, Nat.beq_refl] at e; cases e
      · exact h1
    · rfl
theorem CIn.put {A : List Nq} {D : DataW Unit} (hD : IsMap D) (h : CIn A D) {m : Nq} (hA : ∀ x ∈ A, In5 x) (hm : In5 m) (hn : m ∉ A) : CIn (A ++ [m]) (D.put (ckL m) (.lit (.int .i64 (A.length : Nat)))) := by
  intro x hx
  by_cases e : x = m
  · subst e
    rw [atKey_put_same hD (ckL_key _), if_pos (by simp), posC_new hA hx hn]
  · rw [atKey_put_other (fun hh => e (ckL_inj hx hm hh)), h x hx]
    by_cases hxA : x ∈ A
    · rw [if_pos hxA, if_pos (by simp [hxA]), List.map_append, List.map_cons, List.map_nil, posC_old (List.mem_map.2 ⟨x, hxA, rfl⟩)]
    · rw [if_neg hxA, if_neg (by simp [hxA, e])]
end Go.Proofs.YtefcdclmabdmbaaGreatDoor

namespace Go.Proofs.YtefcdclmabdmbaaGreatDoor
open Go.RowKit Go.Shelf
attribute [local go_sem] Oper.semAt_some

theorem det5_int (a b c d : Nat) : ((a : Int) * d - b * c) % 5 = ((det5 (a, b, c, d) : Nat) : Int) := by
  unfold det5
  simp only
  rw [← Int.natCast_mul, ← Int.natCast_mul]
  generalize a * d = X
  generalize b * c = Y
  omega
theorem pdet5_any {w : World} {P a b c d : Nat} (h : Pla w P 5) (hm : In5 (a, b, c, d)) :
    Calls Tryz.prog 72 #[.pointer (some ⟨P, 0, none⟩), .agg #[.int .i64 (a : Nat), .int .i64 (b : Nat), .int .i64 (c : Nat), .int .i64 (d : Nat)]] w fun e w' => e = .returned (.int .i64 ((det5 (a, b, c, d) : Nat) : Int)) ∧ Below w.heap.size w w' := by
  obtain ⟨h1, h2, h3, h4⟩ := hm
  simp only at h1 h2 h3 h4
  have := pdet_any (a := a) (b := b) (c := c) (d := d) h (by omega) (by omega) (by omega) (by omega) (by omega) (by omega)
  rw [show ((5 : Nat) : Int) = 5 from rfl, det5_int] at this
  exact this

def fi5 (b i : Nat) : List Nq := fl5 (ck5 b i) 5
def fb5 (b : Nat) : List Nq := fl5 (fi5 b) 5
def pk5 (b i k : Nat) : List Nq := fl5 fb5 b ++ fl5 (fi5 b) i ++ fl5 (ck5 b i) k
def pj5 (i k j : Nat) : List Nq := pk5 1 i k ++ fl5 (co5 i k) j
theorem pk5_pre : ∀ b, b < 2 → ∀ i, i < 5 → ∀ k, k < 6 → (pk5 b i k).isPrefixOf cls5 = true := by decide +kernel
theorem pj5_pre : ∀ i, i < 5 → ∀ k, k < 5 → ∀ j, j < 6 → (pj5 i k j).isPrefixOf cls5 = true := by decide +kernel
theorem pk5_step (b i k : Nat) : pk5 b i (k + 1) = pk5 b i k ++ ck5 b i k := by unfold pk5; rw [fl5]; simp only [List.append_assoc]
theorem pk5_end (b i : Nat) : pk5 b i 5 = pk5 b (i + 1) 0 := by
  unfold pk5
  rw [show fl5 (ck5 b i) 5 = fi5 b i from rfl, show fl5 (ck5 b (i + 1)) 0 = [] from rfl, List.append_nil, show fl5 (fi5 b) (i + 1) = fl5 (fi5 b) i ++ fi5 b i from rfl, List.append_assoc]
theorem pk5_out (b : Nat) : pk5 b 5 0 = pk5 (b + 1) 0 0 := by
  unfold pk5
  rw [show fl5 (ck5 b 5) 0 = [] from rfl, show fl5 (ck5 (b + 1) 0) 0 = [] from rfl, show fl5 (fi5 (b + 1)) 0 = [] from rfl, List.append_nil, List.append_nil, List.append_nil]
  rfl
theorem pj5_step (i k j : Nat) : pj5 i k (j + 1) = pj5 i k j ++ co5 i k j := by unfold pj5; rw [fl5]; simp only [List.append_assoc]
theorem pj5_end (i k : Nat) : pj5 i k 5 = pk5 1 i (k + 1) := by rw [pk5_step]; rfl

/-- The block of a class. -/
def clObj (m : Nq) : Obj := .cells #[.int .i64 (m.1 : Nat), .int .i64 (m.2.1 : Nat), .int .i64 (m.2.2.1 : Nat), .int .i64 (m.2.2.2 : Nat)] 105 (0, 0)
set_option maxRecDepth 100000 in
set_option maxHeartbeats 4000000 in
theorem classes_in (n l P n₀ : Nat) (J : List Nq → World → Prop) (hJ : ∀ pre A B, J pre A → Below A.heap.size A B → J pre B)
    (hY : ∀ pre x W, J pre W → pre ++ [x] <+: cls5 → YieldAt Fence.wide (n - 1) Tryz.prog l #[clV x] W fun e W' => e = .returned (.bool true) ∧ J (pre ++ [x]) W' ∧ Below n₀ W W')
    (W : World) (hP : Pla W P 5) (hPn : P < n₀) (h0 : J [] W) :
    CallsIn Fence.wide n Tryz.prog 71 #[.pointer (some ⟨P, 0, none⟩), .func (.yield l) #[] #[]] W fun e W' => (∃ v, e = .returned v) ∧ J cls5 W' := by
  refine callsIn_of_wp Tryz.func71 rfl trivial ?_ rfl
  simp only [Tryz.ntmps71, List.size_toArray, List.length_cons, List.length_nil, Nat.reduceAdd, Nat.reduceSub, Array.replicate_succ, Array.replicate_zero, List.push_toArray, List.append_toArray, List.nil_append, List.cons_append]
  have hPlb : ∀ (A B : World), Pla A P 5 → Below n₀ A B → Pla B P 5 := fun A B h hb => (hb.cell (p := ⟨P, 0, none⟩) hPn).trans h
  have HJ := Lib.hid hJ
  have HY := Lib.hid hY
  have HPL := Lib.hid hPlb
  clear hJ hY hPlb
  gi_wp2
  gi_loopw [10] (fun bv wr => ∃ b : Nat, b ≤ 2 ∧ bv = .int .i64 (b : Nat) ∧ Pla wr P 5 ∧ J (pk5 b 0 0) wr) (fun bv _ => 2 - (intOf bv).toNat)
  case atStart => exact ⟨0, by omega, rfl, hP, h0⟩
  case round =>
    clear hP h0
    obtain ⟨b, hb2, rfl, hPb, hJb⟩ := hrel
    by_cases hb : b < 2
    · have hPc : wr.cell? ⟨P, 0, none⟩ = some (.int .i64 5) := hPb
      have hb1 : (b : Int) < 2 := by omega
      gi_wp2
      gi_loopw [17] (fun iv wr => ∃ i : Nat, i ≤ 5 ∧ iv = .int .i64 (i : Nat) ∧ Pla wr P 5 ∧ J (pk5 b i 0) wr) (fun iv _ => 5 - (intOf iv).toNat)
      case atStart => exact ⟨0, by omega, rfl, hPb, hJb⟩
      case round =>
        clear hPb hJb hPc
        obtain ⟨i, hi5, rfl, hPb, hJb⟩ := hrel
        by_cases hi : i < 5
        · have hPc : wr.cell? ⟨P, 0, none⟩ = some (.int .i64 5) := hPb
          have hi1 : (i : Int) < 5 := by omega
          gi_wp2
          gi_loopw [24] (fun kv wr => ∃ k : Nat, k ≤ 5 ∧ kv = .int .i64 (k : Nat) ∧ Pla wr P 5 ∧ J (pk5 b i k) wr) (fun kv _ => 5 - (intOf kv).toNat)
          case atStart => exact ⟨0, by omega, rfl, hPb, hJb⟩
          case round =>
            clear hPb hJb hPc
            obtain ⟨k, hk5, rfl, hPb, hJb⟩ := hrel
            by_cases hk : k < 5
            · have hPc : wr.cell? ⟨P, 0, none⟩ = some (.int .i64 5) := hPb
              have hk1 : (k : Int) < 5 := by omega
              by_cases hb0 : b = 0
              · have hbt : ((b : Int) == 0) = true := by rw [hb0]; rfl
                have HB0 := Lib.hid hb0
                clear hb0
                by_cases hi0 : i = 0
                · have hit : ((i : Int) != 0) = false := by rw [hi0]; rfl
                  have hpk : pk5 b i (k + 1) = pk5 b i k := by
                    rw [pk5_step]
                    unfold ck5 cz5
                    rw [if_pos HB0.out, if_pos hi0, List.append_nil]
                  clear hi0
                  have hbA : Below wr.heap.size wr (wr.alloc (.cells #[.int .i64 0, .int .i64 1, .int .i64 (i : Nat), .int .i64 (k : Nat)] 105)) := (Below.refl _ _).alloc (Nat.le_refl _) _
                  have hJA := HJ.out _ _ _ hJb hbA
                  rw [← hpk] at hJA
                  have hPA := hPb.below hbA
                  gi_wp2
                  refine ⟨fun _ h => (by cases h), ?_⟩
                  gi_wp2
                  go_roundw
                  case rel => exact ⟨k + 1, by omega, by go_num, hPA, hJA⟩
                  case measure => simp [intOf]; omega
                · have hne : ((i : Int) != 0) = true := by rw [bne_iff_ne]; omega
                  have hpk : pk5 b i (k + 1) = pk5 b i k ++ [(0, 1, i, k)] := by
                    rw [pk5_step]
                    unfold ck5 cz5
                    rw [if_pos HB0.out, if_neg hi0]
                  have hpx : pk5 b i k ++ [(0, 1, i, k)] <+: cls5 := by
                    rw [← hpk]
                    exact List.isPrefixOf_iff_prefix.1 (pk5_pre b hb i hi (k + 1) (by omega))
                  have hbA : Below wr.heap.size wr (wr.alloc (.cells #[.int .i64 0, .int .i64 1, .int .i64 (i : Nat), .int .i64 (k : Nat)] 105)) := (Below.refl _ _).alloc (Nat.le_refl _) _
                  have hJA := HJ.out _ _ _ hJb hbA
                  obtain ⟨fn, tmps, assign, body, hy, hR⟩ := HY.out _ (0, 1, i, k) _ hJA hpx
                  have hy' : (Instr.yield l #[.agg #[.int .i64 0, .int .i64 1, .int .i64 (i : Nat), .int .i64 (k : Nat)]]).run Tryz.prog (wr.alloc (.cells #[.int .i64 0, .int .i64 1, .int .i64 (i : Nat), .int .i64 (k : Nat)] 105)) = .ok (.round l fn tmps assign body) (wr.alloc (.cells #[.int .i64 0, .int .i64 1, .int .i64 (i : Nat), .int .i64 (k : Nat)] 105)) := hy
                  have hPA := hPb.below hbA
                  have HPK := Lib.hid hpk
                  clear hy hpx hpk hi0
                  gi_wp2
                  refine ⟨fun h => (by cases h), hR.mono ?_⟩
                  rintro e W3 ⟨rfl, hJ3, hk3⟩
                  have hP3 := HPL.out _ _ hPA hk3
                  rw [← HPK.out] at hJ3
                  clear hJA hbA hPA hR hy'
                  gi_wp2
                  go_roundw
                  case rel => exact ⟨k + 1, by omega, by go_num, hP3, hJ3⟩
                  case measure => simp [intOf]; omega
              · have HB1 := Lib.hid (show b = 1 by omega)
                have hbt : ((b : Int) == 0) = false := by rw [beq_eq_false_iff_ne]; omega
                rw [HB1.out] at hJb
                clear hb0
                gi_wp2
                gi_loopw [44] (fun jv wr => ∃ j : Nat, j ≤ 5 ∧ jv = .int .i64 (j : Nat) ∧ Pla wr P 5 ∧ J (pj5 i k j) wr) (fun jv _ => 5 - (intOf jv).toNat)
                case atStart => exact ⟨0, by omega, rfl, hPb, by rw [show pj5 i k 0 = pk5 1 i k from List.append_nil _]; exact hJb⟩
                case round =>
                  clear hPb hJb hPc
                  obtain ⟨j, hj5, rfl, hPb, hJb⟩ := hrel
                  by_cases hj : j < 5
                  · have hj1 : (j : Int) < 5 := by omega
                    have hbA : Below wr.heap.size wr (wr.alloc (.cells #[.int .i64 1, .int .i64 (i : Nat), .int .i64 (k : Nat), .int .i64 (j : Nat)] 105)) := (Below.refl _ _).alloc (Nat.le_refl _) _
                    have hPA := hPb.below hbA
                    have HD := Lib.hid (callsIn_wide (n := n - 1).2 (pdet5_any hPA (show In5 (1, i, k, j) from ⟨by omega, by omega, by omega, by omega⟩)))
                    have HD2 : CallsIn Fence.wide (n - 1) Tryz.prog 72 #[.pointer (some ⟨P, 0, none⟩), .agg #[.int .i64 1, .int .i64 (i : Nat), .int .i64 (k : Nat), .int .i64 (j : Nat)]] (wr.alloc (.cells #[.int .i64 1, .int .i64 (i : Nat), .int .i64 (k : Nat), .int .i64 (j : Nat)] 105)) fun e w' => e = .returned (.int .i64 ((det5 (1, i, k, j) : Nat) : Int)) ∧ Below (wr.alloc (.cells #[.int .i64 1, .int .i64 (i : Nat), .int .i64 (k : Nat), .int .i64 (j : Nat)] 105)).heap.size (wr.alloc (.cells #[.int .i64 1, .int .i64 (i : Nat), .int .i64 (k : Nat), .int .i64 (j : Nat)] 105)) w' := HD.out
                    have HD3 := Lib.hid HD2
                    clear HD2 HD
                    have hms := World.size_alloc wr (.cells #[.int .i64 1, .int .i64 (i : Nat), .int .i64 (k : Nat), .int .i64 (j : Nat)] 105)
                    have hc0 : (wr.alloc (.cells #[.int .i64 1, .int .i64 (i : Nat), .int .i64 (k : Nat), .int .i64 (j : Nat)] 105)).cell? ⟨wr.heap.size, 0, none⟩ = some (.int .i64 1) := by simp
                    have hc1 : (wr.alloc (.cells #[.int .i64 1, .int .i64 (i : Nat), .int .i64 (k : Nat), .int .i64 (j : Nat)] 105)).cell? ⟨wr.heap.size, 1, none⟩ = some (.int .i64 (i : Nat)) := by simp
                    have hc2 : (wr.alloc (.cells #[.int .i64 1, .int .i64 (i : Nat), .int .i64 (k : Nat), .int .i64 (j : Nat)] 105)).cell? ⟨wr.heap.size, 2, none⟩ = some (.int .i64 (k : Nat)) := by simp
                    have hc3 : (wr.alloc (.cells #[.int .i64 1, .int .i64 (i : Nat), .int .i64 (k : Nat), .int .i64 (j : Nat)] 105)).cell? ⟨wr.heap.size, 3, none⟩ = some (.int .i64 (j : Nat)) := by simp
                    by_cases hd : det5 (1, i, k, j) = 0
                    · have hpk : pj5 i k (j + 1) = pj5 i k j := by
                        rw [pj5_step]
                        unfold co5
                        rw [if_pos hd, List.append_nil]
                      rw [hd] at HD3
                      gi_wp2
                      refine ⟨trivial, fun h => (by cases h), HD3.out.mono ?_⟩
                      rintro e W2 ⟨rfl, hb2⟩
                      have hJ2 := HJ.out _ _ _ hJb (hbA.trans (hb2.mono hbA.size))
                      have hP2 := hPA.below hb2
                      rw [← hpk] at hJ2
                      gi_wp2
                      refine ⟨fun _ h => (by cases h), ?_⟩
                      gi_wp2
                      go_roundw
                      case rel => exact ⟨j + 1, by omega, by go_num, hP2, hJ2⟩
                      case measure => simp [intOf]; omega
                    · have hne : (((det5 (1, i, k, j) : Nat) : Int) != 0) = true := by rw [bne_iff_ne]; omega
                      have hpk : pj5 i k (j + 1) = pj5 i k j ++ [(1, i, k, j)] := by
                        rw [pj5_step]
                        unfold co5
                        rw [if_neg hd]
                      have hpx : pj5 i k j ++ [(1, i, k, j)] <+: cls5 := by
                        rw [← hpk]
                        exact List.isPrefixOf_iff_prefix.1 (pj5_pre i hi k hk (j + 1) (by omega))
                      generalize det5 (1, i, k, j) = dd at *
                      gi_wp2
                      refine ⟨trivial, fun h => (by cases h), HD3.out.mono ?_⟩
                      rintro e W2 ⟨rfl, hb2⟩
                      have hJ2 := HJ.out _ _ _ hJb (hbA.trans (hb2.mono hbA.size))
                      have hP2 := hPA.below hb2
                      have k0 := (hb2.cell (p := ⟨wr.heap.size, 0, none⟩) (cell_some_lt hc0)).trans hc0
                      have k1 := (hb2.cell (p := ⟨wr.heap.size, 1, none⟩) (cell_some_lt hc0)).trans hc1
                      have k2 := (hb2.cell (p := ⟨wr.heap.size, 2, none⟩) (cell_some_lt hc0)).trans hc2
                      have k3 := (hb2.cell (p := ⟨wr.heap.size, 3, none⟩) (cell_some_lt hc0)).trans hc3
                      obtain ⟨fn, tmps, assign, body, hy, hR⟩ := HY.out _ (1, i, k, j) _ hJ2 hpx
                      have hy' : (Instr.yield l #[.agg #[.int .i64 1, .int .i64 (i : Nat), .int .i64 (k : Nat), .int .i64 (j : Nat)]]).run Tryz.prog W2 = .ok (.round l fn tmps assign body) W2 := hy
                      have HPK := Lib.hid hpk
                      clear hy hpx hpk hd hc0 hc1 hc2 hc3 hbA hPA hb2
                      gi_wp2
                      refine ⟨fun h => (by cases h), hR.mono ?_⟩
                      rintro e W3 ⟨rfl, hJ3, hk3⟩
                      have hP3 := HPL.out _ _ hP2 hk3
                      rw [← HPK.out] at hJ3
                      clear hJ2 hP2 hR hy'
                      gi_wp2
                      go_roundw
                      case rel => exact ⟨j + 1, by omega, by go_num, hP3, hJ3⟩
                      case measure => simp [intOf]; omega
                  · obtain rfl : j = 5 := by omega
                    rw [pj5_end] at hJb
                    have hJb2 : J (pk5 b i (k + 1)) wr := by rw [HB1.out]; exact hJb
                    clear hJb
                    gi_wp2
                    go_roundw
                    case rel => exact ⟨k + 1, by omega, by go_num, hPb, hJb2⟩
                    case measure => simp [intOf]; omega
            · obtain rfl : k = 5 := by omega
              rw [pk5_end] at hJb
              gi_wp2
              go_roundw
              case rel => exact ⟨i + 1, by omega, by go_num, hPb, hJb⟩
              case measure => simp [intOf]; omega
        · obtain rfl : i = 5 := by omega
          rw [pk5_out] at hJb
          gi_wp2
          go_roundw
          case rel => exact ⟨b + 1, by omega, by go_num, hPb, hJb⟩
          case measure => simp [intOf]; omega
    · obtain rfl : b = 2 := by omega
      gi_wp2
      go_end0
      exact ⟨⟨_, rfl⟩, hJb⟩
/-- All blocks but those of S are as they were. -/
structure Upd (S : Nat → Prop) (A B : World) : Prop where
  os : B.os = A.os
  tape : B.tape = A.tape
  output : B.output = A.output
  size : A.heap.size ≤ B.heap.size
  block : ∀ k, k < A.heap.size → ¬ S k → B.heap[k]? = A.heap[k]?
theorem Upd.below {S : Nat → Prop} {A B : World} (h : Upd S A B) {n : Nat} (hn : n ≤ A.heap.size) (hS : ∀ k, S k → n ≤ k) : Below n A B :=
  ⟨h.os, h.tape, h.output, h.size, fun k hk => h.block k (by omega) (fun hs => by have := hS k hs; omega)⟩
theorem Upd.drew (S : Nat → Prop) (A : World) : Upd S A A.drew := ⟨rfl, rfl, rfl, Nat.le_refl _, fun _ _ _ => rfl⟩
theorem Upd.setCell {S : Nat → Prop} (A : World) {p : Addr} (hp : S p.block) (u : Value) : Upd S A (A.setCell p u) :=
  ⟨rfl, rfl, rfl, by simp [World.setCell], fun k _ hk => Below.heap_setCell _ _ _ _ (fun e => hk (e ▸ hp))⟩
theorem Upd.putObj {S : Nat → Prop} (A : World) {l : Nat} (hl : S l) (o : Obj) : Upd S A (A.putObj l o) :=
  ⟨rfl, rfl, rfl, by simp [World.putObj], fun k _ hk => World.putObj_heap_other (fun e => hk (e ▸ hl))⟩
theorem Upd.alloc (S : Nat → Prop) (A : World) (o : Obj) : Upd S A (A.alloc o) :=
  ⟨rfl, rfl, rfl, by simp, fun k hk _ => Below.heap_alloc A o k hk⟩
theorem Upd.of_below {S : Nat → Prop} {A B : World} (h : Below A.heap.size A B) : Upd S A B := ⟨h.os, h.tape, h.output, h.size, fun k hk _ => h.block k hk⟩

/-- What a body keeps: the plane, the loop's two blocks. -/
structure KpC (n₀ D : Nat) (W W' : World) : Prop where
  low : Below n₀ W W'
  mark : W'.heap[D]? = W.heap[D]?
  loop : W'.heap[D + 1]? = W.heap[D + 1]?
def clsPost (n₀ D : Nat) (I : World → Prop) (W : World) : Exit → Act → World → Prop
  | .normal, _, W' => KpC n₀ D W W' ∧ I W'
  | _, _, _ => False

theorem wp_rangeCls {g : Operand} {p : Tmp} {assign body : Code} {Q : Exit → Act → World → Prop} {a : Act} {w : World} {n : Nat} (P n₀ : Nat)
    (hg : a.eval g = .func (.func 71) #[.pointer (some ⟨P, 0, none⟩)] #[]) (hP : Pla w P 5) (hPn : P < n₀) (hn₀ : n₀ ≤ w.heap.size)
    (I : List Nq → World → Prop)
    (hI : ∀ pre A B, I pre A → Upd (fun b => b = w.heap.size ∨ b = w.heap.size + 1) A B → I pre B)
    (h0 : I [] w) (a₁ : Nq → World → Act)
    (hassign : ∀ (x : Nq) (W : World) (K : Act → World → Prop), K (a₁ x W) (W.alloc (clObj x)) →
      assign.wpIn (Fence.wide.inRound (w.heap.size + 1)) (n - 1 - 1) Tryz.prog (Exit.then K (fun _ _ _ => False)) { tmps := a.tmps.setIfInBounds p (clV x), defers := [] } W)
    (hbody : ∀ (pre : List Nq) (x : Nq) (W0 W : World), I pre W → pre ++ [x] <+: cls5 → W.heap[W0.heap.size]? = some (clObj x) → w.heap.size + 1 < W0.heap.size → Pla W P 5 →
      body.wpIn (Fence.wide.inRound (w.heap.size + 1)) (n - 1 - 1) Tryz.prog (clsPost n₀ w.heap.size (I (pre ++ [x])) W) (a₁ x W0) W)
    (hdone : ∀ W : World, I cls5 W → W.heap[w.heap.size]? = some (.deferred (some [])) → Q .normal { a with defers := { target := .collected w.heap.size, args := #[] } :: a.defers } W) :
    (Code.rangeFunc g #[p] assign body).wpIn Fence.wide n Tryz.prog Q a w := by
  obtain ⟨D, hD⟩ : ∃ D, D = w.heap.size := ⟨_, rfl⟩
  rw [← hD] at hI hassign hbody hdone
  refine wpIn_rangeFunc ?_
  intro fn hfn
  rw [Fence.wide_round]
  obtain ⟨rec, hrec⟩ : ∃ rec : LoopState → Option Code → Loop, rec = fun st pe => { state := st, pending := pe, fn, tmps := a.tmps, params := #[p], assign, body, defers := w.heap.size } := ⟨_, rfl⟩
  obtain ⟨W1, hW1⟩ : ∃ W1, (w.alloc (.deferred (some []))).alloc (.loop (rec .ready none)) = W1 := ⟨_, rfl⟩
  have hL1 : W1.heap[D + 1]? = some (.loop (rec .ready none)) := by
    rw [← hW1, hD]; have := World.alloc_heap_new (w.alloc (.deferred (some []))) (.loop (rec .ready none)); rwa [World.size_alloc] at this
  have hK1 : W1.heap[D]? = some (.deferred (some [])) := by
    rw [← hW1, hD]; exact (Below.heap_alloc _ _ _ (by simp)).trans (World.alloc_heap_new w _)
  have hI1 : I [] W1 := by rw [← hW1]; exact hI _ _ _ (hI _ _ _ h0 (Upd.alloc _ _ _)) (Upd.alloc _ _ _)
  have hb1 : Below w.heap.size w W1 := by
    rw [← hW1]; exact ((Below.refl _ w).alloc (Nat.le_refl _) _).alloc (by simp) _
  have hP1 : Pla W1 P 5 := hP.below hb1
  have hlow : ∀ {A B : World}, Pla A P 5 → Below n₀ A B → Pla B P 5 := fun h hb => (hb.cell (p := ⟨P, 0, none⟩) hPn).trans h
  refine ⟨D + 1, [{ target := .collected D, args := #[] }], W1, { target := .fn (.func 71) #[], args := #[.pointer (some ⟨P, 0, none⟩), .func (.yield (D + 1)) #[] #[]] }, W1, 71,
    #[.pointer (some ⟨P, 0, none⟩), .func (.yield (D + 1)) #[] #[]], W1, ?_, ?_, ?_, ?_, fun h => (by cases h), ?_⟩
  · rw [← hW1, hrec, hD]; exact run_enterLoop_outer _ _ _ _ _
  · simp only [resolve, hg]
    simp [go_sem]
  · intro f' _; trivial
  · simp [invoke, go_sem]
  · refine (classes_in (n - 1) (D + 1) P n₀
      (fun pre W => I pre W ∧ W.heap[D + 1]? = some (.loop (rec .ready none)) ∧ W.heap[D]? = some (.deferred (some [])) ∧ Pla W P 5)
      ?_ ?_ W1 hP1 hPn ⟨hI1, hL1, hK1, hP1⟩).mono ?_
    · rintro pre A B ⟨h1, h2, h3, h4⟩ hb
      exact ⟨hI _ _ _ h1 (Upd.of_below hb), (hb.block _ (Array.getElem?_eq_some_iff.1 h2).1).trans h2, (hb.block _ (Array.getElem?_eq_some_iff.1 h3).1).trans h3, h4.below hb⟩
    · -- one round
      rintro pre x W ⟨hi, hl, hk, hPW⟩ hpx
      have hlt : D + 1 < W.heap.size := (Array.getElem?_eq_some_iff.1 hl).1
      have hy := run_yield (P := Tryz.prog) (args := #[clV x]) hl (by rw [hrec]; rfl)
      rw [hrec] at hy
      have hz : ((#[p] : Array Tmp).zip #[clV x]) = #[(p, clV x)] := by simp
      dsimp only at hy
      rw [hz, List.foldl_toArray, List.foldl_cons, List.foldl_nil] at hy
      refine ⟨fn, _, assign, body, hy, roundIn_of_wpIn hfn ?_⟩
      have hkey := hassign x W (fun a₁ w₁ => ∃ w₂, (Instr.beginRound (D + 1)).run Tryz.prog w₁ = .ok () w₂ ∧ body.wpIn (Fence.wide.inRound (D + 1)) (n - 1 - 1) Tryz.prog (roundPost Tryz.prog (D + 1) (fun e W' =>
        e = .returned (.bool true) ∧ (I (pre ++ [x]) W' ∧ W'.heap[D + 1]? = some (.loop (rec .ready none)) ∧ W'.heap[D]? = some (.deferred (some [])) ∧ Pla W' P 5) ∧ Below n₀ W W')) a₁ w₂)
      have hlA : (W.alloc (clObj x)).heap[D + 1]? = some (.loop (rec .ready none)) := (Below.heap_alloc _ _ _ hlt).trans hl
      refine hkey ⟨_, run_beginRound hlA (by rw [hrec]), ?_⟩
      have hkA : (W.alloc (clObj x)).heap[D]? = some (.deferred (some [])) := (Below.heap_alloc _ _ _ (by omega)).trans hk
      have hNA : (W.alloc (clObj x)).heap[W.heap.size]? = some (clObj x) := World.alloc_heap_new W _
      have hiA : I pre (W.alloc (clObj x)) := hI _ _ _ hi (Upd.alloc _ _ _)
      have hbA : Below W.heap.size W (W.alloc (clObj x)) := (Below.refl _ _).alloc (Nat.le_refl _) _
      have hPA : Pla (W.alloc (clObj x)) P 5 := hPW.below hbA
      obtain ⟨W2, hW2⟩ : ∃ W2, W2 = (W.alloc (clObj x)).putObj (D + 1) (.loop { rec .ready none with state := .busy }) := ⟨_, rfl⟩
      rw [← hW2]
      have hltA : D + 1 < (W.alloc (clObj x)).heap.size := by rw [World.size_alloc]; omega
      have hl2 : W2.heap[D + 1]? = some (.loop { rec .ready none with state := .busy }) := by rw [hW2]; exact World.putObj_heap_same hltA
      have hk2 : W2.heap[D]? = some (.deferred (some [])) := by rw [hW2]; exact (World.putObj_heap_other (by omega)).trans hkA
      have hN2 : W2.heap[W.heap.size]? = some (clObj x) := by rw [hW2]; exact (World.putObj_heap_other (by omega)).trans hNA
      have hi2 : I pre W2 := by rw [hW2]; exact hI _ _ _ hiA (Upd.putObj _ (.inr rfl) _)
      have hb2 : Below n₀ W W2 := by
        rw [hW2]
        exact (hbA.mono (by omega)).trans ((Upd.putObj (S := fun b => b = D + 1) _ rfl _).below (by rw [World.size_alloc]; omega) (fun k hk => by omega))
      have hP2 : Pla W2 P 5 := hlow hPW hb2
      have hend : ∀ (st : LoopState) (pe : Option Code) (W3 : World), KpC n₀ D W2 W3 → (W3.putObj (D + 1) (.loop (rec st pe))).heap[D + 1]? = some (.loop (rec st pe)) ∧ (W3.putObj (D + 1) (.loop (rec st pe))).heap[D]? = some (.deferred (some [])) ∧ Below n₀ W (W3.putObj (D + 1) (.loop (rec st pe))) := fun st pe W3 hkp => by
        have h3 := hkp.loop.trans hl2
        have hs3 := (Array.getElem?_eq_some_iff.1 h3).1
        exact ⟨World.putObj_heap_same hs3, (World.putObj_heap_other (by omega)).trans (hkp.mark.trans hk2), (hb2.trans hkp.low).trans ((Upd.putObj (S := fun b => b = D + 1) _ rfl _).below (by omega) (fun k hk => by omega))⟩
      refine wpIn_mono (hbody pre x W W2 hi2 hpx hN2 (by omega) hP2) ?_
      rintro e a3 W3 hp
      cases e with
      | normal =>
        obtain ⟨hkp, hi3⟩ := hp
        obtain ⟨h4, h5, h6⟩ := hend .ready none W3 hkp
        have hr := run_endRound (P := Tryz.prog) none (hkp.loop.trans hl2)
        rw [hrec] at hr h4 h5 h6
        refine ⟨_, _, hr, rfl, ⟨hI _ _ _ hi3 (Upd.putObj _ (.inr rfl) _), ?_, h5, hlow hPW h6⟩, h6⟩
        rw [hrec]
        exact h4
      | ret => exact hp.elim
      | exit id => exact hp.elim
      | goto t => exact hp.elim
      | panic ch => exact hp.elim
      | outgrown => exact hp.elim
    · -- behind the iterator
      rintro e W2 ⟨⟨v, rfl⟩, hi, hl, hk, _⟩
      refine ⟨none, _, by have := run_endLoop (P := Tryz.prog) hl (by rw [hrec]; simp); rw [hrec] at this; exact this, ?_⟩
      exact hdone _ (hI _ _ _ hi (Upd.putObj _ (.inr rfl) _)) ((World.putObj_heap_other (by omega)).trans hk)
end Go.Proofs.YtefcdclmabdmbaaGreatDoor
