/- Package graph: the plane of a prime: mod. References for Cayley graphs: Mod, the inverse, isSquare, class at q = 5. Regions that draw their order, gone through by a tree; some operations (the stores at the end) need not keep what was read. Package graph: the plane of a prime: times. Package graph: the plane of a prime: matrix. Cayley graphs (plain): the reference's square test and the symbol agree at q in {5, 13, 17}. -/
import Derived.Test.YtefcdclmabdmbaaGreatDoorKh
import Derived.Test.YtefcdclmabdmbaaGreatDoorKf
import Derived.IntWalk
import Derived.Deep.RegionHeld
namespace Go.Proofs.YtefcdclmabdmbaaGreatDoor
open Go.RowKit

/-- A plane at P: q, and the slice of inverses. -/
def Pla (w : World) (P q : Nat) : Prop := w.cell? ⟨P, 0, none⟩ = some (.int .i64 (q : Nat))
theorem Pla.below {w w' : World} {P q : Nat} (h : Pla w P q) (hb : Below w.heap.size w w') : Pla w' P q := (hb.cell (p := ⟨P, 0, none⟩) (cell_some_lt h)).trans h

theorem tmod_add (n : Int) {q : Nat} (hq : 0 < q) : (n.tmod (q : Int) + q).tmod q = n % (q : Int) := by
  have he := emod_of n (m := (q : Int)) (by omega)
  have h4 := Int.emod_nonneg n (show (q : Int) ≠ 0 by omega)
  have h5 := Int.emod_lt_of_pos n (show (0 : Int) < q by omega)
  split at he
  · rw [← he, Int.tmod_eq_emod_of_nonneg h4, Int.emod_eq_of_lt h4 h5]
  · rw [← he, Int.tmod_eq_emod_of_nonneg (by omega), Int.add_emod_right, Int.emod_eq_of_lt h4 h5]
set_option maxRecDepth 100000 in
set_option maxHeartbeats 2000000 in
theorem pmod_any {w : World} {P q : Nat} {n : Int} (h : Pla w P q) (hq : 0 < q) (hq2 : q ≤ 2500) :
    Calls Tryz.prog 136 #[.pointer (some ⟨P, 0, none⟩), .int .i64 n] w fun e w' => e = .returned (.int .i64 (n % (q : Int))) ∧ Below w.heap.size w w' := by
  have h' : w.cell? ⟨P, 0, none⟩ = some (.int .i64 (q : Nat)) := h
  have z0 : ((q : Int) == 0) = false := by rw [beq_eq_false_iff_ne]; omega
  have z1 : ((q : Int) == -1) = false := by rw [beq_eq_false_iff_ne]; omega
  have z2 : ¬ (q = 0) := by omega
  have he := emod_of n (m := (q : Int)) (by omega)
  have h4 := Int.emod_nonneg n (show (q : Int) ≠ 0 by omega)
  have h5 := Int.emod_lt_of_pos n (show (0 : Int) < q by omega)
  have hl : -(q : Int) ≤ n.tmod q ∧ n.tmod q < q := by
    generalize n.tmod (q : Int) = r at *
    generalize n % (q : Int) = s at *
    split at he <;> omega
  have hT := tmod_add n hq
  have w0 : IntKind.i64.wrap (n.tmod q) = n.tmod q := IntWalk.i64_in _ (by omega)
  have w1 : IntKind.i64.wrap (n.tmod q + q) = n.tmod q + q := IntWalk.i64_in _ (by omega)
  have w2 : IntKind.i64.wrap ((n.tmod q + q).tmod q) = (n.tmod q + q).tmod q := by rw [hT]; exact IntWalk.i64_in _ (by omega)
  have HT2 := Lib.hid (show (n.tmod (q : Int) + q) % (q : Int) = n % (q : Int) by rw [← hT]; exact (Int.tmod_eq_emod_of_nonneg (a := n.tmod (q : Int) + q) (b := (q : Int)) (by omega)).symm)
  clear he hT
  rw [← HT2.out]
  go_enter Tryz.func136, Tryz.ntmps136
  go_wp2_with fail
  go_quiet (fail)
  go_wp2_with fail
  go_ret
  exact ⟨rfl, below_drewN' (Below.refl _ _) _⟩

theorem below_alP {a b : World} (h : Below a.heap.size a b) (o : Obj) : Below a.heap.size a (b.alloc o) := h.alloc h.size o
theorem mul_le6 {a b : Int} (ha : a.natAbs ≤ 1000000) (hb : b.natAbs ≤ 1000000) : (a * b).natAbs ≤ 1000000000000 := by
  rw [Int.natAbs_mul]
  exact Nat.mul_le_mul ha hb
set_option maxRecDepth 100000 in
set_option maxHeartbeats 2000000 in
theorem pdet_any {w : World} {P q : Nat} {a b c d : Int} (h : Pla w P q) (hq : 0 < q) (hq2 : q ≤ 2500) (ha : a.natAbs ≤ 1000000) (hb : b.natAbs ≤ 1000000) (hc : c.natAbs ≤ 1000000) (hd : d.natAbs ≤ 1000000) :
    Calls Tryz.prog 72 #[.pointer (some ⟨P, 0, none⟩), .agg #[.int .i64 a, .int .i64 b, .int .i64 c, .int .i64 d]] w fun e w' => e = .returned (.int .i64 ((a * d - b * c) % (q : Int))) ∧ Below w.heap.size w w' := by
  have h1 := mul_le6 ha hd
  have h2 := mul_le6 hb hc
  have w0 : IntKind.i64.wrap (a * d) = a * d := IntWalk.i64_in _ (by omega)
  have w1 : IntKind.i64.wrap (b * c) = b * c := IntWalk.i64_in _ (by omega)
  have w2 : IntKind.i64.wrap (a * d - b * c) = a * d - b * c := IntWalk.i64_in _ (by omega)
  have hb0 := below_alP (Below.refl w.heap.size w) (.cells #[.int .i64 a, .int .i64 b, .int .i64 c, .int .i64 d] 105)
  have HM := Lib.hid (pmod_any (n := a * d - b * c) (h.below hb0) hq hq2)
  clear h
  go_enter Tryz.func72, Tryz.ntmps72
  go_wp2_with (go_at_call 136; go_must (refine HM.out.mono ?_); rintro e w1 ⟨rfl, hb1⟩)
  go_ret
  exact ⟨rfl, hb0.trans (hb1.mono hb0.size)⟩
set_option maxRecDepth 100000 in
theorem psquare_any {w : World} {P q : Nat} {n : Int} (h : Pla w P q) (hp : primeI (q : Int) = true) (h2 : q ≠ 2) :
    Calls Tryz.prog 70 #[.pointer (some ⟨P, 0, none⟩), .int .i64 n] w fun e w' => e = .returned (.bool (jac (n % (q : Int)).toNat q == 1)) ∧ w = w' := by
  have h' : w.cell? ⟨P, 0, none⟩ = some (.int .i64 (q : Nat)) := h
  have HL := Lib.hid (fun w => Legendre_any (w := w) (a := n) hp h2)
  clear h hp h2
  generalize jac (n % (q : Int)).toNat q = j at *
  go_enter Tryz.func70, Tryz.ntmps70
  go_wp2_with (go_at_call 134; go_must (refine (HL.out _).mono ?_); rintro e w1 ⟨rfl, rfl⟩)
  go_ret
  exact ⟨rfl, rfl⟩

set_option maxRecDepth 100000 in
set_option maxHeartbeats 2000000 in
theorem proot5_any {w : World} {P : Nat} (h : Pla w P 5) :
    Calls Tryz.prog 67 #[.pointer (some ⟨P, 0, none⟩)] w fun e w' => e = .returned (.int .i64 2) ∧ Below w.heap.size w w' := by
  have HP := Lib.hid h
  clear h
  go_enter Tryz.func67, Tryz.ntmps67
  go_wp2_with fail
  go_loopw [3] (fun uv wr => ∃ u : Nat, uv = .int .i64 (u : Nat) ∧ (u = 1 ∨ u = 2) ∧ Below w.heap.size w wr) (fun uv _ => 2 - (intOf uv).toNat)
  case atStart => exact ⟨1, rfl, .inl rfl, Below.refl _ _⟩
  case round =>
    obtain ⟨u, rfl, hu, hbr⟩ := hrel
    rcases hu with rfl | rfl
    · have HM := Lib.hid (pmod_any (n := 2) (HP.out.below hbr) (by omega) (by omega))
      go_wp2_with (go_at_call 136; go_must (refine HM.out.mono ?_); rintro e w1 ⟨rfl, hb1⟩)
      go_roundw
      case rel => exact ⟨2, rfl, .inr rfl, hbr.trans (hb1.mono hbr.size)⟩
      case measure => simp [intOf]
    · have HM := Lib.hid (pmod_any (n := 5) (HP.out.below hbr) (by omega) (by omega))
      go_wp2_with (go_at_call 136; go_must (refine HM.out.mono ?_); rintro e w1 ⟨rfl, hb1⟩)
      go_ret
      exact ⟨rfl, hbr.trans (hb1.mono hbr.size)⟩
end Go.Proofs.YtefcdclmabdmbaaGreatDoor

namespace Go.Proofs.YtefcdclmabdmbaaGreatDoor
open Go.RowKit

set_option maxHeartbeats 1000000 in
theorem bMod_any {w : World} {a : Int} {m : Nat} (hm : 0 < m) (hm2 : m ≤ 1000000000) : Calls Tryz.prog 25 #[.int .i64 a, .int .i64 (m : Nat)] w fun e w' => e = .returned (.int .i64 (a % (m : Int))) ∧ w = w' := by
  have he := emod_of a (m := (m : Int)) (by omega)
  have hl : -(m : Int) ≤ a.tmod m ∧ a.tmod m < m := by
    have h4 := Int.emod_nonneg a (show (m : Int) ≠ 0 by omega)
    have h5 := Int.emod_lt_of_pos a (show (0 : Int) < m by omega)
    generalize a.tmod (m : Int) = r at *
    generalize a % (m : Int) = q at *
    split at he <;> omega
  have HE := Lib.hid he
  have h9 : ((m : Int) == 0) = false := beq_eq_false_iff_ne.2 (by omega)
  have h10 : ((m : Int) == -1) = false := beq_eq_false_iff_ne.2 (by omega)
  have h8 : ¬ ((m : Int) = 0) := by omega
  have h7 : ¬ (m = 0) := by omega
  have hw0 : IntKind.i64.wrap (a.tmod m) = a.tmod m := IntWalk.i64_in _ (by omega)
  have hw1 : IntKind.i64.wrap (a.tmod m + m) = a.tmod m + m := IntWalk.i64_in _ (by omega)
  clear he
  by_cases h : a.tmod (m : Int) < 0
  · have hd : decide (a.tmod (m : Int) < 0) = true := decide_eq_true h
    have HE2 := Lib.hid (show a % (m : Int) = a.tmod m + m by rw [HE.out, if_pos h])
    clear hl
    go_enter Tryz.func25, Tryz.ntmps25
    go_wp2_with fail
    go_ret
    exact ⟨by rw [HE2.out]; rfl, rfl⟩
  · have hd : decide (a.tmod (m : Int) < 0) = false := decide_eq_false h
    have HE2 := Lib.hid (show a % (m : Int) = a.tmod m by rw [HE.out, if_neg h])
    clear hl
    go_enter Tryz.func25, Tryz.ntmps25
    go_wp2_with fail
    go_ret
    exact ⟨by rw [HE2.out]; rfl, rfl⟩
set_option maxHeartbeats 1000000 in
theorem rMod_any {w : World} {a : Int} {m : Nat} (hm : 0 < m) (hm2 : m ≤ 1000000000) : Calls Tryz.prog 200 #[.int .i64 a, .int .i64 (m : Nat)] w fun e w' => e = .returned (.int .i64 (a % (m : Int))) ∧ w = w' := by
  have HM := Lib.hid (fun w => bMod_any (w := w) (a := a) hm hm2)
  have he := emod_of a (m := (m : Int)) (by omega)
  have hl : -(m : Int) ≤ a.tmod m ∧ a.tmod m < m := by
    have h4 := Int.emod_nonneg a (show (m : Int) ≠ 0 by omega)
    have h5 := Int.emod_lt_of_pos a (show (0 : Int) < m by omega)
    generalize a.tmod (m : Int) = r at *
    generalize a % (m : Int) = q at *
    split at he <;> omega
  have HE := Lib.hid he
  have h9 : ((m : Int) == 0) = false := beq_eq_false_iff_ne.2 (by omega)
  have h10 : ((m : Int) == -1) = false := beq_eq_false_iff_ne.2 (by omega)
  have h8 : ¬ ((m : Int) = 0) := by omega
  have h7 : ¬ (m = 0) := by omega
  have hw0 : IntKind.i64.wrap (a.tmod m) = a.tmod m := IntWalk.i64_in _ (by omega)
  have hw1 : IntKind.i64.wrap (a.tmod m + m) = a.tmod m + m := IntWalk.i64_in _ (by omega)
  clear he
  by_cases h : a.tmod (m : Int) < 0
  · have hd : decide (a.tmod (m : Int) < 0) = true := decide_eq_true h
    have HE2 := Lib.hid (show a % (m : Int) = a.tmod m + m by rw [HE.out, if_pos h])
    clear hl
    go_enter Tryz.func200, Tryz.ntmps200
    go_wp2_with (go_at_call 25; go_must (refine (HM.out _).mono ?_); rintro e w1 ⟨rfl, rfl⟩)
    go_ret
    exact ⟨by rw [HE2.out]; rfl, rfl⟩
  · have hd : decide (a.tmod (m : Int) < 0) = false := decide_eq_false h
    have HE2 := Lib.hid (show a % (m : Int) = a.tmod m by rw [HE.out, if_neg h])
    clear hl
    go_enter Tryz.func200, Tryz.ntmps200
    go_wp2_with (go_at_call 25; go_must (refine (HM.out _).mono ?_); rintro e w1 ⟨rfl, rfl⟩)
    go_ret
    exact ⟨by rw [HE2.out]; rfl, rfl⟩
theorem rIsModulus_yes {w : World} {m : Nat} (hm0 : 0 < m) (hm : m ≤ 1000000000) : Calls Tryz.prog 199 #[.int .i64 (m : Nat)] w fun e w' => e = .returned (.bool true) ∧ w = w' := by
  have z1 : decide ((1 : Int) ≤ (m : Int)) = true := decide_eq_true (by omega)
  have z2 : decide ((m : Int) ≤ 1000000000) = true := decide_eq_true (by omega)
  have z3 : 0 < m := hm0
  have z4 : 1 ≤ m := hm0
  have HW := Lib.hid (fun (w : World) => show Calls Tryz.prog 229 #[.int .i64 (m : Nat), .int .i64 1, .int .i64 1000000000] w fun e w' => e = .returned (.bool true) ∧ w = w' by
    go_enter Tryz.func229, Tryz.ntmps229
    go_wp2_with fail
    go_ret
    exact ⟨rfl, rfl⟩)
  go_enter Tryz.func199, Tryz.ntmps199
  go_wp2_with (go_at_call 229; go_must (refine (HW.out _).mono ?_); rintro e w1 ⟨rfl, rfl⟩)
  go_ret
  exact ⟨rfl, rfl⟩
/-- The steps of the reference's inverse. -/
def invG : Nat → Int → Int → Int → Int → Option Int
  | 0, _, _, _, _ => none
  | f + 1, a, b, x, y => if b = 0 then (if a = 1 then some x else none) else if 0 ≤ a ∧ a ≤ 1000000000 ∧ 0 ≤ b ∧ b ≤ 1000000000 ∧ -1000000000 ≤ x ∧ x ≤ 1000000000 ∧ -1000000000 ≤ y ∧ y ≤ 1000000000 ∧ -1000000000000000000 ≤ a / b * y ∧ a / b * y ≤ 1000000000000000000 then invG f b (a - a / b * b) y (x - a / b * y) else none
theorem invG_step {f : Nat} {a b x y r : Int} (h : invG f a b x y = some r) (hb : b ≠ 0) : ∃ f', (0 ≤ a ∧ a ≤ 1000000000 ∧ 0 ≤ b ∧ b ≤ 1000000000 ∧ -1000000000 ≤ x ∧ x ≤ 1000000000 ∧ -1000000000 ≤ y ∧ y ≤ 1000000000 ∧ -1000000000000000000 ≤ a / b * y ∧ a / b * y ≤ 1000000000000000000) ∧ invG f' b (a - a / b * b) y (x - a / b * y) = some r := by
  cases f with
  | zero => cases h
  | succ f =>
    rw [invG, if_neg hb] at h
    split at h
    · rename_i h1; exact ⟨f, h1, h⟩
    · cases h
theorem invG_stop {f : Nat} {a x y r : Int} (h : invG f a 0 x y = some r) : a = 1 ∧ r = x := by
  cases f with
  | zero => cases h
  | succ f =>
    rw [invG, if_pos rfl] at h
    split at h
    · rename_i h1; injection h with h; exact ⟨h1, h.symm⟩
    · cases h
set_option maxRecDepth 100000 in
set_option maxHeartbeats 2000000 in
theorem rInverse_any {w : World} {a r : Int} {m f : Nat} (hm0 : 0 < m) (hm : m ≤ 1000000000) (h : invG f (a % (m : Int)) m 1 0 = some r) : Calls Tryz.prog 141 #[.int .i64 a, .int .i64 (m : Nat)] w fun e w' => e = .returned (.tuple #[.int .i64 (r % (m : Int)), .int .i64 0]) ∧ w = w' := by
  have HM := Lib.hid (fun w a => rMod_any (w := w) (a := a) hm0 hm)
  have HMo := Lib.hid (fun w => rIsModulus_yes (w := w) hm0 hm)
  have HI := Lib.hid h
  clear h
  generalize hx0 : a % (m : Int) = x0 at *
  have HX := Lib.hid hx0
  clear hx0
  go_enter Tryz.func141, Tryz.ntmps141
  go_wp2_with (first
    | (go_at_call 199; go_must (refine (HMo.out _).mono ?_); rintro e w1 ⟨rfl, rfl⟩)
    | (go_at_call 200; go_must (refine (HM.out _ _).mono ?_); rintro e w1 ⟨rfl, rfl⟩; rw [HX.out]))
  go_loopw [6, 7, 8, 9] (fun av bv xv yv wr => ∃ (f : Nat) (x y A B : Int), xv = .int .i64 x ∧ yv = .int .i64 y ∧ av = .int .i64 A ∧ bv = .int .i64 B ∧ 0 ≤ B ∧ Hid (invG f A B x y = some r) ∧ w = wr) (fun _ bv _ _ _ => (intOf bv).toNat)
  case atStart => exact ⟨f, 1, 0, x0, m, rfl, rfl, rfl, rfl, by omega, HI, rfl⟩
  case round =>
    clear HI HX
    obtain ⟨f, x, y, A, B, rfl, rfl, rfl, rfl, hB0, HI, rfl⟩ := hrel
    by_cases hB : B = 0
    · subst hB
      obtain ⟨e1, e2⟩ := invG_stop HI.out
      have HE := Lib.hid e2
      subst e1
      clear HI e2
      go_wp2_with (go_at_call 200; go_must (refine (HM.out _ _).mono ?_); rintro e w1 ⟨rfl, rfl⟩)
      go_ret2
      exact ⟨by rw [HE.out]; rfl, rfl⟩
    · obtain ⟨f', ⟨h1, h2, h3, h4, h5, h6, h7, h8, h9, h10⟩, hn⟩ := invG_step HI.out hB
      have HN := Lib.hid hn
      have y0 : (B == 0) = false := by rw [beq_eq_false_iff_ne]; exact hB
      have y1 : decide (0 < B) = true := decide_eq_true (by omega)
      have y2 : (B == -1) = false := by rw [beq_eq_false_iff_ne]; omega
      have hq : A.tdiv B = A / B := Int.tdiv_eq_ediv_of_nonneg h1
      have hq0 : 0 ≤ A / B := Int.ediv_nonneg h1 h3
      have hqB : A / B * B ≤ A := Int.ediv_mul_le A hB
      have hqB2 : 0 ≤ A / B * B := Int.mul_nonneg hq0 h3
      have hqA : A / B ≤ A := Int.ediv_le_self B h1
      have hlt := Int.lt_ediv_add_one_mul_self A (show 0 < B by omega)
      have hr : A - A / B * B < B := by rw [Int.add_mul] at hlt; omega
      generalize hqq : A / B = q at *
      have HQ := Lib.hid hqq
      clear hqq hn
      have w0 : IntKind.i64.wrap q = q := IntWalk.i64_in _ (by omega)
      have w1 : IntKind.i64.wrap (q * B) = q * B := IntWalk.i64_in _ (by omega)
      have w2 : IntKind.i64.wrap (A - q * B) = A - q * B := IntWalk.i64_in _ (by omega)
      have w3 : IntKind.i64.wrap (q * y) = q * y := IntWalk.i64_in _ (by omega)
      have w4 : IntKind.i64.wrap (x - q * y) = x - q * y := IntWalk.i64_in _ (by omega)
      clear HI
      go_wp2_with fail
      exact ⟨⟨f', y, x - q * y, B, A - q * B, rfl, rfl, rfl, rfl, by omega, HN, trivial⟩, by simp only [intOf]; omega⟩

/-! isSquare -/
def sqM (n : Int) (q : Nat) : Bool := (List.range q).any fun x => decide (1 ≤ x) && decide (((x : Int) * x - n) % (q : Int) = 0)
theorem sqM_mod (n : Int) (q : Nat) : sqM n q = sqM (n % (q : Int)) q := by
  unfold sqM
  congr 1
  funext x
  rw [Int.sub_emod, Int.sub_emod ((x : Int) * x) (n % (q : Int)), Int.emod_emod]
theorem sqM_hit {n : Int} {q x : Nat} (h1 : 1 ≤ x) (h2 : x < q) (h : ((x : Int) * x - n) % (q : Int) = 0) : sqM n q = true := by
  unfold sqM
  rw [List.any_eq_true]
  exact ⟨x, List.mem_range.2 h2, by simp [h1, h]⟩
theorem sqM_miss {n : Int} {q : Nat} (h : ∀ x : Nat, 1 ≤ x → x < q → ((x : Int) * x - n) % (q : Int) ≠ 0) : sqM n q = false := by
  rw [Bool.eq_false_iff]
  intro h2
  unfold sqM at h2
  rw [List.any_eq_true] at h2
  obtain ⟨x, hx, h3⟩ := h2
  simp only [Bool.and_eq_true, decide_eq_true_eq] at h3
  exact h x h3.1 (List.mem_range.1 hx) h3.2
def SqR (w : World) (n : Int) (q : Nat) (e : Ending) (w' : World) : Prop := e = .returned (.bool (sqM n q)) ∧ w = w'
set_option maxRecDepth 100000 in
set_option maxHeartbeats 2000000 in
theorem isSquare_any {w : World} {n : Int} {q : Nat} (hq0 : 0 < q) (hq : q ≤ 40) (hn : -1000000000 ≤ n ∧ n ≤ 1000000000) : Calls Tryz.prog 63 #[.int .i64 n, .int .i64 (q : Nat)] w (SqR w n q) := by
  have HM := Lib.hid (fun w a => bMod_any (w := w) (a := a) hq0 (by omega))
  obtain ⟨hn1, hn2⟩ := hn
  go_enter Tryz.func63, Tryz.ntmps63
  go_wp2_with fail
  go_loopw [5] (fun xv wr => ∃ x : Nat, xv = .int .i64 (x : Nat) ∧ 1 ≤ x ∧ (∀ y : Nat, 1 ≤ y → y < x → ((y : Int) * y - n) % (q : Int) ≠ 0) ∧ w = wr) (fun xv _ => q - (intOf xv).toNat)
  case atStart => exact ⟨1, rfl, by omega, fun y h1 h2 => by omega, rfl⟩
  case round =>
    obtain ⟨x, rfl, hx1, hno, rfl⟩ := hrel
    have HNO := Lib.hid hno
    clear hno
    by_cases hx : x < q
    · have hxx : (x : Int) * x ≤ 1600 := by
        have : x * x ≤ 40 * 40 := Nat.mul_le_mul (by omega) (by omega)
        have e : ((x * x : Nat) : Int) = (x : Int) * x := Int.natCast_mul x x
        omega
      have hxx0 : (0 : Int) ≤ (x : Int) * x := Int.mul_nonneg (by omega) (by omega)
      have w0 : IntKind.i64.wrap ((x : Int) * x) = (x : Int) * x := IntWalk.i64_in _ (by omega)
      have w1 : IntKind.i64.wrap ((x : Int) * x - n) = (x : Int) * x - n := IntWalk.i64_in _ (by omega)
      by_cases hz : ((x : Int) * x - n) % (q : Int) = 0
      · have HS := Lib.hid (sqM_hit hx1 hx hz)
        have HZ := Lib.hid hz
        clear hz
        go_wp2_with (go_at_call 25; go_must (refine (HM.out _ _).mono ?_); rintro e w2 ⟨rfl, rfl⟩; rw [HZ.out])
        go_ret
        exact ⟨by rw [HS.out]; rfl, rfl⟩
      · have HZ := Lib.hid hz
        obtain ⟨z, hzz⟩ : ∃ z, z = ((x : Int) * x - n) % (q : Int) := ⟨_, rfl⟩
        have hz2 : (z == 0) = false := by rw [hzz, beq_eq_false_iff_ne]; exact hz
        have hz3 : ¬ z = 0 := by rw [hzz]; exact hz
        have HZZ := Lib.hid hzz
        clear hz hzz
        go_wp2_with (go_at_call 25; go_must (refine (HM.out _ _).mono ?_); rintro e w2 ⟨rfl, rfl⟩; rw [← HZZ.out])
        go_roundw
        case rel => exact ⟨x + 1, by go_num, by omega, fun y h1 h2 => by
          rcases Nat.lt_or_ge y x with h3 | h3
          · exact HNO.out y h1 h3
          · obtain rfl : y = x := by omega
            exact HZ.out, trivial⟩
        case measure => simp [intOf]; omega
    · have HS := Lib.hid (sqM_miss (n := n) (q := q) fun y h1 h2 => HNO.out y h1 (by omega))
      go_wp2_with fail
      go_ret
      exact ⟨by rw [HS.out]; rfl, rfl⟩
end Go.Proofs.YtefcdclmabdmbaaGreatDoor

namespace Go.Proofs.YtefcdclmabdmbaaGreatDoor
open Go.RowKit

section
variable {P : Program} {ops : Array Oper} {Q : Exit → Act → World → Prop} {md : Region.Mode}
end
theorem put_some {a : Act} {o : Oper} {d : Nat} {v : Value} (hd : o.dst = some d) : a.put o.dst v = { a with tmps := a.tmps.setIfInBounds d v } := by rw [hd]; rfl
inductive Trg where
  | nil
  | pure (i : Nat) (r : Trg)
  | read (i : Nat) (r : Trg)
  | step (i : Nat) (r : Trg)
  | two (i j : Nat) (r s : Trg)
def Trg.deep : Trg → Nat
  | .nil => 0
  | .pure _ r => r.deep + 1
  | .read _ r => r.deep + 1
  | .step _ r => r.deep + 1
  | .two _ _ r _ => r.deep + 1
section
variable {P : Program} {ops : Array Oper} {Q : Exit → Act → World → Prop} {md : Region.Mode} {S : World → Prop} {Z : List Nat}
/-- Whatever order is picked, and S holds behind each operation but those of Z. -/
def wpAnyG (P : Program) (md : Region.Mode) (ops : Array Oper) (Q : Exit → Act → World → Prop) (S : World → Prop) (Z : List Nat) : Nat → Array Bool → Act → World → Prop
  | 0, listed, a, w => Region.ready md ops listed = [] ∧ Q .normal a w
  | fuel + 1, listed, a, w =>
    (Region.ready md ops listed = [] → Q .normal a w) ∧
    ∀ i ∈ Region.ready md ops listed, wpOp P ops Q i (fun a' w' => (Z.contains i = false → S w') ∧ wpAnyG P md ops Q S Z fuel (listed.setIfInBounds i true) a' w') a w
theorem wpAny_of_G : ∀ (fuel : Nat) (listed : Array Bool) (a : Act) (w : World), wpAnyG P md ops Q S Z fuel listed a w → wpAny P md ops Q fuel listed a w
  | 0, _, _, _, h => h
  | fuel + 1, _, _, _, h => ⟨h.1, fun i hi => wpOp_mono (fun a' w' h' => wpAny_of_G fuel _ a' w' h'.2) (h.2 i hi)⟩
/-- Each operation of Z has been done, or waits for number i. -/
def waitB (md : Region.Mode) (ops : Array Oper) (Z : List Nat) (listed : Array Bool) (i : Nat) : Bool :=
  Z.all fun z => listed.getD z true || (match ops[z]? with | none => true | some o => o.after.any fun e => Region.binds md e && e.on == i)
theorem waitB_spec {listed : Array Bool} {i j : Nat} (h : waitB md ops Z listed i = true) (hun : listed.getD i true = false) (hj : j ∈ Region.ready md ops listed) : Z.contains j = false := by
  cases hz : Z.contains j
  · rfl
  · obtain ⟨hju, o, ho, hall⟩ := mem_ready.1 hj
    have h1 := List.all_eq_true.1 h j (by simpa using hz)
    rw [hju, ho] at h1
    simp only [Bool.false_or] at h1
    obtain ⟨e, he, h2⟩ := Array.any_eq_true'.1 h1
    simp only [Bool.and_eq_true, beq_iff_eq] at h2
    have h3 := hall e he h2.1
    rw [h2.2] at h3
    rcases Nat.lt_or_ge i listed.size with h' | h'
    · simp [h'] at hun h3; rw [hun] at h3; cases h3
    · simp [Array.getElem?_eq_none h'] at h3
theorem waitB_mono {listed : Array Bool} {i j : Nat} (h : waitB md ops Z listed i = true) : waitB md ops Z (listed.setIfInBounds j true) i = true := by
  refine List.all_eq_true.2 fun z hz => ?_
  have h1 := List.all_eq_true.1 h z hz
  rw [Bool.or_eq_true] at h1 ⊢
  rcases h1 with h1 | h1
  · left
    by_cases hjz : j = z
    · subst hjz
      rcases Nat.lt_or_ge j listed.size with h' | h'
      · simp [h']
      · simp
    · rw [getD_set_ne true hjz]; exact h1
  · exact .inr h1

theorem wpAnyG_first {T : World → Prop} {i : Nat} {oi : Oper} {v : Value} (hi : ops[i]? = some oi) (hsel : ∀ (j : Nat) (o : Oper) cs b, ops[j]? = some o → o.op ≠ .select cs b)
    (hQ : ∀ c a w, Q (.panic c) (a.put oi.dst v) w → Q (.panic c) a w) (W : Array Bool → Prop)
    (hW : ∀ listed j, W listed → W (listed.setIfInBounds j true)) (hT : ∀ (listed : Array Bool) (j : Nat) (w' : World), W listed → i ∈ Region.ready md ops listed → j ∈ Region.ready md ops listed → (Z.contains j = false → S w') → T w') (hown : ∀ w', T w' → Z.contains i = false → S w') :
    ∀ (fuel : Nat) (listed : Array Bool) (a : Act) (w : World), W listed →
      (∀ j oj, ops[j]? = some oj → j ≠ i → listed.getD j true = false → (∀ e ∈ oj.after, Region.binds md e = true → e.on ≠ i) → oi.apart ops oj = true) →
      i ∈ Region.ready md ops listed → YieldsIf P ops T oi v a → T w →
      wpAnyG P md ops Q S Z fuel (listed.setIfInBounds i true) (a.put oi.dst v) w → wpAnyG P md ops Q S Z (fuel + 1) listed a w := by
  intro fuel
  induction fuel with
  | zero =>
    intro listed a w _ _ hr hy hS H
    refine ⟨fun h => (by rw [h] at hr; cases hr), fun j hj => ?_⟩
    by_cases hji : j = i
    · subst hji; exact hy.wpOp hi hS ⟨hown w hS, H⟩
    · have := ready_mono hj hji
      rw [H.1] at this
      cases this
  | succ fuel ih =>
    intro listed a w hWl hfree hr hy hS H
    refine ⟨fun h => (by rw [h] at hr; cases hr), fun j hj => ?_⟩
    by_cases hji : j = i
    · subst hji; exact hy.wpOp hi hS ⟨hown w hS, H⟩
    · have h1 := H.2 j (ready_mono hj hji)
      obtain ⟨hjun, oj, hoj, hall⟩ := mem_ready.1 hj
      have hnot : ∀ e ∈ oj.after, Region.binds md e = true → e.on ≠ i := fun e he hb heq => by
        have h1 := hall e he hb
        have h0 := (mem_ready.1 hr).1
        rw [heq] at h1
        rcases Nat.lt_or_ge i listed.size with h' | h'
        · simp [h'] at h0 h1; rw [h0] at h1; cases h1
        · simp [Array.getElem?_eq_none h'] at h1
      have h2 := wpOp_putIf hoj (hfree j oj hoj hji hjun hnot) (fun cs b => hsel i oi cs b hi) (fun cs b => hsel j oj cs b hoj) hQ hy h1
      have hfree' : ∀ k ok, ops[k]? = some ok → k ≠ i → (listed.setIfInBounds j true).getD k true = false →
          (∀ e ∈ ok.after, Region.binds md e = true → e.on ≠ i) → oi.apart ops ok = true := fun k ok hk hki hun hno => by
        refine hfree k ok hk hki ?_ hno
        by_cases hjk : j = k
        · subst hjk; exact hjun
        · rw [getD_set_ne true hjk] at hun; exact hun
      refine wpOp_mono (fun a' w' h3 => ⟨h3.2.1, ih (listed.setIfInBounds j true) a' w' (hW _ _ hWl) hfree' (ready_mono hr (Ne.symm hji)) h3.1 (hT listed j w' hWl hr hj h3.2.1) ?_⟩) h2
      rw [Array.setIfInBounds_comm _ _ hji]
      exact h3.2.2

def goG (P : Program) (ops : Array Oper) (Q : Exit → Act → World → Prop) (S : World → Prop) (Z : List Nat) : Trg → Act → World → Prop
  | .nil, a, w => Q .normal a w
  | .pure i r, a, w => ∃ o v, ops[i]? = some o ∧ YieldsIf P ops (fun _ => True) o v a ∧ goG P ops Q S Z r (a.put o.dst v) w
  | .read i r, a, w => S w ∧ ∃ o v, ops[i]? = some o ∧ YieldsIf P ops S o v a ∧ goG P ops Q S Z r (a.put o.dst v) w
  | .step i r, a, w => ∃ o, ops[i]? = some o ∧ wpList P ops (Exit.then (fun a' w' => (Z.contains i = false → S w') ∧ goG P ops Q S Z r a' w') Q) [o] a w
  | .two i j r s, a, w => ∃ o p, ops[i]? = some o ∧ ops[j]? = some p ∧ wpList P ops (Exit.then (fun a' w' => (Z.contains i = false → S w') ∧ goG P ops Q S Z r a' w') Q) [o] a w ∧ wpList P ops (Exit.then (fun a' w' => (Z.contains j = false → S w') ∧ goG P ops Q S Z s a' w') Q) [p] a w
def planG (md : Region.Mode) (ops : Array Oper) (Z : List Nat) : Trg → Array Bool → Bool
  | .nil, listed => (Region.ready md ops listed).isEmpty
  | .pure i r, listed => (Region.ready md ops listed).contains i && Region.free md ops listed i && Z.contains i && planG md ops Z r (listed.setIfInBounds i true)
  | .read i r, listed => (Region.ready md ops listed).contains i && Region.free md ops listed i && waitB md ops Z listed i && planG md ops Z r (listed.setIfInBounds i true)
  | .step i r, listed => decide (Region.ready md ops listed = [i]) && planG md ops Z r (listed.setIfInBounds i true)
  | .two i j r s, listed => decide (Region.ready md ops listed = [i, j]) && decide (r.deep = s.deep) && planG md ops Z r (listed.setIfInBounds i true) && planG md ops Z s (listed.setIfInBounds j true)
theorem wpAnyG_tre (hs : Region.noSelect ops = true) (hQ : ∀ c a t v w, Q (.panic c) (Act.put a (some t) v) w → Q (.panic c) a w) : ∀ (t : Trg) (listed : Array Bool) (a : Act) (w : World), planG md ops Z t listed = true → goG P ops Q S Z t a w → wpAnyG P md ops Q S Z t.deep listed a w
  | .nil, listed, a, w, hB, h => ⟨by simpa [planG] using hB, h⟩
  | .pure i r, listed, a, w, hB, h => by
    simp only [planG, Bool.and_eq_true] at hB
    obtain ⟨⟨⟨h1, h2⟩, h3⟩, h4⟩ := hB
    obtain ⟨o, v, ho, hy, hr⟩ := h
    exact wpAnyG_first (T := fun _ => True) ho (Region.noSelect_spec hs) (fun c a w hh => by cases hd : o.dst with | none => (rw [hd] at hh; exact hh) | some t => (rw [hd] at hh; exact hQ c a t v w hh)) (fun _ => True) (fun _ _ _ => trivial) (fun _ _ _ _ _ _ _ => trivial) (fun _ _ hz => by rw [hz] at h3; cases h3) _ listed a w trivial (Region.free_spec ho h2) (by simpa using h1) hy trivial (wpAnyG_tre hs hQ r _ _ _ h4 hr)
  | .read i r, listed, a, w, hB, h => by
    simp only [planG, Bool.and_eq_true] at hB
    obtain ⟨⟨⟨h1, h2⟩, h3⟩, h4⟩ := hB
    obtain ⟨hS, o, v, ho, hy, hr⟩ := h
    exact wpAnyG_first (T := S) ho (Region.noSelect_spec hs) (fun c a w hh => by cases hd : o.dst with | none => (rw [hd] at hh; exact hh) | some t => (rw [hd] at hh; exact hQ c a t v w hh)) (fun listed => waitB md ops Z listed i = true) (fun _ _ h => waitB_mono h) (fun listed j w' hw hi hj hh => hh (waitB_spec hw (mem_ready.1 hi).1 hj)) (fun _ hw _ => hw) _ listed a w h3 (Region.free_spec ho h2) (by simpa using h1) hy hS (wpAnyG_tre hs hQ r _ _ _ h4 hr)
  | .step i r, listed, a, w, hB, h => by
    simp only [planG, Bool.and_eq_true, decide_eq_true_eq] at hB
    obtain ⟨h1, h4⟩ := hB
    obtain ⟨o, ho, hw⟩ := h
    refine ⟨fun h0 => (by rw [h1] at h0; cases h0), fun j hj => ?_⟩
    rw [h1] at hj
    have hji : j = i := by simpa using hj
    subst hji
    refine wpOp_mono (fun a' w' h' => ?_) (wpOp_of_list ho hw)
    have h'' : (Z.contains j = false → S w') ∧ goG P ops Q S Z r a' w' := h'
    exact ⟨h''.1, wpAnyG_tre hs hQ r _ _ _ h4 h''.2⟩
  | .two i j r s, listed, a, w, hB, h => by
    simp only [planG, Bool.and_eq_true, decide_eq_true_eq] at hB
    obtain ⟨⟨⟨h1, h5⟩, h4⟩, h6⟩ := hB
    obtain ⟨o, p, ho, hp, hw, hw2⟩ := h
    refine ⟨fun h0 => (by rw [h1] at h0; cases h0), fun k hk => ?_⟩
    rw [h1] at hk
    rcases List.mem_cons.1 hk with rfl | hk
    · refine wpOp_mono (fun a' w' h' => ?_) (wpOp_of_list ho hw)
      have h'' : (Z.contains k = false → S w') ∧ goG P ops Q S Z r a' w' := h'
      exact ⟨h''.1, wpAnyG_tre hs hQ r _ _ _ h4 h''.2⟩
    · rw [List.mem_singleton] at hk
      subst hk
      refine wpOp_mono (fun a' w' h' => ?_) (wpOp_of_list hp hw2)
      have h'' : (Z.contains k = false → S w') ∧ goG P ops Q S Z s a' w' := h'
      have key := wpAnyG_tre hs hQ s _ _ _ h6 h''.2
      rw [← h5] at key
      exact ⟨h''.1, key⟩
theorem goG_pure (d : Nat) {i : Nat} {o : Oper} {r : Trg} {a : Act} {w : World} (ho : ops[i]? = some o) (hd : o.dst = some d) (v : Value) (hw : Region.wanted o (yielded ops a.tmps) = true) (hy : ∀ w, (execOp a.eval o).run P w = .ok (.value v) w) (h : goG P ops Q S Z r { a with tmps := a.tmps.setIfInBounds d v } w) : goG P ops Q S Z (.pure i r) a w :=
  ⟨o, v, ho, .inl ⟨hw, fun w _ => hy w⟩, by rw [put_some hd]; exact h⟩
theorem goG_read (d : Nat) {i : Nat} {o : Oper} {r : Trg} {a : Act} {w : World} (hS : S w) (ho : ops[i]? = some o) (hd : o.dst = some d) (v : Value) (hw : Region.wanted o (yielded ops a.tmps) = true) (hy : ∀ w, S w → (execOp a.eval o).run P w = .ok (.value v) w) (h : goG P ops Q S Z r { a with tmps := a.tmps.setIfInBounds d v } w) : goG P ops Q S Z (.read i r) a w :=
  ⟨hS, o, v, ho, .inl ⟨hw, hy⟩, by rw [put_some hd]; exact h⟩
theorem goG_step {i : Nat} {o : Oper} {r : Trg} {a : Act} {w : World} (ho : ops[i]? = some o) (h : wpList P ops (Exit.then (fun a' w' => (Z.contains i = false → S w') ∧ goG P ops Q S Z r a' w') Q) [o] a w) : goG P ops Q S Z (.step i r) a w := ⟨o, ho, h⟩
theorem goG_two {i j : Nat} {o p : Oper} {r s : Trg} {a : Act} {w : World} (ho : ops[i]? = some o) (hp : ops[j]? = some p) (h : wpList P ops (Exit.then (fun a' w' => (Z.contains i = false → S w') ∧ goG P ops Q S Z r a' w') Q) [o] a w) (h2 : wpList P ops (Exit.then (fun a' w' => (Z.contains j = false → S w') ∧ goG P ops Q S Z s a' w') Q) [p] a w) : goG P ops Q S Z (.two i j r s) a w := ⟨o, p, ho, hp, h, h2⟩
end
/-- A region that draws its order. -/
theorem wp_region_trg {P : Program} {Q : Exit → Act → World → Prop} {id : Nat} {a : Act} {w : World} {L : List Oper} (t : Trg) (Z : List Nat) (hm : P.follows .mixedOrders = true) (hl : t.deep = L.length) (hs : Region.noSelect L.toArray = true) (hB : planG .any L.toArray Z t (Array.replicate L.length false) = true)
    (hQ : ∀ c a t v w, Q (.panic c) (Act.put a (some t) v) w → Q (.panic c) a w) (S : World → Prop) (h : goG P L.toArray Q S Z t a w.drew) : (Code.region id L.toArray true).wp P Q a w := by
  refine wp_region_any hm (wpAny_of_G (S := S) (Z := Z) _ _ _ _ ?_)
  have hsz : L.toArray.size = L.length := by simp
  rw [hsz, ← hl]
  rw [← hl] at hB
  exact wpAnyG_tre hs hQ t _ a w.drew hB h
end Go.Proofs.YtefcdclmabdmbaaGreatDoor

namespace Go.Proofs.YtefcdclmabdmbaaGreatDoor
open Go.RowKit

theorem keepP {W w1 : World} {P o : Nat} {u : Value} (hb : Below W.heap.size W w1) (h : W.cell? ⟨P, o, none⟩ = some u) : w1.cell? ⟨P, o, none⟩ = some u := (hb.cell (p := ⟨P, o, none⟩) (cell_some_lt h)).trans h
theorem btrP {a b c : World} (h1 : Below a.heap.size a b) (h2 : Below b.heap.size b c) : Below a.heap.size a c := h1.trans (h2.mono h1.size)
set_option maxRecDepth 100000 in
set_option maxHeartbeats 4000000 in
theorem ptimes_any {w : World} {P q : Nat} {a b c d e f g h : Int} (hP : Pla w P q) (hq : 0 < q) (hq2 : q ≤ 2500) (ha : a.natAbs ≤ 1000000) (hb : b.natAbs ≤ 1000000) (hc : c.natAbs ≤ 1000000) (hd : d.natAbs ≤ 1000000) (he : e.natAbs ≤ 1000000) (hf : f.natAbs ≤ 1000000) (hg : g.natAbs ≤ 1000000) (hh : h.natAbs ≤ 1000000) :
    Calls Tryz.prog 74 #[.pointer (some ⟨P, 0, none⟩), .agg #[.int .i64 a, .int .i64 b, .int .i64 c, .int .i64 d], .agg #[.int .i64 e, .int .i64 f, .int .i64 g, .int .i64 h]] w fun en w' => en = .returned (.agg #[.int .i64 ((a * e + b * g) % (q : Int)), .int .i64 ((a * f + b * h) % (q : Int)), .int .i64 ((c * e + d * g) % (q : Int)), .int .i64 ((c * f + d * h) % (q : Int))]) ∧ Below w.heap.size w w' := by
  have p0 := mul_le6 ha he
  have w0 : IntKind.i64.wrap (a * e) = a * e := IntWalk.i64_in _ (by omega)
  have p1 := mul_le6 hb hg
  have w1 : IntKind.i64.wrap (b * g) = b * g := IntWalk.i64_in _ (by omega)
  have p2 := mul_le6 ha hf
  have w2 : IntKind.i64.wrap (a * f) = a * f := IntWalk.i64_in _ (by omega)
  have p3 := mul_le6 hb hh
  have w3 : IntKind.i64.wrap (b * h) = b * h := IntWalk.i64_in _ (by omega)
  have p4 := mul_le6 hc he
  have w4 : IntKind.i64.wrap (c * e) = c * e := IntWalk.i64_in _ (by omega)
  have p5 := mul_le6 hd hg
  have w5 : IntKind.i64.wrap (d * g) = d * g := IntWalk.i64_in _ (by omega)
  have p6 := mul_le6 hc hf
  have w6 : IntKind.i64.wrap (c * f) = c * f := IntWalk.i64_in _ (by omega)
  have p7 := mul_le6 hd hh
  have w7 : IntKind.i64.wrap (d * h) = d * h := IntWalk.i64_in _ (by omega)
  have s0 : IntKind.i64.wrap (a * e + b * g) = a * e + b * g := IntWalk.i64_in _ (by omega)
  have s1 : IntKind.i64.wrap (a * f + b * h) = a * f + b * h := IntWalk.i64_in _ (by omega)
  have s2 : IntKind.i64.wrap (c * e + d * g) = c * e + d * g := IntWalk.i64_in _ (by omega)
  have s3 : IntKind.i64.wrap (c * f + d * h) = c * f + d * h := IntWalk.i64_in _ (by omega)
  obtain ⟨W0, hW0⟩ : ∃ W0, W0 = ((w.alloc (.cells #[.int .i64 a, .int .i64 b, .int .i64 c, .int .i64 d] 105)).alloc (.cells #[.int .i64 e, .int .i64 f, .int .i64 g, .int .i64 h] 105)).alloc (.cells #[.int .i64 0, .int .i64 0, .int .i64 0, .int .i64 0] 105) := ⟨_, rfl⟩
  have hb0 : Below w.heap.size w W0 := by rw [hW0]; exact below_alP (below_alP (below_alP (Below.refl _ _) _) _) _
  obtain ⟨M, hM⟩ : ∃ M, M = w.heap.size := ⟨_, rfl⟩
  have Q0 := Lib.hid (show W0.cell? ⟨M, 0, none⟩ = some (.int .i64 a) by rw [hW0, hM]; go_simp)
  have Q1 := Lib.hid (show W0.cell? ⟨M, 1, none⟩ = some (.int .i64 b) by rw [hW0, hM]; go_simp)
  have Q2 := Lib.hid (show W0.cell? ⟨M, 2, none⟩ = some (.int .i64 c) by rw [hW0, hM]; go_simp)
  have Q3 := Lib.hid (show W0.cell? ⟨M, 3, none⟩ = some (.int .i64 d) by rw [hW0, hM]; go_simp)
  have Q4 := Lib.hid (show W0.cell? ⟨M + 1, 0, none⟩ = some (.int .i64 e) by rw [hW0, hM]; go_simp)
  have Q5 := Lib.hid (show W0.cell? ⟨M + 1, 1, none⟩ = some (.int .i64 f) by rw [hW0, hM]; go_simp)
  have Q6 := Lib.hid (show W0.cell? ⟨M + 1, 2, none⟩ = some (.int .i64 g) by rw [hW0, hM]; go_simp)
  have Q7 := Lib.hid (show W0.cell? ⟨M + 1, 3, none⟩ = some (.int .i64 h) by rw [hW0, hM]; go_simp)
  have Z0 := Lib.hid (show W0.cell? ⟨M + 1 + 1, 0, none⟩ = some (.int .i64 0) by rw [hW0, hM]; go_simp)
  have Y0 := Lib.hid (show W0.frozen? ⟨M + 1 + 1, 0, none⟩ = false by rw [hW0, hM]; go_simp)
  have Z1 := Lib.hid (show W0.cell? ⟨M + 1 + 1, 1, none⟩ = some (.int .i64 0) by rw [hW0, hM]; go_simp)
  have Y1 := Lib.hid (show W0.frozen? ⟨M + 1 + 1, 1, none⟩ = false by rw [hW0, hM]; go_simp)
  have Z2 := Lib.hid (show W0.cell? ⟨M + 1 + 1, 2, none⟩ = some (.int .i64 0) by rw [hW0, hM]; go_simp)
  have Y2 := Lib.hid (show W0.frozen? ⟨M + 1 + 1, 2, none⟩ = false by rw [hW0, hM]; go_simp)
  have Z3 := Lib.hid (show W0.cell? ⟨M + 1 + 1, 3, none⟩ = some (.int .i64 0) by rw [hW0, hM]; go_simp)
  have Y3 := Lib.hid (show W0.frozen? ⟨M + 1 + 1, 3, none⟩ = false by rw [hW0, hM]; go_simp)
  have HPM := Lib.hid (fun w' (hb : Below W0.heap.size W0 w') n => pmod_any (n := n) ((hP.below hb0).below hb) hq hq2)
  have HW := Lib.hid hW0
  clear hP hW0 p0 p1 p2 p3 p4 p5 p6 p7
  go_enter Tryz.func74, Tryz.ntmps74
  go_wp2_with fail
  rw [← HW.out]
  rw [← hM]
  have HM5 := Lib.hid hM
  clear hM HW
  have hs0 : Below W0.heap.size W0 W0.drew := (Below.refl _ _).drew
  rename_i KX hKX
  refine wp_region_trg (.read 0 (.read 1 (.read 2 (.read 3 (.read 4 (.read 5 (.read 6 (.read 7 (.read 8 (.read 9 (.read 10 (.read 11 (.read 13 (.read 14 (.read 15 (.read 16 (.read 17 (.read 18 (.read 19 (.read 20 (.read 21 (.read 22 (.read 23 (.read 24 (.read 26 (.read 27 (.read 28 (.read 29 (.read 30 (.read 31 (.read 32 (.read 33 (.read 34 (.read 35 (.read 36 (.read 37 (.read 39 (.read 40 (.read 41 (.read 42 (.read 43 (.read 44 (.read 45 (.read 46 (.read 47 (.read 48 (.read 49 (.read 50 (.step 12 (.step 25 (.step 38 (.step 51 (.read 52 (.step 53 .nil)))))))))))))))))))))))))))))))))))))))))))))))))))))) [53] (by kernel_rfl) (by rfl) (by kernel_rfl) (by kernel_rfl) (fun _ _ _ _ _ h => h) (fun W' => Below W0.heap.size W0 W') ?_
  change goG _ _ _ _ _ _ _ W0.drew
  refine goG_read 7 hs0 (by rfl) (by rfl) ?_ (by rfl) (fun wz hSw => ?_) ?_
  rotate_left
  · go_simp
    try with_reducible rfl
  simp only [List.setIfInBounds_toArray, List.set]
  refine goG_read 8 hs0 (by rfl) (by rfl) ?_ (by rfl) (fun wz hSw => ?_) ?_
  rotate_left
  · go_simp
    try with_reducible rfl
  simp only [List.setIfInBounds_toArray, List.set]
  refine goG_read 9 hs0 (by rfl) (by rfl) ?_ (by rfl) (fun wz hSw => ?_) ?_
  rotate_left
  · (have x0 := keepP hSw Q0.out); (have x1 := keepP hSw Q1.out); (have x2 := keepP hSw Q2.out); (have x3 := keepP hSw Q3.out); (have x4 := keepP hSw Q4.out); (have x5 := keepP hSw Q5.out); (have x6 := keepP hSw Q6.out); (have x7 := keepP hSw Q7.out); go_simp
    try with_reducible rfl
  simp only [List.setIfInBounds_toArray, List.set]
  refine goG_read 10 hs0 (by rfl) (by rfl) ?_ (by rfl) (fun wz hSw => ?_) ?_
  rotate_left
  · go_simp
    try with_reducible rfl
  simp only [List.setIfInBounds_toArray, List.set]
  refine goG_read 11 hs0 (by rfl) (by rfl) ?_ (by rfl) (fun wz hSw => ?_) ?_
  rotate_left
  · (have x0 := keepP hSw Q0.out); (have x1 := keepP hSw Q1.out); (have x2 := keepP hSw Q2.out); (have x3 := keepP hSw Q3.out); (have x4 := keepP hSw Q4.out); (have x5 := keepP hSw Q5.out); (have x6 := keepP hSw Q6.out); (have x7 := keepP hSw Q7.out); go_simp
    try with_reducible rfl
  simp only [List.setIfInBounds_toArray, List.set]
  refine goG_read 12 hs0 (by rfl) (by rfl) ?_ (by rfl) (fun wz hSw => ?_) ?_
  rotate_left
  · go_simp
    try with_reducible rfl
  simp only [List.setIfInBounds_toArray, List.set]
  refine goG_read 13 hs0 (by rfl) (by rfl) ?_ (by rfl) (fun wz hSw => ?_) ?_
  rotate_left
  · go_simp
    try with_reducible rfl
  simp only [List.setIfInBounds_toArray, List.set]
  refine goG_read 14 hs0 (by rfl) (by rfl) ?_ (by rfl) (fun wz hSw => ?_) ?_
  rotate_left
  · (have x0 := keepP hSw Q0.out); (have x1 := keepP hSw Q1.out); (have x2 := keepP hSw Q2.out); (have x3 := keepP hSw Q3.out); (have x4 := keepP hSw Q4.out); (have x5 := keepP hSw Q5.out); (have x6 := keepP hSw Q6.out); (have x7 := keepP hSw Q7.out); go_simp
    try with_reducible rfl
  simp only [List.setIfInBounds_toArray, List.set]
  refine goG_read 15 hs0 (by rfl) (by rfl) ?_ (by rfl) (fun wz hSw => ?_) ?_
  rotate_left
  · go_simp
    try with_reducible rfl
  simp only [List.setIfInBounds_toArray, List.set]
  refine goG_read 16 hs0 (by rfl) (by rfl) ?_ (by rfl) (fun wz hSw => ?_) ?_
  rotate_left
  · (have x0 := keepP hSw Q0.out); (have x1 := keepP hSw Q1.out); (have x2 := keepP hSw Q2.out); (have x3 := keepP hSw Q3.out); (have x4 := keepP hSw Q4.out); (have x5 := keepP hSw Q5.out); (have x6 := keepP hSw Q6.out); (have x7 := keepP hSw Q7.out); go_simp
    try with_reducible rfl
  simp only [List.setIfInBounds_toArray, List.set]
  refine goG_read 17 hs0 (by rfl) (by rfl) ?_ (by rfl) (fun wz hSw => ?_) ?_
  rotate_left
  · go_simp
    try with_reducible rfl
  simp only [List.setIfInBounds_toArray, List.set]
  refine goG_read 18 hs0 (by rfl) (by rfl) ?_ (by rfl) (fun wz hSw => ?_) ?_
  rotate_left
  · go_simp
    try with_reducible rfl
  simp only [List.setIfInBounds_toArray, List.set]
  refine goG_read 20 hs0 (by rfl) (by rfl) ?_ (by rfl) (fun wz hSw => ?_) ?_
  rotate_left
  · go_simp
    try with_reducible rfl
  simp only [List.setIfInBounds_toArray, List.set]
  refine goG_read 21 hs0 (by rfl) (by rfl) ?_ (by rfl) (fun wz hSw => ?_) ?_
  rotate_left
  · go_simp
    try with_reducible rfl
  simp only [List.setIfInBounds_toArray, List.set]
  refine goG_read 22 hs0 (by rfl) (by rfl) ?_ (by rfl) (fun wz hSw => ?_) ?_
  rotate_left
  · (have x0 := keepP hSw Q0.out); (have x1 := keepP hSw Q1.out); (have x2 := keepP hSw Q2.out); (have x3 := keepP hSw Q3.out); (have x4 := keepP hSw Q4.out); (have x5 := keepP hSw Q5.out); (have x6 := keepP hSw Q6.out); (have x7 := keepP hSw Q7.out); go_simp
    try with_reducible rfl
  simp only [List.setIfInBounds_toArray, List.set]
  refine goG_read 23 hs0 (by rfl) (by rfl) ?_ (by rfl) (fun wz hSw => ?_) ?_
  rotate_left
  · go_simp
    try with_reducible rfl
  simp only [List.setIfInBounds_toArray, List.set]
  refine goG_read 24 hs0 (by rfl) (by rfl) ?_ (by rfl) (fun wz hSw => ?_) ?_
  rotate_left
  · (have x0 := keepP hSw Q0.out); (have x1 := keepP hSw Q1.out); (have x2 := keepP hSw Q2.out); (have x3 := keepP hSw Q3.out); (have x4 := keepP hSw Q4.out); (have x5 := keepP hSw Q5.out); (have x6 := keepP hSw Q6.out); (have x7 := keepP hSw Q7.out); go_simp
    try with_reducible rfl
  simp only [List.setIfInBounds_toArray, List.set]
  refine goG_read 25 hs0 (by rfl) (by rfl) ?_ (by rfl) (fun wz hSw => ?_) ?_
  rotate_left
  · go_simp
    try with_reducible rfl
  simp only [List.setIfInBounds_toArray, List.set]
  refine goG_read 26 hs0 (by rfl) (by rfl) ?_ (by rfl) (fun wz hSw => ?_) ?_
  rotate_left
  · go_simp
    try with_reducible rfl
  simp only [List.setIfInBounds_toArray, List.set]
  refine goG_read 27 hs0 (by rfl) (by rfl) ?_ (by rfl) (fun wz hSw => ?_) ?_
  rotate_left
  · (have x0 := keepP hSw Q0.out); (have x1 := keepP hSw Q1.out); (have x2 := keepP hSw Q2.out); (have x3 := keepP hSw Q3.out); (have x4 := keepP hSw Q4.out); (have x5 := keepP hSw Q5.out); (have x6 := keepP hSw Q6.out); (have x7 := keepP hSw Q7.out); go_simp
    try with_reducible rfl
  simp only [List.setIfInBounds_toArray, List.set]
  refine goG_read 28 hs0 (by rfl) (by rfl) ?_ (by rfl) (fun wz hSw => ?_) ?_
  rotate_left
  · go_simp
    try with_reducible rfl
  simp only [List.setIfInBounds_toArray, List.set]
  refine goG_read 29 hs0 (by rfl) (by rfl) ?_ (by rfl) (fun wz hSw => ?_) ?_
  rotate_left
  · (have x0 := keepP hSw Q0.out); (have x1 := keepP hSw Q1.out); (have x2 := keepP hSw Q2.out); (have x3 := keepP hSw Q3.out); (have x4 := keepP hSw Q4.out); (have x5 := keepP hSw Q5.out); (have x6 := keepP hSw Q6.out); (have x7 := keepP hSw Q7.out); go_simp
    try with_reducible rfl
  simp only [List.setIfInBounds_toArray, List.set]
  refine goG_read 30 hs0 (by rfl) (by rfl) ?_ (by rfl) (fun wz hSw => ?_) ?_
  rotate_left
  · go_simp
    try with_reducible rfl
  simp only [List.setIfInBounds_toArray, List.set]
  refine goG_read 31 hs0 (by rfl) (by rfl) ?_ (by rfl) (fun wz hSw => ?_) ?_
  rotate_left
  · go_simp
    try with_reducible rfl
  simp only [List.setIfInBounds_toArray, List.set]
  refine goG_read 33 hs0 (by rfl) (by rfl) ?_ (by rfl) (fun wz hSw => ?_) ?_
  rotate_left
  · go_simp
    try with_reducible rfl
  simp only [List.setIfInBounds_toArray, List.set]
  refine goG_read 34 hs0 (by rfl) (by rfl) ?_ (by rfl) (fun wz hSw => ?_) ?_
  rotate_left
  · go_simp
    try with_reducible rfl
  simp only [List.setIfInBounds_toArray, List.set]
  refine goG_read 35 hs0 (by rfl) (by rfl) ?_ (by rfl) (fun wz hSw => ?_) ?_
  rotate_left
  · (have x0 := keepP hSw Q0.out); (have x1 := keepP hSw Q1.out); (have x2 := keepP hSw Q2.out); (have x3 := keepP hSw Q3.out); (have x4 := keepP hSw Q4.out); (have x5 := keepP hSw Q5.out); (have x6 := keepP hSw Q6.out); (have x7 := keepP hSw Q7.out); go_simp
    try with_reducible rfl
  simp only [List.setIfInBounds_toArray, List.set]
  refine goG_read 36 hs0 (by rfl) (by rfl) ?_ (by rfl) (fun wz hSw => ?_) ?_
  rotate_left
  · go_simp
    try with_reducible rfl
  simp only [List.setIfInBounds_toArray, List.set]
  refine goG_read 37 hs0 (by rfl) (by rfl) ?_ (by rfl) (fun wz hSw => ?_) ?_
  rotate_left
  · (have x0 := keepP hSw Q0.out); (have x1 := keepP hSw Q1.out); (have x2 := keepP hSw Q2.out); (have x3 := keepP hSw Q3.out); (have x4 := keepP hSw Q4.out); (have x5 := keepP hSw Q5.out); (have x6 := keepP hSw Q6.out); (have x7 := keepP hSw Q7.out); go_simp
    try with_reducible rfl
  simp only [List.setIfInBounds_toArray, List.set]
  refine goG_read 38 hs0 (by rfl) (by rfl) ?_ (by rfl) (fun wz hSw => ?_) ?_
  rotate_left
  · go_simp
    try with_reducible rfl
  simp only [List.setIfInBounds_toArray, List.set]
  refine goG_read 39 hs0 (by rfl) (by rfl) ?_ (by rfl) (fun wz hSw => ?_) ?_
  rotate_left
  · go_simp
    try with_reducible rfl
  simp only [List.setIfInBounds_toArray, List.set]
  refine goG_read 40 hs0 (by rfl) (by rfl) ?_ (by rfl) (fun wz hSw => ?_) ?_
  rotate_left
  · (have x0 := keepP hSw Q0.out); (have x1 := keepP hSw Q1.out); (have x2 := keepP hSw Q2.out); (have x3 := keepP hSw Q3.out); (have x4 := keepP hSw Q4.out); (have x5 := keepP hSw Q5.out); (have x6 := keepP hSw Q6.out); (have x7 := keepP hSw Q7.out); go_simp
    try with_reducible rfl
  simp only [List.setIfInBounds_toArray, List.set]
  refine goG_read 41 hs0 (by rfl) (by rfl) ?_ (by rfl) (fun wz hSw => ?_) ?_
  rotate_left
  · go_simp
    try with_reducible rfl
  simp only [List.setIfInBounds_toArray, List.set]
  refine goG_read 42 hs0 (by rfl) (by rfl) ?_ (by rfl) (fun wz hSw => ?_) ?_
  rotate_left
  · (have x0 := keepP hSw Q0.out); (have x1 := keepP hSw Q1.out); (have x2 := keepP hSw Q2.out); (have x3 := keepP hSw Q3.out); (have x4 := keepP hSw Q4.out); (have x5 := keepP hSw Q5.out); (have x6 := keepP hSw Q6.out); (have x7 := keepP hSw Q7.out); go_simp
    try with_reducible rfl
  simp only [List.setIfInBounds_toArray, List.set]
  refine goG_read 43 hs0 (by rfl) (by rfl) ?_ (by rfl) (fun wz hSw => ?_) ?_
  rotate_left
  · go_simp
    try with_reducible rfl
  simp only [List.setIfInBounds_toArray, List.set]
  refine goG_read 44 hs0 (by rfl) (by rfl) ?_ (by rfl) (fun wz hSw => ?_) ?_
  rotate_left
  · go_simp
    try with_reducible rfl
  simp only [List.setIfInBounds_toArray, List.set]
  refine goG_read 46 hs0 (by rfl) (by rfl) ?_ (by rfl) (fun wz hSw => ?_) ?_
  rotate_left
  · go_simp
    try with_reducible rfl
  simp only [List.setIfInBounds_toArray, List.set]
  refine goG_read 47 hs0 (by rfl) (by rfl) ?_ (by rfl) (fun wz hSw => ?_) ?_
  rotate_left
  · go_simp
    try with_reducible rfl
  simp only [List.setIfInBounds_toArray, List.set]
  refine goG_read 48 hs0 (by rfl) (by rfl) ?_ (by rfl) (fun wz hSw => ?_) ?_
  rotate_left
  · (have x0 := keepP hSw Q0.out); (have x1 := keepP hSw Q1.out); (have x2 := keepP hSw Q2.out); (have x3 := keepP hSw Q3.out); (have x4 := keepP hSw Q4.out); (have x5 := keepP hSw Q5.out); (have x6 := keepP hSw Q6.out); (have x7 := keepP hSw Q7.out); go_simp
    try with_reducible rfl
  simp only [List.setIfInBounds_toArray, List.set]
  refine goG_read 49 hs0 (by rfl) (by rfl) ?_ (by rfl) (fun wz hSw => ?_) ?_
  rotate_left
  · go_simp
    try with_reducible rfl
  simp only [List.setIfInBounds_toArray, List.set]
  refine goG_read 50 hs0 (by rfl) (by rfl) ?_ (by rfl) (fun wz hSw => ?_) ?_
  rotate_left
  · (have x0 := keepP hSw Q0.out); (have x1 := keepP hSw Q1.out); (have x2 := keepP hSw Q2.out); (have x3 := keepP hSw Q3.out); (have x4 := keepP hSw Q4.out); (have x5 := keepP hSw Q5.out); (have x6 := keepP hSw Q6.out); (have x7 := keepP hSw Q7.out); go_simp
    try with_reducible rfl
  simp only [List.setIfInBounds_toArray, List.set]
  refine goG_read 51 hs0 (by rfl) (by rfl) ?_ (by rfl) (fun wz hSw => ?_) ?_
  rotate_left
  · go_simp
    try with_reducible rfl
  simp only [List.setIfInBounds_toArray, List.set]
  refine goG_read 52 hs0 (by rfl) (by rfl) ?_ (by rfl) (fun wz hSw => ?_) ?_
  rotate_left
  · go_simp
    try with_reducible rfl
  simp only [List.setIfInBounds_toArray, List.set]
  refine goG_read 53 hs0 (by rfl) (by rfl) ?_ (by rfl) (fun wz hSw => ?_) ?_
  rotate_left
  · (have x0 := keepP hSw Q0.out); (have x1 := keepP hSw Q1.out); (have x2 := keepP hSw Q2.out); (have x3 := keepP hSw Q3.out); (have x4 := keepP hSw Q4.out); (have x5 := keepP hSw Q5.out); (have x6 := keepP hSw Q6.out); (have x7 := keepP hSw Q7.out); go_simp
    try with_reducible rfl
  simp only [List.setIfInBounds_toArray, List.set]
  refine goG_read 54 hs0 (by rfl) (by rfl) ?_ (by rfl) (fun wz hSw => ?_) ?_
  rotate_left
  · go_simp
    try with_reducible rfl
  simp only [List.setIfInBounds_toArray, List.set]
  refine goG_read 55 hs0 (by rfl) (by rfl) ?_ (by rfl) (fun wz hSw => ?_) ?_
  rotate_left
  · (have x0 := keepP hSw Q0.out); (have x1 := keepP hSw Q1.out); (have x2 := keepP hSw Q2.out); (have x3 := keepP hSw Q3.out); (have x4 := keepP hSw Q4.out); (have x5 := keepP hSw Q5.out); (have x6 := keepP hSw Q6.out); (have x7 := keepP hSw Q7.out); go_simp
    try with_reducible rfl
  simp only [List.setIfInBounds_toArray, List.set]
  refine goG_read 56 hs0 (by rfl) (by rfl) ?_ (by rfl) (fun wz hSw => ?_) ?_
  rotate_left
  · go_simp
    try with_reducible rfl
  simp only [List.setIfInBounds_toArray, List.set]
  refine goG_read 57 hs0 (by rfl) (by rfl) ?_ (by rfl) (fun wz hSw => ?_) ?_
  rotate_left
  · go_simp
    try with_reducible rfl
  simp only [List.setIfInBounds_toArray, List.set]
  refine goG_step (by rfl) ?_
  go_wp2_with (go_at_call 136; go_must (refine (HPM.out _ hs0 _).mono ?_); rintro en w1' ⟨rfl, hb1⟩)
  have hs1 := btrP hs0 hb1
  refine ⟨fun _ => hs1, ?_⟩
  refine goG_step (by rfl) ?_
  go_wp2_with (go_at_call 136; go_must (refine (HPM.out _ hs1 _).mono ?_); rintro en w2' ⟨rfl, hb2⟩)
  have hs2 := btrP hs1 hb2
  refine ⟨fun _ => hs2, ?_⟩
  refine goG_step (by rfl) ?_
  go_wp2_with (go_at_call 136; go_must (refine (HPM.out _ hs2 _).mono ?_); rintro en w3' ⟨rfl, hb3⟩)
  have hs3 := btrP hs2 hb3
  refine ⟨fun _ => hs3, ?_⟩
  refine goG_step (by rfl) ?_
  go_wp2_with (go_at_call 136; go_must (refine (HPM.out _ hs3 _).mono ?_); rintro en w4' ⟨rfl, hb4⟩)
  have hs4 := btrP hs3 hb4
  refine ⟨fun _ => hs4, ?_⟩
  refine goG_read 59 hs4 (by rfl) (by rfl) ?_ (by rfl) (fun wz hSw => ?_) ?_
  rotate_left
  · go_simp
    try with_reducible rfl
  simp only [List.setIfInBounds_toArray, List.set]
  have c0 := keepP hs4 Z0.out
  have f0 : w4'.frozen? ⟨M + 2, 0, none⟩ = false := (hs4.frozen (p := ⟨M + 2, 0, none⟩) (cell_some_lt Z0.out)).trans Y0.out
  have c1 := keepP hs4 Z1.out
  have f1 : w4'.frozen? ⟨M + 2, 1, none⟩ = false := (hs4.frozen (p := ⟨M + 2, 1, none⟩) (cell_some_lt Z1.out)).trans Y1.out
  have c2 := keepP hs4 Z2.out
  have f2 : w4'.frozen? ⟨M + 2, 2, none⟩ = false := (hs4.frozen (p := ⟨M + 2, 2, none⟩) (cell_some_lt Z2.out)).trans Y2.out
  have c3 := keepP hs4 Z3.out
  have f3 : w4'.frozen? ⟨M + 2, 3, none⟩ = false := (hs4.frozen (p := ⟨M + 2, 3, none⟩) (cell_some_lt Z3.out)).trans Y3.out
  refine goG_step (by rfl) ?_
  go_wp2_with fail
  refine ⟨(fun h => by cases h), ?_⟩
  change KX _ _
  have hb5 : Below w.heap.size w w4' := btrP hb0 hs4
  have d0 : ((((w4'.setCell ⟨M + 1 + 1, 0, none⟩ (.int .i64 ((a * e + b * g) % (q : Int)))).setCell ⟨M + 1 + 1, 1, none⟩ (.int .i64 ((a * f + b * h) % (q : Int)))).setCell ⟨M + 1 + 1, 2, none⟩ (.int .i64 ((c * e + d * g) % (q : Int)))).setCell ⟨M + 1 + 1, 3, none⟩ (.int .i64 ((c * f + d * h) % (q : Int)))).cell? ⟨M + 1 + 1, 0, none⟩ = some (.int .i64 ((a * e + b * g) % (q : Int))) := by go_simp
  have d1 : ((((w4'.setCell ⟨M + 1 + 1, 0, none⟩ (.int .i64 ((a * e + b * g) % (q : Int)))).setCell ⟨M + 1 + 1, 1, none⟩ (.int .i64 ((a * f + b * h) % (q : Int)))).setCell ⟨M + 1 + 1, 2, none⟩ (.int .i64 ((c * e + d * g) % (q : Int)))).setCell ⟨M + 1 + 1, 3, none⟩ (.int .i64 ((c * f + d * h) % (q : Int)))).cell? ⟨M + 1 + 1, 1, none⟩ = some (.int .i64 ((a * f + b * h) % (q : Int))) := by go_simp
  have d2 : ((((w4'.setCell ⟨M + 1 + 1, 0, none⟩ (.int .i64 ((a * e + b * g) % (q : Int)))).setCell ⟨M + 1 + 1, 1, none⟩ (.int .i64 ((a * f + b * h) % (q : Int)))).setCell ⟨M + 1 + 1, 2, none⟩ (.int .i64 ((c * e + d * g) % (q : Int)))).setCell ⟨M + 1 + 1, 3, none⟩ (.int .i64 ((c * f + d * h) % (q : Int)))).cell? ⟨M + 1 + 1, 2, none⟩ = some (.int .i64 ((c * e + d * g) % (q : Int))) := by go_simp
  have d3 : ((((w4'.setCell ⟨M + 1 + 1, 0, none⟩ (.int .i64 ((a * e + b * g) % (q : Int)))).setCell ⟨M + 1 + 1, 1, none⟩ (.int .i64 ((a * f + b * h) % (q : Int)))).setCell ⟨M + 1 + 1, 2, none⟩ (.int .i64 ((c * e + d * g) % (q : Int)))).setCell ⟨M + 1 + 1, 3, none⟩ (.int .i64 ((c * f + d * h) % (q : Int)))).cell? ⟨M + 1 + 1, 3, none⟩ = some (.int .i64 ((c * f + d * h) % (q : Int))) := by go_simp
  generalize hW5 : ((((w4'.setCell ⟨M + 1 + 1, 0, none⟩ (.int .i64 ((a * e + b * g) % (q : Int)))).setCell ⟨M + 1 + 1, 1, none⟩ (.int .i64 ((a * f + b * h) % (q : Int)))).setCell ⟨M + 1 + 1, 2, none⟩ (.int .i64 ((c * e + d * g) % (q : Int)))).setCell ⟨M + 1 + 1, 3, none⟩ (.int .i64 ((c * f + d * h) % (q : Int)))) = W5 at *
  have hb6 : Below w.heap.size w W5 := by rw [← hW5]; exact (((hb5.setCell (by have := HM5.out; simp; omega) _).setCell (by have := HM5.out; simp; omega) _).setCell (by have := HM5.out; simp; omega) _).setCell (by have := HM5.out; simp; omega) _
  clear hW5
  refine hKX _ _ ?_
  go_wp2_with fail
  refine bodyPost_ret (v := .agg #[.int .i64 ((a * e + b * g) % (q : Int)), .int .i64 ((a * f + b * h) % (q : Int)), .int .i64 ((c * e + d * g) % (q : Int)), .int .i64 ((c * f + d * h) % (q : Int))]) (by simp [results, Tryz.results74, go_sem, d0, d1, d2, d3]) rfl ⟨rfl, hb6⟩
end Go.Proofs.YtefcdclmabdmbaaGreatDoor

namespace Go.Proofs.YtefcdclmabdmbaaGreatDoor
open Go.RowKit

set_option maxRecDepth 100000 in
set_option maxHeartbeats 4000000 in
theorem pmatrix_any {w : World} {P q : Nat} {a b c d den u : Int} (hP : Pla w P q) (hq : 0 < q) (hq2 : q ≤ 2500) (ha : a.natAbs ≤ 1000000) (hb : b.natAbs ≤ 1000000) (hc : c.natAbs ≤ 1000000) (hd : d.natAbs ≤ 1000000) (hu : u.natAbs ≤ 1000000) :
    Calls Tryz.prog 69 #[.pointer (some ⟨P, 0, none⟩), .agg #[.int .i64 a, .int .i64 b, .int .i64 c, .int .i64 d, .int .i64 den], .int .i64 u] w fun en w' => en = .returned (.agg #[.int .i64 ((a + u * b) % (q : Int)), .int .i64 ((c + u * d) % (q : Int)), .int .i64 ((-c + u * d) % (q : Int)), .int .i64 ((a - u * b) % (q : Int))]) ∧ Below w.heap.size w w' := by
  have p0 := mul_le6 hu hb
  have p1 := mul_le6 hu hd
  have w0 : IntKind.i64.wrap (u * b) = u * b := IntWalk.i64_in _ (by omega)
  have w1 : IntKind.i64.wrap (u * d) = u * d := IntWalk.i64_in _ (by omega)
  have w2 : IntKind.i64.wrap (-c) = -c := IntWalk.i64_in _ (by omega)
  have s0 : IntKind.i64.wrap (a + u * b) = a + u * b := IntWalk.i64_in _ (by omega)
  have s1 : IntKind.i64.wrap (c + u * d) = c + u * d := IntWalk.i64_in _ (by omega)
  have s2 : IntKind.i64.wrap (-c + u * d) = -c + u * d := IntWalk.i64_in _ (by omega)
  have s3 : IntKind.i64.wrap (a - u * b) = a - u * b := IntWalk.i64_in _ (by omega)
  obtain ⟨W0, hW0⟩ : ∃ W0, W0 = (w.alloc (.cells #[.int .i64 a, .int .i64 b, .int .i64 c, .int .i64 d, .int .i64 den] 103)).alloc (.cells #[.int .i64 0, .int .i64 0, .int .i64 0, .int .i64 0] 105) := ⟨_, rfl⟩
  have hb0 : Below w.heap.size w W0 := by rw [hW0]; exact below_alP (below_alP (Below.refl _ _) _) _
  obtain ⟨M, hM⟩ : ∃ M, M = w.heap.size := ⟨_, rfl⟩
  have Q0 := Lib.hid (show W0.cell? ⟨M, 0, none⟩ = some (.int .i64 a) by rw [hW0, hM]; go_simp)
  have Q1 := Lib.hid (show W0.cell? ⟨M, 1, none⟩ = some (.int .i64 b) by rw [hW0, hM]; go_simp)
  have Q2 := Lib.hid (show W0.cell? ⟨M, 2, none⟩ = some (.int .i64 c) by rw [hW0, hM]; go_simp)
  have Q3 := Lib.hid (show W0.cell? ⟨M, 3, none⟩ = some (.int .i64 d) by rw [hW0, hM]; go_simp)
  have Z0 := Lib.hid (show W0.cell? ⟨M + 1, 0, none⟩ = some (.int .i64 0) by rw [hW0, hM]; go_simp)
  have Y0 := Lib.hid (show W0.frozen? ⟨M + 1, 0, none⟩ = false by rw [hW0, hM]; go_simp)
  have Z1 := Lib.hid (show W0.cell? ⟨M + 1, 1, none⟩ = some (.int .i64 0) by rw [hW0, hM]; go_simp)
  have Y1 := Lib.hid (show W0.frozen? ⟨M + 1, 1, none⟩ = false by rw [hW0, hM]; go_simp)
  have Z2 := Lib.hid (show W0.cell? ⟨M + 1, 2, none⟩ = some (.int .i64 0) by rw [hW0, hM]; go_simp)
  have Y2 := Lib.hid (show W0.frozen? ⟨M + 1, 2, none⟩ = false by rw [hW0, hM]; go_simp)
  have Z3 := Lib.hid (show W0.cell? ⟨M + 1, 3, none⟩ = some (.int .i64 0) by rw [hW0, hM]; go_simp)
  have Y3 := Lib.hid (show W0.frozen? ⟨M + 1, 3, none⟩ = false by rw [hW0, hM]; go_simp)
  have HPM := Lib.hid (fun w' (hb : Below W0.heap.size W0 w') n => pmod_any (n := n) ((hP.below hb0).below hb) hq hq2)
  have HW := Lib.hid hW0
  clear hP hW0 p0 p1
  go_enter Tryz.func69, Tryz.ntmps69
  go_wp2_with fail
  rw [← HW.out]
  rw [← hM]
  have HM5 := Lib.hid hM
  clear hM HW
  have hs0 : Below W0.heap.size W0 W0.drew := (Below.refl _ _).drew
  rename_i KX hKX
  refine wp_region_trg (.read 0 (.read 1 (.read 2 (.read 3 (.read 4 (.read 5 (.read 6 (.read 7 (.read 9 (.read 10 (.read 11 (.read 12 (.read 13 (.read 14 (.read 15 (.read 16 (.read 18 (.read 19 (.read 20 (.read 21 (.read 22 (.read 23 (.read 24 (.read 25 (.read 26 (.read 28 (.read 29 (.read 30 (.read 31 (.read 32 (.read 33 (.read 34 (.read 35 (.step 8 (.step 17 (.step 27 (.step 36 (.read 37 (.step 38 .nil))))))))))))))))))))))))))))))))))))))) [38] (by kernel_rfl) (by rfl) (by kernel_rfl) (by kernel_rfl) (fun _ _ _ _ _ h => h) (fun W' => Below W0.heap.size W0 W') ?_
  change goG _ _ _ _ _ _ _ W0.drew
  refine goG_read 7 hs0 (by rfl) (by rfl) ?_ (by rfl) (fun wz hSw => ?_) ?_
  rotate_left
  · go_simp
    try with_reducible rfl
  simp only [List.setIfInBounds_toArray, List.set]
  refine goG_read 8 hs0 (by rfl) (by rfl) ?_ (by rfl) (fun wz hSw => ?_) ?_
  rotate_left
  · go_simp
    try with_reducible rfl
  simp only [List.setIfInBounds_toArray, List.set]
  refine goG_read 9 hs0 (by rfl) (by rfl) ?_ (by rfl) (fun wz hSw => ?_) ?_
  rotate_left
  · (have x0 := keepP hSw Q0.out); (have x1 := keepP hSw Q1.out); (have x2 := keepP hSw Q2.out); (have x3 := keepP hSw Q3.out); go_simp
    try with_reducible rfl
  simp only [List.setIfInBounds_toArray, List.set]
  refine goG_read 10 hs0 (by rfl) (by rfl) ?_ (by rfl) (fun wz hSw => ?_) ?_
  rotate_left
  · go_simp
    try with_reducible rfl
  simp only [List.setIfInBounds_toArray, List.set]
  refine goG_read 11 hs0 (by rfl) (by rfl) ?_ (by rfl) (fun wz hSw => ?_) ?_
  rotate_left
  · go_simp
    try with_reducible rfl
  simp only [List.setIfInBounds_toArray, List.set]
  refine goG_read 12 hs0 (by rfl) (by rfl) ?_ (by rfl) (fun wz hSw => ?_) ?_
  rotate_left
  · (have x0 := keepP hSw Q0.out); (have x1 := keepP hSw Q1.out); (have x2 := keepP hSw Q2.out); (have x3 := keepP hSw Q3.out); go_simp
    try with_reducible rfl
  simp only [List.setIfInBounds_toArray, List.set]
  refine goG_read 13 hs0 (by rfl) (by rfl) ?_ (by rfl) (fun wz hSw => ?_) ?_
  rotate_left
  · go_simp
    try with_reducible rfl
  simp only [List.setIfInBounds_toArray, List.set]
  refine goG_read 14 hs0 (by rfl) (by rfl) ?_ (by rfl) (fun wz hSw => ?_) ?_
  rotate_left
  · go_simp
    try with_reducible rfl
  simp only [List.setIfInBounds_toArray, List.set]
  refine goG_read 16 hs0 (by rfl) (by rfl) ?_ (by rfl) (fun wz hSw => ?_) ?_
  rotate_left
  · go_simp
    try with_reducible rfl
  simp only [List.setIfInBounds_toArray, List.set]
  refine goG_read 17 hs0 (by rfl) (by rfl) ?_ (by rfl) (fun wz hSw => ?_) ?_
  rotate_left
  · go_simp
    try with_reducible rfl
  simp only [List.setIfInBounds_toArray, List.set]
  refine goG_read 18 hs0 (by rfl) (by rfl) ?_ (by rfl) (fun wz hSw => ?_) ?_
  rotate_left
  · (have x0 := keepP hSw Q0.out); (have x1 := keepP hSw Q1.out); (have x2 := keepP hSw Q2.out); (have x3 := keepP hSw Q3.out); go_simp
    try with_reducible rfl
  simp only [List.setIfInBounds_toArray, List.set]
  refine goG_read 19 hs0 (by rfl) (by rfl) ?_ (by rfl) (fun wz hSw => ?_) ?_
  rotate_left
  · go_simp
    try with_reducible rfl
  simp only [List.setIfInBounds_toArray, List.set]
  refine goG_read 20 hs0 (by rfl) (by rfl) ?_ (by rfl) (fun wz hSw => ?_) ?_
  rotate_left
  · go_simp
    try with_reducible rfl
  simp only [List.setIfInBounds_toArray, List.set]
  refine goG_read 21 hs0 (by rfl) (by rfl) ?_ (by rfl) (fun wz hSw => ?_) ?_
  rotate_left
  · (have x0 := keepP hSw Q0.out); (have x1 := keepP hSw Q1.out); (have x2 := keepP hSw Q2.out); (have x3 := keepP hSw Q3.out); go_simp
    try with_reducible rfl
  simp only [List.setIfInBounds_toArray, List.set]
  refine goG_read 22 hs0 (by rfl) (by rfl) ?_ (by rfl) (fun wz hSw => ?_) ?_
  rotate_left
  · go_simp
    try with_reducible rfl
  simp only [List.setIfInBounds_toArray, List.set]
  refine goG_read 23 hs0 (by rfl) (by rfl) ?_ (by rfl) (fun wz hSw => ?_) ?_
  rotate_left
  · go_simp
    try with_reducible rfl
  simp only [List.setIfInBounds_toArray, List.set]
  refine goG_read 25 hs0 (by rfl) (by rfl) ?_ (by rfl) (fun wz hSw => ?_) ?_
  rotate_left
  · go_simp
    try with_reducible rfl
  simp only [List.setIfInBounds_toArray, List.set]
  refine goG_read 26 hs0 (by rfl) (by rfl) ?_ (by rfl) (fun wz hSw => ?_) ?_
  rotate_left
  · go_simp
    try with_reducible rfl
  simp only [List.setIfInBounds_toArray, List.set]
  refine goG_read 27 hs0 (by rfl) (by rfl) ?_ (by rfl) (fun wz hSw => ?_) ?_
  rotate_left
  · (have x0 := keepP hSw Q0.out); (have x1 := keepP hSw Q1.out); (have x2 := keepP hSw Q2.out); (have x3 := keepP hSw Q3.out); go_simp
    try with_reducible rfl
  simp only [List.setIfInBounds_toArray, List.set]
  refine goG_read 28 hs0 (by rfl) (by rfl) ?_ (by rfl) (fun wz hSw => ?_) ?_
  rotate_left
  · go_simp
    try with_reducible rfl
  simp only [List.setIfInBounds_toArray, List.set]
  refine goG_read 29 hs0 (by rfl) (by rfl) ?_ (by rfl) (fun wz hSw => ?_) ?_
  rotate_left
  · go_simp
    try with_reducible rfl
  simp only [List.setIfInBounds_toArray, List.set]
  refine goG_read 30 hs0 (by rfl) (by rfl) ?_ (by rfl) (fun wz hSw => ?_) ?_
  rotate_left
  · go_simp
    try with_reducible rfl
  simp only [List.setIfInBounds_toArray, List.set]
  refine goG_read 31 hs0 (by rfl) (by rfl) ?_ (by rfl) (fun wz hSw => ?_) ?_
  rotate_left
  · (have x0 := keepP hSw Q0.out); (have x1 := keepP hSw Q1.out); (have x2 := keepP hSw Q2.out); (have x3 := keepP hSw Q3.out); go_simp
    try with_reducible rfl
  simp only [List.setIfInBounds_toArray, List.set]
  refine goG_read 32 hs0 (by rfl) (by rfl) ?_ (by rfl) (fun wz hSw => ?_) ?_
  rotate_left
  · go_simp
    try with_reducible rfl
  simp only [List.setIfInBounds_toArray, List.set]
  refine goG_read 33 hs0 (by rfl) (by rfl) ?_ (by rfl) (fun wz hSw => ?_) ?_
  rotate_left
  · go_simp
    try with_reducible rfl
  simp only [List.setIfInBounds_toArray, List.set]
  refine goG_read 35 hs0 (by rfl) (by rfl) ?_ (by rfl) (fun wz hSw => ?_) ?_
  rotate_left
  · go_simp
    try with_reducible rfl
  simp only [List.setIfInBounds_toArray, List.set]
  refine goG_read 36 hs0 (by rfl) (by rfl) ?_ (by rfl) (fun wz hSw => ?_) ?_
  rotate_left
  · go_simp
    try with_reducible rfl
  simp only [List.setIfInBounds_toArray, List.set]
  refine goG_read 37 hs0 (by rfl) (by rfl) ?_ (by rfl) (fun wz hSw => ?_) ?_
  rotate_left
  · (have x0 := keepP hSw Q0.out); (have x1 := keepP hSw Q1.out); (have x2 := keepP hSw Q2.out); (have x3 := keepP hSw Q3.out); go_simp
    try with_reducible rfl
  simp only [List.setIfInBounds_toArray, List.set]
  refine goG_read 38 hs0 (by rfl) (by rfl) ?_ (by rfl) (fun wz hSw => ?_) ?_
  rotate_left
  · go_simp
    try with_reducible rfl
  simp only [List.setIfInBounds_toArray, List.set]
  refine goG_read 39 hs0 (by rfl) (by rfl) ?_ (by rfl) (fun wz hSw => ?_) ?_
  rotate_left
  · go_simp
    try with_reducible rfl
  simp only [List.setIfInBounds_toArray, List.set]
  refine goG_read 40 hs0 (by rfl) (by rfl) ?_ (by rfl) (fun wz hSw => ?_) ?_
  rotate_left
  · (have x0 := keepP hSw Q0.out); (have x1 := keepP hSw Q1.out); (have x2 := keepP hSw Q2.out); (have x3 := keepP hSw Q3.out); go_simp
    try with_reducible rfl
  simp only [List.setIfInBounds_toArray, List.set]
  refine goG_read 41 hs0 (by rfl) (by rfl) ?_ (by rfl) (fun wz hSw => ?_) ?_
  rotate_left
  · go_simp
    try with_reducible rfl
  simp only [List.setIfInBounds_toArray, List.set]
  refine goG_read 42 hs0 (by rfl) (by rfl) ?_ (by rfl) (fun wz hSw => ?_) ?_
  rotate_left
  · go_simp
    try with_reducible rfl
  simp only [List.setIfInBounds_toArray, List.set]
  refine goG_step (by rfl) ?_
  go_wp2_with (go_at_call 136; go_must (refine (HPM.out _ hs0 _).mono ?_); rintro en w1' ⟨rfl, hb1'⟩)
  have hs1 := btrP hs0 hb1'
  refine ⟨fun _ => hs1, ?_⟩
  refine goG_step (by rfl) ?_
  go_wp2_with (go_at_call 136; go_must (refine (HPM.out _ hs1 _).mono ?_); rintro en w2' ⟨rfl, hb2'⟩)
  have hs2 := btrP hs1 hb2'
  refine ⟨fun _ => hs2, ?_⟩
  refine goG_step (by rfl) ?_
  go_wp2_with (go_at_call 136; go_must (refine (HPM.out _ hs2 _).mono ?_); rintro en w3' ⟨rfl, hb3'⟩)
  have hs3 := btrP hs2 hb3'
  refine ⟨fun _ => hs3, ?_⟩
  refine goG_step (by rfl) ?_
  go_wp2_with (go_at_call 136; go_must (refine (HPM.out _ hs3 _).mono ?_); rintro en w4' ⟨rfl, hb4'⟩)
  have hs4 := btrP hs3 hb4'
  refine ⟨fun _ => hs4, ?_⟩
  refine goG_read 44 hs4 (by rfl) (by rfl) ?_ (by rfl) (fun wz hSw => ?_) ?_
  rotate_left
  · go_simp
    try with_reducible rfl
  simp only [List.setIfInBounds_toArray, List.set]
  have c0 := keepP hs4 Z0.out
  have f0 : w4'.frozen? ⟨M + 1, 0, none⟩ = false := (hs4.frozen (p := ⟨M + 1, 0, none⟩) (cell_some_lt Z0.out)).trans Y0.out
  have c1 := keepP hs4 Z1.out
  have f1 : w4'.frozen? ⟨M + 1, 1, none⟩ = false := (hs4.frozen (p := ⟨M + 1, 1, none⟩) (cell_some_lt Z1.out)).trans Y1.out
  have c2 := keepP hs4 Z2.out
  have f2 : w4'.frozen? ⟨M + 1, 2, none⟩ = false := (hs4.frozen (p := ⟨M + 1, 2, none⟩) (cell_some_lt Z2.out)).trans Y2.out
  have c3 := keepP hs4 Z3.out
  have f3 : w4'.frozen? ⟨M + 1, 3, none⟩ = false := (hs4.frozen (p := ⟨M + 1, 3, none⟩) (cell_some_lt Z3.out)).trans Y3.out
  refine goG_step (by rfl) ?_
  go_wp2_with fail
  refine ⟨(fun h => by cases h), ?_⟩
  change KX _ _
  have hb5 : Below w.heap.size w w4' := btrP hb0 hs4
  have d0 : ((((w4'.setCell ⟨M + 1, 0, none⟩ (.int .i64 ((a + u * b) % (q : Int)))).setCell ⟨M + 1, 1, none⟩ (.int .i64 ((c + u * d) % (q : Int)))).setCell ⟨M + 1, 2, none⟩ (.int .i64 ((-c + u * d) % (q : Int)))).setCell ⟨M + 1, 3, none⟩ (.int .i64 ((a - u * b) % (q : Int)))).cell? ⟨M + 1, 0, none⟩ = some (.int .i64 ((a + u * b) % (q : Int))) := by go_simp
  have d1 : ((((w4'.setCell ⟨M + 1, 0, none⟩ (.int .i64 ((a + u * b) % (q : Int)))).setCell ⟨M + 1, 1, none⟩ (.int .i64 ((c + u * d) % (q : Int)))).setCell ⟨M + 1, 2, none⟩ (.int .i64 ((-c + u * d) % (q : Int)))).setCell ⟨M + 1, 3, none⟩ (.int .i64 ((a - u * b) % (q : Int)))).cell? ⟨M + 1, 1, none⟩ = some (.int .i64 ((c + u * d) % (q : Int))) := by go_simp
  have d2 : ((((w4'.setCell ⟨M + 1, 0, none⟩ (.int .i64 ((a + u * b) % (q : Int)))).setCell ⟨M + 1, 1, none⟩ (.int .i64 ((c + u * d) % (q : Int)))).setCell ⟨M + 1, 2, none⟩ (.int .i64 ((-c + u * d) % (q : Int)))).setCell ⟨M + 1, 3, none⟩ (.int .i64 ((a - u * b) % (q : Int)))).cell? ⟨M + 1, 2, none⟩ = some (.int .i64 ((-c + u * d) % (q : Int))) := by go_simp
  have d3 : ((((w4'.setCell ⟨M + 1, 0, none⟩ (.int .i64 ((a + u * b) % (q : Int)))).setCell ⟨M + 1, 1, none⟩ (.int .i64 ((c + u * d) % (q : Int)))).setCell ⟨M + 1, 2, none⟩ (.int .i64 ((-c + u * d) % (q : Int)))).setCell ⟨M + 1, 3, none⟩ (.int .i64 ((a - u * b) % (q : Int)))).cell? ⟨M + 1, 3, none⟩ = some (.int .i64 ((a - u * b) % (q : Int))) := by go_simp
  generalize hW5 : ((((w4'.setCell ⟨M + 1, 0, none⟩ (.int .i64 ((a + u * b) % (q : Int)))).setCell ⟨M + 1, 1, none⟩ (.int .i64 ((c + u * d) % (q : Int)))).setCell ⟨M + 1, 2, none⟩ (.int .i64 ((-c + u * d) % (q : Int)))).setCell ⟨M + 1, 3, none⟩ (.int .i64 ((a - u * b) % (q : Int)))) = W5 at *
  have hb6 : Below w.heap.size w W5 := by rw [← hW5]; exact (((hb5.setCell (by have := HM5.out; simp; omega) _).setCell (by have := HM5.out; simp; omega) _).setCell (by have := HM5.out; simp; omega) _).setCell (by have := HM5.out; simp; omega) _
  clear hW5
  refine hKX _ _ ?_
  go_wp2_with fail
  refine bodyPost_ret (v := .agg #[.int .i64 ((a + u * b) % (q : Int)), .int .i64 ((c + u * d) % (q : Int)), .int .i64 ((-c + u * d) % (q : Int)), .int .i64 ((a - u * b) % (q : Int))]) (by simp [results, Tryz.results69, go_sem, d0, d1, d2, d3]) rfl ⟨rfl, hb6⟩
end Go.Proofs.YtefcdclmabdmbaaGreatDoor

namespace Go.Proofs.YtefcdclmabdmbaaGreatDoor
open Go.RowKit

def agB (q : Nat) : Nat → Bool
  | 0 => true
  | n + 1 => (sqM (n : Int) q == decide (jac n q = 1)) && agB q n
theorem agB_spec {q : Nat} : ∀ {n : Nat}, agB q n = true → ∀ k, k < n → sqM (k : Int) q = decide (jac k q = 1)
  | 0, _, k, h => by omega
  | n + 1, h, k, hk => by
    unfold agB at h
    obtain ⟨h1, h2⟩ := Bool.and_eq_true_iff.1 h
    by_cases e : k = n
    · rw [e]; exact eq_of_beq h1
    · exact agB_spec h2 k (by omega)
/-- A square modulo q, by trial and by the symbol. -/
theorem sqM_jac {q : Nat} (hq : q = 5 ∨ q = 13 ∨ q = 17) (a : Int) : sqM a q = decide (jac (a % (q : Int)).toNat q = 1) := by
  have key : agB q q = true := by rcases hq with rfl | rfl | rfl <;> decide +kernel
  have hp : 0 < q := by omega
  have e : ((a % (q : Int)).toNat : Int) = a % (q : Int) := Int.toNat_of_nonneg (Int.emod_nonneg _ (by omega))
  have hl : (a % (q : Int)).toNat < q := by
    have := Int.emod_lt_of_pos a (b := (q : Int)) (by omega)
    omega
  rw [sqM_mod, ← e]
  exact (agB_spec key _ hl)
end Go.Proofs.YtefcdclmabdmbaaGreatDoor
