/- BrandtSums returns true. -/
import Derived.Test.YtdjpeimecfhdjaaGreatTv
namespace Go.Proofs.YtdjpeimecfhdjaaGreat
open Go.RowKit
theorem Eis_no {w : World} {A : Option Addr} {q c : Nat} {l : List Int} (h : IsD w (fun _ => True) (.slice A q c) l) (h64 : i64R l) (hno : ¬ (0 < q ∧ q ≤ 60 ∧ l.all okU = true)) : ∃ f : Int, f ≠ 0 ∧ (∀ W, Below w.heap.size w W → Calls Tryz.prog 29 #[.agg #[.int .i64 0, .slice none 0 0, .int .i64 0, .int .i64 0, .int .i64 0, .slice none 0 0, .slice A q c]] W fun e w' => e = .returned (.tuple #[.slice none 0 0, .int .i64 f]) ∧ Below W.heap.size W w') ∧
  (∀ W, Below w.heap.size w W → Calls Tryz.prog 30 #[.slice A q c] W fun e w' => e = .returned (.int .i64 f) ∧ Below W.heap.size W w') := by
 by_cases h1 : q = 0 ∨ 60 < q
 ·refine ⟨lenE q, ?_, fun W _ => EisB_len h1, fun W _ => CheckEisR_len h1⟩
  rcases h1 with rfl | h1
  ·decide
  ·rw [lenE_far h1]; decide
 ·have hb : l.all okU = false := by
   cases ha : l.all okU with
   | false => rfl
   | true => exact absurd ⟨by omega, by omega, ha⟩ hno
  refine ⟨2, by decide, fun W hW => EisB_bad (Foot.below h hW) (by omega) (by omega) hb, fun W hW => ?_⟩
  have := CheckEisR_any (Foot.below h hW) h64 (by omega) (by omega)
  rw [badE_f hb] at this
  exact this
theorem Sum_yes {d n : Int} (h1 : 1 ≤ d ∧ d ≤ 1000000) (h2 : 1 ≤ n ∧ n ≤ 1000000) : ∃ s : Int, (∀ W, Calls Tryz.prog 28 #[.int .i64 d, .int .i64 n] W fun e w' => e = .returned (.tuple #[.int .i64 s, .int .i64 0]) ∧ Below W.heap.size W w') ∧ (∀ W, Calls Tryz.prog 32 #[.int .i64 d, .int .i64 n] W fun e w' => e = .returned (.int .i64 s) ∧ Below W.heap.size W w') := by
 obtain ⟨d', rfl⟩ : ∃ m : Nat, d = m := ⟨d.toNat, by omega⟩
 obtain ⟨n', rfl⟩ : ∃ m : Nat, n = m := ⟨n.toNat, by omega⟩
 exact ⟨(rsP d' n' n' : Nat), fun W => RowSumB_any (by omega) (by omega) (by omega) (by omega), fun W => RowSumR_any (by omega) (by omega)⟩
set_option maxRecDepth 100000 in
set_option maxHeartbeats 4000000 in
theorem BrandtSums_true {w : World} (d n : Int) {A : Option Addr} {q c : Nat} {l : List Int} (h : IsD w (fun _ => True) (.slice A q c) l) (h64 : i64R l) :
  Calls Tryz.prog 5 #[.int .i64 d, .int .i64 n, .slice A q c] w fun e w' => e = .returned (.bool true) ∧ Below w.heap.size w w' := by
 have HW := Lib.hid h
 by_cases hn1 : 3000 < n ∧ n ≤ 1000000
 ·obtain ⟨z1, z2⟩ := hn1
  clear h h64
  go_enter Tryz.func5, Tryz.ntmps5
  go_wp2_with (go_at_call 10; go_must (refine awake8.mono ?_); rintro e w1 ⟨rfl, hb1⟩)
  go_ret
  exact ⟨rfl, hb1⟩
 by_cases hq : 70 < q
 ·have z3 : (70 : Int) < (q : Int) := by omega
  have hn2 : n ≤ 3000 ∨ ¬ n ≤ 1000000 := by omega
  clear h h64 hn1
  rcases hn2 with z1 | z1
  ·have z2 : ¬ 3000 < n := by omega
   go_enter Tryz.func5, Tryz.ntmps5
   go_wp2_with (go_at_call 10; go_must (refine awake8.mono ?_); rintro e w1 ⟨rfl, hb1⟩)
   go_ret
   exact ⟨rfl, hb1⟩
  ·have z2 : 3000 < n := by omega
   go_enter Tryz.func5, Tryz.ntmps5
   go_wp2_with (go_at_call 10; go_must (refine awake8.mono ?_); rintro e w1 ⟨rfl, hb1⟩)
   go_ret
   exact ⟨rfl, hb1⟩
 have z3 : ¬ (70 : Int) < (q : Int) := by omega
 have hn2 : n ≤ 3000 ∨ ¬ n ≤ 1000000 := by omega
 have HD1 := Lib.hid (fun b (hb : decide (1 ≤ d ∧ d ≤ 1000000) = b) => Within_any hb)
 have HN1 := Lib.hid (fun b (hb : decide (1 ≤ n ∧ n ≤ 1000000) = b) => Within_any hb)
 clear hn1 hq
 by_cases heis : 0 < q ∧ q ≤ 60 ∧ l.all okU = true
 ·obtain ⟨q1, q2, q3⟩ := heis
  have hm := unU_all q3
  have h' : IsD w (fun _ => True) (.slice A q c) ((l.map unU).map fun x : Nat => (x : Int)) := by rw [hm]; exact h
  have HE := Lib.hid (fun W (hW : Below w.heap.size w W) => EisB_ok (Foot.below h' hW) q1 q2 (unU_oke l))
  have HR := Lib.hid (fun W (hW : Below w.heap.size w W) => EisR_ok (Foot.below h' hW) q1 q2 (unU_oke l))
  have HK : Hid (∀ W, Below w.heap.size w W → Calls Tryz.prog 30 #[.slice A q c] W fun e w' => e = .returned (.int .i64 0) ∧ Below W.heap.size W w') := Lib.hid (fun W hW => by
   have := CheckEisR_any (Foot.below h hW) h64 q1 q2
   rw [badE_t q3] at this
   exact this)
  clear q3 hm h h64 h' HW
  rcases hn2 with z1 | z1
  ·have z2 : ¬ 3000 < n := by omega
   by_cases hd' : 1 ≤ d ∧ d ≤ 1000000
   ·have hd := decide_eq_true hd'
    by_cases hn' : 1 ≤ n ∧ n ≤ 1000000
    ·have hn := decide_eq_true hn'
     obtain ⟨s, hs1, hs2⟩ := Sum_yes hd' hn'
     have HRS := Lib.hid hs1
     have HRR := Lib.hid hs2
     have s1 : (s == s) = true := by simp
     clear hs1 hs2
     clear hd' hn'
     have HWD := Lib.hid (HD1.out true hd)
     have HWN := Lib.hid (HN1.out true hn)
     clear hd hn HD1 HN1
     go_enter Tryz.func5, Tryz.ntmps5
     go_wp2_with (first | (go_at_call 10; go_must (refine awake8.mono ?_); rintro e w1 ⟨rfl, hb1⟩) | (go_at_call 28; go_must (refine (HRS.out _).mono ?_); rintro e w2 ⟨rfl, hb2⟩) | (go_at_call 29; go_must (refine (HE.out _ (hb1.trans (hb2.mono hb1.size))).mono ?_); rintro e w3 ⟨A3, c3, rfl, hl3, hb3⟩) | (go_at_call 30; go_must (refine (HK.out _ ((hb1.trans (hb2.mono hb1.size)).trans (hb3.mono (hb1.trans (hb2.mono hb1.size)).size))).mono ?_); rintro e w4 ⟨rfl, hb4⟩; have hb14 := ((hb1.trans (hb2.mono hb1.size)).trans (hb3.mono (hb1.trans (hb2.mono hb1.size)).size)).trans (hb4.mono ((hb1.trans (hb2.mono hb1.size)).trans (hb3.mono (hb1.trans (hb2.mono hb1.size)).size)).size)) | (go_at_call 31; go_must (refine (HR.out _ hb14).mono ?_); rintro e w5 ⟨A5, c5, rfl, hl5, hb5⟩) | (go_at_call 21; go_must (refine (Ints_isd (Foot.below (Foot.below hl3 hb4) hb5) hl5 (by omega)).mono ?_); rintro e w6 ⟨rfl, hb6⟩; have hb16 := hb14.trans ((hb5.trans (hb6.mono hb5.size)).mono hb14.size)) | (go_at_call 15; (first | with_reducible refine (HWD.out _).mono ?_ | with_reducible refine (HWN.out _).mono ?_); rintro e w7 ⟨rfl, rfl⟩) | (go_at_call 32; go_must (refine (HRR.out _).mono ?_); rintro e w8 ⟨rfl, hb8⟩))
     go_ret
     exact ⟨rfl, hb16.trans (hb8.mono hb16.size)⟩
    ·have hn := decide_eq_false hn'
     have HRS := Lib.hid (fun W => RowSumB_no (w := W) (d := d) (n := n) (by omega))
     clear hd' hn'
     have HWD := Lib.hid (HD1.out true hd)
     have HWN := Lib.hid (HN1.out false hn)
     clear hd hn HD1 HN1
     go_enter Tryz.func5, Tryz.ntmps5
     go_wp2_with (first | (go_at_call 10; go_must (refine awake8.mono ?_); rintro e w1 ⟨rfl, hb1⟩) | (go_at_call 28; go_must (refine (HRS.out _).mono ?_); rintro e w2 ⟨rfl, hb2⟩) | (go_at_call 29; go_must (refine (HE.out _ (hb1.trans (hb2.mono hb1.size))).mono ?_); rintro e w3 ⟨A3, c3, rfl, hl3, hb3⟩) | (go_at_call 30; go_must (refine (HK.out _ ((hb1.trans (hb2.mono hb1.size)).trans (hb3.mono (hb1.trans (hb2.mono hb1.size)).size))).mono ?_); rintro e w4 ⟨rfl, hb4⟩; have hb14 := ((hb1.trans (hb2.mono hb1.size)).trans (hb3.mono (hb1.trans (hb2.mono hb1.size)).size)).trans (hb4.mono ((hb1.trans (hb2.mono hb1.size)).trans (hb3.mono (hb1.trans (hb2.mono hb1.size)).size)).size)) | (go_at_call 31; go_must (refine (HR.out _ hb14).mono ?_); rintro e w5 ⟨A5, c5, rfl, hl5, hb5⟩) | (go_at_call 21; go_must (refine (Ints_isd (Foot.below (Foot.below hl3 hb4) hb5) hl5 (by omega)).mono ?_); rintro e w6 ⟨rfl, hb6⟩; have hb16 := hb14.trans ((hb5.trans (hb6.mono hb5.size)).mono hb14.size)) | (go_at_call 15; (first | with_reducible refine (HWD.out _).mono ?_ | with_reducible refine (HWN.out _).mono ?_); rintro e w7 ⟨rfl, rfl⟩))
     go_ret
     exact ⟨rfl, hb16⟩
   ·have hd := decide_eq_false hd'
    by_cases hn' : 1 ≤ n ∧ n ≤ 1000000
    ·have hn := decide_eq_true hn'
     have HRS := Lib.hid (fun W => RowSumB_no (w := W) (d := d) (n := n) (by omega))
     clear hd' hn'
     have HWD := Lib.hid (HD1.out false hd)
     have HWN := Lib.hid (HN1.out true hn)
     clear hd hn HD1 HN1
     go_enter Tryz.func5, Tryz.ntmps5
     go_wp2_with (first | (go_at_call 10; go_must (refine awake8.mono ?_); rintro e w1 ⟨rfl, hb1⟩) | (go_at_call 28; go_must (refine (HRS.out _).mono ?_); rintro e w2 ⟨rfl, hb2⟩) | (go_at_call 29; go_must (refine (HE.out _ (hb1.trans (hb2.mono hb1.size))).mono ?_); rintro e w3 ⟨A3, c3, rfl, hl3, hb3⟩) | (go_at_call 30; go_must (refine (HK.out _ ((hb1.trans (hb2.mono hb1.size)).trans (hb3.mono (hb1.trans (hb2.mono hb1.size)).size))).mono ?_); rintro e w4 ⟨rfl, hb4⟩; have hb14 := ((hb1.trans (hb2.mono hb1.size)).trans (hb3.mono (hb1.trans (hb2.mono hb1.size)).size)).trans (hb4.mono ((hb1.trans (hb2.mono hb1.size)).trans (hb3.mono (hb1.trans (hb2.mono hb1.size)).size)).size)) | (go_at_call 31; go_must (refine (HR.out _ hb14).mono ?_); rintro e w5 ⟨A5, c5, rfl, hl5, hb5⟩) | (go_at_call 21; go_must (refine (Ints_isd (Foot.below (Foot.below hl3 hb4) hb5) hl5 (by omega)).mono ?_); rintro e w6 ⟨rfl, hb6⟩; have hb16 := hb14.trans ((hb5.trans (hb6.mono hb5.size)).mono hb14.size)) | (go_at_call 15; (first | with_reducible refine (HWD.out _).mono ?_ | with_reducible refine (HWN.out _).mono ?_); rintro e w7 ⟨rfl, rfl⟩))
     go_ret
     exact ⟨rfl, hb16⟩
    ·have hn := decide_eq_false hn'
     have HRS := Lib.hid (fun W => RowSumB_no (w := W) (d := d) (n := n) (by omega))
     clear hd' hn'
     have HWD := Lib.hid (HD1.out false hd)
     have HWN := Lib.hid (HN1.out false hn)
     clear hd hn HD1 HN1
     go_enter Tryz.func5, Tryz.ntmps5
     go_wp2_with (first | (go_at_call 10; go_must (refine awake8.mono ?_); rintro e w1 ⟨rfl, hb1⟩) | (go_at_call 28; go_must (refine (HRS.out _).mono ?_); rintro e w2 ⟨rfl, hb2⟩) | (go_at_call 29; go_must (refine (HE.out _ (hb1.trans (hb2.mono hb1.size))).mono ?_); rintro e w3 ⟨A3, c3, rfl, hl3, hb3⟩) | (go_at_call 30; go_must (refine (HK.out _ ((hb1.trans (hb2.mono hb1.size)).trans (hb3.mono (hb1.trans (hb2.mono hb1.size)).size))).mono ?_); rintro e w4 ⟨rfl, hb4⟩; have hb14 := ((hb1.trans (hb2.mono hb1.size)).trans (hb3.mono (hb1.trans (hb2.mono hb1.size)).size)).trans (hb4.mono ((hb1.trans (hb2.mono hb1.size)).trans (hb3.mono (hb1.trans (hb2.mono hb1.size)).size)).size)) | (go_at_call 31; go_must (refine (HR.out _ hb14).mono ?_); rintro e w5 ⟨A5, c5, rfl, hl5, hb5⟩) | (go_at_call 21; go_must (refine (Ints_isd (Foot.below (Foot.below hl3 hb4) hb5) hl5 (by omega)).mono ?_); rintro e w6 ⟨rfl, hb6⟩; have hb16 := hb14.trans ((hb5.trans (hb6.mono hb5.size)).mono hb14.size)) | (go_at_call 15; (first | with_reducible refine (HWD.out _).mono ?_ | with_reducible refine (HWN.out _).mono ?_); rintro e w7 ⟨rfl, rfl⟩))
     go_ret
     exact ⟨rfl, hb16⟩
  ·have z2 : 3000 < n := by omega
   by_cases hd' : 1 ≤ d ∧ d ≤ 1000000
   ·have hd := decide_eq_true hd'
    have hn' : ¬ (1 ≤ n ∧ n ≤ 1000000) := by omega
    have hn := decide_eq_false hn'
    have HRS := Lib.hid (fun W => RowSumB_no (w := W) (d := d) (n := n) (by omega))
    clear hd' hn'
    have HWD := Lib.hid (HD1.out true hd)
    have HWN := Lib.hid (HN1.out false hn)
    clear hd hn HD1 HN1
    go_enter Tryz.func5, Tryz.ntmps5
    go_wp2_with (first | (go_at_call 10; go_must (refine awake8.mono ?_); rintro e w1 ⟨rfl, hb1⟩) | (go_at_call 28; go_must (refine (HRS.out _).mono ?_); rintro e w2 ⟨rfl, hb2⟩) | (go_at_call 29; go_must (refine (HE.out _ (hb1.trans (hb2.mono hb1.size))).mono ?_); rintro e w3 ⟨A3, c3, rfl, hl3, hb3⟩) | (go_at_call 30; go_must (refine (HK.out _ ((hb1.trans (hb2.mono hb1.size)).trans (hb3.mono (hb1.trans (hb2.mono hb1.size)).size))).mono ?_); rintro e w4 ⟨rfl, hb4⟩; have hb14 := ((hb1.trans (hb2.mono hb1.size)).trans (hb3.mono (hb1.trans (hb2.mono hb1.size)).size)).trans (hb4.mono ((hb1.trans (hb2.mono hb1.size)).trans (hb3.mono (hb1.trans (hb2.mono hb1.size)).size)).size)) | (go_at_call 31; go_must (refine (HR.out _ hb14).mono ?_); rintro e w5 ⟨A5, c5, rfl, hl5, hb5⟩) | (go_at_call 21; go_must (refine (Ints_isd (Foot.below (Foot.below hl3 hb4) hb5) hl5 (by omega)).mono ?_); rintro e w6 ⟨rfl, hb6⟩; have hb16 := hb14.trans ((hb5.trans (hb6.mono hb5.size)).mono hb14.size)) | (go_at_call 15; (first | with_reducible refine (HWD.out _).mono ?_ | with_reducible refine (HWN.out _).mono ?_); rintro e w7 ⟨rfl, rfl⟩))
    go_ret
    exact ⟨rfl, hb16⟩
   ·have hd := decide_eq_false hd'
    have hn' : ¬ (1 ≤ n ∧ n ≤ 1000000) := by omega
    have hn := decide_eq_false hn'
    have HRS := Lib.hid (fun W => RowSumB_no (w := W) (d := d) (n := n) (by omega))
    clear hd' hn'
    have HWD := Lib.hid (HD1.out false hd)
    have HWN := Lib.hid (HN1.out false hn)
    clear hd hn HD1 HN1
    go_enter Tryz.func5, Tryz.ntmps5
    go_wp2_with (first | (go_at_call 10; go_must (refine awake8.mono ?_); rintro e w1 ⟨rfl, hb1⟩) | (go_at_call 28; go_must (refine (HRS.out _).mono ?_); rintro e w2 ⟨rfl, hb2⟩) | (go_at_call 29; go_must (refine (HE.out _ (hb1.trans (hb2.mono hb1.size))).mono ?_); rintro e w3 ⟨A3, c3, rfl, hl3, hb3⟩) | (go_at_call 30; go_must (refine (HK.out _ ((hb1.trans (hb2.mono hb1.size)).trans (hb3.mono (hb1.trans (hb2.mono hb1.size)).size))).mono ?_); rintro e w4 ⟨rfl, hb4⟩; have hb14 := ((hb1.trans (hb2.mono hb1.size)).trans (hb3.mono (hb1.trans (hb2.mono hb1.size)).size)).trans (hb4.mono ((hb1.trans (hb2.mono hb1.size)).trans (hb3.mono (hb1.trans (hb2.mono hb1.size)).size)).size)) | (go_at_call 31; go_must (refine (HR.out _ hb14).mono ?_); rintro e w5 ⟨A5, c5, rfl, hl5, hb5⟩) | (go_at_call 21; go_must (refine (Ints_isd (Foot.below (Foot.below hl3 hb4) hb5) hl5 (by omega)).mono ?_); rintro e w6 ⟨rfl, hb6⟩; have hb16 := hb14.trans ((hb5.trans (hb6.mono hb5.size)).mono hb14.size)) | (go_at_call 15; (first | with_reducible refine (HWD.out _).mono ?_ | with_reducible refine (HWN.out _).mono ?_); rintro e w7 ⟨rfl, rfl⟩))
    go_ret
    exact ⟨rfl, hb16⟩
 ·obtain ⟨f, hf, he, hk⟩ := Eis_no h h64 heis
  have HE := Lib.hid he
  have HK := Lib.hid hk
  have f1 : (f != f) = false := by simp
  have f2 : (f == 0) = false := by simpa using hf
  have f3 : (f != 0) = true := by simpa using hf
  have f4 : ¬ f = 0 := hf
  clear heis h h64 he hk hf HW
  rcases hn2 with z1 | z1
  ·have z2 : ¬ 3000 < n := by omega
   by_cases hd' : 1 ≤ d ∧ d ≤ 1000000
   ·have hd := decide_eq_true hd'
    by_cases hn' : 1 ≤ n ∧ n ≤ 1000000
    ·have hn := decide_eq_true hn'
     obtain ⟨s, hs1, hs2⟩ := Sum_yes hd' hn'
     have HRS := Lib.hid hs1
     have HRR := Lib.hid hs2
     have s1 : (s == s) = true := by simp
     clear hs1 hs2
     clear hd' hn'
     have HWD := Lib.hid (HD1.out true hd)
     have HWN := Lib.hid (HN1.out true hn)
     clear hd hn HD1 HN1
     go_enter Tryz.func5, Tryz.ntmps5
     go_wp2_with (first | (go_at_call 10; go_must (refine awake8.mono ?_); rintro e w1 ⟨rfl, hb1⟩) | (go_at_call 28; go_must (refine (HRS.out _).mono ?_); rintro e w2 ⟨rfl, hb2⟩) | (go_at_call 29; go_must (refine (HE.out _ (hb1.trans (hb2.mono hb1.size))).mono ?_); rintro e w3 ⟨rfl, hb3⟩) | (go_at_call 30; go_must (refine (HK.out _ ((hb1.trans (hb2.mono hb1.size)).trans (hb3.mono (hb1.trans (hb2.mono hb1.size)).size))).mono ?_); rintro e w4 ⟨rfl, hb4⟩; have hb14 := ((hb1.trans (hb2.mono hb1.size)).trans (hb3.mono (hb1.trans (hb2.mono hb1.size)).size)).trans (hb4.mono ((hb1.trans (hb2.mono hb1.size)).trans (hb3.mono (hb1.trans (hb2.mono hb1.size)).size)).size)) | (go_at_call 15; (first | with_reducible refine (HWD.out _).mono ?_ | with_reducible refine (HWN.out _).mono ?_); rintro e w7 ⟨rfl, rfl⟩) | (go_at_call 32; go_must (refine (HRR.out _).mono ?_); rintro e w8 ⟨rfl, hb8⟩))
     go_ret
     exact ⟨rfl, hb14.trans (hb8.mono hb14.size)⟩
    ·have hn := decide_eq_false hn'
     have HRS := Lib.hid (fun W => RowSumB_no (w := W) (d := d) (n := n) (by omega))
     clear hd' hn'
     have HWD := Lib.hid (HD1.out true hd)
     have HWN := Lib.hid (HN1.out false hn)
     clear hd hn HD1 HN1
     go_enter Tryz.func5, Tryz.ntmps5
     go_wp2_with (first | (go_at_call 10; go_must (refine awake8.mono ?_); rintro e w1 ⟨rfl, hb1⟩) | (go_at_call 28; go_must (refine (HRS.out _).mono ?_); rintro e w2 ⟨rfl, hb2⟩) | (go_at_call 29; go_must (refine (HE.out _ (hb1.trans (hb2.mono hb1.size))).mono ?_); rintro e w3 ⟨rfl, hb3⟩) | (go_at_call 30; go_must (refine (HK.out _ ((hb1.trans (hb2.mono hb1.size)).trans (hb3.mono (hb1.trans (hb2.mono hb1.size)).size))).mono ?_); rintro e w4 ⟨rfl, hb4⟩; have hb14 := ((hb1.trans (hb2.mono hb1.size)).trans (hb3.mono (hb1.trans (hb2.mono hb1.size)).size)).trans (hb4.mono ((hb1.trans (hb2.mono hb1.size)).trans (hb3.mono (hb1.trans (hb2.mono hb1.size)).size)).size)) | (go_at_call 15; (first | with_reducible refine (HWD.out _).mono ?_ | with_reducible refine (HWN.out _).mono ?_); rintro e w7 ⟨rfl, rfl⟩))
     go_ret
     exact ⟨rfl, hb14⟩
   ·have hd := decide_eq_false hd'
    by_cases hn' : 1 ≤ n ∧ n ≤ 1000000
    ·have hn := decide_eq_true hn'
     have HRS := Lib.hid (fun W => RowSumB_no (w := W) (d := d) (n := n) (by omega))
     clear hd' hn'
     have HWD := Lib.hid (HD1.out false hd)
     have HWN := Lib.hid (HN1.out true hn)
     clear hd hn HD1 HN1
     go_enter Tryz.func5, Tryz.ntmps5
     go_wp2_with (first | (go_at_call 10; go_must (refine awake8.mono ?_); rintro e w1 ⟨rfl, hb1⟩) | (go_at_call 28; go_must (refine (HRS.out _).mono ?_); rintro e w2 ⟨rfl, hb2⟩) | (go_at_call 29; go_must (refine (HE.out _ (hb1.trans (hb2.mono hb1.size))).mono ?_); rintro e w3 ⟨rfl, hb3⟩) | (go_at_call 30; go_must (refine (HK.out _ ((hb1.trans (hb2.mono hb1.size)).trans (hb3.mono (hb1.trans (hb2.mono hb1.size)).size))).mono ?_); rintro e w4 ⟨rfl, hb4⟩; have hb14 := ((hb1.trans (hb2.mono hb1.size)).trans (hb3.mono (hb1.trans (hb2.mono hb1.size)).size)).trans (hb4.mono ((hb1.trans (hb2.mono hb1.size)).trans (hb3.mono (hb1.trans (hb2.mono hb1.size)).size)).size)) | (go_at_call 15; (first | with_reducible refine (HWD.out _).mono ?_ | with_reducible refine (HWN.out _).mono ?_); rintro e w7 ⟨rfl, rfl⟩))
     go_ret
     exact ⟨rfl, hb14⟩
    ·have hn := decide_eq_false hn'
     have HRS := Lib.hid (fun W => RowSumB_no (w := W) (d := d) (n := n) (by omega))
     clear hd' hn'
     have HWD := Lib.hid (HD1.out false hd)
     have HWN := Lib.hid (HN1.out false hn)
     clear hd hn HD1 HN1
     go_enter Tryz.func5, Tryz.ntmps5
     go_wp2_with (first | (go_at_call 10; go_must (refine awake8.mono ?_); rintro e w1 ⟨rfl, hb1⟩) | (go_at_call 28; go_must (refine (HRS.out _).mono ?_); rintro e w2 ⟨rfl, hb2⟩) | (go_at_call 29; go_must (refine (HE.out _ (hb1.trans (hb2.mono hb1.size))).mono ?_); rintro e w3 ⟨rfl, hb3⟩) | (go_at_call 30; go_must (refine (HK.out _ ((hb1.trans (hb2.mono hb1.size)).trans (hb3.mono (hb1.trans (hb2.mono hb1.size)).size))).mono ?_); rintro e w4 ⟨rfl, hb4⟩; have hb14 := ((hb1.trans (hb2.mono hb1.size)).trans (hb3.mono (hb1.trans (hb2.mono hb1.size)).size)).trans (hb4.mono ((hb1.trans (hb2.mono hb1.size)).trans (hb3.mono (hb1.trans (hb2.mono hb1.size)).size)).size)) | (go_at_call 15; (first | with_reducible refine (HWD.out _).mono ?_ | with_reducible refine (HWN.out _).mono ?_); rintro e w7 ⟨rfl, rfl⟩))
     go_ret
     exact ⟨rfl, hb14⟩
  ·have z2 : 3000 < n := by omega
   by_cases hd' : 1 ≤ d ∧ d ≤ 1000000
   ·have hd := decide_eq_true hd'
    have hn' : ¬ (1 ≤ n ∧ n ≤ 1000000) := by omega
    have hn := decide_eq_false hn'
    have HRS := Lib.hid (fun W => RowSumB_no (w := W) (d := d) (n := n) (by omega))
    clear hd' hn'
    have HWD := Lib.hid (HD1.out true hd)
    have HWN := Lib.hid (HN1.out false hn)
    clear hd hn HD1 HN1
    go_enter Tryz.func5, Tryz.ntmps5
    go_wp2_with (first | (go_at_call 10; go_must (refine awake8.mono ?_); rintro e w1 ⟨rfl, hb1⟩) | (go_at_call 28; go_must (refine (HRS.out _).mono ?_); rintro e w2 ⟨rfl, hb2⟩) | (go_at_call 29; go_must (refine (HE.out _ (hb1.trans (hb2.mono hb1.size))).mono ?_); rintro e w3 ⟨rfl, hb3⟩) | (go_at_call 30; go_must (refine (HK.out _ ((hb1.trans (hb2.mono hb1.size)).trans (hb3.mono (hb1.trans (hb2.mono hb1.size)).size))).mono ?_); rintro e w4 ⟨rfl, hb4⟩; have hb14 := ((hb1.trans (hb2.mono hb1.size)).trans (hb3.mono (hb1.trans (hb2.mono hb1.size)).size)).trans (hb4.mono ((hb1.trans (hb2.mono hb1.size)).trans (hb3.mono (hb1.trans (hb2.mono hb1.size)).size)).size)) | (go_at_call 15; (first | with_reducible refine (HWD.out _).mono ?_ | with_reducible refine (HWN.out _).mono ?_); rintro e w7 ⟨rfl, rfl⟩))
    go_ret
    exact ⟨rfl, hb14⟩
   ·have hd := decide_eq_false hd'
    have hn' : ¬ (1 ≤ n ∧ n ≤ 1000000) := by omega
    have hn := decide_eq_false hn'
    have HRS := Lib.hid (fun W => RowSumB_no (w := W) (d := d) (n := n) (by omega))
    clear hd' hn'
    have HWD := Lib.hid (HD1.out false hd)
    have HWN := Lib.hid (HN1.out false hn)
    clear hd hn HD1 HN1
    go_enter Tryz.func5, Tryz.ntmps5
    go_wp2_with (first | (go_at_call 10; go_must (refine awake8.mono ?_); rintro e w1 ⟨rfl, hb1⟩) | (go_at_call 28; go_must (refine (HRS.out _).mono ?_); rintro e w2 ⟨rfl, hb2⟩) | (go_at_call 29; go_must (refine (HE.out _ (hb1.trans (hb2.mono hb1.size))).mono ?_); rintro e w3 ⟨rfl, hb3⟩) | (go_at_call 30; go_must (refine (HK.out _ ((hb1.trans (hb2.mono hb1.size)).trans (hb3.mono (hb1.trans (hb2.mono hb1.size)).size))).mono ?_); rintro e w4 ⟨rfl, hb4⟩; have hb14 := ((hb1.trans (hb2.mono hb1.size)).trans (hb3.mono (hb1.trans (hb2.mono hb1.size)).size)).trans (hb4.mono ((hb1.trans (hb2.mono hb1.size)).trans (hb3.mono (hb1.trans (hb2.mono hb1.size)).size)).size)) | (go_at_call 15; (first | with_reducible refine (HWD.out _).mono ?_ | with_reducible refine (HWN.out _).mono ?_); rintro e w7 ⟨rfl, rfl⟩))
    go_ret
    exact ⟨rfl, hb14⟩
end Go.Proofs.YtdjpeimecfhdjaaGreat
