/- The algebra of Hamilton is definite: package slices on a list of one number, package integer's symbols at 2, package algebra. The Hurwitz order: its rows, its norm. -/
import Derived.Test.YtdjpeimecfhdjaaGreatXaa
import Derived.Test.YtdjpeimecfhdjaaGreatXac
namespace Go.Proofs.YtdjpeimecfhdjaaGreat
open Go.RowKit
set_option maxRecDepth 100000 in
set_option maxHeartbeats 1000000 in
theorem Len64_one (w : World) : Calls Tryz.prog 255 #[.int .u64 1] w fun e w' => (∃ n : Nat, e = .returned (.int .i64 (n : Nat)) ∧ n ≤ 64) ∧ w = w' := by
 go_enter Tryz.func255, Tryz.ntmps255
 go_wp2_with fail
 go_ret
 exact ⟨⟨1, by kernel_rfl, by omega⟩, rfl⟩
set_option maxRecDepth 100000 in
set_option maxHeartbeats 1000000 in
theorem Len_one (w : World) : Calls Tryz.prog 224 #[.int .u64 1] w fun e w' => (∃ n : Nat, e = .returned (.int .i64 (n : Nat)) ∧ n ≤ 64) ∧ w = w' := by
 have HL := Lib.hid (Len64_one w)
 go_enter Tryz.func224, Tryz.ntmps224
 go_wp2_with (go_at_call 255; refine HL.out.mono ?_; rintro e w1 ⟨⟨n, rfl, hn⟩, rfl⟩)
 go_ret
 exact ⟨⟨n, rfl, hn⟩, rfl⟩
set_option maxHeartbeats 1000000 in
theorem ins_one (w : World) (A : Option Addr) (c : Nat) : Calls Tryz.prog 267 #[.slice A 1 c, .int .i64 0, .int .i64 1] w fun e w' => e = .returned (.tuple #[]) ∧ w = w' := by
 go_enter Tryz.func267, Tryz.ntmps267
 go_wp2_with fail
 go_loopw [6] (fun iv wr => iv = .int .i64 1 ∧ wr = w) (fun _ _ => 0)
 case atStart => exact ⟨rfl, rfl⟩
 case round =>
  obtain ⟨rfl, rfl⟩ := hrel
  go_wp2_with fail
  go_end0
  exact ⟨rfl, rfl⟩
set_option maxHeartbeats 1000000 in
theorem pdq_one (w : World) (A : Option Addr) (c n : Nat) : Calls Tryz.prog 257 #[.slice A 1 c, .int .i64 0, .int .i64 1, .int .i64 (n : Nat)] w fun e w' => e = .returned (.tuple #[]) ∧ w = w' := by
 have HI := Lib.hid (ins_one w A c)
 go_enter Tryz.func257, Tryz.ntmps257
 go_wp2_with fail
 go_loopw [1, 2, 3] (fun av bv lv wr => av = .int .i64 0 ∧ bv = .int .i64 1 ∧ lv = .int .i64 (n : Nat) ∧ wr = w) (fun _ _ _ _ => 0)
 case atStart => exact ⟨rfl, rfl, rfl, rfl⟩
 case round =>
  obtain ⟨rfl, rfl, rfl, rfl⟩ := hrel
  go_wp2_with (go_at_call 267; refine HI.out.mono ?_; rintro e w1 ⟨rfl, rfl⟩)
  refine bodyPost_ret (results_none rfl _ _ _) rfl ?_
  exact ⟨rfl, rfl⟩
set_option maxHeartbeats 1000000 in
theorem Sort_one (w : World) (A : Option Addr) (c : Nat) : Calls Tryz.prog 228 #[.slice A 1 c] w fun e w' => e = .returned (.tuple #[]) ∧ w = w' := by
 have HL := Lib.hid (Len_one w)
 have HP := Lib.hid (fun n => pdq_one w A c n)
 go_enter Tryz.func228, Tryz.ntmps228
 go_wp2_with (first
  | (go_at_call 224; refine HL.out.mono ?_; rintro e w1 ⟨⟨n, rfl, hn⟩, rfl⟩)
  | (go_at_call 257; refine (HP.out n).mono ?_; rintro e w1 ⟨rfl, rfl⟩))
 go_end0
 exact ⟨rfl, rfl⟩
set_option maxHeartbeats 1000000 in
theorem Compact_one (w : World) (A : Option Addr) (c : Nat) : Calls Tryz.prog 229 #[.slice A 1 c] w fun e w' => e = .returned (.slice A 1 c) ∧ w = w' := by
 go_enter Tryz.func229, Tryz.ntmps229
 go_wp2_with fail
 go_ret
 exact ⟨rfl, rfl⟩
theorem DeleteFunc_none {w : World} {D : Nat → Prop} {A : Option Addr} {n c : Nat} {l : List Int} (h : IsD w D (.slice A n c) l) (hn : n ≤ 1000000000) {f : FuncId} {lb : Array Value} {p : Int → Bool} (hf : Asks w f lb l p)
  (eg : ∀ args w, (callFunc f args).run Tryz.prog w = .ok (.enter f args) w) (hnone : l.find? p = none) :
  Calls Tryz.prog 230 #[.slice A n c, .func (.func f) #[] lb] w fun e w' => e = .returned (.slice A n c) ∧ Below w.heap.size w w' := by
 have HI := Lib.hid (IndexFunc_any h hn hf eg)
 have HN := Lib.hid hnone
 clear hf eg hnone
 go_enter Tryz.func230, Tryz.ntmps230
 go_wp2_with (go_at_call 239; refine HI.out.mono ?_; rintro e w1 ⟨⟨i, y, _, hi2, _⟩ | ⟨_, rfl⟩, hb1⟩; (try (rw [HN.out] at hi2; cases hi2)))
 go_ret
 exact ⟨rfl, hb1⟩
theorem modulus_one (w : World) : Calls Tryz.prog 213 #[.int .i64 1] w fun e w' => e = .returned (.bool true) ∧ w = w' := by
 go_enter Tryz.func213, Tryz.ntmps213
 go_wp2_with fail
 go_ret
 exact ⟨rfl, rfl⟩
set_option maxHeartbeats 1000000 in
theorem factors_one (w : World) : Calls Tryz.prog 226 #[.int .i64 1] w fun e w' => e = .returned (.slice none 0 0) ∧ w = w' := by
 go_enter Tryz.func226, Tryz.ntmps226
 go_wp2_with fail
 go_loopw [0, 3, 4] (fun nv ov pv wr => nv = .int .i64 1 ∧ ov = .slice none 0 0 ∧ pv = .int .i64 2 ∧ wr = w) (fun _ _ _ _ => 0)
 case atStart => exact ⟨rfl, rfl, rfl, rfl⟩
 case round =>
  obtain ⟨rfl, rfl, rfl, rfl⟩ := hrel
  go_wp2_with fail
  go_ret
  exact ⟨rfl, rfl⟩
theorem Factor_one (w : World) : Calls Tryz.prog 172 #[.int .i64 1] w fun e w' => e = .returned (.tuple #[.slice none 0 0, .int .i64 0]) ∧ w = w' := by
 have H1 := Lib.hid (modulus_one w)
 have H2 := Lib.hid (factors_one w)
 go_enter Tryz.func172, Tryz.ntmps172
 go_wp2_with (first
  | (go_at_call 213; refine H1.out.mono ?_; rintro e w1 ⟨rfl, rfl⟩)
  | (go_at_call 226; refine H2.out.mono ?_; rintro e w1 ⟨rfl, rfl⟩))
 go_ret2
 exact ⟨rfl, rfl⟩
theorem abs_one (w : World) : Calls Tryz.prog 227 #[.int .i64 (-1)] w fun e w' => e = .returned (.int .i64 1) ∧ w = w' := by
 go_enter Tryz.func227, Tryz.ntmps227
 go_wp2_with fail
 go_ret
 exact ⟨rfl, rfl⟩
set_option maxHeartbeats 1000000 in
theorem val_neg1 (w : World) : Calls Tryz.prog 195 #[.int .i64 (-1), .int .i64 2] w fun e w' => e = .returned (.tuple #[.int .i64 0, .int .i64 (-1)]) ∧ w = w' := by
 go_enter Tryz.func195, Tryz.ntmps195
 go_wp2_with fail
 go_loopw [0, 6] (fun nv kv wr => nv = .int .i64 (-1) ∧ kv = .int .i64 0 ∧ wr = w) (fun _ _ _ => 0)
 case atStart => exact ⟨rfl, rfl, rfl⟩
 case round =>
  obtain ⟨rfl, rfl, rfl⟩ := hrel
  go_wp2_with fail
  go_ret2
  exact ⟨rfl, rfl⟩
theorem mod_neg1 (w : World) : Calls Tryz.prog 215 #[.int .i64 (-1), .int .i64 4] w fun e w' => e = .returned (.int .i64 3) ∧ w = w' := by
 go_enter Tryz.func215, Tryz.ntmps215
 go_wp2_with fail
 go_ret
 exact ⟨rfl, rfl⟩
theorem three_neg1 (w : World) : Calls Tryz.prog 276 #[.int .i64 (-1)] w fun e w' => e = .returned (.bool true) ∧ w = w' := by
 have H1 := Lib.hid (mod_neg1 w)
 go_enter Tryz.func276, Tryz.ntmps276
 go_wp2_with (go_at_call 215; refine H1.out.mono ?_; rintro e w1 ⟨rfl, rfl⟩)
 go_ret
 exact ⟨rfl, rfl⟩
set_option maxRecDepth 100000 in
set_option maxHeartbeats 2000000 in
theorem hilb_ham (w : World) : Calls Tryz.prog 259 #[.int .i64 (-1), .int .i64 (-1), .int .i64 2] w fun e w' => e = .returned (.int .i64 (-1)) ∧ w = w' := by
 have H1 := Lib.hid (val_neg1 w)
 have H2 := Lib.hid (three_neg1 w)
 have eg := enters_of Tryz.func276 (by kernel_rfl) rfl
 go_enter Tryz.func259, Tryz.ntmps259
 go_wp2_with (first
  | (go_at_call 195; refine H1.out.mono ?_; rintro e w1 ⟨rfl, rfl⟩)
  | (go_at_call 276; refine H2.out.mono ?_; rintro e w1 ⟨rfl, rfl⟩))
 go_ret
 exact ⟨rfl, rfl⟩
theorem inside_neg1 (w : World) : Calls Tryz.prog 258 #[.int .i64 (-1)] w fun e w' => e = .returned (.bool true) ∧ w = w' := by
 go_enter Tryz.func258, Tryz.ntmps258
 go_wp2_with fail
 go_ret
 exact ⟨rfl, rfl⟩
set_option maxRecDepth 100000 in
set_option maxHeartbeats 2000000 in
theorem Hilb_ham (w : World) : Calls Tryz.prog 232 #[.int .i64 (-1), .int .i64 (-1), .int .i64 2] w fun e w' => e = .returned (.tuple #[.int .i64 (-1), .int .i64 0]) ∧ w = w' := by
 have H1 := Lib.hid (inside_neg1 w)
 have H2 := Lib.hid (hilb_ham w)
 have hp : primeI 2 = true := primeI_true (n := 2) (by omega) (by omega) pr_2
 have h3 := IsPrime_any (w := w) 2 (by omega)
 unfold PrmR at h3
 rw [hp] at h3
 have H3 := Lib.hid h3
 clear h3 hp
 have eg := enters_of Tryz.func258 (by kernel_rfl) rfl
 go_enter Tryz.func232, Tryz.ntmps232
 go_wp2_with (first
  | (go_at_call 258; refine H1.out.mono ?_; rintro e w1 ⟨rfl, rfl⟩)
  | (go_at_call 78; refine H3.out.mono ?_; rintro e w1 ⟨rfl, rfl⟩)
  | (go_at_call 259; refine H2.out.mono ?_; rintro e w1 ⟨rfl, rfl⟩))
 go_ret2
 exact ⟨rfl, rfl⟩
theorem ram1_ham {w : World} {P : Nat} (h0 : w.cell? ⟨P, 0, none⟩ = some (.int .i64 (-1))) (h1 : w.cell? ⟨P, 1, none⟩ = some (.int .i64 (-1))) : Calls Tryz.prog 231 #[.int .i64 2, .pointer (some ⟨P, 0, none⟩)] w fun e w' => e = .returned (.bool false) ∧ w = w' := by
 have H1 := Lib.hid (Hilb_ham w)
 go_enter Tryz.func231, Tryz.ntmps231
 go_wp2_with (go_at_call 232; refine H1.out.mono ?_; rintro e w1 ⟨rfl, rfl⟩)
 go_ret
 exact ⟨rfl, rfl⟩
theorem hix0 (w : World) : (Instr.index 243 (.agg #[.int .i64 (-1), .int .i64 (-1)]) (.int .i64 0)).run Tryz.prog w = .ok (.int .i64 (-1)) w := by kernel_rfl
theorem hix1 (w : World) : (Instr.index 243 (.agg #[.int .i64 (-1), .int .i64 (-1)]) (.int .i64 1)).run Tryz.prog w = .ok (.int .i64 (-1)) w := by kernel_rfl
set_option maxRecDepth 100000 in
set_option maxHeartbeats 4000000 in
theorem ram_ham (w : World) : Calls Tryz.prog 179 #[.agg #[.int .i64 (-1), .int .i64 (-1)]] w fun e w' => ∃ A c, e = .returned (.slice A 1 c) ∧ Below w.heap.size w w' := by
 obtain ⟨W, hW⟩ : ∃ W, W = w.alloc (.cells #[.int .i64 (-1), .int .i64 (-1)] 23) := ⟨_, rfl⟩
 have hbW : Below w.heap.size w W := by rw [hW]; exact (Below.refl _ _).alloc (Nat.le_refl _) _
 have b0 : W.cell? ⟨w.heap.size, 0, none⟩ = some (.int .i64 (-1)) := by rw [hW]; go_simp
 have b1 : W.cell? ⟨w.heap.size, 1, none⟩ = some (.int .i64 (-1)) := by rw [hW]; go_simp
 have HWW := Lib.hid hW
 clear hW
 obtain ⟨W2, hW2⟩ : ∃ W2, W2 = W.alloc (.cells #[.int .i64 2] 3) := ⟨_, rfl⟩
 have hb2 : Below W.heap.size W W2 := by rw [hW2]; exact (Below.refl _ _).alloc (Nat.le_refl _) _
 have hA : Arr W2 W.heap.size 3 [.int .i64 2] := by rw [hW2]; exact Arr.new W _ [.int .i64 2]
 have c0 := keepB hb2 b0
 have c1 := keepB hb2 b1
 have hP : w.heap.size < W2.heap.size := cell_lt c0
 have hI : IsD W2 (fun _ => True) (.slice (some ⟨W.heap.size, 0, none⟩) 1 1) [2] := ⟨_, 1, rfl, Nat.le_refl _, by unfold maxLen; omega, fun _ => ⟨_, 0, rfl, trivial, fun j hj => by
  have : j = 0 := by simp at hj; omega
  subst this
  rw [Nat.zero_add, hA.cell]; rfl⟩⟩
 have HW2 := Lib.hid hW2
 clear hW2
 have HF := Lib.hid (Factor_one W2)
 have HAB := Lib.hid (abs_one W2)
 have HS := Lib.hid (Sort_one W2 (some ⟨W.heap.size, 0, none⟩) 1)
 have HC := Lib.hid (Compact_one W2 (some ⟨W.heap.size, 0, none⟩) 1)
 have hD := DeleteFunc_none hI (by omega) (f := 231) (lb := #[.pointer (some ⟨w.heap.size, 0, none⟩)]) (p := fun _ => false) (fun x hx W' hb => by
  have : x = 2 := by simpa using hx
  subst this
  refine (ram1_ham (keepB hb c0) (keepB hb c1)).mono ?_
  rintro e w1 ⟨rfl, rfl⟩
  exact ⟨rfl, Below.refl _ _⟩) (enters_of Tryz.func231 (by kernel_rfl) rfl) (by simp)
 have HD := Lib.hid hD
 have HFIN := Lib.hid (fun w3 (hb3 : Below W2.heap.size W2 w3) => hbW.trans ((hb2.trans (hb3.mono hb2.size)).mono hbW.size))
 clear hI hD
 go_enter Tryz.func179, Tryz.ntmps179
 go_upto_region 1 with (fail)
 rw [← HWW.out]
 go_upto_region 2 with (fail)
 rw [← HW2.out]
 have i0 := fun w => hix0 w
 have i1 := fun w => hix1 w
 go_wp2_with fail
 go_loopw [3, 16] (fun pv kv wr => ∃ k : Nat, k ≤ 2 ∧ kv = .int .i64 (k : Nat) ∧ pv = .slice (some ⟨W.heap.size, 0, none⟩) 1 1 ∧ W2 = wr) (fun _ kv _ => 2 - (intOf kv).toNat)
 case atStart => exact ⟨0, by omega, rfl, rfl, rfl⟩
 case round =>
  obtain ⟨k, hk, rfl, rfl, rfl⟩ := hrel
  rcases Nat.lt_or_ge k 2 with hk2 | hk2
  ·have a1 : (k : Int) < 2 := by omega
   have HIX : Hid (∀ w : World, (Instr.index 243 (.agg #[.int .i64 (-1), .int .i64 (-1)]) (.int .i64 (k : Nat))).run Tryz.prog w = .ok (.int .i64 (-1)) w) := Lib.hid fun w => by
    rcases (show k = 0 ∨ k = 1 by omega) with rfl | rfl
    ·exact hix0 w
    ·exact hix1 w
   have ix := HIX.out
   clear i0 i1
   go_wp2_with (first
    | (go_at_call 227; refine HAB.out.mono ?_; rintro e w3 ⟨rfl, rfl⟩)
    | (go_at_call 172; refine HF.out.mono ?_; rintro e w3 ⟨rfl, rfl⟩))
   go_loopw [3, 27] (fun pv jv wr => pv = .slice (some ⟨W.heap.size, 0, none⟩) 1 1 ∧ jv = .int .i64 0 ∧ W2 = wr) (fun _ _ _ => 0)
   case atStart => exact ⟨rfl, rfl, rfl⟩
   case round =>
    obtain ⟨rfl, rfl, rfl⟩ := hrel
    go_wp2_with fail
    go_roundw
    case rel => exact ⟨k + 1, by omega, by go_num, by first | rfl | trivial, by first | rfl | trivial⟩
    case measure => simp only [intOf]; omega
  ·obtain rfl : k = 2 := by omega
   clear i0 i1
   go_wp2_with (first
    | (go_at_call 228; refine HS.out.mono ?_; rintro e w3 ⟨rfl, rfl⟩)
    | (go_at_call 229; refine HC.out.mono ?_; rintro e w3 ⟨rfl, rfl⟩)
    | (go_at_call 230; refine HD.out.mono ?_; rintro e w3 ⟨rfl, hb3⟩))
   go_ret
   exact ⟨some ⟨W.heap.size, 0, none⟩, 1, by first | rfl | simp | exact ⟨rfl, trivial, rfl⟩, HFIN.out _ hb3⟩
set_option maxHeartbeats 2000000 in
theorem Ram_ham (w : World) : Calls Tryz.prog 126 #[.agg #[.int .i64 (-1), .int .i64 (-1)]] w fun e w' => ∃ v, e = .returned (.tuple #[v, .bool true, .int .i64 0]) ∧ Below w.heap.size w w' := by
 obtain ⟨W, hW⟩ : ∃ W, W = w.alloc (.cells #[.int .i64 (-1), .int .i64 (-1)] 23) := ⟨_, rfl⟩
 have hbW : Below w.heap.size w W := by rw [hW]; exact (Below.refl _ _).alloc (Nat.le_refl _) _
 have b0 : W.cell? ⟨w.heap.size, 0, none⟩ = some (.int .i64 (-1)) := by rw [hW]; go_simp
 have b1 : W.cell? ⟨w.heap.size, 1, none⟩ = some (.int .i64 (-1)) := by rw [hW]; go_simp
 have hP : w.heap.size < W.heap.size := cell_lt b0
 have HWW := Lib.hid hW
 clear hW
 have HC := Lib.hid (algCheck_ok (aA := -1) (aB := -1) W (by omega) (by omega) (by omega) (by omega))
 have HR := Lib.hid (fun w' => ram_ham w')
 go_enter Tryz.func126, Tryz.ntmps126
 go_upto_region 1 with (fail)
 rw [← HWW.out]
 go_upto_region 4 with (go_at_call 178; refine HC.out.mono ?_; rintro e w1 ⟨rfl, hb1⟩)
 have c0 := keepB hb1 b0
 have c1 := keepB hb1 b1
 have hP1 : w.heap.size < w1.heap.size := Nat.lt_of_lt_of_le hP hb1.size
 have hs0 : Below w1.heap.size w1 w1.drew := (Below.refl _ _).drew
 refine wp_region_tq5 (.read 0 (.read 2 (.read 3 (.read 4 (.step 1 (.read 5 (.read 6 (.read 7 (.read 8 (.read 9 (.step 10 (.step 11 (.step 12 .nil))))))))))))) [] (by kernel_rfl) (by rfl) (by kernel_rfl) (by kernel_rfl) (fun V => Below w1.heap.size w1 V) ?_
 change goU _ _ _ _ _ _ _ w1.drew
 refine goU_read 11 hs0 (by rfl) (by rfl) ?_ (by rfl) (fun wz hSw => ?_) ?_
 rotate_left
 ·have y0 := keepW hSw hP1 c0; have y1 := keepW hSw hP1 c1; go_simp
  try with_reducible rfl
 simp only [sIB, List.set]
 refine goU_read 13 hs0 (by rfl) (by rfl) ?_ (by rfl) (fun wz hSw => ?_) ?_
 rotate_left
 ·have y0 := keepW hSw hP1 c0; have y1 := keepW hSw hP1 c1; go_simp
  try with_reducible rfl
 simp only [sIB, List.set]
 refine goU_read 14 hs0 (by rfl) (by rfl) ?_ (by rfl) (fun wz hSw => ?_) ?_
 rotate_left
 ·have y0 := keepW hSw hP1 c0; have y1 := keepW hSw hP1 c1; go_simp
  try with_reducible rfl
 simp only [sIB, List.set]
 refine goU_read 15 hs0 (by rfl) (by rfl) ?_ (by rfl) (fun wz hSw => ?_) ?_
 rotate_left
 ·have y0 := keepW hSw hP1 c0; have y1 := keepW hSw hP1 c1; go_simp
  try with_reducible rfl
 simp only [sIB, List.set]
 refine goU_call 12 (by rfl) (by rfl) (by rfl) (by go_simp) (HR.out w1.drew) ?_
 rintro e w2 ⟨A2, c2, rfl, hb2⟩
 have hs1 := hs0.trans (hb2.mono hs0.size)
 refine ⟨_, rfl, fun _ => hs1, ?_⟩
 simp only [sIB, List.set]
 refine goU_read 16 hs1 (by rfl) (by rfl) ?_ (by rfl) (fun wz hSw => ?_) ?_
 rotate_left
 ·have y0 := keepW hSw hP1 c0; have y1 := keepW hSw hP1 c1; go_simp
  try with_reducible rfl
 simp only [sIB, List.set]
 refine goU_read 17 hs1 (by rfl) (by rfl) ?_ (by rfl) (fun wz hSw => ?_) ?_
 rotate_left
 ·have y0 := keepW hSw hP1 c0; have y1 := keepW hSw hP1 c1; go_simp
  try with_reducible rfl
 simp only [sIB, List.set]
 refine goU_read 18 hs1 (by rfl) (by rfl) ?_ (by rfl) (fun wz hSw => ?_) ?_
 rotate_left
 ·have y0 := keepW hSw hP1 c0; have y1 := keepW hSw hP1 c1; go_simp
  try with_reducible rfl
 simp only [sIB, List.set]
 refine goU_read 19 hs1 (by rfl) (by rfl) ?_ (by rfl) (fun wz hSw => ?_) ?_
 rotate_left
 ·have y0 := keepW hSw hP1 c0; have y1 := keepW hSw hP1 c1; go_simp
  try with_reducible rfl
 simp only [sIB, List.set]
 refine goU_read 20 hs1 (by rfl) (by rfl) ?_ (by rfl) (fun wz hSw => ?_) ?_
 rotate_left
 ·have y0 := keepW hSw hP1 c0; have y1 := keepW hSw hP1 c1; go_simp
  try with_reducible rfl
 simp only [sIB, List.set]
 refine goU_step (by rfl) ?_
 go_wp2_with fail
 try (refine ⟨fun _ => hs1, ?_⟩)
 refine goU_step (by rfl) ?_
 go_wp2_with fail
 try (refine ⟨fun _ => hs1, ?_⟩)
 refine goU_step (by rfl) ?_
 go_wp2_with fail
 try (refine ⟨fun _ => hs1, ?_⟩)
 refine goU_nilN ?_
 go_wp2_with fail
 refine bodyPost_ret (v := .tuple #[.slice A2 1 c2, .bool true, .int .i64 0]) (by simp [results, Tryz.results126, go_sem]) rfl ⟨_, rfl, hbW.trans ((hb1.trans (hs1.mono hb1.size)).mono hbW.size)⟩
set_option maxHeartbeats 2000000 in
theorem Def_ham (w : World) : Calls Tryz.prog 70 #[.agg #[.int .i64 (-1), .int .i64 (-1)]] w fun e w' => e = .returned (.tuple #[.bool true, .int .i64 0]) ∧ Below w.heap.size w w' := by
 obtain ⟨W, hW⟩ : ∃ W, W = w.alloc (.cells #[.int .i64 (-1), .int .i64 (-1)] 23) := ⟨_, rfl⟩
 have hbW : Below w.heap.size w W := by rw [hW]; exact (Below.refl _ _).alloc (Nat.le_refl _) _
 have b0 : W.cell? ⟨w.heap.size, 0, none⟩ = some (.int .i64 (-1)) := by rw [hW]; go_simp
 have b1 : W.cell? ⟨w.heap.size, 1, none⟩ = some (.int .i64 (-1)) := by rw [hW]; go_simp
 have HWW := Lib.hid hW
 clear hW
 have HR := Lib.hid (Ram_ham W)
 go_enter Tryz.func70, Tryz.ntmps70
 go_upto_region 1 with (fail)
 rw [← HWW.out]
 go_wp2_with (go_at_call 126; refine HR.out.mono ?_; rintro e w1 ⟨v, rfl, hb1⟩)
 go_ret2
 exact ⟨rfl, hbW.trans (hb1.mono hbW.size)⟩
end Go.Proofs.YtdjpeimecfhdjaaGreat

namespace Go.Proofs.YtdjpeimecfhdjaaGreat
open Go.RowKit
def huL : List (List Int) := [[1, 1, 1, 1], [0, 2, 0, 0], [0, 0, 2, 0], [0, 0, 0, 2]]
theorem huL_chk : chkL 4 2 huL = 0 := by decide +kernel
theorem huL_herm : herm 10 huL = some huL := by decide +kernel
theorem huL_netR : netR huL 2 = huL := by decide +kernel
theorem huL_netD : netD huL 2 = 2 := by decide +kernel
theorem huL_ok2 : okN 1000000 (netR huL 2) (netD huL 2) = true := by decide +kernel
theorem huL_len : ∀ l ∈ netR huL 2, l.length = 4 := by decide +kernel
theorem huL_fit1 : fitM (netR huL 2) = true := by decide +kernel
theorem huL_fit2 : fitM (tms (netR huL 2) (formL (-1) (-1))) = true := by decide +kernel
theorem huL_fit3 : fitM (gramL (-1) (-1) (netR huL 2)) = true := by decide +kernel
theorem huL_fit4 : fit (netD huL 2) = true := by decide +kernel
theorem huL_nrm : nrmM (gramL (-1) (-1) (netR huL 2)) 4 = 4 := by decide +kernel
theorem NormHu {w : World} {v : Value} (h : LatV w v 4 2 huL) : Calls Tryz.prog 71 #[.agg #[.int .i64 (-1), .int .i64 (-1)], v] w fun e w' => e = .returned (.tuple #[.agg #[.int .i64 1, .int .i64 1], .int .i64 0]) ∧ Below w.heap.size w w' :=
 Norm_ok (f := 10) 4 2 h (by decide) (by decide) (by decide) (by decide) huL_chk huL_herm rfl huL_ok2 huL_len huL_fit1 huL_fit2 huL_fit3 huL_fit4 (by rw [huL_netD]; decide) huL_nrm huL_netD (by decide +kernel) (by decide +kernel) (by decide +kernel)
end Go.Proofs.YtdjpeimecfhdjaaGreat
