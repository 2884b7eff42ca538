/- Package wide: Short: the form that is walked. -/
import Derived.Test.YtdjpeimecfhdjaaGreatXx
import Derived.Test.YtdjpeimecfhdjaaGreatXt
namespace Go.Proofs.YtdjpeimecfhdjaaGreat
open Go.RowKit
theorem tms_len (L N : List (List Int)) : (tms L N).length = L.length := by simp [tms]
theorem tms_row {L N : List (List Int)} {n : Nat} (h : (rw_ N 0).length = n) {l : List Int} (hl : l ∈ tms L N) : l.length = n := by
 unfold tms at hl
 obtain ⟨r, _, rfl⟩ := List.mem_map.1 hl
 rw [rowT_length, h]
theorem trs_len {L : List (List Int)} {n : Nat} (h : (rw_ L 0).length = n) : (trs L).length = n := by unfold trs; rw [List.length_map, List.length_range, h]
theorem trs_row {L : List (List Int)} {l : List Int} (hl : l ∈ trs L) : l.length = L.length := by
 unfold trs at hl
 obtain ⟨r, _, rfl⟩ := List.mem_map.1 hl
 rw [List.length_map]
noncomputable def sreg2C : Code := (regOf 2 ((Tryz.f185.body).getD .skip)).getD .skip
def sreg2T31 : Tr5 := .step 7 .nil
def sreg2T30 : Tr5 := .step 6 sreg2T31
def sreg2T21 : Tr5 := .step 5 sreg2T31
def sreg2T20 : Tr5 := .two 5 6 sreg2T30 sreg2T21
def sreg2T11 : Tr5 := .step 4 sreg2T21
def sreg2T10 : Tr5 := .two 4 6 sreg2T20 sreg2T11
def sreg2T01 : Tr5 := .step 2 sreg2T11
def sreg2T00 : Tr5 := .two 2 6 sreg2T10 sreg2T01
set_option maxRecDepth 100000 in
set_option maxHeartbeats 4000000 in
theorem sreg2 {w : World} {Q : Exit → Act → World → Prop} {P1 P4 n cT cG : Nat} {AT AG : Option Addr} {T G : List (List Int)} {t0 t2 t3 t5 t6 t7 t8 t9 t10 t11 t12 t13 t14 t15 t16 t17 t18 t19 t20 t21 t22 t23 t24 t25 t26 t27 t28 : Value}
  (c4 : w.cell? ⟨P4, 0, none⟩ = some (.slice AT n cT)) (c1 : w.cell? ⟨P1, 0, none⟩ = some (.slice AG n cG)) (hT : RM w (.slice AT n cT) T) (hG : RM w (.slice AG n cG) G) (hn : 0 < n) (hn1 : n ≤ 1000) (hTr : ∀ l ∈ T, l.length = n) (hGr : ∀ l ∈ G, l.length = n) (hfT : fitM T = true) (hfG : fitM G = true) (hfTG : fitM (tms T G) = true) (hfTt : fitM (trs T) = true)
  (hQ : ∀ (w' : World) (P : Nat) (A1 : Option Addr) (c1 : Nat) (u11 u12 u13 u14 u15 u16 : Value), Arr w' P 113 [.slice A1 n c1] → RowsD PvD w' (fun b => w.heap.size ≤ b ∧ b ≠ P) (.slice A1 n c1) (tms (tms T G) (trs T)) → w.heap.size ≤ P → Below w.heap.size w w' → Q .normal ⟨#[t0, .pointer (some ⟨P1, 0, none⟩), t2, t3, .pointer (some ⟨P4, 0, none⟩), .pointer (some ⟨P, 0, none⟩), t6, t7, t8, t9, t10, u11, u12, u13, u14, u15, u16, t17, t18, t19, t20, t21, t22, t23, t24, t25, t26, t27, t28], []⟩ w') :
  (sreg2C).wp Tryz.prog Q ⟨#[t0, .pointer (some ⟨P1, 0, none⟩), t2, t3, .pointer (some ⟨P4, 0, none⟩), t5, t6, t7, t8, t9, t10, t11, t12, t13, t14, t15, t16, t17, t18, t19, t20, t21, t22, t23, t24, t25, t26, t27, t28], []⟩ w := by
 have HQ := Lib.hid hQ
 clear hQ
 show Code.wp _ (Code.region 2 (List.toArray _) true) _ _ _
 obtain ⟨v0, hv0⟩ : ∃ v0, v0 = w.drew := ⟨_, rfl⟩
 have hs : Below w.heap.size w v0 := by rw [hv0]; exact (Below.refl _ _).drew
 have hlT : T.length = n := (RowsD.room hT).1.symm
 have hlG : G.length = n := (RowsD.room hG).1.symm
 have hT0 : (rw_ T 0).length = n := hTr _ (rw_mem (by omega))
 have hG0 : (rw_ G 0).length = n := hGr _ (rw_mem (by omega))
 have hTG : ∀ l ∈ tms T G, l.length = n := fun l hl => tms_row hG0 hl
 have hTt : ∀ l ∈ trs T, l.length = n := fun l hl => (trs_row hl).trans hlT
 have hL13 : (tms T G).length = n := (tms_len _ _).trans hlT
 have hL15 : (trs T).length = n := trs_len hT0
 have hL16 : (tms (tms T G) (trs T)).length = n := (tms_len _ _).trans hL13
 refine wp_region_tq5 (.read 0 (.read 1 (.read 3 sreg2T00))) [7] (by kernel_rfl) (by rfl) (by kernel_rfl) (by kernel_rfl) (fun V => Below w.heap.size w V) ?_
 change goU _ _ _ _ _ _ _ w.drew
 rw [← hv0]
 clear hv0
 refine goU_read 11 hs (by rfl) (by rfl) (.slice AT n cT) (by rfl) (fun wz hSw => ?_) ?_
 ·have e0 := keepB hSw c4; go_simp
  try with_reducible rfl
 simp only [sIB, List.set]
 refine goU_read 12 hs (by rfl) (by rfl) (.slice AG n cG) (by rfl) (fun wz hSw => ?_) ?_
 ·have e0 := keepB hSw c1; go_simp
  try with_reducible rfl
 simp only [sIB, List.set]
 refine goU_read 14 hs (by rfl) (by rfl) (.slice AT n cT) (by rfl) (fun wz hSw => ?_) ?_
 ·have e0 := keepB hSw c4; go_simp
  try with_reducible rfl
 simp only [sIB, List.set]
 refine (fun (key : ∀ O, O = _ → goU _ O _ _ _ _ _ _) => key _ rfl) ?_
 intro O hO
 have ho2 := opAt hO 2 rfl
 simp only [List.getElem_toArray, List.getElem_cons_succ, List.getElem_cons_zero] at ho2
 have HO2 := Lib.hid ho2
 clear ho2
 have ho4 := opAt hO 4 rfl
 simp only [List.getElem_toArray, List.getElem_cons_succ, List.getElem_cons_zero] at ho4
 have HO4 := Lib.hid ho4
 clear ho4
 have ho5 := opAt hO 5 rfl
 simp only [List.getElem_toArray, List.getElem_cons_succ, List.getElem_cons_zero] at ho5
 have HO5 := Lib.hid ho5
 clear ho5
 have ho6 := opAt hO 6 rfl
 simp only [List.getElem_toArray, List.getElem_cons_succ, List.getElem_cons_zero] at ho6
 have HO6 := Lib.hid ho6
 clear ho6
 have ho7 := opAt hO 7 rfl
 simp only [List.getElem_toArray, List.getElem_cons_succ, List.getElem_cons_zero] at ho7
 have HO7 := Lib.hid ho7
 clear ho7
 clear hO
 have K31 : Hid (∀ (V : World) (P : Nat) (r13 : Value) (r15 : Value) (r16 : Value), Below w.heap.size w V → RowsD PvD V (fun b => w.heap.size ≤ b ∧ b ≠ P) r16 (tms (tms T G) (trs T)) → Arr V P 113 [.slice none 0 0] → w.heap.size ≤ P → goU Tryz.prog O (noPanic Q) (fun V => Below w.heap.size w V) [7] sreg2T31 ⟨#[t0, .pointer (some ⟨P1, 0, none⟩), t2, t3, .pointer (some ⟨P4, 0, none⟩), .pointer (some ⟨P, 0, none⟩), t6, t7, t8, t9, t10, .slice AT n cT, .slice AG n cG, r13, .slice AT n cT, r15, r16, t17, t18, t19, t20, t21, t22, t23, t24, t25, t26, t27, t28], []⟩ V) := Lib.hid (by
  intro V P r13 r15 r16 hs h16 hP hPw
  obtain ⟨A1, c1, rfl⟩ := RowsD.slice_ h16 hL16
  have q0 := hP.cell 0
  have f0 := hP.frozen 0
  refine goU_step HO7.out ?_
  go_wp2_with fail
  try (refine ⟨fun h => absurd h (by decide), ?_⟩)
  refine goU_nilN ?_
  have hA : Arr (V.setCell ⟨P, 0, none⟩ (.slice A1 n c1)) P 113 [.slice A1 n c1] := hP.set_ 0 _
  have hf : Frm (· = P) V (V.setCell ⟨P, 0, none⟩ (.slice A1 n c1)) := Frm.setCell (O := (· = P)) (p := ⟨P, 0, none⟩) (fun _ => rfl) _
  exact HQ.out _ P A1 c1 _ _ _ _ _ _ hA (hf.foot h16 fun b hb => hb.2) hPw (hs.trans (hf.below (B := w.heap.size) hs.size fun b (e : b = P) => by rw [e]; exact hPw)))
 have K30 : Hid (∀ (V : World) (r13 : Value) (r15 : Value) (r16 : Value), Below w.heap.size w V → RowsD PvD V (fun b => w.heap.size ≤ b) r16 (tms (tms T G) (trs T)) → goU Tryz.prog O (noPanic Q) (fun V => Below w.heap.size w V) [7] sreg2T30 ⟨#[t0, .pointer (some ⟨P1, 0, none⟩), t2, t3, .pointer (some ⟨P4, 0, none⟩), t5, t6, t7, t8, t9, t10, .slice AT n cT, .slice AG n cG, r13, .slice AT n cT, r15, r16, t17, t18, t19, t20, t21, t22, t23, t24, t25, t26, t27, t28], []⟩ V) := Lib.hid (by
  intro V r13 r15 r16 hs h16
  refine goU_step HO6.out ?_
  go_wp2_with fail
  obtain ⟨V2, hV2⟩ : ∃ U, U = V.alloc (.cells #[.slice none 0 0] 113) := ⟨_, rfl⟩
  obtain ⟨P, hXe⟩ : ∃ B, B = V.heap.size := ⟨_, rfl⟩
  have hP : Arr V2 P 113 [.slice none 0 0] := by rw [hV2, hXe]; exact Arr.new V _ [.slice none 0 0]
  have hb : Below V.heap.size V V2 := by rw [hV2]; exact (Below.refl _ _).alloc (Nat.le_refl _) _
  have hPw : w.heap.size ≤ P := by rw [hXe]; exact hs.size
  rw [← hV2, ← hXe]
  replace h16 : RowsD PvD V (fun b => w.heap.size ≤ b ∧ b ≠ P) r16 _ := RowsD.mono h16 fun b hx hl => ⟨hx, by omega⟩
  replace h16 := RowsD.below h16 hb
  clear hV2 hXe
  replace hs := hs.trans (hb.mono hs.size)
  first | refine ⟨fun _ => hs, ?_⟩ | refine ⟨hs, ?_⟩
  have HZ := K31.out V2 P r13 r15 r16 hs h16 hP hPw
  try dsimp only at HZ
  exact HZ)
 have K21 : Hid (∀ (V : World) (P : Nat) (r13 : Value) (r15 : Value), Below w.heap.size w V → RM V r13 (tms T G) → RM V r15 (trs T) → Arr V P 113 [.slice none 0 0] → w.heap.size ≤ P → goU Tryz.prog O (noPanic Q) (fun V => Below w.heap.size w V) [7] sreg2T21 ⟨#[t0, .pointer (some ⟨P1, 0, none⟩), t2, t3, .pointer (some ⟨P4, 0, none⟩), .pointer (some ⟨P, 0, none⟩), t6, t7, t8, t9, t10, .slice AT n cT, .slice AG n cG, r13, .slice AT n cT, r15, t16, t17, t18, t19, t20, t21, t22, t23, t24, t25, t26, t27, t28], []⟩ V) := Lib.hid (by
  intro V P r13 r15 hs h13 h15 hP hPw
  obtain ⟨A13, c13, rfl⟩ := RowsD.slice_ h13 hL13
  obtain ⟨A15, c15, rfl⟩ := RowsD.slice_ h15 hL15
  refine goU_call 16 HO5.out (by rfl) (by rfl) (by go_simp) (Times_any h13 h15 (by omega) (by omega) hn (by omega) hn hTG hTt hfTG hfTt) ?_
  rintro e V2 ⟨r16, rfl, h16, hb⟩
  replace h16 : RowsD PvD V2 (fun b => w.heap.size ≤ b ∧ b ≠ P) r16 (tms (tms T G) (trs T)) := RowsD.mono h16 fun b (hx : V.heap.size ≤ b) _ => ⟨Nat.le_trans hs.size hx, fun e => by have := hP.lt; omega⟩
  replace hP := keepA hP hb hP.lt
  replace hs := hs.trans (hb.mono hs.size)
  refine ⟨_, rfl, fun _ => hs, ?_⟩
  simp only [sIB, List.set]
  have HZ := K31.out V2 P (.slice A13 n c13) (.slice A15 n c15) r16 hs h16 hP hPw
  try dsimp only at HZ
  exact HZ)
 have K20 : Hid (∀ (V : World) (r13 : Value) (r15 : Value), Below w.heap.size w V → RM V r13 (tms T G) → RM V r15 (trs T) → goU Tryz.prog O (noPanic Q) (fun V => Below w.heap.size w V) [7] sreg2T20 ⟨#[t0, .pointer (some ⟨P1, 0, none⟩), t2, t3, .pointer (some ⟨P4, 0, none⟩), t5, t6, t7, t8, t9, t10, .slice AT n cT, .slice AG n cG, r13, .slice AT n cT, r15, t16, t17, t18, t19, t20, t21, t22, t23, t24, t25, t26, t27, t28], []⟩ V) := Lib.hid (by
  intro V r13 r15 hs h13 h15
  obtain ⟨A13, c13, rfl⟩ := RowsD.slice_ h13 hL13
  obtain ⟨A15, c15, rfl⟩ := RowsD.slice_ h15 hL15
  refine goU_two HO5.out HO6.out ?_ ?_ 
  ·refine goU_call1 16 (by rfl) (by rfl) (by go_simp) (Times_any h13 h15 (by omega) (by omega) hn (by omega) hn hTG hTt hfTG hfTt) ?_
   rintro e V2 ⟨r16, rfl, h16, hb⟩
   replace h16 : RowsD PvD V2 (fun b => w.heap.size ≤ b) r16 (tms (tms T G) (trs T)) := RowsD.mono h16 fun b (hx : V.heap.size ≤ b) _ => Nat.le_trans hs.size hx
   replace hs := hs.trans (hb.mono hs.size)
   refine ⟨_, rfl, fun _ => hs, ?_⟩
   simp only [sIB, List.set]
   have HZ := K30.out V2 (.slice A13 n c13) (.slice A15 n c15) r16 hs h16
   try dsimp only at HZ
   exact HZ
  ·go_wp2_with fail
   obtain ⟨V2, hV2⟩ : ∃ U, U = V.alloc (.cells #[.slice none 0 0] 113) := ⟨_, rfl⟩
   obtain ⟨P, hXe⟩ : ∃ B, B = V.heap.size := ⟨_, rfl⟩
   have hP : Arr V2 P 113 [.slice none 0 0] := by rw [hV2, hXe]; exact Arr.new V _ [.slice none 0 0]
   have hb : Below V.heap.size V V2 := by rw [hV2]; exact (Below.refl _ _).alloc (Nat.le_refl _) _
   have hPw : w.heap.size ≤ P := by rw [hXe]; exact hs.size
   rw [← hV2, ← hXe]
   replace h13 := RowsD.below h13 hb
   replace h15 := RowsD.below h15 hb
   clear hV2 hXe
   replace hs := hs.trans (hb.mono hs.size)
   first | refine ⟨fun _ => hs, ?_⟩ | refine ⟨hs, ?_⟩
   have HZ := K21.out V2 P (.slice A13 n c13) (.slice A15 n c15) hs h13 h15 hP hPw
   try dsimp only at HZ
   exact HZ)
 have K11 : Hid (∀ (V : World) (P : Nat) (r13 : Value), Below w.heap.size w V → RM V r13 (tms T G) → Arr V P 113 [.slice none 0 0] → w.heap.size ≤ P → goU Tryz.prog O (noPanic Q) (fun V => Below w.heap.size w V) [7] sreg2T11 ⟨#[t0, .pointer (some ⟨P1, 0, none⟩), t2, t3, .pointer (some ⟨P4, 0, none⟩), .pointer (some ⟨P, 0, none⟩), t6, t7, t8, t9, t10, .slice AT n cT, .slice AG n cG, r13, .slice AT n cT, t15, t16, t17, t18, t19, t20, t21, t22, t23, t24, t25, t26, t27, t28], []⟩ V) := Lib.hid (by
  intro V P r13 hs h13 hP hPw
  obtain ⟨A13, c13, rfl⟩ := RowsD.slice_ h13 hL13
  refine goU_call 15 HO4.out (by rfl) (by rfl) (by go_simp) (Transposed_any (RowsD.below hT hs) (by omega) hn (by omega) hTr) ?_
  rintro e V2 ⟨r15, rfl, h15, hb⟩
  replace h15 : RM V2 r15 (trs T) := RowsD.t h15
  replace h13 := RowsD.below h13 hb
  replace hP := keepA hP hb hP.lt
  replace hs := hs.trans (hb.mono hs.size)
  refine ⟨_, rfl, fun _ => hs, ?_⟩
  simp only [sIB, List.set]
  have HZ := K21.out V2 P (.slice A13 n c13) r15 hs h13 h15 hP hPw
  try dsimp only at HZ
  exact HZ)
 have K10 : Hid (∀ (V : World) (r13 : Value), Below w.heap.size w V → RM V r13 (tms T G) → goU Tryz.prog O (noPanic Q) (fun V => Below w.heap.size w V) [7] sreg2T10 ⟨#[t0, .pointer (some ⟨P1, 0, none⟩), t2, t3, .pointer (some ⟨P4, 0, none⟩), t5, t6, t7, t8, t9, t10, .slice AT n cT, .slice AG n cG, r13, .slice AT n cT, t15, t16, t17, t18, t19, t20, t21, t22, t23, t24, t25, t26, t27, t28], []⟩ V) := Lib.hid (by
  intro V r13 hs h13
  obtain ⟨A13, c13, rfl⟩ := RowsD.slice_ h13 hL13
  refine goU_two HO4.out HO6.out ?_ ?_ 
  ·refine goU_call1 15 (by rfl) (by rfl) (by go_simp) (Transposed_any (RowsD.below hT hs) (by omega) hn (by omega) hTr) ?_
   rintro e V2 ⟨r15, rfl, h15, hb⟩
   replace h15 : RM V2 r15 (trs T) := RowsD.t h15
   replace h13 := RowsD.below h13 hb
   replace hs := hs.trans (hb.mono hs.size)
   refine ⟨_, rfl, fun _ => hs, ?_⟩
   simp only [sIB, List.set]
   have HZ := K20.out V2 (.slice A13 n c13) r15 hs h13 h15
   try dsimp only at HZ
   exact HZ
  ·go_wp2_with fail
   obtain ⟨V2, hV2⟩ : ∃ U, U = V.alloc (.cells #[.slice none 0 0] 113) := ⟨_, rfl⟩
   obtain ⟨P, hXe⟩ : ∃ B, B = V.heap.size := ⟨_, rfl⟩
   have hP : Arr V2 P 113 [.slice none 0 0] := by rw [hV2, hXe]; exact Arr.new V _ [.slice none 0 0]
   have hb : Below V.heap.size V V2 := by rw [hV2]; exact (Below.refl _ _).alloc (Nat.le_refl _) _
   have hPw : w.heap.size ≤ P := by rw [hXe]; exact hs.size
   rw [← hV2, ← hXe]
   replace h13 := RowsD.below h13 hb
   clear hV2 hXe
   replace hs := hs.trans (hb.mono hs.size)
   first | refine ⟨fun _ => hs, ?_⟩ | refine ⟨hs, ?_⟩
   have HZ := K11.out V2 P (.slice A13 n c13) hs h13 hP hPw
   try dsimp only at HZ
   exact HZ)
 have K01 : Hid (∀ (V : World) (P : Nat), Below w.heap.size w V → Arr V P 113 [.slice none 0 0] → w.heap.size ≤ P → goU Tryz.prog O (noPanic Q) (fun V => Below w.heap.size w V) [7] sreg2T01 ⟨#[t0, .pointer (some ⟨P1, 0, none⟩), t2, t3, .pointer (some ⟨P4, 0, none⟩), .pointer (some ⟨P, 0, none⟩), t6, t7, t8, t9, t10, .slice AT n cT, .slice AG n cG, t13, .slice AT n cT, t15, t16, t17, t18, t19, t20, t21, t22, t23, t24, t25, t26, t27, t28], []⟩ V) := Lib.hid (by
  intro V P hs hP hPw
  refine goU_call 13 HO2.out (by rfl) (by rfl) (by go_simp) (Times_any (RowsD.below hT hs) (RowsD.below hG hs) (by omega) (by omega) hn (by omega) hn hTr hGr hfT hfG) ?_
  rintro e V2 ⟨r13, rfl, h13, hb⟩
  replace h13 : RM V2 r13 (tms T G) := RowsD.t h13
  replace hP := keepA hP hb hP.lt
  replace hs := hs.trans (hb.mono hs.size)
  refine ⟨_, rfl, fun _ => hs, ?_⟩
  simp only [sIB, List.set]
  have HZ := K11.out V2 P r13 hs h13 hP hPw
  try dsimp only at HZ
  exact HZ)
 have K00 : Hid (∀ (V : World), Below w.heap.size w V → goU Tryz.prog O (noPanic Q) (fun V => Below w.heap.size w V) [7] sreg2T00 ⟨#[t0, .pointer (some ⟨P1, 0, none⟩), t2, t3, .pointer (some ⟨P4, 0, none⟩), t5, t6, t7, t8, t9, t10, .slice AT n cT, .slice AG n cG, t13, .slice AT n cT, t15, t16, t17, t18, t19, t20, t21, t22, t23, t24, t25, t26, t27, t28], []⟩ V) := Lib.hid (by
  intro V hs
  refine goU_two HO2.out HO6.out ?_ ?_ 
  ·refine goU_call1 13 (by rfl) (by rfl) (by go_simp) (Times_any (RowsD.below hT hs) (RowsD.below hG hs) (by omega) (by omega) hn (by omega) hn hTr hGr hfT hfG) ?_
   rintro e V2 ⟨r13, rfl, h13, hb⟩
   replace h13 : RM V2 r13 (tms T G) := RowsD.t h13
   replace hs := hs.trans (hb.mono hs.size)
   refine ⟨_, rfl, fun _ => hs, ?_⟩
   simp only [sIB, List.set]
   have HZ := K10.out V2 r13 hs h13
   try dsimp only at HZ
   exact HZ
  ·go_wp2_with fail
   obtain ⟨V2, hV2⟩ : ∃ U, U = V.alloc (.cells #[.slice none 0 0] 113) := ⟨_, rfl⟩
   obtain ⟨P, hXe⟩ : ∃ B, B = V.heap.size := ⟨_, rfl⟩
   have hP : Arr V2 P 113 [.slice none 0 0] := by rw [hV2, hXe]; exact Arr.new V _ [.slice none 0 0]
   have hb : Below V.heap.size V V2 := by rw [hV2]; exact (Below.refl _ _).alloc (Nat.le_refl _) _
   have hPw : w.heap.size ≤ P := by rw [hXe]; exact hs.size
   rw [← hV2, ← hXe]
   clear hV2 hXe
   replace hs := hs.trans (hb.mono hs.size)
   first | refine ⟨fun _ => hs, ?_⟩ | refine ⟨hs, ?_⟩
   have HZ := K01.out V2 P hs hP hPw
   try dsimp only at HZ
   exact HZ)
 have HZ := K00.out v0 hs
 try dsimp only at HZ
 exact HZ
theorem StV.slice_ {w : World} {D : Nat → Prop} {v : Value} {S : List Stg} (h : StV w D v S) {n : Nat} (hn : S.length = n) : ∃ A c, v = .slice A n c := by
 obtain ⟨A, c, e, _⟩ := h
 exact ⟨A, c, by rw [e, hn]⟩
theorem FrZ.cut {B : Nat} {O O' : Nat → Prop} {a b c : World} (hb : Below a.heap.size a b) (h : FrZ B O' b c) (hO : ∀ x, x < a.heap.size → O' x → O x) : FrZ B O a c :=
 ⟨h.os.trans hb.os, h.tape.trans hb.tape, h.output.trans hb.output, Nat.le_trans hb.size h.size, fun x hx ho => by
  have h1 := hb.block x hx
  exact (h.block x (Nat.lt_of_lt_of_le hx hb.size) fun h2 => ho (h2.imp (fun h3 => ⟨h3.1, i64B.same h1 h3.2⟩) (hO x hx))).trans h1⟩
theorem NIntV.no32 {w : World} {D M : Nat → Prop} {v : Value} {x : Int} (h : NIntV w D v x) (hM : ∀ b, M b → ∀ o x, w.cell? ⟨b, o, none⟩ ≠ some (.int .u32 x)) : NIntV w (fun b => ¬ M b) v x := by
 obtain ⟨A, c, e, h1⟩ := h
 refine ⟨A, c, e, h1.len, h1.cap, h1.room, h1.small, fun hn => ?_⟩
 obtain ⟨b, off, e2, hd, hc⟩ := h1.cells hn
 exact ⟨b, off, e2, fun hm => hM b hm _ _ (hc 0 hn), hc⟩
theorem run_store_funcT {P : Program} {w : World} (a : Addr) (m : Mode) (fn : Fn) (first captured : Array Value) : (store a (.func fn first captured) m).run P w = stored P w a (.func fn first captured) m := run_store P w a _ m rfl
attribute [local go_sem] run_store_funcT
def shH (n : Nat) (G : List (List Int)) : List (List Int) := tms (tms (unitL n) G) (trs (unitL n))
structure ShOK (n : Nat) (G : List (List Int)) (b : Int) : Prop where
 n0 : 0 < n
 n1 : n ≤ 1000
 row : ∀ l ∈ G, l.length = n
 fG : fitM G = true
 ok : ∀ i k, i < n → k < n → i ≠ k → brOK G (rw_ (unitL n) i) (rw_ (unitL n) k) = true
 fT : fitM (unitL n) = true
 fTG : fitM (tms (unitL n) G) = true
 fTt : fitM (trs (unitL n)) = true
 fH : fitM (shH n G) = true
 fit : ∀ j, j < n → fitM (gS (shH n G) j) = true ∧ fit (bS (shH n G) b j) = true
set_option maxRecDepth 100000 in
set_option maxHeartbeats 4000000 in
theorem short1_any {w : World} {σ : Type} {k l n0 n P1 P2 cG : Nat} {AG : Option Addr} {M : Nat → Prop} {Inv : σ → World → Prop} {step : List Int → Int → σ → Option σ} (Y : Yielder k l n0 M Inv step) (hn0 : n0 ≤ w.heap.size) (hM : ∀ s W, Inv s W → ∀ b, M b → ∀ o x, W.cell? ⟨b, o, none⟩ ≠ some (.int .u32 x)) {G : List (List Int)} {b : Int} (hS : ShOK n G b) {s s' : σ}
  (h1 : w.cell? ⟨P1, 0, none⟩ = some (.slice AG n cG)) (hG : RM w (.slice AG n cG) G) (h2 : BT w P2 b) (hV : Inv s w) (hw : wkW (unitL n) (shH n G) b step n (List.replicate n 0) s = some s') :
  Calls Tryz.prog 185 #[.func (.yield l) #[] #[], .pointer (some ⟨P1, 0, none⟩), .pointer (some ⟨P2, 0, none⟩)] w fun e w' => (∃ v, e = .returned v) ∧ Inv s' w' ∧ FrZ n0 M w w' := by
 have hlG := (RowsD.room hG).1.symm
 have hGr2 : ∀ i, i < n → (rw_ G i).length = n := fun i hi => hS.row _ (rw_mem (by omega))
 have HS := Lib.hid hS
 have HY := Lib.hid Y
 have HM := Lib.hid hM
 have HG := Lib.hid hG
 have H2 := Lib.hid h2
 have HV := Lib.hid hV
 have HW := Lib.hid hw
 have HBR := Lib.hid (fun (W : World) (hb : Below w.heap.size w W) => Bring_none (RowsD.below hG hb) hS.n1 hGr2 hS.fG hS.ok)
 have hn := hS.n0
 have hn1 := hS.n1
 have hMl : ∀ b, M b → b < w.heap.size := fun b hb => Nat.lt_of_lt_of_le (Y.lt b hb) hn0
 have HML := Lib.hid hMl
 clear hS Y hM hG h2 hV hw hlG hGr2 hMl
 go_enter Tryz.func185, Tryz.ntmps185
 go_upto_region 1 with (fail)
 generalize hW1 : World.alloc w _ = W1
 obtain ⟨P3, h3⟩ : ∃ B, B = w.heap.size := ⟨_, rfl⟩
 rw [← h3]
 have hb1 : Below w.heap.size w W1 := by rw [← hW1]; exact (Below.refl _ _).alloc (Nat.le_refl _) _
 have c3 : W1.cell? ⟨P3, 0, none⟩ = some (.func (.yield l) #[] #[]) := by rw [h3]; subst hW1; go_simp
 have c1 := keepB hb1 h1
 have HB1 := Lib.hid (HBR.out W1 hb1)
 have hp3 : w.heap.size ≤ P3 := by omega
 have hl3 : P3 < W1.heap.size := cell_lt c3
 clear hW1 h3 h1
 go_upto_region 2 with (go_at_call 186; go_must (refine HB1.out.mono ?_); rintro e W2 ⟨v2, rfl, hT, hb2⟩; obtain ⟨AT, cT, rfl⟩ := RowsD.slice_ hT (unitL_len n))
 obtain ⟨P4, h4⟩ : ∃ B, B = W2.heap.size := ⟨_, rfl⟩
 obtain ⟨W3, hW3⟩ : ∃ V, V = W2.alloc (.cells #[.slice AT n cT] 113) := ⟨_, rfl⟩
 rw [← h4, ← hW3]
 have hb3 : Below W2.heap.size W2 W3 := by rw [hW3]; exact (Below.refl _ _).alloc (Nat.le_refl _) _
 have h4A : Arr W3 P4 113 [.slice AT n cT] := by rw [hW3, h4]; exact Arr.new W2 _ [.slice AT n cT]
 have hb13 : Below W1.heap.size W1 W3 := hb2.trans (hb3.mono hb2.size)
 have hb03 : Below w.heap.size w W3 := hb1.trans (hb13.mono hb1.size)
 have c43 : W3.cell? ⟨P4, 0, none⟩ = some (.slice AT n cT) := h4A.cell 0
 have c13 := keepB hb13 c1
 have c33 := keepB hb13 c3
 have hT3 := RowsD.below hT hb3
 have HT3 := Lib.hid hT3
 have HG3 := Lib.hid (RowsD.below HG.out hb03)
 have H23 := Lib.hid (H2.out.below hb03)
 have HTr : Hid (∀ l ∈ unitL n, l.length = n) := Lib.hid fun l hl => by
  obtain ⟨i, hi, rfl⟩ := List.getElem_of_mem hl
  rw [unitL_len] at hi
  have h := unitL_row hi
  rw [rw_of (List.getElem?_eq_getElem (by rw [unitL_len]; exact hi))] at h
  exact h
 have hl4 : P4 < W3.heap.size := cell_lt c43
 have hw4 : w.heap.size ≤ P4 := by rw [h4]; exact Nat.le_trans hb1.size hb2.size
 have HB3 := Lib.hid hb03
 have h13 : w.heap.size ≤ W1.heap.size := hb1.size
 have h1l := hb13.size
 clear hW3 h4 h4A hb3 hb13 hb03 hT hT3 hb2 hb1 c1 c3
 refine sreg2 c43 c13 (RowsD.t HT3.out) HG3.out hn hn1 HTr.out HS.out.row HS.out.fT HS.out.fG HS.out.fTG HS.out.fTt ?_
 intro W5 P5 A5 c5 t1 t2 t3 t4 t5 t6 hA5 hH5 hw5 hb5
 rename_i K hK
 refine hK _ _ ?_
 have c55 : W5.cell? ⟨P5, 0, none⟩ = some (.slice A5 n c5) := hA5.cell 0
 have c45 := keepB hb5 c43
 have c35 := keepB hb5 c33
 have HT5 := Lib.hid (RowsD.below HT3.out hb5)
 have H25 := Lib.hid (H23.out.below hb5)
 have HB5 := Lib.hid (HB3.out.trans (hb5.mono HB3.out.size))
 have HH5 : Hid (RowsD PvD W5 (fun b => W3.heap.size ≤ b ∧ b ≠ P5) (.slice A5 n c5) (shH n G)) := Lib.hid hH5
 obtain ⟨nb, Ab, mb, cb, hPb, hNb⟩ := H25.out
 have hV5 := HY.out.stable _ _ _ HV.out (Frm.of_below HB5.out)
 have hNb2 : NIntV W5 (fun b => ¬ M b) (.agg #[.bool nb, .slice Ab mb cb]) b := hNb.no32 (HM.out _ _ hV5)
 obtain ⟨r0, r1, _, _⟩ := hPb.c2
 have HSG := Lib.hid (stages_any (F := fun b => ¬ M b) (fun b hb hm => by have := HML.out b hm; have := HB5.out.size; omega) (RowsD.mono HH5.out fun b (hb : W3.heap.size ≤ b ∧ b ≠ P5) _ hm => by have := HML.out b hm; have := hb.1; omega) hNb2 hn hn1 (fun l hl => tms_row (by
  have h0 : (rw_ (trs (unitL n)) 0).length = n := by
   have h := trs_row (L := unitL n) (rw_mem (L := trs (unitL n)) (i := 0) (by rw [trs_len (unitL_row hn)]; exact hn))
   rw [h, unitL_len]
  exact h0) hl) HS.out.fit)
 clear hA5 hH5 hPb hNb hNb2 hV5 hb5 c43 c33 c13 HT3 HG3 H23 HB3
 go_upto_region 4 with (go_at_call 188; go_must (refine HSG.out.mono ?_); rintro e W6 ⟨v6, rfl, hSt, hb6⟩; obtain ⟨A6, c6, rfl⟩ := hSt.slice_ (stL_length _ _ _))
 generalize hW7 : World.alloc W6 _ = W7
 obtain ⟨P6, h6⟩ : ∃ B, B = W6.heap.size := ⟨_, rfl⟩
 rw [← h6]
 have hb7 : Below W6.heap.size W6 W7 := by rw [← hW7]; exact (Below.refl _ _).alloc (Nat.le_refl _) _
 have c67 : W7.cell? ⟨P6, 0, none⟩ = some (.slice A6 n c6) := by rw [h6]; subst hW7; go_simp
 have hb57 : Below W5.heap.size W5 W7 := hb6.trans (hb7.mono hb6.size)
 have hV7 := HY.out.stable _ _ _ HV.out (Frm.of_below (HB5.out.trans (hb57.mono HB5.out.size)))
 have HST7 : Hid (StV W7 (fun b => ¬ M b) (.slice A6 n c6) (stL (shH n G) b n)) := Lib.hid (hSt.keep fun b _ hl => hb7.block b hl)
 have HT7 : Hid (RowsD PvD W7 (fun b => ¬ M b) (.slice AT n cT) (unitL n)) := Lib.hid (RowsD.mono (RowsD.below HT5.out hb57) fun b (hb : W1.heap.size ≤ b) _ hm => by have := HML.out b hm; omega)
 have HH7 : Hid (RowsD PvD W7 (fun b => ¬ M b) (.slice A5 n c5) (shH n G)) := Lib.hid (RowsD.mono (RowsD.below HH5.out hb57) fun b (hb : W3.heap.size ≤ b ∧ b ≠ P5) _ hm => by have := HML.out b hm; have := hb.1; omega)
 have c57 := keepB hb57 c55
 have c47 := keepB hb57 c45
 have c37 := keepB hb57 c35
 have HB7 := Lib.hid (HB5.out.trans (hb57.mono HB5.out.size))
 have HV7 := Lib.hid hV7
 have hw6 : w.heap.size ≤ P6 := by have := HB5.out.size; have := hb6.size; omega
 have hw5' : w.heap.size ≤ P5 := by omega
 clear hW7 h6 hb7 hb57 hV7 hSt hb6 c55 c45 c35 HT5 HH5 HSG r0 r1 H25 hw5
 go_upto_region 5 with (at_make; go_must (refine wpList_make_arr _ rfl _ _ _ rfl 40 (.agg #[.bool false, .slice none 0 0]) 2 32 Tryz.underlying175 info_Int _ _ _ _ n rfl rfl (by omega) (by omega) (by omega) (by omega) ?_); intro W8 ha8 hb8 hz8)
 obtain ⟨GX, hGX⟩ : ∃ B, B = W7.heap.size := ⟨_, rfl⟩
 obtain ⟨P7, h7⟩ : ∃ B, B = W7.heap.size + 1 := ⟨_, rfl⟩
 obtain ⟨W9, hW9⟩ : ∃ V, V = W8.alloc (.cells #[.slice (some ⟨W7.heap.size, 0, none⟩) n n] 175) := ⟨_, rfl⟩
 rw [← h7, ← hW9, ← hGX]
 rw [← hGX] at ha8 hW9
 have hb89 : Below W8.heap.size W8 W9 := by rw [hW9]; exact (Below.refl _ _).alloc (Nat.le_refl _) _
 have h7A : Arr W9 P7 175 [.slice (some ⟨GX, 0, none⟩) n n] := by rw [hW9, h7, ← hz8]; exact Arr.new W8 _ [.slice (some ⟨GX, 0, none⟩) n n]
 have hX8 : OwnR W8 0 (fun _ => False) (.slice (some ⟨GX, 0, none⟩) n n) (List.replicate n 0) := OwnR.made (Nat.zero_le _) (by unfold maxLen; omega) ha8
 have HX9 := Lib.hid (hX8.below hb89)
 have hb79 : Below W7.heap.size W7 W9 := hb8.trans (hb89.mono hb8.size)
 have c79 : W9.cell? ⟨P7, 0, none⟩ = some (.slice (some ⟨GX, 0, none⟩) n n) := h7A.cell 0
 have c69 := keepB hb79 c67
 have c59 := keepB hb79 c57
 have c49 := keepB hb79 c47
 have c39 := keepB hb79 c37
 have HB79 := Lib.hid hb79
 have hl7 : P7 < W9.heap.size := cell_lt c79
 have HGX := Lib.hid hGX
 have HP7 := Lib.hid h7
 have l3 := cell_lt c37
 have l4 := cell_lt c47
 have l5 := cell_lt c57
 have l6 := cell_lt c67
 clear hGX h7 hW9 hb89 h7A hX8 hb79 ha8 hb8 hz8 c67 c57 c47 c37
 go_upto_region 7 with (fail)
 generalize hW10 : World.alloc W9 _ = W10
 obtain ⟨P8, h8⟩ : ∃ B, B = W9.heap.size := ⟨_, rfl⟩
 rw [← h8]
 have hb10 : Below W9.heap.size W9 W10 := by rw [← hW10]; exact (Below.refl _ _).alloc (Nat.le_refl _) _
 have c8 : W10.cell? ⟨P8, 0, none⟩ = some (.func (.func 189) #[] #[.pointer (some ⟨P3, 0, none⟩), .pointer (some ⟨P7, 0, none⟩), .pointer (some ⟨P4, 0, none⟩), .pointer (some ⟨P5, 0, none⟩), .pointer (some ⟨P6, 0, none⟩), .pointer (some ⟨P8, 0, none⟩)]) := by rw [h8]; subst hW10; subst h8; go_simp
 have c5' := keepB hb10 c59
 have hMl : ∀ b, M b → b < w.heap.size := HML.out
 have h7w : w.heap.size ≤ W7.heap.size := HB7.out.size
 have h79 := HB79.out.size
 have hb710 : Below W7.heap.size W7 W10 := HB79.out.trans (hb10.mono h79)
 have hN : ∀ b, w.heap.size ≤ b → b ≠ GX → ¬ (M b ∨ b = GX) := fun b h1 h2 h3 => h3.elim (fun h => by have := hMl b h; omega) h2
 have hgx := HGX.out
 have hp7 := HP7.out
 have hgB : n0 ≤ GX := by omega
 have hsB : n0 ≤ W10.heap.size := by have := hb710.size; omega
 have n3 := hN P3 (by omega) (by omega)
 have n4 := hN P4 (by omega) (by omega)
 have n5 := hN P5 (by omega) (by omega)
 have n6 := hN P6 (by omega) (by omega)
 have n7 := hN P7 (by omega) (by omega)
 have n8 := hN P8 (by omega) (by omega)
 obtain ⟨p, hp⟩ : ∃ p : WkP, p = ⟨l, n, GX, P3, P7, P4, P5, P6, P8, AT, cT, A5, c5, A6, c6, unitL n, shH n G, b, M, n0⟩ := ⟨_, rfl⟩
 have hA : WkA p Inv s (List.replicate n 0) W10 := by
  rw [hp]
  refine ⟨⟨keepB hb10 c39, keepB hb10 c79, keepB hb10 c49, c5', keepB hb10 c69, c8, n3, n7, n4, n5, n6, n8, ?_, ?_, ?_⟩, ?_, ?_, ?_, hgB, hsB⟩
  ·exact RowsD.below (RowsD.mono HT7.out fun b hb hl h => h.elim hb (fun (e : b = GX) => by omega)) hb710
  ·exact RowsD.below (RowsD.mono HH7.out fun b hb hl h => h.elim hb (fun (e : b = GX) => by omega)) hb710
  ·exact StV.keep (HST7.out.mono fun b hb hl h => h.elim hb (fun (e : b = GX) => by omega)) fun b _ hl => hb710.block b hl
  ·exact (HX9.out.below hb10).mono fun _ h _ => h.elim
  ·exact HY.out.stable _ _ _ HV7.out (Frm.of_below hb710)
  ·exact fun (h : M GX) => by have := hMl _ h; omega
 have hSp : WkS p := by
  rw [hp]
  exact ⟨hn, hn1, HTr.out, fun l hl => tms_row (by
   have h := trs_row (L := unitL n) (rw_mem (L := trs (unitL n)) (i := 0) (by rw [trs_len (unitL_row hn)]; exact hn))
   rw [h, unitL_len]) hl, HS.out.fT, HS.out.fH, HS.out.fit⟩
 have hYp : Yielder k p.l p.B p.M Inv step := by rw [hp]; exact HY.out
 have hCL := walk_any hYp hSp n (by rw [hp]; exact Nat.le_refl _) (List.replicate n 0) s s' W10 hA (by rw [List.length_replicate, hp]) (fun i _ => by
  unfold gz List.getD
  rw [List.getElem?_replicate]
  split <;> rfl) (by rw [hp]; exact HW.out)
 rw [hp] at hCL
 have HCL := Lib.hid hCL
 have HB10 := Lib.hid (HB7.out.trans (hb710.mono h7w))
 have HPP := Lib.hid hp
 clear hCL hYp hSp hA hp hN hMl n3 n4 n5 n6 n7 n8 hW10 h8 hb10 hb710 hgx hp7 c39 c49 c59 c69 c79 HX9 HST7 HT7 HH7
 go_upto_region 99 with (go_at_call 189; go_must (refine HCL.out.mono ?_); rintro e W11 ⟨rfl, hA11, hF11⟩)
 go_end0
 rw [← HPP.out] at hA11 hF11
 refine ⟨⟨_, rfl⟩, hA11.V, FrZ.cut HB10.out hF11 fun x hx h => ?_⟩
 rw [HPP.out] at h
 rcases h with h | (h : x = GX)
 ·exact h
 ·have := HB7.out.size
  have := HGX.out
  omega
end Go.Proofs.YtdjpeimecfhdjaaGreat
