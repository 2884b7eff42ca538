/- The reference: Cayley at q = 5. GraphCayley: the five primes (plain). -/
import Derived.Test.YtefcdclmabdmbaaGreatDoorKx
import Derived.Test.YtefcdclmabdmbaaGreatDoorKy
import Derived.Test.YtefcdclmabdmbaaGreatDoorKz
import Derived.Test.YtefcdclmabdmbaaGreatDoorKm
namespace Go.Proofs.YtefcdclmabdmbaaGreatDoor
open Go.RowKit
attribute [local go_sem] Oper.semAt_some

def RCayR (w : World) (A : List Nq) (R : List (List Nat)) (e : Ending) (w' : World) : Prop := ∃ v, e = .returned v ∧ GrV w' v (A.map nm5) (toI R) ∧ Below w.heap.size w w'
theorem take_nm {A : List Nq} {i : Nat} {m : Nq} (h : A[i]? = some m) : (A.map nm5).take i ++ [nm5 m] = (A.map nm5).take (i + 1) := by
  rw [List.take_add_one, List.getElem?_map, h]; rfl
theorem take_rw {A gs : List Nq} {R : List (List Nat)} {i : Nat} {m : Nq} (hC : Cay A gs R) (h : A[i]? = some m) : (toI R).take i ++ [toZ (sortC (rowC5 (A.map code5) m gs))] = (toI R).take (i + 1) := by
  have h1 : i < R.length := by rw [hC.len]; exact (List.getElem?_eq_some_iff.1 h).1
  have h2 : (toI R)[i]? = some (toZ (sortC (rowC5 (A.map code5) m gs))) := by
    unfold toI toZ
    rw [List.getElem?_map, gr_lt h1, hC.row h]
    rfl
  rw [List.take_add_one, h2]; rfl
set_option maxRecDepth 100000 in
set_option maxHeartbeats 8000000 in
theorem rCayley_any {w : World} {p : Nat} {A gs : List Nq} {R : List (List Nat)} (hp : p ≤ 41) (hall : rl5 (sqM (p : Nat) 5) 625 = A) (hgs : (gqs p).map cg5 = gs) (hC : Cay A gs R) (hgl : 0 < gs.length) :
    Calls Tryz.prog 21 #[.int .i64 (p : Nat), .int .i64 5] w (RCayR w A R) := by
  have HC := Lib.hid hC
  have HALL := Lib.hid hall
  have HGS := Lib.hid hgs
  have HGE := Lib.hid (fun w => rGenerators_any (w := w) (p := p) (by omega))
  obtain ⟨hf, hhf⟩ : ∃ b, b = sqM (p : Nat) 5 := ⟨_, rfl⟩
  have HHF := Lib.hid hhf
  clear hC hall hgs hhf
  go_enter Tryz.func21, Tryz.ntmps21
  obtain ⟨W0, hW0⟩ : ∃ W0, W0 = w.alloc (.cells #[.slice none 0 0, .slice none 0 0] 25) := ⟨_, rfl⟩
  have hb0 : Below w.heap.size w W0 := by rw [hW0]; exact (Below.refl _ _).alloc (Nat.le_refl _) _
  have hg0 : W0.heap[w.heap.size]? = some (.cells #[.slice none 0 0, .slice none 0 0] 25 (0, 0)) := by rw [hW0]; exact heap_alloc_new w _
  have HW0 := Lib.hid hW0
  have HB0 := Lib.hid hb0
  have HG0 := Lib.hid hg0
  clear hW0 hb0 hg0
  go_upto_block 0 with (fail)
  rw [← HW0.out]
  refine loop1_any HHF hp ?_
  intro B n c wr u6 u7 u8 u20 u21 u22 u23 u24 u25 u26 u27 u28 u29 u30 u31 u32 u33 u34 u35 u36 u37 u38 u39 u40 u41 u42 u43 u44 u45 u46 u47 u48 u49 u50 u51 u52 u53 u54 u55 u56 u57 u58 u59 u60 u61 u62 u63 u64 u65 u66 u67 u68 u69 u70 u71 u72 u73 u74 u75 u76 u77 u78 u79 u80 u81 u82 u83 u84 u85 u86 u87 u88 u89 u90 hown hbr
  have hA : rl5 hf 625 = A := by rw [HHF.out]; exact HALL.out
  have hownA : OwnC 104 wr W0.heap.size (.slice B n c) A := by rw [← hA]; exact hown
  have hnA : n = A.length := hownA.len
  have hn120 : n ≤ 120 := by rw [hnA]; exact HC.out.few
  have hn0 : 0 < n := by rw [hnA]; exact HC.out.pos
  obtain ⟨gA, rfl, hgA1, hgAl, hcA, hmA, hclA⟩ := hownA.cells hn0
  have HCA := Lib.hid (show CC4 wr gA A from hclA)
  have HNA := Lib.hid hnA
  have HDT := Lib.hid (show ∀ m ∈ A, det5 m ≠ 0 from fun m hm => rl5_ne (half := hf) (n := 625) (by rw [hA]; exact hm))
  have HBR := Lib.hid hbr
  unfold maxLen at hmA
  clear hA hownA hnA hclA hown hgA1 hbr HHF HALL
  rename_i KX hKX
  refine hKX _ _ ?_
  go_wp2_with fail
  go_loopw [9] (fun u wx => wx = wr ∧ (u = .int .i64 1 ∨ u = .int .i64 2)) (fun u _ => 3 - (intOf u).toNat)
  case atStart => exact ⟨rfl, .inl rfl⟩
  case round =>
    obtain ⟨rfl, rfl | rfl⟩ := hrel
    · go_wp2_with fail
      go_roundw
      case rel => exact ⟨trivial, .inr rfl⟩
      case measure => simp [intOf]
    · go_upto_region 13 with (go_at_call 81; go_must (refine (HGE.out _).mono ?_); rintro e w3 ⟨AQ, nQ, cQ, rfl, hQ, hb3⟩)
      have hnQ : nQ = (gqs (p : Int)).length := hQ.len
      have HGL := Lib.hid (show nQ = gs.length by rw [hnQ, ← HGS.out, List.length_map])
      have hnQ0 : 0 < nQ := by rw [HGL.out]; exact hgl
      have hnQ2 : nQ ≤ 42 := by rw [HGL.out]; exact HC.out.deg
      obtain ⟨gq, rfl, hgq1, hgql, hcQ, hmQ, hQC⟩ := hQ.cells5 hnQ0
      unfold maxLen at hmQ
      have HQC := Lib.hid hQC
      have HNQ := Lib.hid hnQ
      obtain ⟨Ob, hOb⟩ : ∃ Ob, Ob = w3.heap.size := ⟨_, rfl⟩
      obtain ⟨WO, hWO⟩ : ∃ WO, WO = w3.alloc (.cells #[.slice none 0 0, .slice none 0 0] 25) := ⟨_, rfl⟩
      have hbO : Below w3.heap.size w3 WO := by rw [hWO]; exact below_alP (Below.refl _ _) _
      have hO0 : WO.heap[Ob]? = some (.cells #[.slice none 0 0, .slice none 0 0] 25 (0, 0)) := by rw [hWO, hOb]; exact heap_alloc_new w3 _
      have sO : WO.heap.size = Ob + 1 := by rw [hWO, hOb, World.size_alloc]
      have hgAO : gA < Ob := by rw [hOb]; exact Nat.lt_of_lt_of_le hgAl hb3.size
      have hgqO : gq < Ob := by rw [hOb]; exact hgql
      have HCAO := Lib.hid (HCA.out.below hgAl (hb3.trans (hbO.mono hb3.size)))
      have HQCO := Lib.hid (HQC.out.belowB hgql hbO)
      have HBX := Lib.hid (show Below w.heap.size w WO from (HB0.out.trans (HBR.out.mono HB0.out.size)).trans ((hb3.trans (hbO.mono hb3.size)).mono (Nat.le_trans HB0.out.size HBR.out.size)))
      have hRO : w.heap.size < Ob := by
        have h1 := (Array.getElem?_eq_some_iff.1 HG0.out).1
        have h2 := HBR.out.size
        have h3 := hb3.size
        omega
      have HG1 := Lib.hid (show WO.heap[w.heap.size]? = some (.cells #[.slice none 0 0, .slice none 0 0] 25 (0, 0)) from (hbO.block _ (by omega)).trans ((hb3.block _ (by have := (Array.getElem?_eq_some_iff.1 HG0.out).1; have := HBR.out.size; omega)).trans ((HBR.out.block _ (Array.getElem?_eq_some_iff.1 HG0.out).1).trans HG0.out)))
      have HWO := Lib.hid hWO
      have HOb := Lib.hid hOb
      have HO0 := Lib.hid hO0
      have HSO := Lib.hid sO
      clear hQ hQC hnQ hb3 hgq1 hgql hbO hO0 sO hWO hOb hgAl HCA HQC HBR HG0 HB0 HGE
      go_upto_region 14 with (fail)
      rw [← HWO.out, ← HOb.out]
      go_wp2_with fail
      go_loopw [12] (fun iv wr2 => ∃ (i cN cE : Nat) (AN AE : Option Addr), iv = .int .i64 (i : Nat) ∧ i ≤ n ∧ Hid (wr2.heap[Ob]? = some (.cells #[.slice AN i cN, .slice AE i cE] 25 (0, 0))) ∧ Hid (GB wr2 (Ob + 1) (.slice AN i cN) (.slice AE i cE) ((A.map nm5).take i) ((toI R).take i)) ∧ Hid (Below Ob WO wr2)) (fun iv _ => n - (intOf iv).toNat)
      case atStart => exact ⟨0, 0, 0, none, none, rfl, by omega, HO0, Lib.hid (GB.nil _ _), Lib.hid (Below.refl _ _)⟩
      case round =>
        clear HO0
        obtain ⟨i, cN, cE, AN, AE, rfl, hi, HOC, HGB, HBW⟩ := hrel
        by_cases hin : i < n
        · obtain ⟨m, hm⟩ : ∃ m, A[i]? = some m := ⟨_, List.getElem?_eq_getElem (by rw [← HNA.out]; exact hin)⟩
          have hm5 := HC.out.in5 m (List.mem_of_getElem? hm)
          obtain ⟨ma, mb, mc, md⟩ := m
          have HCAr := HCAO.out.below hgAO HBW.out
          obtain ⟨y0, y1, y2, y3⟩ := HCAr i _ hm
          have HMA := Lib.hid hm
          have ii0 : (0 : Int) ≤ (i : Int) := by omega
          have ii1 : (i : Int) < (n : Int) := by omega
          obtain ⟨Mb, hMb⟩ : ∃ Mb, Mb = wr.heap.size := ⟨_, rfl⟩
          obtain ⟨wm, hwm⟩ : ∃ wm, wm = wr.alloc (.cells #[.int .i64 (ma : Nat), .int .i64 (mb : Nat), .int .i64 (mc : Nat), .int .i64 (md : Nat)] 104) := ⟨_, rfl⟩
          have hbm : Below wr.heap.size wr wm := by rw [hwm]; exact below_alP (Below.refl _ _) _
          have hM0 : wm.heap[Mb]? = some (ob4 (ma, mb, mc, md)) := by rw [hwm, hMb]; exact heap_alloc_new wr _
          have hMbO : Ob + 1 ≤ Mb := by rw [hMb]; have := HBW.out.size; rw [HSO.out] at this; exact this
          have HGBm := HGB.out.below hbm
          have HSG := Lib.hid (show SG4 Ob Mb (.slice AN i cN) (.slice AE i cE) (ma, mb, mc, md) wm from ⟨(hbm.block _ (Array.getElem?_eq_some_iff.1 HOC.out).1).trans HOC.out, hM0⟩)
          have HWM := Lib.hid (HBW.out.trans (hbm.mono (by omega)))
          have hoN : ∀ g, (Value.slice AN i cN).ownBlock = some g → g < Mb := fun g hg => by rw [hMb]; exact (World.ownsRow.lt HGB.out.nm g hg).2
          have HM5 := Lib.hid hm5
          have HWm := Lib.hid hwm
          have HMb := Lib.hid hMb
          have HON := Lib.hid hoN
          have HGm := Lib.hid HGBm
          clear hm5 hm hwm hMb hbm hM0 hoN HGBm HCAr
          go_upto_region 18 with (fail)
          rw [← HWm.out]
          rw [← HMb.out]
          clear y0 y1 y2 y3 ii0 ii1
          refine reg18_any HM5.out HSG HGm.out HWM (by omega) hMbO HON.out ?_
          intro An cn wq u112 u113 u114 u115 u116 u117 u118 u119 u120 u121 u122 u123 u124 u125 u126 u127 u128 u129 u130 u131 u132 u133 u134 sg gb bw
          rw [take_nm HMA.out] at gb
          have HSG2 := Lib.hid sg
          have HGB2 := Lib.hid gb
          have HBW2 := Lib.hid bw
          have hOq : Ob + 1 ≤ wq.heap.size := by have h := (Array.getElem?_eq_some_iff.1 sg.1).1; exact h
          have hMq : Mb < wq.heap.size := (Array.getElem?_eq_some_iff.1 sg.2).1
          have HM := Lib.hid sg.2
          have HCAq := Lib.hid (HCAO.out.below hgAO bw)
          have HQCq := Lib.hid (HQCO.out.belowB hgqO bw)
          clear sg gb bw HSG HGm HWM HON HWm HGB HOC HBW HMb
          rename_i KX hKX
          refine hKX _ _ ?_
          go_upto_block 6 with (fail)
          refine loop4_any HC HDT HGS HMA HCAq HQCq HM (by omega) (by omega) HNA HNQ hn120 hnQ2 ?_
          intro A3 c3 wz u15 u16 u17 u18 u19 u135 u136 u137 u138 u139 u140 u141 u142 u143 u144 u145 u146 u147 u148 u149 u150 u151 u152 u153 u154 u155 u156 u157 u158 u159 u160 u161 u162 u163 u164 u165 u166 u167 u168 u169 u170 u171 u172 u173 u174 u175 u176 u177 u178 u179 u180 u181 u182 u183 u184 u185 u186 u187 u188 u189 u190 u191 u192 u193 u194 u195 u196 u197 u198 u199 u200 u201 u202 u203 u204 u205 u206 u207 u208 u209 u210 u211 u212 u213 u214 u215 u216 u217 u218 u219 u220 u221 u222 u223 u224 u225 u226 u227 u228 u229 u230 u231 u232 u233 u234 u235 u236 u237 u238 u239 u240 u241 u242 u243 u244 u245 u246 u247 u248 u249 u250 u251 u252 u253 u254 u255 u256 u257 u258 u259 u260 u261 u262 u263 u264 u265 u266 u267 u268 u269 u270 u271 u272 u273 u274 u275 u276 oz bz
          have gbz := HGB2.out.below bz
          have hOz : wz.heap[Ob]? = some (.cells #[.slice An (i + 1) cn, .slice AE i cE] 25 (0, 0)) := (bz.block Ob (by omega)).trans HSG2.out.1
          have HBZ := Lib.hid (show Below Ob WO wz from HBW2.out.trans (bz.mono (by omega)))
          obtain ⟨Nb, hNb⟩ : ∃ Nb, Nb = wz.heap.size := ⟨_, rfl⟩
          obtain ⟨wt, hwt⟩ : ∃ wt, wt = wz.alloc (.cells #[.slice A3 nQ c3] 55) := ⟨_, rfl⟩
          have hbt : Below wz.heap.size wz wt := by rw [hwt]; exact below_alP (Below.refl _ _) _
          have hBt : wt.heap[Nb]? = some (.cells #[.slice A3 nQ c3] 55 (0, 0)) := by rw [hwt, hNb]; exact heap_alloc_new wz _
          have gbt := gbz.below hbt
          have ozt := oz.below hbt
          have hil : IlD wt (fun b => Ob + 1 ≤ b ∧ some b ≠ (Value.slice AE i cE).ownBlock ∧ some b ≠ (Value.slice An (i + 1) cn).ownBlock) (.slice A3 nQ c3) (toZ (sortC (rowC5 (A.map code5) (ma, mb, mc, md) gs))) := ozt.row (fun b h1 h2 => ⟨by omega, fun e => by
            obtain ⟨vs, h3, _⟩ := HGB2.out.ed
            have := (World.ownsRow.lt h3 b e.symm).2
            omega, fun e => by
            have := (World.ownsRow.lt HGB2.out.nm b e.symm).2
            omega⟩)
          have hO1 : wt.heap[Ob]? = some (.cells #[.slice An (i + 1) cn, .slice AE i cE] 25 (0, 0)) := (hbt.block Ob (Array.getElem?_eq_some_iff.1 hOz).1).trans hOz
          have c1 : wz.cell? ⟨Ob, 1, none⟩ = some (.slice AE i cE) := by rw [Lib.cell_of_heap hOz]; rfl
          have szt : Ob + 1 ≤ wt.heap.size := (Array.getElem?_eq_some_iff.1 hO1).1
          have HIL := Lib.hid hil
          have HGT := Lib.hid gbt
          have HO1 := Lib.hid hO1
          have HBt := Lib.hid hBt
          have HWt := Lib.hid hwt
          have HNb := Lib.hid hNb
          have HBZt := Lib.hid (HBZ.out.trans (hbt.mono (by have := (Array.getElem?_eq_some_iff.1 hOz).1; omega)))
          have hi120 : i ≤ 120 := by omega
          have HOO := Lib.hid (show ∀ g, (Value.slice AE i cE).ownBlock = some g → g ≠ Ob from fun g hg => by
            obtain ⟨vs, h3, _⟩ := HGB2.out.ed
            have := (World.ownsRow.lt h3 g hg).1
            omega)
          clear oz bz gbz hOz hwt hbt hBt gbt ozt hil hO1 hNb HBZ HSG2 HGB2 HBW2 HM HCAq HQCq
          rename_i KX hKX
          refine hKX _ _ ?_
          go_wp2_with (at_builtin; rw [← HWt.out]; rw [← HNb.out]; refine wpList_pushEd wt (by rfl) _ _ (by rfl) (Ob + 1) (.slice An (i + 1) cn) AE i cE _ _ (by rfl) HGT.out (.slice A3 nQ c3) _ HIL.out _ HBt.out (by rfl) (by omega) szt ?_; intro Ae ce wu gbu hgu hbu; have hOu := (hgu.block Ob (Array.getElem?_eq_some_iff.1 HO1.out).1 (fun e => HOO.out Ob e.symm rfl)).trans HO1.out; have o1 : wu.cell? ⟨Ob, 1, none⟩ = some (.slice AE i cE) := (by rw [Lib.cell_of_heap hOu]; rfl); have f1 := Lib.frozen_of_heap hOu 1; have HOU := Lib.hid hOu; have HGU := Lib.hid gbu; have HBU := Lib.hid (HBZt.out.trans (hbu.mono (by omega))); clear hOu gbu hbu hgu)
          obtain ⟨ed1, ed2, ed3⟩ := edge_done HOU.out HGU.out HBU.out
          rw [take_rw HC.out HMA.out] at ed2
          have HE1 := Lib.hid ed1
          have HE2 := Lib.hid ed2
          have HE3 := Lib.hid ed3
          clear ed1 ed2 ed3 o1 f1 c1
          go_roundw
          case rel => exact ⟨i + 1, cn, ce, An, Ae, by go_num, by omega, HE1, HE2, HE3⟩
          case measure => simp [intOf]; omega
        · have ht2 : ¬ ((i : Nat) : Int) < (n : Int) := by omega
          obtain rfl : i = n := by omega
          have hO := HOC.out
          have a0 : wr.cell? ⟨Ob, 0, none⟩ = some (.slice AN i cN) := by rw [Lib.cell_of_heap hO]; rfl
          have a1 : wr.cell? ⟨Ob, 1, none⟩ = some (.slice AE i cE) := by rw [Lib.cell_of_heap hO]; rfl
          obtain ⟨G, hG⟩ : ∃ G, G = w.heap.size := ⟨_, rfl⟩
          have hG1 := (HBW.out.block w.heap.size hRO).trans HG1.out
          rw [← hG] at hG1 hRO
          have g0 : wr.cell? ⟨G, 0, none⟩ = some (.slice none 0 0) := by rw [Lib.cell_of_heap hG1]; rfl
          have g1 : wr.cell? ⟨G, 1, none⟩ = some (.slice none 0 0) := by rw [Lib.cell_of_heap hG1]; rfl
          have f0 := Lib.frozen_of_heap hG1 0
          have f1 := Lib.frozen_of_heap hG1 1
          have hOG : Ob ≠ G := by omega
          have HG2 := Lib.hid hG
          clear hO hG1 hG
          rw [← HG2.out]
          go_wp2_with fail
          have hG3 : wr.heap[G]? = some (.cells #[.slice none 0 0, .slice none 0 0] 25 (0, 0)) := (HBW.out.block G (by omega)).trans (by rw [HG2.out]; exact HG1.out)
          have n0 : ((wr.setCell ⟨G, 0, none⟩ (.slice AN i cN)).setCell ⟨G, 1, none⟩ (.slice AE i cE)).heap[G]? = some (.cells #[.slice AN i cN, .slice AE i cE] 25 (0, 0)) := Go.Joins.block_setCell (i := 1) (Go.Joins.block_setCell (i := 0) hG3 (.slice AN i cN)) (.slice AE i cE)
          have hu : Upd (fun b => b = G) wr ((wr.setCell ⟨G, 0, none⟩ (.slice AN i cN)).setCell ⟨G, 1, none⟩ (.slice AE i cE)) :=
            ⟨rfl, rfl, rfl, by simp [World.setCell], fun k hk hS => (Below.heap_setCell _ ⟨G, 1, none⟩ _ k hS).trans (Below.heap_setCell _ ⟨G, 0, none⟩ _ k hS)⟩
          obtain ⟨wv, hwv⟩ : ∃ V, V = (wr.setCell ⟨G, 0, none⟩ (.slice AN i cN)).setCell ⟨G, 1, none⟩ (.slice AE i cE) := ⟨_, rfl⟩
          rw [← hwv] at n0 hu ⊢
          have b0 : wv.cell? ⟨G, 0, none⟩ = some (.slice AN i cN) := by rw [Lib.cell_of_heap n0]; rfl
          have b1 : wv.cell? ⟨G, 1, none⟩ = some (.slice AE i cE) := by rw [Lib.cell_of_heap n0]; rfl
          clear hwv a0 a1 g0 g1 f0 f1 n0 hG3
          refine bodyPost_ret (v := .agg #[.slice AN i cN, .slice AE i cE]) (by simp [results, Tryz.results21, go_sem, b0, b1]) rfl ⟨_, rfl, ?_, ?_⟩
          · have hgb := HGB.out
            have hRl := HC.out.len
            have e1 : (A.map nm5).take i = A.map nm5 := List.take_of_length_le (by rw [List.length_map, HNA.out]; exact Nat.le_refl _)
            have e2 : (toI R).take i = toI R := List.take_of_length_le (by rw [toI_length, hRl, HNA.out]; exact Nat.le_refl _)
            rw [e1, e2] at hgb
            exact (hgb.updG hu (fun k hk => by omega)).gr
          · have t5 := HBX.out.trans (HBW.out.mono (by rw [← HG2.out]; omega))
            exact t5.trans (hu.below t5.size (fun k hk => by rw [← HG2.out, hk]; exact Nat.le_refl _))
end Go.Proofs.YtefcdclmabdmbaaGreatDoor

namespace Go.Proofs.YtefcdclmabdmbaaGreatDoor
open Go.RowKit

theorem not_pr {n d : Nat} (h : Pr n) (h1 : 2 ≤ d) (h2 : d < n) (h3 : n % d = 0) : False := by
  have hd := h.2 d (Nat.dvd_of_mod_eq_zero h3)
  omega
/-- What the law needs to know of one prime. -/
def Five (P : Nat) (A gs : List Nq) (R : List (List Nat)) (r : Nat) : Prop :=
  P ≤ 41 ∧ P ≠ 5 ∧ all5 (hf5 (P : Nat)) = A ∧ rl5 (sqM (P : Nat) 5) 625 = A ∧ (gqs (P : Nat)).map cg5 = gs ∧ Cay A gs R ∧ gs.length = P + 1 ∧ P % 5 = r ∧ ((r = 1 ∨ r = 4) ∧ A.length = 60 ∨ (r = 2 ∨ r = 3) ∧ A.length = 120 ∧ bipC gs A = true)
theorem hf_no {p : Nat} (h : p % 5 = 2 ∨ p % 5 = 3) : hf5 (p : Nat) = false ∧ sqM (p : Nat) 5 = false := by
  have e : sqM (p : Nat) 5 = sqM ((p % 5 : Nat) : Int) 5 := by rw [sqM_mod]; rfl
  have e2 : hf5 (p : Nat) = (jac (p % 5) 5 == 1) := rfl
  rw [e, e2]
  rcases h with h | h <;> rw [h] <;> exact ⟨by decide +kernel, by decide +kernel⟩
theorem hf_yes {p : Nat} (h : p % 5 = 1 ∨ p % 5 = 4) : hf5 (p : Nat) = true ∧ sqM (p : Nat) 5 = true := by
  have e : sqM (p : Nat) 5 = sqM ((p % 5 : Nat) : Int) 5 := by rw [sqM_mod]; rfl
  have e2 : hf5 (p : Nat) = (jac (p % 5) 5 == 1) := rfl
  rw [e, e2]
  rcases h with h | h <;> rw [h] <;> exact ⟨by decide +kernel, by decide +kernel⟩
theorem five_no {P : Nat} {gs : List Nq} {R : List (List Nat)} (h41 : P ≤ 41) (h5 : P ≠ 5) (hr : P % 5 = 2 ∨ P % 5 = 3) (hg : (gqs (P : Nat)).map cg5 = gs) (hC : Cay A0 gs R) (hl : gs.length = P + 1) (hb : bipC gs A0 = true) : Five P A0 gs R (P % 5) :=
  ⟨h41, h5, by rw [(hf_no hr).1]; exact all5_0, by rw [(hf_no hr).2]; exact rl5_all0, hg, hC, hl, rfl, .inr ⟨hr, len_0, hb⟩⟩
theorem five_yes {P : Nat} {gs : List Nq} {R : List (List Nat)} (h41 : P ≤ 41) (h5 : P ≠ 5) (hr : P % 5 = 1 ∨ P % 5 = 4) (hg : (gqs (P : Nat)).map cg5 = gs) (hC : Cay A1 gs R) (hl : gs.length = P + 1) : Five P A1 gs R (P % 5) :=
  ⟨h41, h5, by rw [(hf_yes hr).1]; exact all5_1, by rw [(hf_yes hr).2]; exact rl5_all1, hg, hC, hl, rfl, .inl ⟨hr, len_1⟩⟩
theorem five_any {p : Int} (h : gdI p = true) (h5 : p ≠ 5) (h41 : p ≤ 41) : ∃ (P : Nat) (A gs : List Nq) (R : List (List Nat)) (r : Nat), p = (P : Nat) ∧ Five P A gs R r := by
  have h2 := gdI_pos h
  unfold gdI at h
  obtain ⟨hp, h4⟩ := Bool.and_eq_true_iff.1 h
  have h4' : p % 4 = 1 := of_decide_eq_true h4
  obtain ⟨_, _, hpr⟩ := primeI_yes.1 hp
  obtain ⟨P, rfl⟩ : ∃ P : Nat, p = (P : Nat) := ⟨p.toNat, by omega⟩
  rw [Int.toNat_natCast] at hpr
  have hc : P = 9 ∨ P = 13 ∨ P = 17 ∨ P = 21 ∨ P = 25 ∨ P = 29 ∨ P = 33 ∨ P = 37 ∨ P = 41 := by omega
  rcases hc with rfl | rfl | rfl | rfl | rfl | rfl | rfl | rfl | rfl
  · exact (not_pr (d := 3) hpr (by omega) (by omega) rfl).elim
  · exact ⟨13, A0, G13, R13, _, rfl, five_no (by omega) (by omega) (by omega) gens_13 cay_13 rfl bip_13⟩
  · exact ⟨17, A0, G17, R17, _, rfl, five_no (by omega) (by omega) (by omega) gens_17 cay_17 rfl bip_17⟩
  · exact (not_pr (d := 3) hpr (by omega) (by omega) rfl).elim
  · exact (not_pr (d := 5) hpr (by omega) (by omega) rfl).elim
  · exact ⟨29, A1, G29, R29, _, rfl, five_yes (by omega) (by omega) (by omega) gens_29 cay_29 rfl⟩
  · exact (not_pr (d := 3) hpr (by omega) (by omega) rfl).elim
  · exact ⟨37, A0, G37, R37, _, rfl, five_no (by omega) (by omega) (by omega) gens_37 cay_37 rfl bip_37⟩
  · exact ⟨41, A1, G41, R41, _, rfl, five_yes (by omega) (by omega) (by omega) gens_41 cay_41 rfl⟩
end Go.Proofs.YtefcdclmabdmbaaGreatDoor
