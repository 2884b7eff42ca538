/- Package brandt: sums of products with numbers. Package brandt: sum. Package brandt: conjugates. Package brandt: products of elements. -/
import Derived.Test.YtdjpeimecfhdjaaGreatTa
import Derived.Test.YtdjpeimecfhdjaaGreatSw
namespace Go.Proofs.YtdjpeimecfhdjaaGreat
open Go.RowKit
abbrev Trm := Int × Int × Int
def TmC (w : World) (b o : Nat) (t : Trm) : Prop := ∃ n1 A1 m1 c1 n2 A2 m2 c2, w.cell? ⟨b, o, none⟩ = some (.int .i64 t.1) ∧ w.cell? ⟨b, o + 1, none⟩ = some (.bool n1) ∧ w.cell? ⟨b, o + 2, none⟩ = some (.slice A1 m1 c1) ∧ w.cell? ⟨b, o + 3, none⟩ = some (.bool n2) ∧ w.cell? ⟨b, o + 4, none⟩ = some (.slice A2 m2 c2) ∧
 NIntV w (fun _ => True) (.agg #[.bool n1, .slice A1 m1 c1]) t.2.1 ∧ NIntV w (fun _ => True) (.agg #[.bool n2, .slice A2 m2 c2]) t.2.2
theorem TmC.below {w w' : World} {b o : Nat} {t : Trm} (h : TmC w b o t) (hb : Below w.heap.size w w') : TmC w' b o t := by
 obtain ⟨n1, A1, m1, c1, n2, A2, m2, c2, h1, h2, h3, h4, h5, h6, h7⟩ := h
 exact ⟨n1, A1, m1, c1, n2, A2, m2, c2, keepB hb h1, keepB hb h2, keepB hb h3, keepB hb h4, keepB hb h5, h6.below hb, h7.below hb⟩
def smT (ts : List Trm) : Nat → Int
 | 0 => 0
 | k + 1 => smT ts k + (ts.getD k (0, 0, 0)).1 * ((ts.getD k (0, 0, 0)).2.1 * (ts.getD k (0, 0, 0)).2.2)
noncomputable def smreg5C : Code := (regOf 5 ((Tryz.f234.body).getD .skip)).getD .skip
set_option maxRecDepth 100000 in
set_option maxHeartbeats 4000000 in
theorem smreg5 {w : World} {Q : Exit → Act → World → Prop} {P T : Nat} {r : Int} {t : Trm} {t0 t1 t2 t4 t6 t7 t8 t9 t10 t11 t12 t13 t14 t15 t16 t17 t18 t19 t20 t21 t22 t23 t24 t25 : Value}
  (hR : BT w P r) (hl : wl r.natAbs ≤ 100000) (hT : TmC w T 0 t) (h1 : -9000000000000000000 ≤ t.1) (h2 : t.1 ≤ 9000000000000000000) (hx : wl t.2.1.natAbs ≤ 9000) (hy : wl t.2.2.natAbs ≤ 9000)
  (hQ : ∀ (w' : World) (u13 u14 u15 u16 u17 u18 u19 u20 u21 u22 u23 : Value), Bx w' P (w.heap.size ≤ ·) (r + t.1 * (t.2.1 * t.2.2)) → Frm (· = P) w w' → Q .normal ⟨#[t0, t1, t2, .pointer (some ⟨P, 0, none⟩), t4, .pointer (some ⟨T, 0, none⟩), t6, t7, t8, t9, t10, t11, t12, u13, u14, u15, u16, u17, u18, u19, u20, u21, u22, u23, t24, t25], []⟩ w') :
  (smreg5C).wp Tryz.prog Q ⟨#[t0, t1, t2, .pointer (some ⟨P, 0, none⟩), t4, .pointer (some ⟨T, 0, none⟩), t6, t7, t8, t9, t10, t11, t12, t13, t14, t15, t16, t17, t18, t19, t20, t21, t22, t23, t24, t25], []⟩ w := by
 have HQ := Lib.hid hQ
 clear hQ
 show Code.wp _ (Code.region 5 (List.toArray _) true) _ _ _
 obtain ⟨v0, hv0⟩ : ∃ v0, v0 = w.drew := ⟨_, rfl⟩
 have hs : Below w.heap.size w v0 := by rw [hv0]; exact (Below.refl _ _).drew
 obtain ⟨nb, Ab, mb, cb, hP, hr0⟩ := hR
 have hPl := hP.lt
 obtain ⟨r0, r1, f0, f1⟩ := hP.c2
 obtain ⟨n1, A1, m1, c1, n2, A2, m2, c2, k0, k1, k2, k3, k4, k5, k6⟩ := hT
 simp only [Nat.zero_add] at k1 k2 k3 k4
 have hw1 : wl t.1.natAbs ≤ 3 := dig_length_le (by omega) (by have : (4294967296 : Nat) ^ 3 = 79228162514264337593543950336 := by decide
                                                              omega)
 have hw2 := wl_mulI t.2.1 t.2.2
 have hw3 := wl_mulI t.1 (t.2.1 * t.2.2)
 refine wp_region_yld 1 (.read 0 (.read 1 (.read 2 (.read 4 (.read 5 (.read 6 (.read 7 (.step 3 (.step 8 (.step 9 (.step 10 (.step 11 .nil)))))))))))) [11] (by kernel_rfl) (by rfl) (by kernel_rfl) (by kernel_rfl) (fun V => Below w.heap.size w V) ?_
 change goY _ _ _ _ _ _ _ _ w.drew
 rw [← hv0]
 clear hv0
 refine goY_read 13 hs (by rfl) (by rfl) ?_ (by rfl) (fun wz hSw => ?_) ?_
 rotate_left
 ·have e0 := keepB hSw r0; have e1 := keepB hSw r1; go_simp
  try with_reducible rfl
 simp only [sIB, List.set]
 refine goY_read 14 hs (by rfl) (by rfl) ?_ (by rfl) (fun wz hSw => ?_) ?_
 rotate_left
 ·go_simp
  try with_reducible rfl
 simp only [sIB, List.set]
 refine goY_read 15 hs (by rfl) (by rfl) ?_ (by rfl) (fun wz hSw => ?_) ?_
 rotate_left
 ·have e0 := keepB hSw k0; go_simp
  try with_reducible rfl
 simp only [sIB, List.set]
 refine goY_read 17 hs (by rfl) (by rfl) ?_ (by rfl) (fun wz hSw => ?_) ?_
 rotate_left
 ·go_simp
  try with_reducible rfl
 simp only [sIB, List.set]
 refine goY_read 18 hs (by rfl) (by rfl) ?_ (by rfl) (fun wz hSw => ?_) ?_
 rotate_left
 ·have e0 := keepB hSw k1; have e1 := keepB hSw k2; go_simp
  try with_reducible rfl
 simp only [sIB, List.set]
 refine goY_read 19 hs (by rfl) (by rfl) ?_ (by rfl) (fun wz hSw => ?_) ?_
 rotate_left
 ·go_simp
  try with_reducible rfl
 simp only [sIB, List.set]
 refine goY_read 20 hs (by rfl) (by rfl) ?_ (by rfl) (fun wz hSw => ?_) ?_
 rotate_left
 ·have e0 := keepB hSw k3; have e1 := keepB hSw k4; go_simp
  try with_reducible rfl
 simp only [sIB, List.set]
 refine goY_call 16 (by rfl) (by rfl) (by rfl) (by go_simp) (Of_any t.1 _ (by omega) (by omega)) ?_
 rintro e v1 ⟨y3, rfl, hx3, hb0⟩
 replace hs := hs.trans (hb0.mono hs.size)
 refine ⟨_, rfl, fun _ => hs, fun V => Below w.heap.size w V, fun _ h => h, ?_⟩
 simp only [sIB, List.set]
 refine goY_call 21 (by rfl) (by rfl) (by rfl) (by go_simp) (Mul_any (k5.below hs).int (k6.below hs).int (by omega) (by omega)) ?_
 rintro e v2 ⟨y8, rfl, hx8, hb1⟩
 replace hx3 := hx3.below hb1
 replace hs := hs.trans (hb1.mono hs.size)
 refine ⟨_, rfl, fun _ => hs, fun V => Below w.heap.size w V, fun _ h => h, ?_⟩
 simp only [sIB, List.set]
 refine goY_call 22 (by rfl) (by rfl) (by rfl) (by go_simp) (Mul_any hx3.int hx8.int (by omega) (by omega)) ?_
 rintro e v3 ⟨y9, rfl, hx9, hb2⟩
 replace hx3 := hx3.below hb2
 replace hx8 := hx8.below hb2
 replace hs := hs.trans (hb2.mono hs.size)
 refine ⟨_, rfl, fun _ => hs, fun V => Below w.heap.size w V, fun _ h => h, ?_⟩
 simp only [sIB, List.set]
 have hsP := hs
 refine goY_call 23 (by rfl) (by rfl) (by rfl) (by go_simp) (Add_any (hr0.below hs).int hx9.int (by omega) (by omega)) ?_
 rintro e v4 ⟨y10, rfl, hx10, hb3⟩
 replace hx3 := hx3.below hb3
 replace hx8 := hx8.below hb3
 replace hx9 := hx9.below hb3
 replace hs := hs.trans (hb3.mono hs.size)
 refine ⟨_, rfl, fun _ => hs, fun V => Below w.heap.size w V, fun _ h => h, ?_⟩
 simp only [sIB, List.set]
 obtain ⟨n10, A10, m10, c10, rfl, hx10⟩ := hx10.shp
 have hP9 := keepA hP hs hPl
 obtain ⟨r0, r1, f0, f1⟩ := hP9.c2
 refine goY_step (by rfl) ?_
 go_wp2_with fail
 first | refine ⟨fun V => Below w.heap.size w V, fun _ h => h, goY_nil ?_⟩ | refine ⟨fun h => absurd h (by decide), fun V => Below w.heap.size w V, fun _ h => h, goY_nil ?_⟩
 exact HQ.out _ _ _ _ _ _ _ _ _ _ _ _ (Bx.mono (Bx.put hP9 hx10 (fun h : v3.heap.size ≤ P => by have := hsP.size; omega)) fun b (h : v3.heap.size ≤ b) _ => by have := hsP.size; show w.heap.size ≤ b; omega) ((Frm.of_below hs).trans (Frm.put2 v4 P _ _))
end Go.Proofs.YtdjpeimecfhdjaaGreat

namespace Go.Proofs.YtdjpeimecfhdjaaGreat
open Go.RowKit
def TmS (ts : List Trm) : Prop := ∀ t ∈ ts, -9000000000000000000 ≤ t.1 ∧ t.1 ≤ 9000000000000000000 ∧ wl t.2.1.natAbs ≤ 9000 ∧ wl t.2.2.natAbs ≤ 9000
theorem wl_smT {ts : List Trm} (h : TmS ts) : ∀ k, wl (smT ts k).natAbs ≤ 18100 + k
 | 0 => by unfold smT; rw [wl_zero0]; omega
 | k + 1 => by
  have ih := wl_smT h k
  unfold smT
  obtain ⟨t, ht⟩ : ∃ t, t = ts.getD k (0, 0, 0) := ⟨_, rfl⟩
  rw [← ht]
  have hb : -9000000000000000000 ≤ t.1 ∧ t.1 ≤ 9000000000000000000 ∧ wl t.2.1.natAbs ≤ 9000 ∧ wl t.2.2.natAbs ≤ 9000 := by
   rcases Nat.lt_or_ge k ts.length with h1 | h1
   ·refine h t ?_
    rw [ht]
    unfold List.getD
    rw [List.getElem?_eq_getElem h1]
    exact List.getElem_mem h1
   ·have e : t = (0, 0, 0) := by rw [ht]; unfold List.getD; rw [List.getElem?_eq_none h1]; rfl
    rw [e]
    exact ⟨by decide, by decide, by decide +kernel, by decide +kernel⟩
  have hw1 : wl t.1.natAbs ≤ 3 := dig_length_le (by omega) (by
   have : (4294967296 : Nat) ^ 3 = 79228162514264337593543950336 := by decide
   omega)
  have hw2 := wl_mulI t.2.1 t.2.2
  have hw3 := wl_mulI t.1 (t.2.1 * t.2.2)
  have hw4 := wl_addI (smT ts k) (t.1 * (t.2.1 * t.2.2))
  omega
set_option maxRecDepth 100000 in
set_option maxHeartbeats 4000000 in
theorem sum_any {w : World} {b off c n : Nat} {ts : List Trm} (hn : ts.length = n) (hn1 : n ≤ 1000) (hts : ∀ j t, ts[j]? = some t → TmC w b (off + j * 5) t) (hS : TmS ts) :
  Calls Tryz.prog 234 #[.slice (some ⟨b, off, none⟩) n c] w (Gives w fun w' v => NIntV w' (w.heap.size ≤ ·) v (smT ts n)) := by
 have HN := Lib.hid hn
 have HTS := Lib.hid hts
 have HS := Lib.hid hS
 have HWS := Lib.hid (wl_smT hS)
 obtain ⟨R, hR⟩ : ∃ R, R = w.heap.size := ⟨_, rfl⟩
 obtain ⟨P, hP⟩ : ∃ P, P = w.heap.size + 1 := ⟨_, rfl⟩
 obtain ⟨W, hW⟩ : ∃ W, W = (w.alloc (.cells #[.bool false, .slice none 0 0] 40)).alloc (.cells #[.bool false, .slice none 0 0] 40) := ⟨_, rfl⟩
 have hbW : Below w.heap.size w W := by rw [hW]; exact ((Below.refl _ _).alloc (Nat.le_refl _) _).alloc (by simp) _
 have hRA : Arr W R 40 [.bool false, .slice none 0 0] := by rw [hW, hR]; exact (Arr.new w _ [.bool false, .slice none 0 0]).alloc _
 have hPA : Arr W P 40 [.bool false, .slice none 0 0] := by
  rw [hW, hP]
  have := Arr.new (w.alloc (.cells #[.bool false, .slice none 0 0] 40)) 40 [.bool false, .slice none 0 0]
  simpa using this
 have hRw : w.heap.size ≤ R := by omega
 have hPw : w.heap.size ≤ P := by omega
 have hRP : R ≠ P := by omega
 have HR := Lib.hid hR
 have HP := Lib.hid hP
 have HW := Lib.hid hW
 have HB := Lib.hid hbW
 have HRA := Lib.hid hRA
 have HPB : Hid (Bx W P (w.heap.size ≤ ·) 0) := Lib.hid ⟨_, _, _, _, hPA, NIntV.zero _ _⟩
 clear hn hts hS hR hP hW hbW hRA hPA
 go_enter Tryz.func234, Tryz.ntmps234
 go_upto_block 0 with (fail)
 rw [← HP.out, ← HR.out]
 rw [← HW.out]
 go_wp2_with fail
 go_loopw [9] (fun kv wr => ∃ k : Nat, kv = .int .i64 (k : Nat) ∧ k ≤ n ∧ Bx wr P (w.heap.size ≤ ·) (smT ts k) ∧ Arr wr R 40 [.bool false, .slice none 0 0] ∧ Below w.heap.size w wr) (fun kv _ => n - (intOf kv).toNat)
 case atStart => exact ⟨0, rfl, by omega, HPB.out, HRA.out, HB.out⟩
 case round =>
  obtain ⟨k, rfl, hk, hB, hRr, hbr⟩ := hrel
  rcases Nat.lt_or_ge k n with hkn | hkn
  ·obtain ⟨t, ht⟩ : ∃ t, ts[k]? = some t := ⟨_, List.getElem?_eq_getElem (by rw [HN.out]; exact hkn)⟩
   have hsz := HS.out t (List.mem_of_getElem? ht)
   have HSTEP := Lib.hid (show smT ts k + t.1 * (t.2.1 * t.2.2) = smT ts (k + 1) by
    have e : ts.getD k (0, 0, 0) = t := by unfold List.getD; rw [ht]; rfl
    rw [← e]
    rfl)
   have hT := (HTS.out k t ht).below hbr
   obtain ⟨n1, A1, m1, c1, n2, A2, m2, c2, k0, k1, k2, k3, k4, k5, k6⟩ := hT
   have a1 : (0 : Int) ≤ (k : Int) := by omega
   have a2 : (k : Int) < (n : Int) := by omega
   have hwk : wl (smT ts k).natAbs ≤ 100000 := by have := HWS.out k; omega
   have HSZ := Lib.hid hsz
   have HB := Lib.hid hB
   have HRR := Lib.hid hRr
   have HBR := Lib.hid hbr
   clear ht hsz hB hRr hbr
   go_upto_region 5 with (fail)
   generalize hW1 : World.alloc wr _ = W1
   obtain ⟨T, hTe⟩ : ∃ B, B = wr.heap.size := ⟨_, rfl⟩
   rw [← hTe]
   have hb1 : Below wr.heap.size wr W1 := by rw [← hW1]; exact (Below.refl _ _).alloc (Nat.le_refl _) _
   have hTC : TmC W1 T 0 t := ⟨n1, A1, m1, c1, n2, A2, m2, c2, by rw [hTe]; subst hW1; go_simp, by rw [hTe]; subst hW1; go_simp, by rw [hTe]; subst hW1; go_simp, by rw [hTe]; subst hW1; go_simp, by rw [hTe]; subst hW1; go_simp, k5.below hb1, k6.below hb1⟩
   have HB1 := Lib.hid (HB.out.below hb1)
   have HR1 := Lib.hid (keepA HRR.out hb1 HRR.out.lt)
   have HBR1 := Lib.hid (HBR.out.trans (hb1.mono HBR.out.size))
   have HTC := Lib.hid hTC
   clear hW1 hTe hb1 hTC k0 k1 k2 k3 k4 k5 k6
   refine smreg5 HB1.out.bt hwk HTC.out HSZ.out.1 HSZ.out.2.1 HSZ.out.2.2.1 HSZ.out.2.2.2 ?_
   intro w' u1 u2 u3 u4 u5 u6 u7 u8 u9 u10 u11 hB' hf'
   rename_i K hK
   refine hK _ _ ?_
   rw [HSTEP.out] at hB'
   go_wp2_with fail
   go_roundw
   case rel => exact ⟨k + 1, by go_num, by omega, Bx.mono hB' fun b (h : W1.heap.size ≤ b) _ => Nat.le_trans HBR1.out.size h, hf'.arr HR1.out hRP, HBR1.out.trans (hf'.below (B := w.heap.size) HBR1.out.size fun b (e : b = P) => by omega)⟩
   case measure => simp [intOf]; omega
  ·obtain rfl : k = n := by omega
   obtain ⟨n1, A1, m1, c1, hp, hv⟩ := hB
   obtain ⟨p0, p1, _, _⟩ := hp.c2
   obtain ⟨r0, r1, f0, f1⟩ := hRr.c2
   have HV := Lib.hid (hv.clr hRr)
   have HBR := Lib.hid hbr
   clear hp hv hbr
   go_wp2_with fail
   refine bodyPost_ret (v := .agg #[.bool n1, .slice A1 m1 c1]) (by simp [results, Tryz.results234, go_sem, r0, r1]) rfl ⟨_, rfl, ?_, ?_⟩
   ·exact ((HV.out.setCell (p := ⟨R, 0, none⟩) (fun h => h.2 rfl) _).setCell (p := ⟨R, 1, none⟩) (fun h => h.2 rfl) _).mono fun b hb _ => hb.1
   ·exact (HBR.out.setCell (p := ⟨R, 0, none⟩) (by show w.heap.size ≤ R; omega) _).setCell (p := ⟨R, 1, none⟩) (by show w.heap.size ≤ R; omega) _
end Go.Proofs.YtdjpeimecfhdjaaGreat

namespace Go.Proofs.YtdjpeimecfhdjaaGreat
open Go.RowKit
theorem PvD.four {w : World} {D : Nat → Prop} {g : Nat} {n0 n1 n2 n3 : Bool} {B0 B1 B2 B3 : Option Addr} {m0 m1 m2 m3 k0 k1 k2 k3 : Nat} {a b c d : Int} (h : Arr w g 40 [.bool n0, .slice B0 m0 k0, .bool n1, .slice B1 m1 k1, .bool n2, .slice B2 m2 k2, .bool n3, .slice B3 m3 k3]) (hg : D g)
  (h0 : NIntV w D (.agg #[.bool n0, .slice B0 m0 k0]) a) (h1 : NIntV w D (.agg #[.bool n1, .slice B1 m1 k1]) b) (h2 : NIntV w D (.agg #[.bool n2, .slice B2 m2 k2]) c) (h3 : NIntV w D (.agg #[.bool n3, .slice B3 m3 k3]) d) : PvD w D (.slice (some ⟨g, 0, none⟩) 4 4) [a, b, c, d] := by
 refine ⟨some ⟨g, 0, none⟩, 4, rfl, rfl, Nat.le_refl _, by unfold maxLen; omega, fun _ => ⟨g, 0, rfl, hg, fun j hj => ?_⟩⟩
 have hj : j < 4 := hj
 have hc := fun i => h.cell i
 rcases (show j = 0 ∨ j = 1 ∨ j = 2 ∨ j = 3 by omega) with rfl | rfl | rfl | rfl
 ·exact ⟨_, _, _, _, hc 0, hc 1, h0⟩
 ·exact ⟨_, _, _, _, hc 2, hc 3, h1⟩
 ·exact ⟨_, _, _, _, hc 4, hc 5, h2⟩
 ·exact ⟨_, _, _, _, hc 6, hc 7, h3⟩
def cjL (l : List Int) : List Int := [gz l 0, -gz l 1, -gz l 2, -gz l 3]
set_option maxRecDepth 100000 in
set_option maxHeartbeats 4000000 in
theorem conj_any {w : World} {D : Nat → Prop} {A : Option Addr} {c : Nat} {l : List Int} (hx : PvD w D (.slice A 4 c) l) (hf : fitR l = true) :
  Calls Tryz.prog 184 #[.slice A 4 c] w (Gives w fun w' v => PvD w' (fun _ => True) v (cjL l)) := by
 obtain ⟨b, off, rfl, hc⟩ := PvD.all hx (by omega)
 obtain ⟨n0, B0, m0, q0, a0, b0, h0⟩ := hc 0 (by omega)
 obtain ⟨n1, B1, m1, q1, a1, b1, h1⟩ := hc 1 (by omega)
 obtain ⟨n2, B2, m2, q2, a2, b2, h2⟩ := hc 2 (by omega)
 obtain ⟨n3, B3, m3, q3, a3, b3, h3⟩ := hc 3 (by omega)
 simp only [Nat.zero_mul, Nat.one_mul, Nat.add_zero] at a0 b0 a1 b1
 rw [show off + 2 * 2 = off + 4 from rfl] at a2 b2
 rw [show off + 3 * 2 = off + 6 from rfl] at a3 b3
 rw [show off + 4 + 1 = off + 5 from rfl] at b2
 rw [show off + 6 + 1 = off + 7 from rfl] at b3
 rw [show off + 2 + 1 = off + 3 from rfl] at b1
 have w1 := fit_wl (fitR_gz hf 1)
 have w2 := fit_wl (fitR_gz hf 2)
 have w3 := fit_wl (fitR_gz hf 3)
 have H0 := Lib.hid h0
 have H1 := Lib.hid h1
 have H2 := Lib.hid h2
 have H3 := Lib.hid h3
 clear hx hf hc h0 h1 h2 h3
 go_enter Tryz.func184, Tryz.ntmps184
 go_upto_region 1 with (fail)
 have hs : Below w.heap.size w w.drew := (Below.refl _ _).drew
 refine wp_region_yld 1 (.read 0 (.read 1 (.read 2 (.read 3 (.read 4 (.read 5 (.read 7 (.read 8 (.read 9 (.read 11 (.read 12 (.read 13 (.step 6 (.step 10 (.step 14 (.step 15 (.step 16 .nil))))))))))))))))) [] (by kernel_rfl) (by rfl) (by kernel_rfl) (by kernel_rfl) (fun V => Below w.heap.size w V) ?_
 change goY _ _ _ _ _ _ _ _ w.drew
 obtain ⟨v0, hv0⟩ : ∃ v0, v0 = w.drew := ⟨_, rfl⟩
 rw [← hv0] at hs ⊢
 clear hv0
 refine goY_read 3 hs (by rfl) (by rfl) ?_ (by rfl) (fun wz hSw => ?_) ?_
 rotate_left
 ·go_simp
  try with_reducible rfl
 simp only [sIB, List.set]
 refine goY_read 4 hs (by rfl) (by rfl) ?_ (by rfl) (fun wz hSw => ?_) ?_
 rotate_left
 ·go_simp
  try with_reducible rfl
 simp only [sIB, List.set]
 refine goY_read 5 hs (by rfl) (by rfl) ?_ (by rfl) (fun wz hSw => ?_) ?_
 rotate_left
 ·have e0 := keepB hSw a0; have e1 := keepB hSw b0; go_simp
  try with_reducible rfl
 simp only [sIB, List.set]
 refine goY_read 6 hs (by rfl) (by rfl) ?_ (by rfl) (fun wz hSw => ?_) ?_
 rotate_left
 ·go_simp
  try with_reducible rfl
 simp only [sIB, List.set]
 refine goY_read 7 hs (by rfl) (by rfl) ?_ (by rfl) (fun wz hSw => ?_) ?_
 rotate_left
 ·go_simp
  try with_reducible rfl
 simp only [sIB, List.set]
 refine goY_read 8 hs (by rfl) (by rfl) ?_ (by rfl) (fun wz hSw => ?_) ?_
 rotate_left
 ·have e0 := keepB hSw a1; have e1 := keepB hSw b1; go_simp
  try with_reducible rfl
 simp only [sIB, List.set]
 refine goY_read 10 hs (by rfl) (by rfl) ?_ (by rfl) (fun wz hSw => ?_) ?_
 rotate_left
 ·go_simp
  try with_reducible rfl
 simp only [sIB, List.set]
 refine goY_read 11 hs (by rfl) (by rfl) ?_ (by rfl) (fun wz hSw => ?_) ?_
 rotate_left
 ·go_simp
  try with_reducible rfl
 simp only [sIB, List.set]
 refine goY_read 12 hs (by rfl) (by rfl) ?_ (by rfl) (fun wz hSw => ?_) ?_
 rotate_left
 ·have e0 := keepB hSw a2; have e1 := keepB hSw b2; go_simp
  try with_reducible rfl
 simp only [sIB, List.set]
 refine goY_read 14 hs (by rfl) (by rfl) ?_ (by rfl) (fun wz hSw => ?_) ?_
 rotate_left
 ·go_simp
  try with_reducible rfl
 simp only [sIB, List.set]
 refine goY_read 15 hs (by rfl) (by rfl) ?_ (by rfl) (fun wz hSw => ?_) ?_
 rotate_left
 ·go_simp
  try with_reducible rfl
 simp only [sIB, List.set]
 refine goY_read 16 hs (by rfl) (by rfl) ?_ (by rfl) (fun wz hSw => ?_) ?_
 rotate_left
 ·have e0 := keepB hSw a3; have e1 := keepB hSw b3; go_simp
  try with_reducible rfl
 simp only [sIB, List.set]
 refine goY_call 9 (by rfl) (by rfl) (by rfl) (by go_simp) (wNeg_any (H1.out.below hs).int (by omega)) ?_
 rintro e v1 ⟨y1, rfl, hx1, hb0⟩
 replace hs := hs.trans (hb0.mono hs.size)
 refine ⟨_, rfl, fun _ => hs, fun V => Below w.heap.size w V, fun _ h => h, ?_⟩
 simp only [sIB, List.set]
 refine goY_call 13 (by rfl) (by rfl) (by rfl) (by go_simp) (wNeg_any (H2.out.below hs).int (by omega)) ?_
 rintro e v2 ⟨y2, rfl, hx2, hb1⟩
 replace hx1 := hx1.below hb1
 replace hs := hs.trans (hb1.mono hs.size)
 refine ⟨_, rfl, fun _ => hs, fun V => Below w.heap.size w V, fun _ h => h, ?_⟩
 simp only [sIB, List.set]
 refine goY_call 17 (by rfl) (by rfl) (by rfl) (by go_simp) (wNeg_any (H3.out.below hs).int (by omega)) ?_
 rintro e v3 ⟨y3, rfl, hx3, hb2⟩
 replace hx1 := hx1.below hb2
 replace hx2 := hx2.below hb2
 replace hs := hs.trans (hb2.mono hs.size)
 refine ⟨_, rfl, fun _ => hs, fun V => Below w.heap.size w V, fun _ h => h, ?_⟩
 simp only [sIB, List.set]
 obtain ⟨e1, A1, p1, r1, rfl, g1⟩ := hx1.shp
 obtain ⟨e2, A2, p2, r2, rfl, g2⟩ := hx2.shp
 obtain ⟨e3, A3, p3, r3, rfl, g3⟩ := hx3.shp
 refine goY_step (by rfl) ?_
 go_wp2_with fail
 obtain ⟨v4, hv4⟩ : ∃ V, V = v3.alloc (.cells #[.bool n0, .slice B0 m0 q0, .bool e1, .slice A1 p1 r1, .bool e2, .slice A2 p2 r2, .bool e3, .slice A3 p3 r3] 40) := ⟨_, rfl⟩
 obtain ⟨g, hg⟩ : ∃ g, g = v3.heap.size := ⟨_, rfl⟩
 rw [← hv4, ← hg]
 have hb4 : Below v3.heap.size v3 v4 := by rw [hv4]; exact (Below.refl _ _).alloc (Nat.le_refl _) _
 have hA : Arr v4 g 40 [.bool n0, .slice B0 m0 q0, .bool e1, .slice A1 p1 r1, .bool e2, .slice A2 p2 r2, .bool e3, .slice A3 p3 r3] := by rw [hv4, hg]; exact Arr.new v3 _ _
 have hs4 := hs.trans (hb4.mono hs.size)
 have HR := Lib.hid (PvD.four (D := fun _ => True) hA trivial ((H0.out.below hs4).mono fun _ _ _ => trivial) ((g1.below hb4).mono fun _ _ _ => trivial) ((g2.below hb4).mono fun _ _ _ => trivial) ((g3.below hb4).mono fun _ _ _ => trivial))
 clear hv4 hg hA
 first | refine ⟨fun _ => hs4, fun V => Below w.heap.size w V, fun _ h => h, ?_⟩ | refine ⟨hs4, fun V => Below w.heap.size w V, fun _ h => h, ?_⟩
 refine goY_step (by rfl) ?_
 go_wp2_with fail
 first | refine ⟨fun _ => hs4, fun V => Below w.heap.size w V, fun _ h => h, goY_nil ?_⟩ | refine ⟨hs4, fun V => Below w.heap.size w V, fun _ h => h, goY_nil ?_⟩
 go_wp2_with fail
 go_ret
 exact ⟨_, rfl, HR.out, hs4⟩
end Go.Proofs.YtdjpeimecfhdjaaGreat

namespace Go.Proofs.YtdjpeimecfhdjaaGreat
open Go.RowKit
def TmB (w : World) (g : Nat) (ts : List Trm) : Prop := ∀ j t, ts[j]? = some t → TmC w g (0 + j * 5) t
theorem TmB.below {w w' : World} {g : Nat} {ts : List Trm} (h : TmB w g ts) (hb : Below w.heap.size w w') : TmB w' g ts := fun j t ht => (h j t ht).below hb
def tmT0 (va vb : Int) (p q : List Int) : List Trm := [(1, gz p 0, gz q 0), (va, gz p 1, gz q 1), (vb, gz p 2, gz q 2), ((-va * vb), gz p 3, gz q 3)]
def tmT1 (_ vb : Int) (p q : List Int) : List Trm := [(1, gz p 0, gz q 1), (1, gz p 1, gz q 0), ((-vb), gz p 2, gz q 3), (vb, gz p 3, gz q 2)]
def tmT2 (va _ : Int) (p q : List Int) : List Trm := [(1, gz p 0, gz q 2), (1, gz p 2, gz q 0), (va, gz p 1, gz q 3), ((-va), gz p 3, gz q 1)]
def tmT3 (_ _ : Int) (p q : List Int) : List Trm := [(1, gz p 0, gz q 3), (1, gz p 3, gz q 0), (1, gz p 1, gz q 2), ((-1), gz p 2, gz q 1)]
def tmQ (va vb : Int) (p q : List Int) : List Int := [smT (tmT0 va vb p q) 4, smT (tmT1 va vb p q) 4, smT (tmT2 va vb p q) 4, smT (tmT3 va vb p q) 4]
end Go.Proofs.YtdjpeimecfhdjaaGreat
