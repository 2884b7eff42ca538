/- Package wide: the content of a matrix (Content), all elements divided (Over). Package integer: an integer as a machine integer (Small). Package wide: a matrix as machine integers (Small). Package wide: a matrix as machine integers (Small). -/
import Derived.Test.YtdjpeimecfhdjaaGreatXi
import Derived.Test.YtdjpeimecfhdjaaGreatXb
namespace Go.Proofs.YtdjpeimecfhdjaaGreat
open Go.RowKit
def Bx (w : World) (P : Nat) (D : Nat → Prop) (g : Int) : Prop := ∃ neg B m k, Arr w P 40 [.bool neg, .slice B m k] ∧ NIntV w D (.agg #[.bool neg, .slice B m k]) g
section
variable {w w' : World} {P : Nat} {D D' : Nat → Prop} {g : Int}
theorem Bx.below (h : Bx w P D g) (hb : Below w.heap.size w w') : Bx w' P D g := by
 obtain ⟨neg, B, m, k, h1, h2⟩ := h
 exact ⟨neg, B, m, k, h1.below' hb, h2.below hb⟩
theorem Bx.mono (h : Bx w P D g) (hd : ∀ b, D b → b < w.heap.size → D' b) : Bx w P D' g := by
 obtain ⟨neg, B, m, k, h1, h2⟩ := h
 exact ⟨neg, B, m, k, h1, h2.mono hd⟩
theorem Bx.put {neg neg' : Bool} {B B' : Option Addr} {m m' k k' : Nat} {x : Int} (h : Arr w P 40 [.bool neg', .slice B' m' k']) (hx : NIntV w D (.agg #[.bool neg, .slice B m k]) x) (hd : ¬ D P) : Bx ((w.setCell ⟨P, 0, none⟩ (.bool neg)).setCell ⟨P, 1, none⟩ (.slice B m k)) P D x := by
 refine ⟨neg, B, m, k, ?_, (hx.setCell (p := ⟨P, 0, none⟩) hd _).setCell (p := ⟨P, 1, none⟩) hd _⟩
 have := (h.set_ 0 (.bool neg)).set_ 1 (.slice B m k)
 exact this
theorem Arr.c2 {a b : Value} (h : Arr w P 40 [a, b]) : w.cell? ⟨P, 0, none⟩ = some a ∧ w.cell? ⟨P, 1, none⟩ = some b ∧ w.frozen? ⟨P, 0, none⟩ = false ∧ w.frozen? ⟨P, 1, none⟩ = false := ⟨h.cell 0, h.cell 1, h.frozen 0, h.frozen 1⟩
end
theorem Arr.put2 {w : World} {P : Nat} {a b : Value} (h : Arr w P 40 [a, b]) (a' b' : Value) : Arr ((w.setCell ⟨P, 0, none⟩ a').setCell ⟨P, 1, none⟩ b') P 40 [a', b'] := (h.set_ 0 a').set_ 1 b'
set_option maxRecDepth 100000 in
set_option maxHeartbeats 4000000 in
theorem Content_any {w : World} {D : Nat → Prop} {A : Option Addr} {q c : Nat} {L : List (List Int)} {kv : Value} {g : Int} (h : RM w (.slice A q c) L) (hk : NIntV w D kv g) (hq : q ≤ 1000000) (hn : ∀ l ∈ L, l.length ≤ 1000000) (hg : wl g.natAbs ≤ 900000000000) (hf : ∀ l ∈ L, ∀ x ∈ l, wl x.natAbs ≤ 900000000000) :
  Calls Tryz.prog 220 #[.slice A q c, kv] w (Gives w fun w' v => NIntV w' (fun _ => True) v (cntM g L)) := by
 have hr := RowsD.room h
 have HL := Lib.hid hr.1.symm
 clear hr
 obtain ⟨nk, Ak, mk, ck, rfl, hk⟩ := hk.shp
 obtain ⟨W, R, hW, hR, hbW, HR, c0, c1, hlt⟩ := boxes1 w (.bool nk) (.slice Ak mk ck)
 have hRR : R = w.heap.size + 1 := hR
 have hBX : Bx W w.heap.size (fun b => b ≠ w.heap.size ∧ b ≠ R) g := by
  refine ⟨nk, Ak, mk, ck, ?_, (hk.mono (D' := fun b => b ≠ w.heap.size ∧ b ≠ R) fun b _ hb => ⟨by omega, by omega⟩).below hbW⟩
  rw [hW]
  exact (Arr.new w _ [.bool nk, .slice Ak mk ck]).alloc _
 have hRA : Arr W R 40 [.bool false, .slice none 0 0] := HR.out
 have HWF := Lib.hid hf
 have HNL := Lib.hid hn
 have HRQ := Lib.hid hRR
 clear hf hRR hk hn
 have HWW := Lib.hid hW
 have HRR := Lib.hid hR
 clear hW hR
 obtain ⟨P, hP⟩ : ∃ P, P = w.heap.size := ⟨_, rfl⟩
 rw [← hP] at hBX
 have HP := Lib.hid hP
 clear hP c0 c1
 go_enter Tryz.func220, Tryz.ntmps220
 go_upto_region 2 with (fail)
 rw [← HWW.out, ← HRR.out, ← HP.out]
 go_loopw [11] (fun iv wr => ∃ i : Nat, iv = .int .i64 i ∧ i ≤ q ∧ Bx wr P (fun b => b ≠ P ∧ b ≠ R) (cntM g (L.take i)) ∧ Arr wr R 40 [.bool false, .slice none 0 0] ∧ Below w.heap.size w wr) (fun iv _ => q - (intOf iv).toNat)
 case atStart => exact ⟨0, rfl, by omega, hBX, hRA, hbW⟩
 case round =>
  obtain ⟨i, rfl, hi, hbx, hra, hbr⟩ := hrel
  clear hBX hRA
  rcases Nat.lt_or_ge i q with hiq | hiq
  ·obtain ⟨b, off, Au, cu, rfl, hc, hpv⟩ := h.at hiq
   replace hc := keepB hbr hc
   have hlen := HNL.out _ (rw_mem (L := L) (i := i) (by rw [HL.out]; exact hiq))
   have HG0 := Lib.hid (wl_cntM (L.take i) hg (fun l hl => HWF.out l (List.mem_of_mem_take hl)))
   have HWR := Lib.hid (HWF.out _ (rw_mem (L := L) (i := i) (by rw [HL.out]; exact hiq)))
   have HST := Lib.hid (show cntM g (L.take (i + 1)) = cntR (cntM g (L.take i)) (rw_ L i) by rw [take_succ_rw (by rw [HL.out]; exact hiq), cntM_snoc])
   have HPV := Lib.hid hpv
   have HLN := Lib.hid (show (rw_ L i).length = (rw_ L i).length from rfl)
   clear hpv
   generalize hln : (rw_ L i).length = ln at *
   have HLM := Lib.hid hln
   clear hln HLN
   have a1 : (0 : Int) ≤ (i : Int) := by omega
   have a2 : (i : Int) < (q : Int) := by omega
   obtain ⟨wo, rfl⟩ : ∃ wo, wo = wr := ⟨_, rfl⟩
   go_wp2_with fail
   go_loopw [17] (fun jv wr => ∃ j : Nat, jv = .int .i64 j ∧ j ≤ ln ∧ Bx wr P (fun b => b ≠ P ∧ b ≠ R) (cntR (cntM g (L.take i)) ((rw_ L i).take j)) ∧ Arr wr R 40 [.bool false, .slice none 0 0] ∧ Frm (· = P) wo wr) (fun jv _ => ln - (intOf jv).toNat)
   case atStart => exact ⟨0, rfl, by omega, by simpa [cntR] using hbx, hra, Frm.refl _ _⟩
   case round =>
    obtain ⟨j, rfl, hj, hbx, hra, hfi⟩ := hrel
    rcases Nat.lt_or_ge j ln with hjn | hjn
    ·have hbi : Below w.heap.size w wr := hbr.trans (hfi.below hbr.size fun b e => by rw [e, HP.out]; exact Nat.le_refl _)
     obtain ⟨b1, off1, neg, B, m, k, rfl, _, e0, e1, e2⟩ := PvD.at (Foot.below HPV.out hbi) hjn
     obtain ⟨neg2, B2, m2, k2, hp, hv⟩ := hbx
     have hwl1 := wl_cntR (B := 900000000000) ((rw_ L i).take j) HG0.out (fun x hx => HWR.out x (List.mem_of_mem_take hx))
     have hwl2 := HWR.out _ (gz_mem (l := rw_ L i) (j := j) (by rw [HLM.out]; exact hjn))
     obtain ⟨W2, hW2⟩ : ∃ W2, W2 = wr.alloc (.cells #[.bool neg, .slice B m k] 40) := ⟨_, rfl⟩
     have HB2 : Below wr.heap.size wr W2 := by rw [hW2]; exact (Below.refl _ _).alloc (Nat.le_refl _) _
     have x0 : W2.cell? ⟨wr.heap.size, 0, none⟩ = some (.bool neg) := by rw [hW2]; go_simp
     have x1 : W2.cell? ⟨wr.heap.size, 1, none⟩ = some (.slice B m k) := by rw [hW2]; go_simp
     have HW2 := Lib.hid hW2
     clear hW2
     obtain ⟨p0, p1, _, _⟩ := (hp.below' HB2).c2
     rw [HW2.out] at p0 p1 x0 x1
     have HGC := Lib.hid (Gcd_any (hv.below HB2).int (e2.below HB2).int hwl1 hwl2)
     have HST2 := Lib.hid (show cntR (cntM g (L.take i)) ((rw_ L i).take (j + 1)) = (Int.gcd (cntR (cntM g (L.take i)) ((rw_ L i).take j)) (gz (rw_ L i) j) : Int) by rw [take_succ_gz (by rw [HLM.out]; exact hjn), cntR_snoc])
     have HPA := Lib.hid (hp.below' HB2)
     have HRA := Lib.hid (hra.below' HB2)
     have HFI := Lib.hid (hfi.over HB2)
     have hPl : P < W2.heap.size := (hp.below' HB2).lt
     have hRl : R < W2.heap.size := (hra.below' HB2).lt
     clear hp hv e2 hwl1 hwl2 hra hfi hbi
     have a3 : (0 : Int) ≤ (j : Int) := by omega
     have a4 : (j : Int) < (ln : Int) := by omega
     go_wp2_with (go_at_call 162; rw [← HW2.out]; go_must (refine HGC.out.mono ?_); rintro e w3 ⟨v3, rfl, hv3, hb3⟩; obtain ⟨n9, A9, m9, c9, rfl, hw9⟩ := hv3.shp; clear hv3; obtain ⟨t0, t1, u0, u1⟩ := (HPA.out.below' hb3).c2)
     go_round
     case rel =>
      refine ⟨j + 1, by go_num, by omega, ?_, ?_, (HFI.out.over hb3).trans ((Frm.setCell (O := (· = P)) (p := ⟨P, 0, none⟩) (fun _ => rfl) _).trans (Frm.setCell (O := (· = P)) (p := ⟨P, 1, none⟩) (fun _ => rfl) _))⟩
      ·rw [HST2.out]
       exact Bx.put (HPA.out.below' hb3) (hw9.dd fun b h1 => by have h1 : W2.heap.size ≤ b := h1; exact ⟨by omega, by omega⟩) (fun h => h.1 rfl)
      ·have hne : R ≠ P := by rw [HRQ.out, HP.out]; omega
       exact ((HRA.out.below' hb3).far (p := ⟨P, 0, none⟩) hne _).far (p := ⟨P, 1, none⟩) hne _
     case measure => simp [intOf]; omega
    ·obtain rfl : j = ln := by omega
     have e1 : (rw_ L i).take j = rw_ L i := List.take_of_length_le (by rw [HLM.out]; exact Nat.le_refl _)
     rw [e1, ← HST.out] at hbx
     clear e1
     go_wp2_with fail
     go_round
     case rel => exact ⟨i + 1, by go_num, by omega, hbx, hra, hbr.trans (hfi.below hbr.size fun b e => by rw [e, HP.out]; exact Nat.le_refl _)⟩
     case measure => simp [intOf]; omega
  ·obtain rfl : i = q := by omega
   rw [List.take_of_length_le (by rw [HL.out]; exact Nat.le_refl _)] at hbx
   obtain ⟨neg, B, m, k, hp, hv⟩ := hbx
   obtain ⟨p0, p1, _, _⟩ := hp.c2
   obtain ⟨r0, r1, rf0, rf1⟩ := hra.c2
   go_wp2_with fail
   refine bodyPost_ret (v := .agg #[.bool neg, .slice B m k]) (by simp [results, Tryz.results220, go_sem, r0, r1]) rfl ⟨_, rfl, ?_, ?_⟩
   ·exact ((hv.setCell (p := ⟨R, 0, none⟩) (fun h => h.2 rfl) _).setCell (p := ⟨R, 1, none⟩) (fun h => h.2 rfl) _).tt
   ·exact (hbr.setCell (p := ⟨R, 0, none⟩) (by show w.heap.size ≤ R; omega) _).setCell (p := ⟨R, 1, none⟩) (by show w.heap.size ≤ R; omega) _
theorem mapQ_step {l : List Int} {f : Int → Int} {j : Nat} (hj : j < l.length) : ((l.map f).take j ++ l.drop j).set j (f (gz l j)) = (l.map f).take (j + 1) ++ l.drop (j + 1) := by
 have e : ((l.map f).take j).length = j := by rw [List.length_take, List.length_map]; omega
 have e2 : l.drop j = gz l j :: l.drop (j + 1) := by
  rw [List.drop_eq_getElem_cons hj]
  have := gz_lt hj
  rw [List.getElem?_eq_getElem hj] at this
  injection this with this
  rw [this]
 have e3 : (l.map f).take (j + 1) = (l.map f).take j ++ [f (gz l j)] := by
  rw [List.take_add_one, List.getElem?_map, gz_lt hj]; rfl
 rw [e2, List.set_append_right _ _ (by omega), e, Nat.sub_self, List.set_cons_zero, e3]
 simp
theorem mapQ_at {l : List Int} {f : Int → Int} {j : Nat} (hj : j < l.length) : gz ((l.map f).take j ++ l.drop j) j = gz l j := by
 have e : ((l.map f).take j).length = j := by rw [List.length_take, List.length_map]; omega
 unfold gz List.getD
 rw [List.getElem?_append_right (by omega), e, List.getElem?_drop, Nat.sub_self, Nat.add_zero]
theorem mapM_step {L : List (List Int)} {f : List Int → List Int} {i : Nat} (hi : i < L.length) : ((L.map f).take i ++ L.drop i).set i (f (rw_ L i)) = (L.map f).take (i + 1) ++ L.drop (i + 1) := by
 have e : ((L.map f).take i).length = i := by rw [List.length_take, List.length_map]; omega
 have e2 : L.drop i = rw_ L i :: L.drop (i + 1) := by
  rw [List.drop_eq_getElem_cons hi]
  have := rw_some hi
  rw [List.getElem?_eq_getElem hi] at this
  injection this with this
  rw [this]
 have e3 : (L.map f).take (i + 1) = (L.map f).take i ++ [f (rw_ L i)] := by
  rw [List.take_add_one, List.getElem?_map, rw_some hi]; rfl
 rw [e2, List.set_append_right _ _ (by omega), e, Nat.sub_self, List.set_cons_zero, e3]
 simp
theorem mapM_at {L : List (List Int)} {f : List Int → List Int} {i : Nat} (hi : i < L.length) : ((L.map f).take i ++ L.drop i)[i]? = some (rw_ L i) := by
 have e : ((L.map f).take i).length = i := by rw [List.length_take, List.length_map]; omega
 rw [List.getElem?_append_right (by omega), e, List.getElem?_drop, Nat.sub_self, Nat.add_zero, rw_some hi]
set_option maxRecDepth 100000 in
set_option maxHeartbeats 4000000 in
theorem Over_any {w : World} {D D2 : Nat → Prop} {A : Option Addr} {q c : Nat} {L : List (List Int)} {kv : Value} {g : Int} (h : RowsD PvD w D (.slice A q c) L) (hk : NIntV w D2 kv g) (hq : q ≤ 1000000) (hn : ∀ l ∈ L, l.length ≤ 1000000) (hg : wl g.natAbs ≤ 900000000000) (hg0 : g ≠ 0) (hf : ∀ l ∈ L, ∀ x ∈ l, wl x.natAbs ≤ 900000000000) :
  Calls Tryz.prog 221 #[.slice A q c, kv] w (Gives w fun w' v => RowsD PvD w' (fun b => D b ∨ w.heap.size ≤ b) v (ovr L g)) := by
 have hr := RowsD.room h
 have HL := Lib.hid hr.1.symm
 clear hr
 obtain ⟨nk, Ak, mk, ck, rfl, hk⟩ := hk.shp
 obtain ⟨W, hW⟩ : ∃ W, W = w.alloc (.cells #[.bool nk, .slice Ak mk ck] 40) := ⟨_, rfl⟩
 have hbW : Below w.heap.size w W := by rw [hW]; exact (Below.refl _ _).alloc (Nat.le_refl _) _
 have b0 : W.cell? ⟨w.heap.size, 0, none⟩ = some (.bool nk) := by rw [hW]; go_simp
 have b1 : W.cell? ⟨w.heap.size, 1, none⟩ = some (.slice Ak mk ck) := by rw [hW]; go_simp
 have hsW : w.heap.size < W.heap.size := cell_lt b0
 have HWW := Lib.hid hW
 clear hW
 have HC := Lib.hid (Clone_any (h.below hbW) hq hn)
 have HKV := Lib.hid (hk.below hbW).tt
 have HWF := Lib.hid hf
 have HNL := Lib.hid hn
 have HG0 := Lib.hid hg0
 have HG := Lib.hid hg
 clear hf hk hn h hg0 hg
 obtain ⟨P, hP⟩ : ∃ P, P = w.heap.size := ⟨_, rfl⟩
 rw [← hP] at b0 b1
 have HP := Lib.hid hP
 clear hP
 go_enter Tryz.func221, Tryz.ntmps221
 go_upto_region 3 with (go_at_call 206; rw [← HWW.out]; go_must (refine HC.out.mono ?_); rintro e w3 ⟨B, us, rfl, hm3, hb3⟩)
 rw [← HP.out]
 have hmw := hm3.fresh
 have HDR := Lib.hid (fun b us' hs hb => DN.rd (D := D) hm3 (us' := us') (b := b) hs hb)
 have HLO := Lib.hid (fun b (hb : MatX.Own B us b) => (hm3.ownlt hb).1)
 have HLO2 := Lib.hid (fun b (hb : MatX.Own B us b) => (hm3.ownlt hb).2)
 clear hm3
 have hP3 : P < W.heap.size := cell_lt b0
 go_loopw [14] (fun iv wr => ∃ i : Nat, iv = .int .i64 i ∧ i ≤ q ∧ MatX wr W.heap.size B us (DN D W.heap.size B us) ((ovr L g).take i ++ L.drop i) ∧ Below W.heap.size W wr ∧ w3.heap.size ≤ wr.heap.size) (fun iv _ => q - (intOf iv).toNat)
 case atStart => exact ⟨0, rfl, by omega, by simpa using hmw, hb3, Nat.le_refl _⟩
 case round =>
  obtain ⟨i, rfl, hi, hm, hbr, hsz⟩ := hrel
  clear hmw
  rcases Nat.lt_or_ge i q with hiq | hiq
  ·obtain ⟨wo, rfl⟩ : ∃ wo, wo = wr := ⟨_, rfl⟩
   have hat := mapM_at (L := L) (f := fun l => l.map (· / g)) (i := i) (by rw [HL.out]; exact hiq)
   obtain ⟨u, hu, hc, hrow⟩ := hm.at hat
   obtain ⟨Au, cu, rfl, hcu, hcm⟩ := hrow.slice
   have hlen := HNL.out _ (rw_mem (L := L) (i := i) (by rw [HL.out]; exact hiq))
   have HWR := Lib.hid (HWF.out _ (rw_mem (L := L) (i := i) (by rw [HL.out]; exact hiq)))
   have HST := Lib.hid (mapM_step (L := L) (f := fun l => l.map (· / g)) (i := i) (by rw [HL.out]; exact hiq))
   have hap := hm.apart _ (List.mem_of_getElem? hu)
   have HAP := Lib.hid hap
   have hol := fun b (hb : (Value.slice Au (rw_ L i).length cu).ownBlock = some b) => HLO.out b (.inr ⟨_, List.mem_of_getElem? hu, hb⟩)
   have HOL := Lib.hid hol
   have HRW := Lib.hid (fun w' l (hf : Frm (fun b => (Value.slice Au (rw_ L i).length cu).ownBlock = some b) wo w') (hr : OwnR w' W.heap.size (DN D W.heap.size B us) (.slice Au (rw_ L i).length cu) l) => hm.row hu hf hr (lt_of_get hat))
   clear hap hol hat hm hu
   generalize hln : (rw_ L i).length = ln at *
   have HLM := Lib.hid hln
   clear hln
   have a1 : (0 : Int) ≤ (i : Int) := by omega
   have a2 : (i : Int) < (q : Int) := by omega
   go_wp2_with fail
   go_loopw [20] (fun jv wr => ∃ j : Nat, jv = .int .i64 j ∧ j ≤ ln ∧ OwnR wr W.heap.size (DN D W.heap.size B us) (.slice Au ln cu) (((rw_ L i).map (· / g)).take j ++ (rw_ L i).drop j) ∧ Frm (fun b => (Value.slice Au ln cu).ownBlock = some b) wo wr) (fun jv _ => ln - (intOf jv).toNat)
   case atStart => exact ⟨0, rfl, by omega, by simpa using hrow, Frm.refl _ _⟩
   case round =>
    obtain ⟨j, rfl, hj, hr, hfi⟩ := hrel
    have hlen2 : (((rw_ L i).map (· / g)).take j ++ (rw_ L i).drop j).length = ln := by rw [List.length_append, List.length_take, List.length_drop, List.length_map, HLM.out]; omega
    rcases Nat.lt_or_ge j ln with hjn | hjn
    ·obtain ⟨gg, cap', e3, hbg, hgl, _, _, hfz, hcl⟩ := hr.at (by rw [hlen2]; omega)
     injection e3 with e3 e5 e4
     subst e3 e4
     clear e5
     obtain ⟨neg3, B3, q3, t3, o0, o1, o2⟩ := hcl j (by rw [hlen2]; omega)
     rw [mapQ_at (by rw [HLM.out]; exact hjn)] at o2
     have z0 := hfz (j * 2)
     have z1 := hfz (j * 2 + 1)
     have hfr3 : Below W.heap.size wo wr := hfi.below hbr.size fun b hb => HOL.out b hb
     have hbw := hbr.trans hfr3
     have bb0 := keepW hbw hP3 b0
     have bb1 := keepW hbw hP3 b1
     have hkv := HKV.out.below hbw
     have hwx := HWR.out _ (gz_mem (l := rw_ L i) (j := j) (by rw [HLM.out]; exact hjn))
     obtain ⟨W2, hW2⟩ : ∃ W2, W2 = wr.alloc (.cells #[.bool neg3, .slice B3 q3 t3] 40) := ⟨_, rfl⟩
     have HB2 : Below wr.heap.size wr W2 := by rw [hW2]; exact (Below.refl _ _).alloc (Nat.le_refl _) _
     have x0 : W2.cell? ⟨wr.heap.size, 0, none⟩ = some (.bool neg3) := by rw [hW2]; go_simp
     have x1 : W2.cell? ⟨wr.heap.size, 1, none⟩ = some (.slice B3 q3 t3) := by rw [hW2]; go_simp
     have HW2 := Lib.hid hW2
     clear hW2
     replace bb0 := keepB HB2 bb0
     replace bb1 := keepB HB2 bb1
     have o0' := keepB HB2 o0
     have o1' := keepB HB2 o1
     have w0 := ((bcell HB2).2 _ _ hgl).trans z0
     have w1 := ((bcell HB2).2 _ _ hgl).trans z1
     have HQ := Lib.hid (wQuo_any (o2.below HB2).int (hkv.below HB2).int hwx HG.out HG0.out)
     have HST2 := Lib.hid (mapQ_step (l := rw_ L i) (f := (· / g)) (j := j) (by rw [HLM.out]; exact hjn))
     have HOW := Lib.hid (hr.below HB2)
     have HFI := Lib.hid (hfi.over HB2)
     have HLE := Lib.hid hlen2
     have hg2 : gg < W2.heap.size := Nat.lt_of_lt_of_le hgl HB2.size
     clear hcl hfz o2 hr hfi hfr3 hbw hkv hwx hlen2
     rw [HW2.out] at x0 x1 bb0 bb1
     have a3 : (0 : Int) ≤ (j : Int) := by omega
     have a4 : (j : Int) < (ln : Int) := by omega
     go_wp2_with (go_at_call 133; rw [← HW2.out]; go_must (refine HQ.out.mono ?_); rintro e w4 ⟨v4, rfl, hv4, hb4⟩; obtain ⟨n9, A9, m9, c9, rfl, hw9⟩ := hv4.shp; clear hv4; have t0 := keepB hb4 o0'; have t1 := keepB hb4 o1'; have u0 := ((bcell hb4).2 _ _ hg2).trans w0; have u1 := ((bcell hb4).2 _ _ hg2).trans w1)
     go_round
     case rel =>
      have hset := (HOW.out.below hb4).set (HAP.out gg rfl).2 (i := j) (by rw [HLE.out]; exact hjn) (hw9.dd fun b (h1 : W2.heap.size ≤ b) => .inr ⟨by have := HFI.out.size; have := hbr.size; omega, fun ho => by have := HLO2.out b ho; have := HFI.out.size; omega⟩)
      rw [HST2.out] at hset
      exact ⟨j + 1, by go_num, by omega, hset, (HFI.out.over hb4).trans ((Frm.setCell (O := fun b => (Value.slice (some ⟨gg, 0, none⟩) ln cu).ownBlock = some b) (p := ⟨gg, j * 2, none⟩) (fun _ => rfl) _).trans (Frm.setCell (O := fun b => (Value.slice (some ⟨gg, 0, none⟩) ln cu).ownBlock = some b) (p := ⟨gg, j * 2 + 1, none⟩) (fun _ => rfl) _))⟩
     case measure => simp [intOf]; omega
    ·obtain rfl : j = ln := by omega
     have e1 : ((rw_ L i).map (· / g)).take j ++ (rw_ L i).drop j = (rw_ L i).map (· / g) := by rw [List.drop_of_length_le (by rw [HLM.out]; exact Nat.le_refl _), List.append_nil, List.take_of_length_le (by rw [List.length_map, HLM.out]; exact Nat.le_refl _)]
     rw [e1] at hr
     have hm9 := HRW.out _ _ hfi hr
     rw [show ((ovr L g).take i ++ L.drop i).set i ((rw_ L i).map (· / g)) = (ovr L g).take (i + 1) ++ L.drop (i + 1) from HST.out] at hm9
     clear e1 hlen2
     go_wp2_with fail
     go_round
     case rel => exact ⟨i + 1, by go_num, by omega, hm9, hbr.trans (hfi.below hbr.size fun b hb => HOL.out b hb), Nat.le_trans hsz hfi.size⟩
     case measure => simp [intOf]; omega
  ·obtain rfl : i = q := by omega
   have hol : (ovr L g).length = i := by unfold ovr; rw [List.length_map, HL.out]
   rw [List.drop_of_length_le (by rw [HL.out]; exact Nat.le_refl _), List.append_nil, List.take_of_length_le (by rw [hol]; exact Nat.le_refl _)] at hm
   have HOLN := Lib.hid hol
   clear hol
   go_wp2_with fail
   go_ret
   exact ⟨_, rfl, hm.rd HOLN.out (Nat.le_refl _) (by unfold maxLen; omega) fun b hb => (HDR.out b us (fun _ => Iff.rfl) hb).imp id fun h => by have := hbW.size; omega, hbW.trans (hbr.mono (Nat.le_of_lt hsW))⟩
end Go.Proofs.YtdjpeimecfhdjaaGreat

namespace Go.Proofs.YtdjpeimecfhdjaaGreat
open Go.RowKit
def in64 (x : Int) : Bool := decide (-9223372036854775808 ≤ x ∧ x < 9223372036854775808)
def sm64 (x : Int) : Int := if in64 x then x else 0
theorem dig_two {m : Nat} (h : m < 18446744073709551616) : gw (dig 4294967296 m) 1 = m / 4294967296 ∧ gw (dig 4294967296 m) 0 = m % 4294967296 := by
 have h1 := val_dig_w m
 have hl : (dig 4294967296 m).length ≤ 2 := wl_word h
 have hs := dig_lt (b := 4294967296) (by omega) m
 generalize dig 4294967296 m = l at *
 match l, hl with
 | [], _ => simp only [val] at h1; subst h1; simp [gw]
 | [a], _ =>
  simp only [val] at h1
  have := hs a (by simp)
  simp only [gw_cons_zero, gw_cons_succ, gw_nil]
  omega
 | [a, b], _ =>
  simp only [val] at h1
  have := hs a (by simp)
  have := hs b (by simp)
  simp only [gw_cons_zero, gw_cons_succ]
  omega
theorem wl_big {m : Nat} (h : 18446744073709551616 ≤ m) : 2 < wl m := by
 have h1 := val_dig_w m
 have hs := dig_lt (b := 4294967296) (by omega) m
 unfold wl
 generalize dig 4294967296 m = l at *
 match l with
 | [] => simp only [val] at h1; omega
 | [a] =>
  simp only [val] at h1
  have := hs a (by simp)
  omega
 | [a, b] =>
  simp only [val] at h1
  have := hs a (by simp)
  have := hs b (by simp)
  omega
 | _ :: _ :: _ :: r => simp
set_option maxRecDepth 100000 in
set_option maxHeartbeats 2000000 in
theorem Small_any {D : Nat → Prop} {v : Value} {x : Int} {w : World} (h : NIntV w D v x) :
  Calls Tryz.prog 132 #[v] w fun e w' => e = .returned (.tuple #[.int .i64 (sm64 x), .bool (in64 x)]) ∧ Below w.heap.size w w' := by
 obtain ⟨A, c, rfl, h⟩ := h
 generalize hd : decide (x < 0) = neg at *
 obtain ⟨W, hW⟩ : ∃ W, W = w.alloc (.cells #[.bool neg, .slice A (wl x.natAbs) c] 40) := ⟨_, rfl⟩
 have hbW : Below w.heap.size w W := by rw [hW]; exact (Below.refl _ _).alloc (Nat.le_refl _) _
 have b0 : W.cell? ⟨w.heap.size, 0, none⟩ = some (.bool neg) := by rw [hW]; go_simp
 have b1 : W.cell? ⟨w.heap.size, 1, none⟩ = some (.slice A (wl x.natAbs) c) := by rw [hW]; go_simp
 have hsW : w.heap.size < W.heap.size := cell_lt b0
 have HWW := Lib.hid hW
 clear hW
 have hwd := h.below hbW
 have HSZ := size_any (neg := neg) hwd
 have ht : trim (dig 4294967296 x.natAbs) = dig 4294967296 x.natAbs := trim_dig (by omega) _
 rw [ht] at HSZ
 have hl : (dig 4294967296 x.natAbs).length = wl x.natAbs := rfl
 rw [hl] at HSZ
 have HS := Lib.hid HSZ
 clear ht hl HSZ h
 rcases Nat.lt_or_ge x.natAbs 18446744073709551616 with hm | hm
 ·have hlen : wl x.natAbs ≤ 2 := wl_word hm
  obtain ⟨g1, g0⟩ := dig_two hm
  have hwt := hwd.trim
  rw [trim_dig (by omega)] at hwt
  have hat1 := fun w' (hb : Below W.heap.size W w') => at_any (hwt.below hb) 1 (by omega)
  have hat0 := fun w' (hb : Below W.heap.size W w') => at_any (hwt.below hb) 0 (by omega)
  have k1 : (1 : Int).toNat = 1 := rfl
  have k0 : (0 : Int).toNat = 0 := rfl
  rw [k1, g1] at hat1
  rw [k0, g0] at hat0
  have hl : (dig 4294967296 x.natAbs).length = wl x.natAbs := rfl
  rw [hl] at hat1 hat0
  obtain ⟨t1, ht1⟩ : ∃ t1, t1 = x.natAbs / 4294967296 := ⟨_, rfl⟩
  obtain ⟨t0, ht0⟩ : ∃ t0, t0 = x.natAbs % 4294967296 := ⟨_, rfl⟩
  rw [← ht1] at hat1
  rw [← ht0] at hat0
  have HA1 := Lib.hid hat1
  have HA0 := Lib.hid hat0
  have c1 : t1 < 4294967296 := by omega
  have c0 : t0 < 4294967296 := by omega
  have hmt : x.natAbs = t1 * 4294967296 + t0 := by omega
  have s1 : IntKind.u64.wrap ((t1 : Int) * 4294967296) = (t1 : Int) * 4294967296 := IntWalk.u64_in _ (by omega)
  have s2 : bits BinOp.or IntKind.u64 ((t1 : Int) * 4294967296) (t0 : Int) = (x.natAbs : Int) := by rw [hmt]; exact or_words c1 c0
  clear hat1 hat0 hwt hwd g1 g0 k1 k0 ht1 ht0 hmt hl
  have HD := Lib.hid hd
  generalize hn : wl x.natAbs = n at *
  have HN := Lib.hid hn
  have a1 : ¬ (2 : Int) < (n : Int) := by omega
  clear hn
  generalize hmm : x.natAbs = m at *
  have HM := Lib.hid hmm
  clear hmm hd
  by_cases hx : x < 0
  ·have hneg : neg = true := by rw [← HD.out]; exact decide_eq_true hx
   subst hneg
   by_cases hb : m ≤ 9223372036854775808
   ·have hi : in64 x = true := decide_eq_true (by have := HM.out; omega)
    have hs : sm64 x = -(m : Int) := by unfold sm64; rw [hi, if_pos rfl]; have := HM.out; omega
    rw [hs, hi]
    have a2 : (m : Int) ≤ 9223372036854775808 := by omega
    have m0 : 0 < m := by have := HM.out; omega
    have s3 : IntKind.u64.wrap (-(m : Int)) = 18446744073709551616 - (m : Int) := by rw [IntKind.wrap_u64]; omega
    have s4 : IntKind.i64.wrap (18446744073709551616 - (m : Int)) = -(m : Int) := by rw [IntKind.wrap_i64]; omega
    clear hs hi hx HD HM
    go_enter Tryz.func132, Tryz.ntmps132
    go_wp2_with (first | (go_at_call 165; rw [← HWW.out]; go_must (refine HS.out.mono ?_); rintro e w1 ⟨rfl, hb1⟩; have q0 := keepB hb1 b0) | (go_at_call 194; (first | with_reducible refine (HA1.out _ hb1).mono ?_ | with_reducible refine (HA0.out _ hb1).mono ?_); rintro e w2 ⟨rfl, rfl⟩))
    go_ret2
    exact ⟨rfl, hbW.trans (hb1.mono (Nat.le_of_lt hsW))⟩
   ·have hi : in64 x = false := decide_eq_false (by have := HM.out; omega)
    have hs : sm64 x = 0 := by unfold sm64; rw [hi]; rfl
    rw [hs, hi]
    have a2 : decide ((m : Int) ≤ 9223372036854775808) = false := decide_eq_false (by omega)
    clear hs hi hx HD HM hb
    go_enter Tryz.func132, Tryz.ntmps132
    go_wp2_with (first | (go_at_call 165; rw [← HWW.out]; go_must (refine HS.out.mono ?_); rintro e w1 ⟨rfl, hb1⟩; have q0 := keepB hb1 b0) | (go_at_call 194; (first | with_reducible refine (HA1.out _ hb1).mono ?_ | with_reducible refine (HA0.out _ hb1).mono ?_); rintro e w2 ⟨rfl, rfl⟩))
    go_ret2
    exact ⟨rfl, hbW.trans (hb1.mono (Nat.le_of_lt hsW))⟩
  ·have hneg : neg = false := by rw [← HD.out]; exact decide_eq_false hx
   subst hneg
   by_cases hb : m < 9223372036854775808
   ·have hi : in64 x = true := decide_eq_true (by have := HM.out; omega)
    have hs : sm64 x = (m : Int) := by unfold sm64; rw [hi, if_pos rfl]; have := HM.out; omega
    rw [hs, hi]
    have a2 : decide ((m : Int) < 9223372036854775808) = true := decide_eq_true (by omega)
    have s4 : IntKind.i64.wrap (m : Int) = (m : Int) := IntWalk.i64_in _ (by omega)
    clear hs hi hx HD HM hb hm
    generalize (m : Int) = M at *
    go_enter Tryz.func132, Tryz.ntmps132
    go_wp2_with (first | (go_at_call 165; rw [← HWW.out]; go_must (refine HS.out.mono ?_); rintro e w1 ⟨rfl, hb1⟩; have q0 := keepB hb1 b0) | (go_at_call 194; (first | with_reducible refine (HA1.out _ hb1).mono ?_ | with_reducible refine (HA0.out _ hb1).mono ?_); rintro e w2 ⟨rfl, rfl⟩))
    go_ret2
    exact ⟨rfl, hbW.trans (hb1.mono (Nat.le_of_lt hsW))⟩
   ·have hi : in64 x = false := decide_eq_false (by have := HM.out; omega)
    have hs : sm64 x = 0 := by unfold sm64; rw [hi]; rfl
    rw [hs, hi]
    have a2 : decide ((m : Int) < 9223372036854775808) = false := decide_eq_false (by omega)
    clear hs hi hx HD HM hb hm
    generalize (m : Int) = M at *
    go_enter Tryz.func132, Tryz.ntmps132
    go_wp2_with (first | (go_at_call 165; rw [← HWW.out]; go_must (refine HS.out.mono ?_); rintro e w1 ⟨rfl, hb1⟩; have q0 := keepB hb1 b0) | (go_at_call 194; (first | with_reducible refine (HA1.out _ hb1).mono ?_ | with_reducible refine (HA0.out _ hb1).mono ?_); rintro e w2 ⟨rfl, rfl⟩))
    go_ret2
    exact ⟨rfl, hbW.trans (hb1.mono (Nat.le_of_lt hsW))⟩
 ·have hlen := wl_big hm
  have hi : in64 x = false := decide_eq_false (by omega)
  have hs : sm64 x = 0 := by unfold sm64; rw [hi]; rfl
  rw [hs, hi]
  have HD := Lib.hid hd
  clear hd hm hs hi
  generalize wl x.natAbs = n at *
  have a1 : (2 : Int) < (n : Int) := by omega
  go_enter Tryz.func132, Tryz.ntmps132
  go_wp2_with (go_at_call 165; rw [← HWW.out]; go_must (refine HS.out.mono ?_); rintro e w1 ⟨rfl, hb1⟩)
  go_ret2
  exact ⟨rfl, hbW.trans (hb1.mono (Nat.le_of_lt hsW))⟩
end Go.Proofs.YtdjpeimecfhdjaaGreat

namespace Go.Proofs.YtdjpeimecfhdjaaGreat
open Go.RowKit
def smR (lim : Int) (l : List Int) : Bool := l.all fun x => decide (-lim ≤ x ∧ x ≤ lim)
def smM (lim : Int) (L : List (List Int)) : Bool := L.all (smR lim)
def IArrN (w : World) (g : Nat) (l : List Int) : Prop := Arr w g 3 (l.map (Value.int .i64))
theorem IArrN.made {w : World} {g n : Nat} (h : Arr w g 3 (madeCells (Value.int .i64 0).cells (n * 1)).toList) : IArrN w g (List.replicate n 0) := by
 rw [show (Value.int .i64 0).cells = #[.int .i64 0] from rfl, toList_madeCells_one, Nat.mul_one] at h
 unfold IArrN
 rw [List.map_replicate]
 exact h
theorem IArrN.isd {w : World} {g n : Nat} {l : List Int} {D : Nat → Prop} (h : IArrN w g l) (hn : l.length = n) (hm : n ≤ maxLen) (hd : D g) : IsD w D (.slice (some ⟨g, 0, none⟩) n n) l := by
 subst hn
 exact ⟨_, _, rfl, Nat.le_refl _, hm, fun _ => ⟨g, 0, rfl, hd, fun j hj => by rw [Nat.zero_add, Arr.cell h, List.getElem?_map, gz_lt hj]; rfl⟩⟩
theorem info_int1 : (Tryz.prog.info? 3).map (fun i => (i.zero, i.size, i.bytes)) = some (some (.int .i64 0), 1, 8) := by kernel_rfl
theorem info_ints1 : (Tryz.prog.info? 48).map (fun i => (i.zero, i.size, i.bytes)) = some (some (.slice none 0 0), 1, 24) := by kernel_rfl
set_option maxRecDepth 100000 in
set_option maxHeartbeats 4000000 in
theorem wSmall_any {w : World} {A : Option Addr} {q c : Nat} {L : List (List Int)} {lim : Int} (h : RM w (.slice A q c) L) (hq : q ≤ 1000000) (hn : ∀ l ∈ L, l.length ≤ 1000000) (h0 : 0 ≤ lim) (h1 : lim ≤ 1000000000000000000) :
  Calls Tryz.prog 142 #[.slice A q c, .int .i64 lim] w fun e w' => ∃ v, e = .returned (.tuple #[v, .bool (smM lim L)]) ∧ (smM lim L = true → RowsD IsD w' (w.heap.size ≤ ·) v L) ∧ (smM lim L = false → v = .slice none 0 0) ∧ Below w.heap.size w w' := by
 have hr := RowsD.room h
 have HL := Lib.hid hr.1.symm
 have HNL := Lib.hid hn
 have HLIM := Lib.hid h1
 clear hr hn
 have hwn : IntKind.i64.wrap (-lim) = -lim := IntWalk.i64_in _ (by omega)
 clear h1
 go_enter Tryz.func142, Tryz.ntmps142
 go_wp2_with fail
 go_loopw [6, 16] (fun ov iv wr => ∃ (i c2 : Nat) (A2 : Option Addr), iv = .int .i64 i ∧ i ≤ q ∧ ov = .slice A2 i c2 ∧ OwnL IsD 48 wr w.heap.size (.slice A2 i c2) (L.take i) ∧ Hid (smM lim (L.take i) = true) ∧ Below w.heap.size w wr) (fun _ iv _ => q - (intOf iv).toNat)
 case atStart => exact ⟨0, 0, none, rfl, by omega, rfl, by simpa using OwnL.nil _ _, Lib.hid rfl, Below.refl _ _⟩
 case round =>
  obtain ⟨i, c2, A2, rfl, hi, rfl, hown, HSM, hbr⟩ := hrel
  rcases Nat.lt_or_ge i q with hiq | hiq
  ·obtain ⟨wo, rfl⟩ : ∃ wo, wo = wr := ⟨_, rfl⟩
   obtain ⟨b, off, Au, cu, rfl, hc, hpv⟩ := h.at hiq
   replace hc := keepB hbr hc
   have hlen := HNL.out _ (rw_mem (L := L) (i := i) (by rw [HL.out]; exact hiq))
   have HST := Lib.hid (take_succ_rw (L := L) (k := i) (by rw [HL.out]; exact hiq))
   have HMEM := Lib.hid (rw_mem (L := L) (i := i) (by rw [HL.out]; exact hiq))
   have HPV := Lib.hid hpv
   have HOW := Lib.hid hown
   have HTL := Lib.hid (show (L.take i).length = i by rw [List.length_take, HL.out]; omega)
   clear hpv hown
   generalize hln : (rw_ L i).length = ln at *
   have HLM := Lib.hid hln
   clear hln
   have a1 : (0 : Int) ≤ (i : Int) := by omega
   have a2 : (i : Int) < (q : Int) := by omega
   go_wp2_with (at_make; go_must (refine wpList_make_arr _ rfl _ _ _ rfl 3 (.int .i64 0) 1 8 Tryz.underlying48 info_int1 _ _ _ _ ln rfl rfl (by omega) (by omega) (by omega) (by omega) ?_); intro w1 ha hb hz)
   obtain ⟨G, hG⟩ : ∃ G, G = wo.heap.size := ⟨_, rfl⟩
   rw [← hG] at ha ⊢
   have hib := IArrN.made ha
   have HG := Lib.hid hG
   have HB := Lib.hid hb
   clear ha hb hG hz
   go_loopw [25] (fun jv wr => ∃ j : Nat, jv = .int .i64 j ∧ j ≤ ln ∧ IArrN wr G ((rw_ L i).take j ++ List.replicate (ln - j) 0) ∧ Hid (smR lim ((rw_ L i).take j) = true) ∧ Below wo.heap.size wo wr) (fun jv _ => ln - (intOf jv).toNat)
   case atStart => exact ⟨0, rfl, by omega, by simpa using hib, Lib.hid rfl, HB.out⟩
   case round =>
    obtain ⟨j, rfl, hj, hia, HSR, hbi⟩ := hrel
    rcases Nat.lt_or_ge j ln with hjn | hjn
    ·have hbw : Below w.heap.size w wr := hbr.trans (hbi.mono hbr.size)
     obtain ⟨b1, off1, neg, B, m, k, rfl, _, e0, e1, e2⟩ := PvD.at (Foot.below HPV.out hbw) hjn
     obtain ⟨W2, hW2⟩ : ∃ W2, W2 = wr.alloc (.cells #[.bool neg, .slice B m k] 40) := ⟨_, rfl⟩
     have HB2 : Below wr.heap.size wr W2 := by rw [hW2]; exact (Below.refl _ _).alloc (Nat.le_refl _) _
     have x0 : W2.cell? ⟨wr.heap.size, 0, none⟩ = some (.bool neg) := by rw [hW2]; go_simp
     have x1 : W2.cell? ⟨wr.heap.size, 1, none⟩ = some (.slice B m k) := by rw [hW2]; go_simp
     have HW2 := Lib.hid hW2
     clear hW2
     have HSC := Lib.hid (Small_any (e2.below HB2))
     have hlj : ((rw_ L i).take j ++ List.replicate (ln - j) (0 : Int)).length = ln := by rw [List.length_append, List.length_take, List.length_replicate, HLM.out]; omega
     have hia2 := hia
     obtain ⟨u, hu⟩ : ∃ u, wr.cell? ⟨G, j, none⟩ = some u := ⟨_, (Arr.cell hia j).trans (by rw [List.getElem?_map, gz_lt (by rw [hlj]; exact hjn)]; rfl)⟩
     have hz := Arr.frozen hia j
     have hGl : G < wr.heap.size := Arr.lt hia
     have HIA := Lib.hid (hia.below' HB2)
     have HBI := Lib.hid (hbi.trans (HB2.mono hbi.size))
     have HST2 := Lib.hid (set_snoc (z := (0 : Int)) hjn HLM.out (gz_lt (by rw [HLM.out]; exact hjn)))
     have HST3 := Lib.hid (take_succ_gz (l := rw_ L i) (k := j) (by rw [HLM.out]; exact hjn))
     have HGM := Lib.hid (gz_mem (l := rw_ L i) (j := j) (by rw [HLM.out]; exact hjn))
     have hu2 := keepB HB2 hu
     have hz2 := ((bcell HB2).2 _ _ hGl).trans hz
     have hG2 : G < W2.heap.size := Nat.lt_of_lt_of_le hGl HB2.size
     rw [HW2.out] at x0 x1
     clear hia hia2 hbi hbw hu hz e2
     have a3 : (0 : Int) ≤ (j : Int) := by omega
     have a4 : (j : Int) < (ln : Int) := by omega
     by_cases hok : -lim ≤ gz (rw_ L i) j ∧ gz (rw_ L i) j ≤ lim
     ·have hi6 : in64 (gz (rw_ L i) j) = true := decide_eq_true (by have := HLIM.out; omega)
      have hs6 : sm64 (gz (rw_ L i) j) = gz (rw_ L i) j := by unfold sm64; rw [hi6]; rfl
      rw [hi6, hs6] at HSC
      have HOK := Lib.hid hok
      have a5 : ¬ (lim < gz (rw_ L i) j) := by omega
      have a6 : ¬ (gz (rw_ L i) j < -lim) := by omega
      clear hok hi6 hs6
      generalize gz (rw_ L i) j = x at *
      go_wp2_with (go_at_call 132; rw [← HW2.out]; go_must (refine HSC.out.mono ?_); rintro e w3 ⟨rfl, hb3⟩; have t0 := keepB hb3 hu2; have u0 := ((bcell hb3).2 _ _ hG2).trans hz2)
      go_round
      case rel =>
       refine ⟨j + 1, by go_num, by omega, ?_, ?_, (HBI.out.trans (hb3.mono HBI.out.size)).setCell (p := ⟨G, j, none⟩) (by show wo.heap.size ≤ G; rw [HG.out]; exact Nat.le_refl _) _⟩
       ·have := (HIA.out.below' hb3).set_ j (.int .i64 x)
        rw [← List.map_set, HST2.out] at this
        exact this
       ·refine Lib.hid ?_
        rw [HST3.out]
        unfold smR
        rw [List.all_append, show ((rw_ L i).take j).all _ = true from HSR.out]
        simpa using HOK.out
      case measure => simp [intOf]; omega
     ·have hsm : smM lim L = false := by
       rw [← Bool.not_eq_true]
       intro hall
       have h1 := List.all_eq_true.mp hall _ HMEM.out
       have h2 := List.all_eq_true.mp h1 _ HGM.out
       exact hok (of_decide_eq_true h2)
      have HFA := Lib.hid hsm
      have HOK := Lib.hid hok
      clear hsm hok
      by_cases hin : in64 (gz (rw_ L i) j) = true
      ·have hs6 : sm64 (gz (rw_ L i) j) = gz (rw_ L i) j := by unfold sm64; rw [hin]; rfl
       rw [hin, hs6] at HSC
       clear hin hs6
       by_cases hgt : lim < gz (rw_ L i) j
       ·generalize gz (rw_ L i) j = x at *
        go_wp2_with (go_at_call 132; rw [← HW2.out]; go_must (refine HSC.out.mono ?_); rintro e w3 ⟨rfl, hb3⟩)
        go_ret2
        exact ⟨_, by rw [HFA.out]; rfl, fun h => (by have h2 := HFA.out.symm.trans h; cases h2), fun _ => rfl, hbr.trans ((HBI.out.trans (hb3.mono HBI.out.size)).mono hbr.size)⟩
       ·have hlt : gz (rw_ L i) j < -lim := by have := HOK.out; omega
        generalize gz (rw_ L i) j = x at *
        go_wp2_with (go_at_call 132; rw [← HW2.out]; go_must (refine HSC.out.mono ?_); rintro e w3 ⟨rfl, hb3⟩)
        go_ret2
        exact ⟨_, by rw [HFA.out]; rfl, fun h => (by have h2 := HFA.out.symm.trans h; cases h2), fun _ => rfl, hbr.trans ((HBI.out.trans (hb3.mono HBI.out.size)).mono hbr.size)⟩
      ·have hin2 : in64 (gz (rw_ L i) j) = false := by simpa using hin
       rw [hin2] at HSC
       clear hin hin2
       generalize sm64 (gz (rw_ L i) j) = x at *
       go_wp2_with (go_at_call 132; rw [← HW2.out]; go_must (refine HSC.out.mono ?_); rintro e w3 ⟨rfl, hb3⟩)
       go_ret2
       exact ⟨_, by rw [HFA.out]; rfl, fun h => (by have h2 := HFA.out.symm.trans h; cases h2), fun _ => rfl, hbr.trans ((HBI.out.trans (hb3.mono HBI.out.size)).mono hbr.size)⟩
    ·obtain rfl : j = ln := by omega
     have e1 : (rw_ L i).take j = rw_ L i := List.take_of_length_le (by rw [HLM.out]; exact Nat.le_refl _)
     have hsr := HSR.out
     rw [e1] at hia hsr
     rw [Nat.sub_self, List.replicate_zero, List.append_nil] at hia
     have hGw : wo.heap.size ≤ G := by rw [HG.out]; exact Nat.le_refl _
     have HU := Lib.hid (hia.isd HLM.out (by unfold maxLen; omega) (D := fun b => w.heap.size ≤ b ∧ some b ≠ (Value.slice A2 i c2).ownBlock) ⟨Nat.le_trans hbr.size hGw, HOW.out.fresh hGw⟩)
     have hbs := Nat.le_trans hbr.size hbi.size
     have HSM2 : Hid (smM lim (L.take (i + 1)) = true) := Lib.hid (by
      rw [HST.out]
      unfold smM
      rw [List.all_append, show (L.take i).all (smR lim) = true from HSM.out]
      simpa using hsr)
     clear e1 hia hsr
     go_wp2_with (at_builtin; go_must (refine wpList_pushL wr (by rfl) _ _ _ _ (.slice none 0 0) 24 (by rfl) Tryz.underlying24 Tryz.underlying24 info_ints1 (by rfl) (by omega) w.heap.size (.slice A2 i c2) (L.take i) i HTL.out (by rfl) (HOW.out.below hbi) (.slice (some ⟨G, 0, none⟩) j j) (rw_ L i) HU.out (by rfl) (by omega) hbs ?_); intro A7 c7 w7 hown7 hgr7 hb7)
     go_roundw
     case rel => exact ⟨i + 1, c7, A7, by go_num, by omega, rfl, by rw [HST.out]; exact hown7, HSM2, hbr.trans ((hbi.mono hbr.size).trans hb7)⟩
     case measure => simp only [intOf]; omega
  ·obtain rfl : i = q := by omega
   have e1 : L.take i = L := List.take_of_length_le (by rw [HL.out]; exact Nat.le_refl _)
   have hsm := HSM.out
   rw [e1] at hown hsm
   clear e1
   have HTR := Lib.hid hsm
   clear hsm
   go_wp2_with fail
   go_ret2
   exact ⟨_, by rw [HTR.out]; rfl, fun _ => hown.rows, fun h => (by have h2 := HTR.out.symm.trans h; cases h2), hbr⟩
end Go.Proofs.YtdjpeimecfhdjaaGreat
