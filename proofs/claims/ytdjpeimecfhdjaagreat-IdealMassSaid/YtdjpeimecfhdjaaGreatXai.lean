/- Package ideal: elements of a norm. Elements of norm 1 of the Hurwitz order, plainly. -/
import Derived.Test.YtdjpeimecfhdjaaGreatXag
import Derived.Test.YtdjpeimecfhdjaaGreatXah
import Derived.Test.YtdjpeimecfhdjaaGreatXad
namespace Go.Proofs.YtdjpeimecfhdjaaGreat
open Go.RowKit Go.Shelf Go.Sort
attribute [local go_sem] Oper.semAt_some
structure ElsOK (aA aB : Int) (R : List (List Int)) (d num den val : Int) : Prop where
 a1 : -1000 ≤ aA ∧ aA ≤ 1000
 a2 : -1000 ≤ aB ∧ aB ≤ 1000
 len : R.length = 4
 row : ∀ l ∈ R, l.length = 4
 fR : fitM R = true
 fT : fitM (tms R (formL aA aB)) = true
 fd : fit d = true
 wn : wl num.natAbs ≤ 4000
 wd : wl den.natAbs ≤ 4000
 den0 : den ≠ 0
 hv : 2 * (num * (d * d)) / den = val
 rem : 2 * (num * (d * d)) % den = 0
 sh : ShOK 4 (gramL aA aB R) val
 fv : fit val = true
theorem listIn_op {P : Program} {ops : Array Oper} {Q : Exit → Act → World → Prop} {l n : Nat} {o : Oper} {rest : List Oper} {a : Act} {w : World} (hgd : o.guard = none) (hd : ∀ c, o.op ≠ .defer c) (h : o.wp P a w (wpListIn (Fence.wide.inRound l) n P ops Q rest) Q) : wpListIn (Fence.wide.inRound l) n P ops Q (o :: rest) a w := by
 unfold wpListIn
 have hw : Region.wanted o (yielded ops a.tmps) = true := by simp [Region.wanted, hgd]
 rw [if_pos hw]
 exact op_round hd h
theorem newsQ (w : World) (p : Qt) (j : Nat) (u : Value) (hu : p.enc[j]? = some u) : (w.alloc (.cells p.enc.toArray 148)).cell? ((⟨w.heap.size, 0, none⟩ : Addr).add j) = some u := by
 have h := Arr.cell (Arr.new w 148 p.enc) j
 rw [hu] at h
 by_cases h0 : j = 0
 ·subst h0
  simpa [Addr.add] using h
 ·simpa [Addr.add, h0] using h
theorem holdsQ_keep {w w' : World} {g : Nat} {d : Array Qt} (h : HoldsK Qt.enc 5 w g 0 d) (hb : w'.heap[g]? = w.heap[g]?) : HoldsK Qt.enc 5 w' g 0 d := fun j hj => by
 have h1 := h j hj
 refine ⟨(World.cell?_of_block (w := w) hb).trans h1.1, ?_⟩
 rw [← h1.2]
 unfold World.frozen?
 rw [hb]
def ElI (P12 : Nat) (W6 : World) (s : List Qt) (W : World) : Prop := ∃ A c, W.cell? ⟨P12, 0, none⟩ = some (.slice A s.length c) ∧ Arr W P12 88 [.slice A s.length c] ∧ OwnF W (W6.heap.size + 2) (.slice A s.length c) s ∧ FrZ (W6.heap.size + 2) (· = P12) W6 W ∧ s.length ≤ 20000
theorem ElI.stable {P12 : Nat} {W6 A B : World} {s : List Qt} (h : ElI P12 W6 s A) (h12 : P12 < W6.heap.size) (hf : Frm (fun b => W6.heap.size ≤ b ∧ ¬ i64B A b) A B) : ElI P12 W6 s B := by
 obtain ⟨A', c, k1, k2, k4, k5, k6⟩ := h
 exact ⟨A', c, (Frm.cell hf (cell_lt k1) fun h => by have := h.1; omega).trans k1, hf.arr k2 (fun h => by have := h.1; omega), k4.keep fun g hg => hf.block g (k4.lt hg).2 fun h => h.2 (k4.is64 hg), k5.past hf fun b h => h.1, k6⟩
set_option maxRecDepth 100000 in
set_option maxHeartbeats 4000000 in
theorem elements_ok {w : World} {lo : Nat} {nv fv : Value} {aA aB d num den val : Int} {R : List (List Int)} {D : Nat → Prop} {s9 : List Qt} (hN : NetI w lo nv aA aB R d) (hF : FrV w D fv num den) (hE : ElsOK aA aB R d num den val)
  (hw : wkW (unitL 4) (shH 4 (gramL aA aB R)) val (elS R d val) 4 (List.replicate 4 0) [] = some s9) (h9 : s9 ≠ []) :
  Calls Tryz.prog 103 #[nv, fv, .int .i64 20000] w fun e w' => ∃ g c, e = .returned (.tuple #[.slice (some ⟨g, 0, none⟩) s9.length c, .int .i64 0]) ∧ (∃ dd : Array Qt, PermIn 0 s9.length s9.toArray dd ∧ SortedIn ltQ 0 s9.length dd ∧ HoldsK Qt.enc 5 w' g 0 dd) ∧ Below w.heap.size w w' := by
 obtain ⟨AR, cR, nd, Ad, md, kd, rfl, hR, hd⟩ := hN
 obtain ⟨nn, An, mn, kn, ne, Ae, me, ke, rfl, hn, he⟩ := hF
 obtain ⟨qR, hqR⟩ : ∃ q, q = R.length := ⟨_, rfl⟩
 rw [← hqR] at hR ⊢
 have hq4 : qR = 4 := by rw [hqR]; exact hE.len
 subst hq4
 clear hqR
 obtain ⟨W, hW⟩ : ∃ W, W = ((((w.alloc (.cells #[.int .i64 aA, .int .i64 aB, .slice AR 4 cR, .bool nd, .slice Ad md kd] 136)).alloc (.cells #[.bool nn, .slice An mn kn, .bool ne, .slice Ae me ke] 140)).alloc (.cells #[.int .i64 20000] 3)).alloc (.cells #[.slice none 0 0] 88)).alloc (.cells #[.int .i64 0] 49) := ⟨_, rfl⟩
 obtain ⟨S3, h3⟩ : ∃ P, P = w.heap.size := ⟨_, rfl⟩
 obtain ⟨S4, h4⟩ : ∃ P, P = w.heap.size + 1 := ⟨_, rfl⟩
 obtain ⟨S5, h5⟩ : ∃ P, P = w.heap.size + 1 + 1 := ⟨_, rfl⟩
 obtain ⟨S6, h6⟩ : ∃ P, P = w.heap.size + 1 + 1 + 1 := ⟨_, rfl⟩
 obtain ⟨S7, h7⟩ : ∃ P, P = w.heap.size + 1 + 1 + 1 + 1 := ⟨_, rfl⟩
 have hbW : Below w.heap.size w W := by rw [hW]; exact (((((Below.refl _ _).alloc (Nat.le_refl _) _).alloc (by simp) _).alloc (by simp; omega) _).alloc (by simp; omega) _).alloc (by simp; omega) _
 have hA3 : Arr W S3 136 [.int .i64 aA, .int .i64 aB, .slice AR 4 cR, .bool nd, .slice Ad md kd] := by rw [hW, h3]; exact ((((Arr.new w _ [.int .i64 aA, .int .i64 aB, .slice AR 4 cR, .bool nd, .slice Ad md kd]).alloc _).alloc _).alloc _).alloc _
 have hA4 : Arr W S4 140 [.bool nn, .slice An mn kn, .bool ne, .slice Ae me ke] := by rw [hW, h4]; exact (((by simpa using Arr.new (w.alloc (.cells #[.int .i64 aA, .int .i64 aB, .slice AR 4 cR, .bool nd, .slice Ad md kd] 136)) 140 [.bool nn, .slice An mn kn, .bool ne, .slice Ae me ke] : Arr ((w.alloc (.cells #[.int .i64 aA, .int .i64 aB, .slice AR 4 cR, .bool nd, .slice Ad md kd] 136)).alloc (.cells #[.bool nn, .slice An mn kn, .bool ne, .slice Ae me ke] 140)) (w.heap.size + 1) 140 [.bool nn, .slice An mn kn, .bool ne, .slice Ae me ke]).alloc _).alloc _).alloc _
 have a0 : W.cell? ⟨S3, 2, none⟩ = some (.slice AR 4 cR) := hA3.cell 2
 have b5 : W.cell? ⟨S5, 0, none⟩ = some (.int .i64 20000) := by rw [hW, h5]; go_simp
 have hA6 : Arr W S6 88 [.slice none 0 0] := by
  rw [hW, h6]
  generalize hw5 : (((w.alloc (.cells #[.int .i64 aA, .int .i64 aB, .slice AR 4 cR, .bool nd, .slice Ad md kd] 136)).alloc (.cells #[.bool nn, .slice An mn kn, .bool ne, .slice Ae me ke] 140)).alloc (.cells #[.int .i64 20000] 3)) = w5
  have e5 : w.heap.size + 1 + 1 + 1 = w5.heap.size := by rw [← hw5]; simp
  rw [e5]
  exact (Arr.new w5 _ [.slice none 0 0]).alloc _
 have hA7 : Arr W S7 49 [.int .i64 0] := by
  rw [hW, h7]
  generalize hw5 : ((((w.alloc (.cells #[.int .i64 aA, .int .i64 aB, .slice AR 4 cR, .bool nd, .slice Ad md kd] 136)).alloc (.cells #[.bool nn, .slice An mn kn, .bool ne, .slice Ae me ke] 140)).alloc (.cells #[.int .i64 20000] 3)).alloc (.cells #[.slice none 0 0] 88)) = w5
  have e5 : w.heap.size + 1 + 1 + 1 + 1 = w5.heap.size := by rw [← hw5]; simp
  rw [e5]
  exact Arr.new w5 _ [.int .i64 0]
 have hd6 : w.heap.size ≤ S6 := by omega
 have hd7 : w.heap.size ≤ S7 := by omega
 have hd67 : S6 ≠ S7 := by omega
 have hP3 := hA3.lt
 have hP4 := hA4.lt
 have hP5 : S5 < W.heap.size := cell_lt b5
 have hP6 := hA6.lt
 have hP7 := hA7.lt
 have HA6 := Lib.hid hA6
 have HA7 := Lib.hid hA7
 have HA3 := Lib.hid hA3
 have HA4 := Lib.hid hA4
 have HWW := Lib.hid hW
 have H3 := Lib.hid h3
 have H4 := Lib.hid h4
 have H5 := Lib.hid h5
 have H6 := Lib.hid h6
 have H7 := Lib.hid h7
 have HBW := Lib.hid hbW
 have HE := Lib.hid hE
 have HWK := Lib.hid hw
 have HR := Lib.hid (RowsD.below hR hbW)
 have HD : Hid (NIntV W (fun _ => True) (.agg #[.bool nd, .slice Ad md kd]) d) := Lib.hid ((hd.below hbW).mono fun _ _ _ => trivial)
 have HN : Hid (NIntV W (fun _ => True) (.agg #[.bool nn, .slice An mn kn]) num) := Lib.hid ((hn.below hbW).mono fun _ _ _ => trivial)
 have HDE : Hid (NIntV W (fun _ => True) (.agg #[.bool ne, .slice Ae me ke]) den) := Lib.hid ((he.below hbW).mono fun _ _ _ => trivial)
 have HH9 := Lib.hid h9
 have c33 := hA3.cell 3
 have c34 := hA3.cell 4
 have c40 := hA4.cell 0
 have c41 := hA4.cell 1
 clear hA3 hA4 hA6 hA7 hW h3 h4 h5 h6 h7 hbW hE hw hR hd hn he h9
 refine (callsIn_wide (n := 3)).1 (callsIn_of_wp_marks Tryz.func103 rfl trivial ?_ rfl)
 simp only [Tryz.ntmps103, List.size_toArray, List.length_cons, List.length_nil, Nat.reduceAdd, Nat.reduceSub, Array.replicate_succ, Array.replicate_zero, List.push_toArray, List.append_toArray, List.nil_append, List.cons_append]
 refine wpIn_wide.2 ?_
 go_upto_region 1 with (fail)
 rw [← HWW.out, ← H7.out, ← H6.out, ← H5.out, ← H4.out, ← H3.out]
 refine elreg1 (w := W) c33 c34 c40 c41 HD HN (fit_wl HE.out.fd) HE.out.wn ?_
 intro w1 P8 u18 u19 u20 u21 u22 u23 u24 u25 u26 u27 hB8 hP8 hb1
 rename_i K1 hK1
 refine hK1 _ _ ?_
 dsimp only
 obtain ⟨n8, A8, m8, k8, hP8A, h8N⟩ := hB8
 have hwb := wl_mulI d d
 have hwb2 := wl_mulI num (d * d)
 have hwb3 := wl_mulI 2 (num * (d * d))
 have hwb4 := wl_2
 have HX8 := Lib.hid (show wl (2 * (num * (d * d))).natAbs ≤ 900000000000 by have := fit_wl HE.out.fd; have := HE.out.wn; omega)
 have e40 := keepB hb1 c40
 have e42 := keepB hb1 (HA4.out.cell 2 : W.cell? ⟨S4, 2, none⟩ = some (.bool ne))
 have e43 := keepB hb1 (HA4.out.cell 3 : W.cell? ⟨S4, 3, none⟩ = some (.slice Ae me ke))
 obtain ⟨r0, r1, f0, f1⟩ := hP8A.c2
 have HDM := Lib.hid (DivMod_any h8N.int (HDE.out.below hb1).int HX8.out (by have := HE.out.wd; omega) HE.out.den0)
 rw [HE.out.hv, HE.out.rem] at HDM
 have HB1 := Lib.hid hb1
 have HP8A := Lib.hid hP8A
 clear h8N c33 c34 c40 c41 hwb hwb2 hwb3 hwb4 hP8 hb1 hP8A
 go_upto_region 3 with (go_at_call 150; go_must (refine HDM.out.mono ?_); rintro e w2 ⟨vq, vr, rfl, hvq, hvr, hb2⟩; obtain ⟨n2, A2, m2, k2, rfl, hq2⟩ := hvq.shp; obtain ⟨n2', A2', m2', k2', rfl, hr2⟩ := hvr.shp)
 obtain ⟨w3, hw3⟩ : ∃ V, V = (w2.alloc (.cells #[.bool n2, .slice A2 m2 k2] 40)).alloc (.cells #[.bool n2', .slice A2' m2' k2'] 40) := ⟨_, rfl⟩
 obtain ⟨P9, h9⟩ : ∃ P, P = w2.heap.size := ⟨_, rfl⟩
 obtain ⟨P10, h10⟩ : ∃ P, P = w2.heap.size + 1 := ⟨_, rfl⟩
 have hb3 : Below w2.heap.size w2 w3 := by rw [hw3]; exact ((Below.refl _ _).alloc (Nat.le_refl _) _).alloc (by simp) _
 have h9A : Arr w3 P9 40 [.bool n2, .slice A2 m2 k2] := by rw [hw3, h9]; exact (Arr.new w2 _ [.bool n2, .slice A2 m2 k2]).alloc _
 have h10A : Arr w3 P10 40 [.bool n2', .slice A2' m2' k2'] := by
  rw [hw3, h10]
  have := Arr.new (w2.alloc (.cells #[.bool n2, .slice A2 m2 k2] 40)) 40 [.bool n2', .slice A2' m2' k2']
  simpa using this
 rw [← hw3, ← h10, ← h9]
 have HQ3 : Hid (NIntV w3 (fun _ => True) (.agg #[.bool n2, .slice A2 m2 k2]) val) := Lib.hid ((hq2.below hb3).mono fun _ _ _ => trivial)
 have HZ := Lib.hid (Zero_any (hr2.below hb3))
 have hb13 := hb2.trans (hb3.mono hb2.size)
 have HB3 := Lib.hid (HB1.out.trans (hb13.mono HB1.out.size))
 have H9A := Lib.hid h9A
 obtain ⟨r0, r1, f0, f1⟩ := h10A.c2
 have hP9l := h9A.lt
 have h39 : w.heap.size ≤ P9 := by have := HBW.out.size; have := HB1.out.size; have := hb2.size; omega
 clear hw3 h9 h10 hb3 h10A hq2 hr2 hvq hvr hb2 hb13 h9A e40 e42 e43 HDM
 go_upto_region 5 with (go_at_call 166; go_must (refine HZ.out.mono ?_); rintro e w4 ⟨rfl, hb4⟩)
 clear r0 r1 f0 f1
 go_upto_region 7 with (fail)
 obtain ⟨w6, hw6⟩ : ∃ V, V = (w4.alloc (.cells #[.slice none 0 0] 88)).alloc (.cells #[.int .i64 0] 49) := ⟨_, rfl⟩
 obtain ⟨P12, h12⟩ : ∃ P, P = w4.heap.size := ⟨_, rfl⟩
 obtain ⟨P13, h13⟩ : ∃ P, P = w4.heap.size + 1 := ⟨_, rfl⟩
 have hb6 : Below w4.heap.size w4 w6 := by rw [hw6]; exact ((Below.refl _ _).alloc (Nat.le_refl _) _).alloc (by simp) _
 have h12A : Arr w6 P12 88 [.slice none 0 0] := by rw [hw6, h12]; exact (Arr.new w4 _ [.slice none 0 0]).alloc _
 have h13A : Arr w6 P13 49 [.int .i64 0] := by
  rw [hw6, h13]
  have := Arr.new (w4.alloc (.cells #[.slice none 0 0] 88)) 49 [.int .i64 0]
  simpa using this
 rw [← hw6, ← h13, ← h12]
 have hb36 := hb4.trans (hb6.mono hb4.size)
 have hPne : P12 ≠ P13 := by omega
 have hb16 : Below W.heap.size W w6 := HB3.out.trans (hb36.mono HB3.out.size)
 have hA39 := keepA HA3.out hb16 hP3
 have e30 := hA39.rd (i := 0) rfl
 have e31 := hA39.rd (i := 1) rfl
 have e32 := hA39.rd (i := 2) rfl
 have e33 := hA39.rd (i := 3) rfl
 have e34 := hA39.rd (i := 4) rfl
 have h9A := keepA H9A.out hb36 hP9l
 obtain ⟨r0, r1, f0, f1⟩ := h9A.c2
 have HNI : Hid (NetI w6 0 (.agg #[.int .i64 aA, .int .i64 aB, .slice AR 4 cR, .bool nd, .slice Ad md kd]) aA aB R d) := Lib.hid (by
  refine ⟨AR, cR, nd, Ad, md, kd, by rw [HE.out.len], ?_, ?_⟩
  ·rw [HE.out.len]; exact RowsD.mono (RowsD.below HR.out hb16) fun _ _ _ => Nat.zero_le _
  ·exact ((HD.out.below hb16).mono fun _ _ _ => Nat.zero_le _))
 have HQ6 := Lib.hid (HQ3.out.below hb36)
 have HB6 := Lib.hid hb16
 have H12 := Lib.hid h12A
 have H13 := Lib.hid h13A
 have h612 : w.heap.size ≤ P12 := by have := HBW.out.size; have := HB3.out.size; have := hb4.size; omega
 have h9l6 := h9A.lt
 have hP9ne : P9 ≠ P12 := by have := hb4.size; omega
 have hW12 : W.heap.size ≤ P12 := by have := HB3.out.size; have := hb4.size; omega
 clear hw6 h12 h13 hb6 h12A h13A hb36 hb16 hA39 hb4 HZ
 obtain ⟨v0, hv0⟩ : ∃ v0, v0 = w6.drew := ⟨_, rfl⟩
 have hs : Below w6.heap.size w6 v0 := by rw [hv0]; exact (Below.refl _ _).drew
 refine wp_region_tq5 (.read 0 (.read 2 (.step 1 (.step 3 .nil)))) [] (by kernel_rfl) (by rfl) (by kernel_rfl) (by kernel_rfl) (fun V => Below w6.heap.size w6 V) ?_
 change goU _ _ _ _ _ _ _ w6.drew
 rw [← hv0]
 clear hv0
 refine goU_read 39 hs (by rfl) (by rfl) ?_ (by rfl) (fun wz hSw => ?_) ?_
 rotate_left
 ·have y0 := keepB hSw e30; have y1 := keepB hSw e31; have y2 := keepB hSw e32; have y3 := keepB hSw e33; have y4 := keepB hSw e34; go_simp
  try with_reducible rfl
 simp only [sIB, List.set]
 refine goU_read 41 hs (by rfl) (by rfl) ?_ (by rfl) (fun wz hSw => ?_) ?_
 rotate_left
 ·have y0 := keepB hSw r0; have y1 := keepB hSw r1; go_simp
  try with_reducible rfl
 simp only [sIB, List.set]
 have HNV := Lib.hid (show NetI v0 0 (.agg #[.int .i64 aA, .int .i64 aB, .slice AR 4 cR, .bool nd, .slice Ad md kd]) aA aB R d from HNI.out.below hs)
 refine goU_call 40 (by rfl) (by rfl) (by rfl) (by go_simp) (gram_any HNV.out HE.out.a1 HE.out.a2 HE.out.len HE.out.row HE.out.fR HE.out.fT) ?_
 rintro e v1 ⟨y1, rfl, hg1, hbv1⟩
 have hgl : (gramL aA aB R).length = 4 := by simp only [gramL, tms, List.length_map]; exact HE.out.len
 obtain ⟨AG, cG, rfl⟩ := RowsD.slice_ hg1 hgl
 replace hs := hs.trans (hbv1.mono hs.size)
 refine ⟨_, rfl, fun _ => hs, ?_⟩
 simp only [sIB, List.set]
 refine goU_call 42 (by rfl) (by rfl) (by rfl) (by go_simp) (Short_any (A := AG) (n := 4) (c := cG) (nb := n2) (B := A2) (m := m2) (k := k2)) ?_
 rintro e W6 ⟨Q1, Q2, rfl, hc1, hA2, hbv2⟩
 replace hs := hs.trans (hbv2.mono hs.size)
 refine ⟨_, rfl, fun _ => hs, goU_nilN ?_⟩
 simp only [sIB, List.set]
 rename_i K7 hK7
 refine hK7 _ _ ?_
 go_wp2_with fail
 have HG6 := Lib.hid (RowsD.t (RowsD.below hg1 hbv2))
 have HBT : Hid (BT W6 Q2 val) := Lib.hid ⟨n2, A2, m2, k2, hA2, (HQ6.out.below hs).mono fun _ _ _ => trivial⟩
 have H126 := Lib.hid (keepA H12.out hs H12.out.lt)
 have H136 := Lib.hid (keepA H13.out hs H13.out.lt)
 have HB66 := Lib.hid (HB6.out.trans (hs.mono HB6.out.size))
 have HNI6 := Lib.hid (show NetI W6 0 (.agg #[.int .i64 aA, .int .i64 aB, .slice AR 4 cR, .bool nd, .slice Ad md kd]) aA aB R d from HNI.out.below hs)
 have HQ66 := Lib.hid (HQ6.out.below hs)
 have H96 := Lib.hid (keepA h9A hs h9A.lt)
 clear hs hbv1 hbv2 hg1 h9A e30 e31 e32 e33 e34 r0 r1 f0 f1 hA2 HNV HNI HQ6 H12 H13 HB6
 have hl12 := H126.out.lt
 have H66 := Lib.hid (keepA HA6.out HB66.out hP6)
 have H76 := Lib.hid (keepA HA7.out HB66.out hP7)
 have H36 := Lib.hid (keepA HA3.out HB66.out hP3)
 have H56 : Hid (W6.cell? ⟨S5, 0, none⟩ = some (.int .i64 20000)) := Lib.hid (keepB HB66.out b5)
 have hb66s := HB66.out.size
 have HR66 := Lib.hid (RowsD.below (RowsD.mono (D' := (· ≠ P12)) HR.out fun b _ hl => by omega) HB66.out)
 have HD66 := Lib.hid ((HD.out.mono (D' := (· ≠ P12)) fun b _ hl => by omega).below HB66.out)
 have hl13 := H136.out.lt
 refine (wpIn_wide (n := 3)).1 (wp_rangeShort (step := elS R d val) rfl hc1 HG6.out HBT.out HE.out.sh (· = P12) (fun s W => ElI P12 W6 s W) ?hMO ?hI ?hI32 ?h0 HWK.out ?a1 ?hassign ?hbody ?hdone)
 case hassign =>
  intro v neg B q c W K hK
  gi_wp2
  exact hK
 case hMO =>
  rintro b rfl
  exact hl12
 case hI =>
  rintro s A B h hf
  exact h.stable hl12 hf
 case hI32 =>
  rintro s W ⟨A', c, k1, k2, _⟩ b rfl o x hx
  have := Arr.cell k2 o
  rw [hx] at this
  cases o with
  | zero => cases this
  | succ o => simp at this
 case h0 => exact ⟨none, 0, H126.out.cell 0, H126.out, .inl ⟨rfl, rfl⟩, FrZ.refl _ _ _, by simp⟩
 case hdone =>
  rintro W9 ⟨A9, c9, k1, k2, k4, k5, k6⟩ hD
  rcases k4 with ⟨_, e⟩ | ⟨h0, g, cap, cur, e, g1, g2, g3, g4, g5, g6, g7⟩
  ·exact absurd e HH9.out
  injection e with e1 e2 e3
  subst e1 e3
  have k4 : OwnF W9 (W6.heap.size + 2) (.slice (some ⟨g, 0, none⟩) s9.length c9) s9 := .inr ⟨h0, g, c9, cur, rfl, g1, g2, g3, g4, g5, g6, g7⟩
  have hg9 : g < W9.heap.size := (k4.lt rfl).2
  have hs0 : 0 < s9.length := List.length_pos_iff.2 h0
  obtain ⟨g', cap', e', _, _, _, hfz, hcs⟩ := own_cells k4.own hs0
  have e' : Value.slice (some ⟨g, 0, none⟩) s9.length c9 = .slice (some ⟨g', 0, none⟩) s9.length cap' := e'
  injection e' with e1
  injection e1 with e1
  injection e1 with e1
  subst e1
  have hg6 : W6.heap.size + 2 ≤ g := (k4.lt rfl).1
  have HSORT := Lib.hid (SortQ_any (c := c9) (holdsQ hcs hfz) hg9 (by have := k6; omega))
  have hne12 : P12 ≠ g := by omega
  have hne13 : P13 ≠ g := by omega
  have hkb : ∀ b, b < W6.heap.size → b ≠ P12 → W9.heap[b]? = W6.heap[b]? := fun b hb hne => Frm.block k5 b hb fun h => h.elim (fun h2 => by omega) hne
  have hA13 : Arr W9 P13 49 [.int .i64 0] := (hkb P13 hl13 (fun e => hPne e.symm)).trans H136.out
  have r3 := hA13.rd (i := 0) rfl
  have hA69 : Arr W9 S6 88 [.slice none 0 0] := (hkb S6 (by omega) (by omega)).trans H66.out
  have hA79 : Arr W9 S7 49 [.int .i64 0] := (hkb S7 (by omega) (by omega)).trans H76.out
  have HA69 := Lib.hid hA69
  have HA79 := Lib.hid hA79
  have HK2 := Lib.hid k2
  have HKB := Lib.hid hkb
  have HK5 := Lib.hid k5
  have HDD := Lib.hid hD
  clear k2 k5 hcs hfz g1 g2 g3 g4 g5 g6 g7 k4 hD hkb hA13 hA69 hA79
  go_upto_region 19 with (fail)
  go_upto_region 20 with (go_at_call 169; go_must (refine HSORT.out.mono ?_); rintro e W10 ⟨rfl, dd, hp, hso, hho, hf10⟩)
  have r12 : W10.cell? ⟨P12, 0, none⟩ = some (.slice (some ⟨g, 0, none⟩) s9.length c9) := (hf10.cell (by have := cell_lt k1; exact this) hne12).trans k1
  have h610 : Arr W10 S6 88 [.slice none 0 0] := hf10.arr HA69.out (by omega)
  have h710 : Arr W10 S7 49 [.int .i64 0] := hf10.arr HA79.out (by omega)
  have c60 := h610.rd (i := 0) rfl
  have c70 := h710.rd (i := 0) rfl
  have f60 := h610.frozen 0
  have f70 := h710.frozen 0
  obtain ⟨W11, hW11⟩ : ∃ V, V = (W10.setCell ⟨S6, 0, none⟩ (.slice (some ⟨g, 0, none⟩) s9.length c9)).setCell ⟨S7, 0, none⟩ (.int .i64 0) := ⟨_, rfl⟩
  have hf11 : Frm (fun b => b = S6 ∨ b = S7) W10 W11 := by rw [hW11]; exact (Frm.setCell (O := fun b => b = S6 ∨ b = S7) (p := ⟨S6, 0, none⟩) (fun _ => .inl rfl) _).trans (Frm.setCell (O := fun b => b = S6 ∨ b = S7) (p := ⟨S7, 0, none⟩) (fun _ => .inr rfl) _)
  have h611 : Arr W11 S6 88 [.slice (some ⟨g, 0, none⟩) s9.length c9] := by rw [hW11]; exact (Frm.setCell (O := (· = S7)) (p := ⟨S7, 0, none⟩) (fun _ => rfl) _).arr (h610.set_ 0 _) hd67
  have h711 : Arr W11 S7 49 [.int .i64 0] := by rw [hW11]; exact ((Frm.setCell (O := (· = S6)) (p := ⟨S6, 0, none⟩) (fun _ => rfl) _).arr h710 (fun e => hd67 e.symm)).set_ 0 _
  have hD10 : W10.heap[W6.heap.size]? = some (.deferred (some [])) := (hf10.block _ (Array.getElem?_eq_some_iff.1 HDD.out).1 (by omega)).trans HDD.out
  have hD11 : W11.heap[W6.heap.size]? = some (.deferred (some [])) := (hf11.block _ (Array.getElem?_eq_some_iff.1 hD10).1 (by omega)).trans hD10
  have hg10 : g < W10.heap.size := Nat.lt_of_lt_of_le hg9 hf10.size
  have hho11 := holdsQ_keep hho (hf11.block g hg10 (by omega))
  have hB11 : Below w.heap.size w W11 := by
   have h1 : Below w.heap.size w W6 := HBW.out.trans (HB66.out.mono HBW.out.size)
   have h2 : Below w.heap.size W6 W9 := Frm.below (O := fun b => (W6.heap.size + 2 ≤ b ∧ i64B W6 b) ∨ b = P12) HK5.out h1.size fun b hb => by rcases hb with h | h <;> omega
   have h3 : Below w.heap.size W9 W10 := hf10.below (Nat.le_trans h1.size h2.size) fun b hb => by have := h1.size; omega
   have h4 : Below w.heap.size W10 W11 := hf11.below (Nat.le_trans (Nat.le_trans h1.size h2.size) h3.size) fun b hb => by omega
   exact ((h1.trans h2).trans h3).trans h4
  have HW11 := Lib.hid hW11
  have HD11 := Lib.hid hD11
  have HHO := Lib.hid hho11
  have H611 := Lib.hid h611
  have H711 := Lib.hid h711
  have HB11 := Lib.hid hB11
  clear hW11 hf11 hf10 hho hho11 h611 h711 h610 h710 k1 r3 hD10 hD11 hB11
  go_wp2_with fail
  rw [← HW11.out]
  refine ⟨by simp, .inl ⟨_, _, rfl, run_takeDeferred HD11.out, ?_⟩⟩
  have hfp : Frm (· = W6.heap.size) W11 (W11.putObj W6.heap.size (.deferred none)) := Frm.putObj _ _ _
  have d6 := (hfp.arr H611.out (by omega)).rd (i := 0) rfl
  have d7 := (hfp.arr H711.out (by omega)).rd (i := 0) rfl
  have hho12 := holdsQ_keep HHO.out (hfp.block g (by have := HB11.out.size; have := Frm.size HK5.out; exact Nat.lt_of_lt_of_le hg10 (by rw [HW11.out]; simp)) (by omega))
  refine ⟨.tuple #[.slice (some ⟨g, 0, none⟩) s9.length c9, .int .i64 0], by simp [results, Tryz.results103, go_sem, d6, d7], g, c9, rfl, ⟨dd, hp, hso, hho12⟩, ?_⟩
  exact HB11.out.trans (hfp.below HB11.out.size fun b (e : b = W6.heap.size) => by have := HBW.out.size; omega)
 case hbody =>
  rintro s s' x y v neg B' q' c' W0 W hI hv hy hst hbx hW0
  have hq1 := elS_some (R := R) (d := d) (val := val) (x := x) (y := y) (s := s) (s' := s') hst
  have hfy := hq1.1
  have hfx := hq1.2.1
  have hxl := hq1.2.2.1
  have hcase := hq1.2.2.2
  clear hq1
  have hII := hI
  obtain ⟨A1, c1, i1, i2, i4, i5, i6⟩ := hI
  have hlen' := elS_len hst i6
  obtain ⟨PB, hPB⟩ : ∃ B, B = W0.heap.size := ⟨_, rfl⟩
  rw [← hPB] at hbx ⊢
  obtain ⟨Ax, cx, rfl⟩ := PvD.slice_ hv
  rw [hxl] at hv ⊢
  have hkb : ∀ b, b < W6.heap.size → b ≠ P12 → W.heap[b]? = W6.heap[b]? := fun b hb hne => Frm.block i5 b hb fun h => h.elim (fun h2 => by omega) hne
  have h9W : Arr W P9 40 [.bool n2, .slice A2 m2 k2] := (hkb P9 H96.out.lt hP9ne).trans H96.out
  have h3W : Arr W S3 136 [.int .i64 aA, .int .i64 aB, .slice AR 4 cR, .bool nd, .slice Ad md kd] := (hkb S3 (by omega) (by omega)).trans H36.out
  have h5W : W.cell? ⟨S5, 0, none⟩ = some (.int .i64 20000) := (World.cell?_of_block (w := W6) (hkb S5 (by omega) (by omega))).trans H56.out
  have h32 : ∀ b, b = P12 → ∀ o x, W6.cell? ⟨b, o, none⟩ ≠ some (.int .u32 x) := by
   rintro b rfl o x hx
   have := Arr.cell H126.out o
   rw [hx] at this
   cases o with
   | zero => cases this
   | succ o => simp at this
  have HVW : Hid (NIntV W (fun _ => True) (.agg #[.bool n2, .slice A2 m2 k2]) val) := Lib.hid ((FrZ.nint i5 (HQ66.out.no32 h32) fun b hb => hb).mono fun _ _ _ => trivial)
  have hbs : W6.heap.size + 2 ≤ W.heap.size := by have := Arr.lt hbx; omega
  obtain ⟨x0, x1, x2, x3⟩ := hbx.c2
  obtain ⟨y0, y1, y2, y3⟩ := h9W.c2
  have HC := Lib.hid (Cmp_any hy.int HVW.out.int (by have := fit_wl hfy; omega) (by have := fit_wl HE.out.fv; omega))
  obtain ⟨cc, hcc⟩ : ∃ cc, cc = cmpI y val := ⟨_, rfl⟩
  rw [← hcc] at HC
  have HII := Lib.hid hII
  have HK5 := Lib.hid i5
  have HK4 := Lib.hid i4
  have HK2 := Lib.hid i2
  have H3W := Lib.hid h3W
  have HKB := Lib.hid hkb
  have HV := Lib.hid hv
  have HRW := Lib.hid (FrZ.rows i5 HR66.out fun b hb => hb)
  have HDW := Lib.hid (FrZ.nint i5 HD66.out fun b hb => hb)
  have HFX := Lib.hid (fun _ : Unit => hfx)
  have HXL := Lib.hid hxl
  clear hII i5 i4 i2 h3W h9W hkb hst h32 hPB hv hy hfx hfy hxl
  rcases hcase with ⟨hne, hss⟩ | ⟨hyv, h20, hss⟩
  ·subst hss
   have hc0 : (cc == 0) = false := by
    rw [beq_eq_false_iff_ne, hcc]
    unfold cmpI
    by_cases h1 : y < val
    ·rw [if_pos h1]; omega
    ·rw [if_neg h1, if_neg hne]; omega
   have hc1 : (cc != 0) = true := by rw [bne, hc0]; rfl
   clear hc0
   clear hcc
   gi_wp2
   refine ⟨trivial, (CallsIn.inRound _ (callsIn_wide.2 HC.out)).mono ?_⟩
   rintro e W1 ⟨rfl, hb1⟩
   gi_wp2
   exact ⟨FrZ.of_below hb1, HII.out.stable hl12 (Frm.of_below hb1)⟩
  ·have hc0 : cc = 0 := by rw [hcc, hyv]; unfold cmpI; rw [if_neg (by omega), if_pos rfl]
   clear hcc
   subst hc0
   have hls : ((s.length : Int) == 20000) = false := by rw [beq_eq_false_iff_ne]; omega
   have HSS := Lib.hid hss
   clear hss hyv
   gi_wp2
   refine ⟨trivial, (CallsIn.inRound _ (callsIn_wide.2 HC.out)).mono ?_⟩
   rintro e W1 ⟨rfl, hb1⟩
   replace h5W := keepB hb1 h5W
   replace i1 := keepB hb1 i1
   have h3W1 := keepA H3W.out hb1 H3W.out.lt
   have c2 := h3W1.rd (i := 2) rfl
   have c3 := h3W1.rd (i := 3) rfl
   have c4 := h3W1.rd (i := 4) rfl
   gi_wp2
   obtain ⟨hb, hss⟩ := HSS.out
   refine elr13 (R := R) (x := x) (d := d) c2 c3 c4 (RowsD.t (RowsD.below HRW.out hb1)) ((HDW.out.below hb1).mono fun _ _ _ => trivial) (HV.out.below hb1) HE.out.row HE.out.fR (HFX.out ()) HXL.out hb ?_
   intro W2 P16 u57 u58 u59 u60 u61 u62 u63 u64 u65 u66 u67 u68 u69 hA16 hP16 hb2
   obtain ⟨p, hp⟩ : ∃ p, p = elQ (rw_ (tms [x] R) 0) d hb := ⟨_, rfl⟩
   rw [← hp] at hA16 hss
   clear hp hb HSS
   have HS2 := Lib.hid hss
   rename_i K13 hK13
   refine hK13 _ _ ?_
   dsimp only
   have hb12 := hb1.trans (hb2.mono hb1.size)
   replace i1 := keepB hb2 i1
   have e0 : W2.cell? ⟨P16, 0, none⟩ = some (.int .i64 p.w) := Arr.cell hA16 0
   have e1 : W2.cell? ⟨P16, 1, none⟩ = some (.int .i64 p.x) := Arr.cell hA16 1
   have e2 : W2.cell? ⟨P16, 2, none⟩ = some (.int .i64 p.y) := Arr.cell hA16 2
   have e3 : W2.cell? ⟨P16, 3, none⟩ = some (.int .i64 p.z) := Arr.cell hA16 3
   have e4 : W2.cell? ⟨P16, 4, none⟩ = some (.int .i64 p.d) := Arr.cell hA16 4
   have HB12 := Lib.hid hb12
   clear hss hA16 hb12 hb1 hb2 h5W c2 c3 c4 h3W1 hls
   obtain ⟨W3, hW3⟩ : ∃ V, V = W2.alloc (.cells p.enc.toArray 148) := ⟨_, rfl⟩
   have hb3 : Below W2.heap.size W2 W3 := by rw [hW3]; exact (Below.refl _ _).alloc (Nat.le_refl _) _
   have hb13 := HB12.out.trans (hb3.mono HB12.out.size)
   have hO3 := HK4.out.below hb13
   have hn3 := fun j u hu => newsQ W2 p j u hu
   rw [← hW3] at hn3
   have HO3 := Lib.hid hO3
   have HN3 := Lib.hid hn3
   have HW3 := Lib.hid (show W3 = W2.alloc (.cells #[.int .i64 p.w, .int .i64 p.x, .int .i64 p.y, .int .i64 p.z, .int .i64 p.d] 148) from hW3)
   have HB13 := Lib.hid hb13
   have hA312 : Arr W3 P12 88 [.slice A1 s.length c1] := keepA HK2.out hb13 HK2.out.lt
   have HA312 := Lib.hid hA312
   have HG4 : Hid (∀ W4, W3.grownBy W4 (Value.slice A1 s.length c1).ownBlock → Arr W4 P12 88 [.slice A1 s.length c1]) := Lib.hid fun W4 hg => (hg.block P12 hA312.lt (fun e => by have := (hO3.lt e.symm).1; omega)).trans hA312
   have hlen20 : s.length + 1 ≤ 1000000 := by omega
   have hbase3 : W6.heap.size + 2 ≤ W3.heap.size := by have := HB13.out.size; omega
   clear hW3 hb3 hb13 hO3 hn3 hA312
   gi_wp2_with (gi_at_builtin; rw [← HW3.out]; refine listIn_op (by rfl) (fun c h => by cases h) (wp_appF (L := s) (v := .slice A1 s.length c1) (base := W6.heap.size + 2) _ _ (by rfl) (by rfl) HO3.out p ⟨W2.heap.size, 0, none⟩ 1 (by rfl) HN3.out hlen20 hbase3 ?_); intro A4 c4 W4 hown4 hgr4; have c412 := (HG4.out W4 hgr4).rd (i := 0) rfl; have f412 := (HG4.out W4 hgr4).frozen 0)
   obtain ⟨W5, hW5⟩ : ∃ V, V = W4.setCell ⟨P12, 0, none⟩ (.slice A4 (s.length + 1) c4) := ⟨_, rfl⟩
   rw [← hW5]
   have hf5 : Frm (· = P12) W4 W5 := by rw [hW5]; exact Frm.setCell (O := (· = P12)) (p := ⟨P12, 0, none⟩) (fun _ => rfl) _
   have hA5 : Arr W5 P12 88 [.slice A4 (s.length + 1) c4] := by rw [hW5]; exact (HG4.out W4 hgr4).set_ 0 _
   have hF34 : FrZ (W6.heap.size + 2) (· = P12) W3 W4 := ⟨hgr4.os, hgr4.tape, hgr4.output, hgr4.size, fun b hb ho => hgr4.block b hb fun e => ho (.inl ⟨(HO3.out.lt e.symm).1, HO3.out.is64 e.symm⟩)⟩
   have hFW : FrZ (W6.heap.size + 2) (· = P12) W W5 := ((FrZ.of_below HB13.out).trans hF34).trans (FrZ.of hf5)
   have hl5 : s'.length = s.length + 1 := by rw [HS2.out, List.length_append]; rfl
   have hown5 : OwnF W5 (W6.heap.size + 2) (.slice A4 (s.length + 1) c4) s' := by
    rw [HS2.out]
    exact hown4.keep fun g hg => hf5.block g (hown4.lt hg).2 fun e => by have := (hown4.lt hg).1; omega
   refine ⟨hFW, A4, c4, ?_, ?_, ?_, HK5.out.trans hFW, hlen'⟩
   ·rw [hl5]; exact hA5.cell 0
   ·rw [hl5]; exact hA5
   ·rw [hl5]; exact hown5
end Go.Proofs.YtdjpeimecfhdjaaGreat

namespace Go.Proofs.YtdjpeimecfhdjaaGreat
open Go.RowKit
def huQ : List (List Int) := [[8, 4, 4, 4], [4, 8, 0, 0], [4, 0, 8, 0], [4, 0, 0, 8]]
theorem huQ_is : gramL (-1) (-1) huL = huQ := by decide +kernel
theorem huQ_ok : ∀ i, i < 4 → ∀ k, k < 4 → i ≠ k → brOK huQ (rw_ (unitL 4) i) (rw_ (unitL 4) k) = true := by decide +kernel
theorem huQ_fit : ∀ j, j < 4 → fitM (gS (shH 4 huQ) j) = true ∧ fit (bS (shH 4 huQ) 8 j) = true := by decide +kernel
theorem huQ_sh : ShOK 4 huQ 8 where
 n0 := by omega
 n1 := by omega
 row := by decide
 fG := by decide +kernel
 ok := fun i k hi hk hne => huQ_ok i hi k hk hne
 fT := by decide +kernel
 fTG := by decide +kernel
 fTt := by decide +kernel
 fH := by decide +kernel
 fit := huQ_fit
theorem huQ_24 : (wkW (unitL 4) (shH 4 huQ) 8 (elS huL 2 8) 4 (List.replicate 4 0) []).map List.length = some 24 := by decide +kernel
theorem huQ_els : ElsOK (-1) (-1) huL 2 1 1 8 where
 a1 := by omega
 a2 := by omega
 len := rfl
 row := by decide
 fR := by decide +kernel
 fT := by decide +kernel
 fd := by decide +kernel
 wn := by decide +kernel
 wd := by decide +kernel
 den0 := by decide
 hv := by decide
 rem := by decide
 sh := by rw [huQ_is]; exact huQ_sh
 fv := by decide +kernel
theorem huQ_some : ∃ s9, wkW (unitL 4) (shH 4 (gramL (-1) (-1) huL)) 8 (elS huL 2 8) 4 (List.replicate 4 0) [] = some s9 ∧ s9.length = 24 := by
 rw [huQ_is]
 have h := huQ_24
 cases hw : wkW (unitL 4) (shH 4 huQ) 8 (elS huL 2 8) 4 (List.replicate 4 0) [] with
 | none => rw [hw] at h; cases h
 | some s9 =>
  rw [hw] at h
  injection h with h
  exact ⟨s9, rfl, h⟩
end Go.Proofs.YtdjpeimecfhdjaaGreat
