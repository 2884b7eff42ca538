/- Package brandt: products of elements: the region. -/
import Derived.Test.YtdjpeimecfhdjaaGreatTb
import Derived.Test.YtdjpeimecfhdjaaGreatTf
namespace Go.Proofs.YtdjpeimecfhdjaaGreat
open Go.RowKit
theorem TmB.four {w : World} {g : Nat} {c0 c1 c2 c3 a0 a1 a2 a3 b0 b1 b2 b3 : Int} {n0 n1 n2 n3 o0 o1 o2 o3 : Bool} {B0 B1 B2 B3 E0 E1 E2 E3 : Option Addr} {m0 m1 m2 m3 k0 k1 k2 k3 r0 r1 r2 r3 l0 l1 l2 l3 : Nat} {t : TypeId}
  (h : Arr w g t [.int .i64 c0, .bool n0, .slice B0 m0 k0, .bool o0, .slice E0 r0 l0, .int .i64 c1, .bool n1, .slice B1 m1 k1, .bool o1, .slice E1 r1 l1, .int .i64 c2, .bool n2, .slice B2 m2 k2, .bool o2, .slice E2 r2 l2, .int .i64 c3, .bool n3, .slice B3 m3 k3, .bool o3, .slice E3 r3 l3])
  (x0 : NIntV w (fun _ => True) (.agg #[.bool n0, .slice B0 m0 k0]) a0) (y0 : NIntV w (fun _ => True) (.agg #[.bool o0, .slice E0 r0 l0]) b0) (x1 : NIntV w (fun _ => True) (.agg #[.bool n1, .slice B1 m1 k1]) a1) (y1 : NIntV w (fun _ => True) (.agg #[.bool o1, .slice E1 r1 l1]) b1) (x2 : NIntV w (fun _ => True) (.agg #[.bool n2, .slice B2 m2 k2]) a2) (y2 : NIntV w (fun _ => True) (.agg #[.bool o2, .slice E2 r2 l2]) b2) (x3 : NIntV w (fun _ => True) (.agg #[.bool n3, .slice B3 m3 k3]) a3) (y3 : NIntV w (fun _ => True) (.agg #[.bool o3, .slice E3 r3 l3]) b3) :
  TmB w g [(c0, a0, b0), (c1, a1, b1), (c2, a2, b2), (c3, a3, b3)] := by
 have hc := fun i => h.cell i
 intro j t hj
 have hj4 : j < 4 := by rcases Nat.lt_or_ge j 4 with h | h; exact h; rw [List.getElem?_eq_none (by exact h)] at hj; cases hj
 rcases (show j = 0 ∨ j = 1 ∨ j = 2 ∨ j = 3 by omega) with rfl | rfl | rfl | rfl
 ·injection hj with hj; subst hj; exact ⟨_, _, _, _, _, _, _, _, hc 0, hc 1, hc 2, hc 3, hc 4, x0, y0⟩
 ·injection hj with hj; subst hj; exact ⟨_, _, _, _, _, _, _, _, hc 5, hc 6, hc 7, hc 8, hc 9, x1, y1⟩
 ·injection hj with hj; subst hj; exact ⟨_, _, _, _, _, _, _, _, hc 10, hc 11, hc 12, hc 13, hc 14, x2, y2⟩
 ·injection hj with hj; subst hj; exact ⟨_, _, _, _, _, _, _, _, hc 15, hc 16, hc 17, hc 18, hc 19, x3, y3⟩
theorem TmS.four {c0 c1 c2 c3 a0 a1 a2 a3 b0 b1 b2 b3 : Int} (h0 : c0.natAbs ≤ 1000000000 * 1000000000) (h1 : c1.natAbs ≤ 1000000000 * 1000000000) (h2 : c2.natAbs ≤ 1000000000 * 1000000000) (h3 : c3.natAbs ≤ 1000000000 * 1000000000) (x0 : wl a0.natAbs ≤ 4000) (y0 : wl b0.natAbs ≤ 4000) (x1 : wl a1.natAbs ≤ 4000) (y1 : wl b1.natAbs ≤ 4000) (x2 : wl a2.natAbs ≤ 4000) (y2 : wl b2.natAbs ≤ 4000) (x3 : wl a3.natAbs ≤ 4000) (y3 : wl b3.natAbs ≤ 4000) : TmS [(c0, a0, b0), (c1, a1, b1), (c2, a2, b2), (c3, a3, b3)] := by
 have k : ∀ (c a b : Int), c.natAbs ≤ 1000000000 * 1000000000 → wl a.natAbs ≤ 4000 → wl b.natAbs ≤ 4000 → -9000000000000000000 ≤ c ∧ c ≤ 9000000000000000000 ∧ wl a.natAbs ≤ 9000 ∧ wl b.natAbs ≤ 9000 := fun c a b hc ha hb => ⟨by omega, by omega, Nat.le_trans ha (by decide), Nat.le_trans hb (by decide)⟩
 intro t ht
 simp only [List.mem_cons, List.not_mem_nil, or_false] at ht
 rcases ht with rfl | rfl | rfl | rfl
 ·exact k _ _ _ h0 x0 y0
 ·exact k _ _ _ h1 x1 y1
 ·exact k _ _ _ h2 x2 y2
 ·exact k _ _ _ h3 x3 y3
set_option maxRecDepth 100000 in
set_option maxHeartbeats 4000000 in
theorem tmreg {w : World} {Q : Exit → Act → World → Prop} {va vb : Int} {bp op cp bq oq cq S m0 k0 r0 l0 m1 k1 r1 l1 m2 k2 r2 l2 m3 k3 r3 l3 qM cM : Nat} {AM : Option Addr} {n0 o0 n1 o1 n2 o2 n3 o3 : Bool} {B0 E0 B1 E1 B2 E2 B3 E3 : Option Addr} {p q : List Int} (ha : va.natAbs ≤ 1000000000) (hb : vb.natAbs ≤ 1000000000)
  (p0 : w.cell? ⟨bp, op, none⟩ = some (.bool n0)) (u0 : w.cell? ⟨bp, op + 1, none⟩ = some (.slice B0 m0 k0)) (p1 : w.cell? ⟨bp, op + 2, none⟩ = some (.bool n1)) (u1 : w.cell? ⟨bp, op + 3, none⟩ = some (.slice B1 m1 k1)) (p2 : w.cell? ⟨bp, op + 4, none⟩ = some (.bool n2)) (u2 : w.cell? ⟨bp, op + 5, none⟩ = some (.slice B2 m2 k2)) (p3 : w.cell? ⟨bp, op + 6, none⟩ = some (.bool n3)) (u3 : w.cell? ⟨bp, op + 7, none⟩ = some (.slice B3 m3 k3)) (q0 : w.cell? ⟨bq, oq, none⟩ = some (.bool o0)) (vv0 : w.cell? ⟨bq, oq + 1, none⟩ = some (.slice E0 r0 l0)) (q1 : w.cell? ⟨bq, oq + 2, none⟩ = some (.bool o1)) (vv1 : w.cell? ⟨bq, oq + 3, none⟩ = some (.slice E1 r1 l1)) (q2 : w.cell? ⟨bq, oq + 4, none⟩ = some (.bool o2)) (vv2 : w.cell? ⟨bq, oq + 5, none⟩ = some (.slice E2 r2 l2)) (q3 : w.cell? ⟨bq, oq + 6, none⟩ = some (.bool o3)) (vv3 : w.cell? ⟨bq, oq + 7, none⟩ = some (.slice E3 r3 l3)) (X0 : Hid (NIntV w (fun _ => True) (.agg #[.bool n0, .slice B0 m0 k0]) (gz p 0))) (Y0 : Hid (NIntV w (fun _ => True) (.agg #[.bool o0, .slice E0 r0 l0]) (gz q 0))) (wx0 : Hid (wl (gz p 0).natAbs ≤ 4000)) (wy0 : Hid (wl (gz q 0).natAbs ≤ 4000)) (X1 : Hid (NIntV w (fun _ => True) (.agg #[.bool n1, .slice B1 m1 k1]) (gz p 1))) (Y1 : Hid (NIntV w (fun _ => True) (.agg #[.bool o1, .slice E1 r1 l1]) (gz q 1))) (wx1 : Hid (wl (gz p 1).natAbs ≤ 4000)) (wy1 : Hid (wl (gz q 1).natAbs ≤ 4000)) (X2 : Hid (NIntV w (fun _ => True) (.agg #[.bool n2, .slice B2 m2 k2]) (gz p 2))) (Y2 : Hid (NIntV w (fun _ => True) (.agg #[.bool o2, .slice E2 r2 l2]) (gz q 2))) (wx2 : Hid (wl (gz p 2).natAbs ≤ 4000)) (wy2 : Hid (wl (gz q 2).natAbs ≤ 4000)) (X3 : Hid (NIntV w (fun _ => True) (.agg #[.bool n3, .slice B3 m3 k3]) (gz p 3))) (Y3 : Hid (NIntV w (fun _ => True) (.agg #[.bool o3, .slice E3 r3 l3]) (gz q 3))) (wx3 : Hid (wl (gz p 3).natAbs ≤ 4000)) (wy3 : Hid (wl (gz q 3).natAbs ≤ 4000)) 
  (hQ : ∀ (w' : World) (g : Nat) (v s49 s50 s82 s83 s115 s116 s145 s146 : Value), v = .slice (some ⟨g, 0, none⟩) 4 4 → PvD w' (w.heap.size ≤ ·) v (tmQ va vb p q) → Below w.heap.size w w' → Q .normal ⟨#[.agg #[.int .i64 va, .int .i64 vb, .slice AM qM cM], .slice (some ⟨bp, op, none⟩) 4 cp, .slice (some ⟨bq, oq, none⟩) 4 cq, .pointer (some ⟨S, 0, none⟩), undef, undef, v, .int .i64 va, .int .i64 vb, .pointer (some ⟨S, 0, none⟩), .pointer (some ⟨S, 0, none⟩), .int .i64 va, .pointer (some ⟨S, 0, none⟩), .pointer (some ⟨S, 1, none⟩), .int .i64 vb, .slice (some ⟨bp, op, none⟩) 4 cp, .pointer (some ⟨bp, op, none⟩), .agg #[.bool n0, .slice B0 m0 k0], .slice (some ⟨bq, oq, none⟩) 4 cq, .pointer (some ⟨bq, oq, none⟩), .agg #[.bool o0, .slice E0 r0 l0], .agg #[.int .i64 1, .bool n0, .slice B0 m0 k0, .bool o0, .slice E0 r0 l0], .int .i64 va, .slice (some ⟨bp, op, none⟩) 4 cp, .pointer (some ⟨bp, op + 2, none⟩), .agg #[.bool n1, .slice B1 m1 k1], .slice (some ⟨bq, oq, none⟩) 4 cq, .pointer (some ⟨bq, oq + 2, none⟩), .agg #[.bool o1, .slice E1 r1 l1], .agg #[.int .i64 va, .bool n1, .slice B1 m1 k1, .bool o1, .slice E1 r1 l1], .int .i64 vb, .slice (some ⟨bp, op, none⟩) 4 cp, .pointer (some ⟨bp, op + 4, none⟩), .agg #[.bool n2, .slice B2 m2 k2], .slice (some ⟨bq, oq, none⟩) 4 cq, .pointer (some ⟨bq, oq + 4, none⟩), .agg #[.bool o2, .slice E2 r2 l2], .agg #[.int .i64 vb, .bool n2, .slice B2 m2 k2, .bool o2, .slice E2 r2 l2], .int .i64 va, .int .i64 (-va), .int .i64 vb, .int .i64 (-va * vb), .slice (some ⟨bp, op, none⟩) 4 cp, .pointer (some ⟨bp, op + 6, none⟩), .agg #[.bool n3, .slice B3 m3 k3], .slice (some ⟨bq, oq, none⟩) 4 cq, .pointer (some ⟨bq, oq + 6, none⟩), .agg #[.bool o3, .slice E3 r3 l3], .agg #[.int .i64 (-va * vb), .bool n3, .slice B3 m3 k3, .bool o3, .slice E3 r3 l3], s49, s50, .slice (some ⟨bp, op, none⟩) 4 cp, .pointer (some ⟨bp, op, none⟩), .agg #[.bool n0, .slice B0 m0 k0], .slice (some ⟨bq, oq, none⟩) 4 cq, .pointer (some ⟨bq, oq + 2, none⟩), .agg #[.bool o1, .slice E1 r1 l1], .agg #[.int .i64 1, .bool n0, .slice B0 m0 k0, .bool o1, .slice E1 r1 l1], .slice (some ⟨bp, op, none⟩) 4 cp, .pointer (some ⟨bp, op + 2, none⟩), .agg #[.bool n1, .slice B1 m1 k1], .slice (some ⟨bq, oq, none⟩) 4 cq, .pointer (some ⟨bq, oq, none⟩), .agg #[.bool o0, .slice E0 r0 l0], .agg #[.int .i64 1, .bool n1, .slice B1 m1 k1, .bool o0, .slice E0 r0 l0], .int .i64 vb, .int .i64 (-vb), .slice (some ⟨bp, op, none⟩) 4 cp, .pointer (some ⟨bp, op + 4, none⟩), .agg #[.bool n2, .slice B2 m2 k2], .slice (some ⟨bq, oq, none⟩) 4 cq, .pointer (some ⟨bq, oq + 6, none⟩), .agg #[.bool o3, .slice E3 r3 l3], .agg #[.int .i64 (-vb), .bool n2, .slice B2 m2 k2, .bool o3, .slice E3 r3 l3], .int .i64 vb, .slice (some ⟨bp, op, none⟩) 4 cp, .pointer (some ⟨bp, op + 6, none⟩), .agg #[.bool n3, .slice B3 m3 k3], .slice (some ⟨bq, oq, none⟩) 4 cq, .pointer (some ⟨bq, oq + 4, none⟩), .agg #[.bool o2, .slice E2 r2 l2], .agg #[.int .i64 vb, .bool n3, .slice B3 m3 k3, .bool o2, .slice E2 r2 l2], s82, s83, .slice (some ⟨bp, op, none⟩) 4 cp, .pointer (some ⟨bp, op, none⟩), .agg #[.bool n0, .slice B0 m0 k0], .slice (some ⟨bq, oq, none⟩) 4 cq, .pointer (some ⟨bq, oq + 4, none⟩), .agg #[.bool o2, .slice E2 r2 l2], .agg #[.int .i64 1, .bool n0, .slice B0 m0 k0, .bool o2, .slice E2 r2 l2], .slice (some ⟨bp, op, none⟩) 4 cp, .pointer (some ⟨bp, op + 4, none⟩), .agg #[.bool n2, .slice B2 m2 k2], .slice (some ⟨bq, oq, none⟩) 4 cq, .pointer (some ⟨bq, oq, none⟩), .agg #[.bool o0, .slice E0 r0 l0], .agg #[.int .i64 1, .bool n2, .slice B2 m2 k2, .bool o0, .slice E0 r0 l0], .int .i64 va, .slice (some ⟨bp, op, none⟩) 4 cp, .pointer (some ⟨bp, op + 2, none⟩), .agg #[.bool n1, .slice B1 m1 k1], .slice (some ⟨bq, oq, none⟩) 4 cq, .pointer (some ⟨bq, oq + 6, none⟩), .agg #[.bool o3, .slice E3 r3 l3], .agg #[.int .i64 va, .bool n1, .slice B1 m1 k1, .bool o3, .slice E3 r3 l3], .int .i64 va, .int .i64 (-va), .slice (some ⟨bp, op, none⟩) 4 cp, .pointer (some ⟨bp, op + 6, none⟩), .agg #[.bool n3, .slice B3 m3 k3], .slice (some ⟨bq, oq, none⟩) 4 cq, .pointer (some ⟨bq, oq + 2, none⟩), .agg #[.bool o1, .slice E1 r1 l1], .agg #[.int .i64 (-va), .bool n3, .slice B3 m3 k3, .bool o1, .slice E1 r1 l1], s115, s116, .slice (some ⟨bp, op, none⟩) 4 cp, .pointer (some ⟨bp, op, none⟩), .agg #[.bool n0, .slice B0 m0 k0], .slice (some ⟨bq, oq, none⟩) 4 cq, .pointer (some ⟨bq, oq + 6, none⟩), .agg #[.bool o3, .slice E3 r3 l3], .agg #[.int .i64 1, .bool n0, .slice B0 m0 k0, .bool o3, .slice E3 r3 l3], .slice (some ⟨bp, op, none⟩) 4 cp, .pointer (some ⟨bp, op + 6, none⟩), .agg #[.bool n3, .slice B3 m3 k3], .slice (some ⟨bq, oq, none⟩) 4 cq, .pointer (some ⟨bq, oq, none⟩), .agg #[.bool o0, .slice E0 r0 l0], .agg #[.int .i64 1, .bool n3, .slice B3 m3 k3, .bool o0, .slice E0 r0 l0], .slice (some ⟨bp, op, none⟩) 4 cp, .pointer (some ⟨bp, op + 2, none⟩), .agg #[.bool n1, .slice B1 m1 k1], .slice (some ⟨bq, oq, none⟩) 4 cq, .pointer (some ⟨bq, oq + 4, none⟩), .agg #[.bool o2, .slice E2 r2 l2], .agg #[.int .i64 1, .bool n1, .slice B1 m1 k1, .bool o2, .slice E2 r2 l2], .slice (some ⟨bp, op, none⟩) 4 cp, .pointer (some ⟨bp, op + 4, none⟩), .agg #[.bool n2, .slice B2 m2 k2], .slice (some ⟨bq, oq, none⟩) 4 cq, .pointer (some ⟨bq, oq + 2, none⟩), .agg #[.bool o1, .slice E1 r1 l1], .agg #[.int .i64 (-1), .bool n2, .slice B2 m2 k2, .bool o1, .slice E1 r1 l1], s145, s146, v], []⟩ w') :
  (tmrC).wp Tryz.prog Q ⟨#[.agg #[.int .i64 va, .int .i64 vb, .slice AM qM cM], .slice (some ⟨bp, op, none⟩) 4 cp, .slice (some ⟨bq, oq, none⟩) 4 cq, .pointer (some ⟨S, 0, none⟩), undef, undef, .slice none 0 0, .int .i64 va, .int .i64 vb, .pointer (some ⟨S, 0, none⟩), .pointer (some ⟨S, 0, none⟩), .int .i64 va, .pointer (some ⟨S, 0, none⟩), .pointer (some ⟨S, 1, none⟩), .int .i64 vb, undef, undef, undef, undef, undef, undef, undef, undef, undef, undef, undef, undef, undef, undef, undef, undef, undef, undef, undef, undef, undef, undef, undef, undef, undef, undef, undef, undef, undef, undef, undef, undef, undef, undef, undef, undef, undef, undef, undef, undef, undef, undef, undef, undef, undef, undef, undef, undef, undef, undef, undef, undef, undef, undef, undef, undef, undef, undef, undef, undef, undef, undef, undef, undef, undef, undef, undef, undef, undef, undef, undef, undef, undef, undef, undef, undef, undef, undef, undef, undef, undef, undef, undef, undef, undef, undef, undef, undef, undef, undef, undef, undef, undef, undef, undef, undef, undef, undef, undef, undef, undef, undef, undef, undef, undef, undef, undef, undef, undef, undef, undef, undef, undef, undef, undef, undef, undef, undef, undef, undef, undef, undef, undef, undef, undef, undef, undef, undef, undef, undef, undef, undef, undef], []⟩ w := by
 have HQ := Lib.hid hQ
 clear hQ
 have nA : IntKind.i64.wrap (-va) = -va := IntWalk.i64_in _ (by omega)
 have nB : IntKind.i64.wrap (-vb) = -vb := IntWalk.i64_in _ (by omega)
 have hab : (-va * vb).natAbs ≤ 1000000000 * 1000000000 := by rw [Int.natAbs_mul, Int.natAbs_neg]; exact Nat.mul_le_mul ha hb
 have nAB : IntKind.i64.wrap (-va * vb) = -va * vb := IntWalk.i64_in _ (by omega)
 have c1 : (1 : Int).natAbs ≤ 1000000000 * 1000000000 := by decide
 have c2 : (-1 : Int).natAbs ≤ 1000000000 * 1000000000 := by decide
 have c3 : va.natAbs ≤ 1000000000 * 1000000000 := by omega
 have c4 : vb.natAbs ≤ 1000000000 * 1000000000 := by omega
 have c5 : (-va).natAbs ≤ 1000000000 * 1000000000 := by omega
 have c6 : (-vb).natAbs ≤ 1000000000 * 1000000000 := by omega
 have HS0 : Hid (TmS (tmT0 va vb p q)) := Lib.hid (TmS.four c1 c3 c4 hab wx0.out wy0.out wx1.out wy1.out wx2.out wy2.out wx3.out wy3.out)
 have HS1 : Hid (TmS (tmT1 va vb p q)) := Lib.hid (TmS.four c1 c1 c6 c4 wx0.out wy1.out wx1.out wy0.out wx2.out wy3.out wx3.out wy2.out)
 have HS2 : Hid (TmS (tmT2 va vb p q)) := Lib.hid (TmS.four c1 c1 c3 c5 wx0.out wy2.out wx2.out wy0.out wx1.out wy3.out wx3.out wy1.out)
 have HS3 : Hid (TmS (tmT3 va vb p q)) := Lib.hid (TmS.four c1 c1 c1 c2 wx0.out wy3.out wx3.out wy0.out wx1.out wy2.out wx2.out wy1.out)
 clear ha hb hab c1 c2 c3 c4 c5 c6 wx0 wy0 wx1 wy1 wx2 wy2 wx3 wy3
 show Code.wp _ (Code.region 2 (List.toArray _) true) _ _ _
 obtain ⟨v0, hv0⟩ : ∃ v0, v0 = w.drew := ⟨_, rfl⟩
 have hs : Below w.heap.size w v0 := by rw [hv0]; exact (Below.refl _ _).drew
 refine wp_region_tr7 tmtR [] (by kernel_rfl) (by exact tm_deep) (by kernel_rfl) tm_plan (fun V => Below w.heap.size w V) ?_
 change goX _ _ _ _ _ _ _ w.drew
 rw [← hv0]
 clear hv0
 unfold tmtR
 unfold tmX0 tmC0
 unfold tmX1 tmC1
 unfold tmX2 tmC2
 unfold tmX3 tmC3
 unfold tmX4 tmC4
 unfold tmX5 tmC5
 unfold tmX6 tmC6
 simp only [rdT]
 refine goX_read 15 hs (by rfl) (by rfl) (.slice (some ⟨bp, op, none⟩) 4 cp) (by rfl) (fun wz hSw => ?_) ?_
 ·go_simp
  try with_reducible rfl
 simp only [sIB, List.set]
 refine goX_read 16 hs (by rfl) (by rfl) (.pointer (some ⟨bp, op, none⟩)) (by rfl) (fun wz hSw => ?_) ?_
 ·go_simp
  try with_reducible rfl
 simp only [sIB, List.set]
 refine goX_read 17 hs (by rfl) (by rfl) (.agg #[.bool n0, .slice B0 m0 k0]) (by rfl) (fun wz hSw => ?_) ?_
 ·have e0 := keepB hSw p0; have e1 := keepB hSw u0; go_simp
  try with_reducible rfl
 simp only [sIB, List.set]
 refine goX_read 18 hs (by rfl) (by rfl) (.slice (some ⟨bq, oq, none⟩) 4 cq) (by rfl) (fun wz hSw => ?_) ?_
 ·go_simp
  try with_reducible rfl
 simp only [sIB, List.set]
 refine goX_read 19 hs (by rfl) (by rfl) (.pointer (some ⟨bq, oq, none⟩)) (by rfl) (fun wz hSw => ?_) ?_
 ·go_simp
  try with_reducible rfl
 simp only [sIB, List.set]
 refine goX_read 20 hs (by rfl) (by rfl) (.agg #[.bool o0, .slice E0 r0 l0]) (by rfl) (fun wz hSw => ?_) ?_
 ·have e0 := keepB hSw q0; have e1 := keepB hSw vv0; go_simp
  try with_reducible rfl
 simp only [sIB, List.set]
 refine goX_read 21 hs (by rfl) (by rfl) (.agg #[.int .i64 1, .bool n0, .slice B0 m0 k0, .bool o0, .slice E0 r0 l0]) (by rfl) (fun wz hSw => ?_) ?_
 ·go_simp
  try with_reducible rfl
 simp only [sIB, List.set]
 refine goX_read 22 hs (by rfl) (by rfl) (.int .i64 va) (by rfl) (fun wz hSw => ?_) ?_
 ·go_simp
  try with_reducible rfl
 simp only [sIB, List.set]
 refine goX_read 23 hs (by rfl) (by rfl) (.slice (some ⟨bp, op, none⟩) 4 cp) (by rfl) (fun wz hSw => ?_) ?_
 ·go_simp
  try with_reducible rfl
 simp only [sIB, List.set]
 refine goX_read 24 hs (by rfl) (by rfl) (.pointer (some ⟨bp, op + 2, none⟩)) (by rfl) (fun wz hSw => ?_) ?_
 ·go_simp
  try with_reducible rfl
 simp only [sIB, List.set]
 refine goX_read 25 hs (by rfl) (by rfl) (.agg #[.bool n1, .slice B1 m1 k1]) (by rfl) (fun wz hSw => ?_) ?_
 ·have e0 := keepB hSw p1; have e1 := keepB hSw u1; go_simp
  try with_reducible rfl
 simp only [sIB, List.set]
 refine goX_read 26 hs (by rfl) (by rfl) (.slice (some ⟨bq, oq, none⟩) 4 cq) (by rfl) (fun wz hSw => ?_) ?_
 ·go_simp
  try with_reducible rfl
 simp only [sIB, List.set]
 refine goX_read 27 hs (by rfl) (by rfl) (.pointer (some ⟨bq, oq + 2, none⟩)) (by rfl) (fun wz hSw => ?_) ?_
 ·go_simp
  try with_reducible rfl
 simp only [sIB, List.set]
 refine goX_read 28 hs (by rfl) (by rfl) (.agg #[.bool o1, .slice E1 r1 l1]) (by rfl) (fun wz hSw => ?_) ?_
 ·have e0 := keepB hSw q1; have e1 := keepB hSw vv1; go_simp
  try with_reducible rfl
 simp only [sIB, List.set]
 refine goX_read 29 hs (by rfl) (by rfl) (.agg #[.int .i64 va, .bool n1, .slice B1 m1 k1, .bool o1, .slice E1 r1 l1]) (by rfl) (fun wz hSw => ?_) ?_
 ·go_simp
  try with_reducible rfl
 simp only [sIB, List.set]
 refine goX_read 30 hs (by rfl) (by rfl) (.int .i64 vb) (by rfl) (fun wz hSw => ?_) ?_
 ·go_simp
  try with_reducible rfl
 simp only [sIB, List.set]
 refine goX_read 31 hs (by rfl) (by rfl) (.slice (some ⟨bp, op, none⟩) 4 cp) (by rfl) (fun wz hSw => ?_) ?_
 ·go_simp
  try with_reducible rfl
 simp only [sIB, List.set]
 refine goX_read 32 hs (by rfl) (by rfl) (.pointer (some ⟨bp, op + 4, none⟩)) (by rfl) (fun wz hSw => ?_) ?_
 ·go_simp
  try with_reducible rfl
 simp only [sIB, List.set]
 refine goX_read 33 hs (by rfl) (by rfl) (.agg #[.bool n2, .slice B2 m2 k2]) (by rfl) (fun wz hSw => ?_) ?_
 ·have e0 := keepB hSw p2; have e1 := keepB hSw u2; go_simp
  try with_reducible rfl
 simp only [sIB, List.set]
 refine goX_read 34 hs (by rfl) (by rfl) (.slice (some ⟨bq, oq, none⟩) 4 cq) (by rfl) (fun wz hSw => ?_) ?_
 ·go_simp
  try with_reducible rfl
 simp only [sIB, List.set]
 refine goX_read 35 hs (by rfl) (by rfl) (.pointer (some ⟨bq, oq + 4, none⟩)) (by rfl) (fun wz hSw => ?_) ?_
 ·go_simp
  try with_reducible rfl
 simp only [sIB, List.set]
 refine goX_read 36 hs (by rfl) (by rfl) (.agg #[.bool o2, .slice E2 r2 l2]) (by rfl) (fun wz hSw => ?_) ?_
 ·have e0 := keepB hSw q2; have e1 := keepB hSw vv2; go_simp
  try with_reducible rfl
 simp only [sIB, List.set]
 refine goX_read 37 hs (by rfl) (by rfl) (.agg #[.int .i64 vb, .bool n2, .slice B2 m2 k2, .bool o2, .slice E2 r2 l2]) (by rfl) (fun wz hSw => ?_) ?_
 ·go_simp
  try with_reducible rfl
 simp only [sIB, List.set]
 refine goX_read 38 hs (by rfl) (by rfl) (.int .i64 va) (by rfl) (fun wz hSw => ?_) ?_
 ·go_simp
  try with_reducible rfl
 simp only [sIB, List.set]
 refine goX_read 39 hs (by rfl) (by rfl) (.int .i64 (-va)) (by rfl) (fun wz hSw => ?_) ?_
 ·go_simp
  first | done | exact nA | exact nB | exact nAB | simp [nA, nB, nAB] | (try with_reducible rfl)
 simp only [sIB, List.set]
 refine goX_read 40 hs (by rfl) (by rfl) (.int .i64 vb) (by rfl) (fun wz hSw => ?_) ?_
 ·go_simp
  try with_reducible rfl
 simp only [sIB, List.set]
 refine goX_read 41 hs (by rfl) (by rfl) (.int .i64 (-va * vb)) (by rfl) (fun wz hSw => ?_) ?_
 ·go_simp
  first | done | exact nA | exact nB | exact nAB | simp [nA, nB, nAB] | (try with_reducible rfl)
 simp only [sIB, List.set]
 refine goX_read 42 hs (by rfl) (by rfl) (.slice (some ⟨bp, op, none⟩) 4 cp) (by rfl) (fun wz hSw => ?_) ?_
 ·go_simp
  try with_reducible rfl
 simp only [sIB, List.set]
 refine goX_read 43 hs (by rfl) (by rfl) (.pointer (some ⟨bp, op + 6, none⟩)) (by rfl) (fun wz hSw => ?_) ?_
 ·go_simp
  try with_reducible rfl
 simp only [sIB, List.set]
 refine goX_read 44 hs (by rfl) (by rfl) (.agg #[.bool n3, .slice B3 m3 k3]) (by rfl) (fun wz hSw => ?_) ?_
 ·have e0 := keepB hSw p3; have e1 := keepB hSw u3; go_simp
  try with_reducible rfl
 simp only [sIB, List.set]
 refine goX_read 45 hs (by rfl) (by rfl) (.slice (some ⟨bq, oq, none⟩) 4 cq) (by rfl) (fun wz hSw => ?_) ?_
 ·go_simp
  try with_reducible rfl
 simp only [sIB, List.set]
 refine goX_read 46 hs (by rfl) (by rfl) (.pointer (some ⟨bq, oq + 6, none⟩)) (by rfl) (fun wz hSw => ?_) ?_
 ·go_simp
  try with_reducible rfl
 simp only [sIB, List.set]
 refine goX_read 47 hs (by rfl) (by rfl) (.agg #[.bool o3, .slice E3 r3 l3]) (by rfl) (fun wz hSw => ?_) ?_
 ·have e0 := keepB hSw q3; have e1 := keepB hSw vv3; go_simp
  try with_reducible rfl
 simp only [sIB, List.set]
 refine goX_read 48 hs (by rfl) (by rfl) (.agg #[.int .i64 (-va * vb), .bool n3, .slice B3 m3 k3, .bool o3, .slice E3 r3 l3]) (by rfl) (fun wz hSw => ?_) ?_
 ·go_simp
  try with_reducible rfl
 simp only [sIB, List.set]
 refine goX_read 51 hs (by rfl) (by rfl) (.slice (some ⟨bp, op, none⟩) 4 cp) (by rfl) (fun wz hSw => ?_) ?_
 ·go_simp
  try with_reducible rfl
 simp only [sIB, List.set]
 refine goX_read 52 hs (by rfl) (by rfl) (.pointer (some ⟨bp, op, none⟩)) (by rfl) (fun wz hSw => ?_) ?_
 ·go_simp
  try with_reducible rfl
 simp only [sIB, List.set]
 refine goX_read 53 hs (by rfl) (by rfl) (.agg #[.bool n0, .slice B0 m0 k0]) (by rfl) (fun wz hSw => ?_) ?_
 ·have e0 := keepB hSw p0; have e1 := keepB hSw u0; go_simp
  try with_reducible rfl
 simp only [sIB, List.set]
 refine goX_read 54 hs (by rfl) (by rfl) (.slice (some ⟨bq, oq, none⟩) 4 cq) (by rfl) (fun wz hSw => ?_) ?_
 ·go_simp
  try with_reducible rfl
 simp only [sIB, List.set]
 refine goX_read 55 hs (by rfl) (by rfl) (.pointer (some ⟨bq, oq + 2, none⟩)) (by rfl) (fun wz hSw => ?_) ?_
 ·go_simp
  try with_reducible rfl
 simp only [sIB, List.set]
 refine goX_read 56 hs (by rfl) (by rfl) (.agg #[.bool o1, .slice E1 r1 l1]) (by rfl) (fun wz hSw => ?_) ?_
 ·have e0 := keepB hSw q1; have e1 := keepB hSw vv1; go_simp
  try with_reducible rfl
 simp only [sIB, List.set]
 refine goX_read 57 hs (by rfl) (by rfl) (.agg #[.int .i64 1, .bool n0, .slice B0 m0 k0, .bool o1, .slice E1 r1 l1]) (by rfl) (fun wz hSw => ?_) ?_
 ·go_simp
  try with_reducible rfl
 simp only [sIB, List.set]
 refine goX_read 58 hs (by rfl) (by rfl) (.slice (some ⟨bp, op, none⟩) 4 cp) (by rfl) (fun wz hSw => ?_) ?_
 ·go_simp
  try with_reducible rfl
 simp only [sIB, List.set]
 refine goX_read 59 hs (by rfl) (by rfl) (.pointer (some ⟨bp, op + 2, none⟩)) (by rfl) (fun wz hSw => ?_) ?_
 ·go_simp
  try with_reducible rfl
 simp only [sIB, List.set]
 refine goX_read 60 hs (by rfl) (by rfl) (.agg #[.bool n1, .slice B1 m1 k1]) (by rfl) (fun wz hSw => ?_) ?_
 ·have e0 := keepB hSw p1; have e1 := keepB hSw u1; go_simp
  try with_reducible rfl
 simp only [sIB, List.set]
 refine goX_read 61 hs (by rfl) (by rfl) (.slice (some ⟨bq, oq, none⟩) 4 cq) (by rfl) (fun wz hSw => ?_) ?_
 ·go_simp
  try with_reducible rfl
 simp only [sIB, List.set]
 refine goX_read 62 hs (by rfl) (by rfl) (.pointer (some ⟨bq, oq, none⟩)) (by rfl) (fun wz hSw => ?_) ?_
 ·go_simp
  try with_reducible rfl
 simp only [sIB, List.set]
 refine goX_read 63 hs (by rfl) (by rfl) (.agg #[.bool o0, .slice E0 r0 l0]) (by rfl) (fun wz hSw => ?_) ?_
 ·have e0 := keepB hSw q0; have e1 := keepB hSw vv0; go_simp
  try with_reducible rfl
 simp only [sIB, List.set]
 refine goX_read 64 hs (by rfl) (by rfl) (.agg #[.int .i64 1, .bool n1, .slice B1 m1 k1, .bool o0, .slice E0 r0 l0]) (by rfl) (fun wz hSw => ?_) ?_
 ·go_simp
  try with_reducible rfl
 simp only [sIB, List.set]
 refine goX_read 65 hs (by rfl) (by rfl) (.int .i64 vb) (by rfl) (fun wz hSw => ?_) ?_
 ·go_simp
  try with_reducible rfl
 simp only [sIB, List.set]
 refine goX_read 66 hs (by rfl) (by rfl) (.int .i64 (-vb)) (by rfl) (fun wz hSw => ?_) ?_
 ·go_simp
  first | done | exact nA | exact nB | exact nAB | simp [nA, nB, nAB] | (try with_reducible rfl)
 simp only [sIB, List.set]
 refine goX_read 67 hs (by rfl) (by rfl) (.slice (some ⟨bp, op, none⟩) 4 cp) (by rfl) (fun wz hSw => ?_) ?_
 ·go_simp
  try with_reducible rfl
 simp only [sIB, List.set]
 refine goX_read 68 hs (by rfl) (by rfl) (.pointer (some ⟨bp, op + 4, none⟩)) (by rfl) (fun wz hSw => ?_) ?_
 ·go_simp
  try with_reducible rfl
 simp only [sIB, List.set]
 refine goX_read 69 hs (by rfl) (by rfl) (.agg #[.bool n2, .slice B2 m2 k2]) (by rfl) (fun wz hSw => ?_) ?_
 ·have e0 := keepB hSw p2; have e1 := keepB hSw u2; go_simp
  try with_reducible rfl
 simp only [sIB, List.set]
 refine goX_read 70 hs (by rfl) (by rfl) (.slice (some ⟨bq, oq, none⟩) 4 cq) (by rfl) (fun wz hSw => ?_) ?_
 ·go_simp
  try with_reducible rfl
 simp only [sIB, List.set]
 refine goX_read 71 hs (by rfl) (by rfl) (.pointer (some ⟨bq, oq + 6, none⟩)) (by rfl) (fun wz hSw => ?_) ?_
 ·go_simp
  try with_reducible rfl
 simp only [sIB, List.set]
 refine goX_read 72 hs (by rfl) (by rfl) (.agg #[.bool o3, .slice E3 r3 l3]) (by rfl) (fun wz hSw => ?_) ?_
 ·have e0 := keepB hSw q3; have e1 := keepB hSw vv3; go_simp
  try with_reducible rfl
 simp only [sIB, List.set]
 refine goX_read 73 hs (by rfl) (by rfl) (.agg #[.int .i64 (-vb), .bool n2, .slice B2 m2 k2, .bool o3, .slice E3 r3 l3]) (by rfl) (fun wz hSw => ?_) ?_
 ·go_simp
  try with_reducible rfl
 simp only [sIB, List.set]
 refine goX_read 74 hs (by rfl) (by rfl) (.int .i64 vb) (by rfl) (fun wz hSw => ?_) ?_
 ·go_simp
  try with_reducible rfl
 simp only [sIB, List.set]
 refine goX_read 75 hs (by rfl) (by rfl) (.slice (some ⟨bp, op, none⟩) 4 cp) (by rfl) (fun wz hSw => ?_) ?_
 ·go_simp
  try with_reducible rfl
 simp only [sIB, List.set]
 refine goX_read 76 hs (by rfl) (by rfl) (.pointer (some ⟨bp, op + 6, none⟩)) (by rfl) (fun wz hSw => ?_) ?_
 ·go_simp
  try with_reducible rfl
 simp only [sIB, List.set]
 refine goX_read 77 hs (by rfl) (by rfl) (.agg #[.bool n3, .slice B3 m3 k3]) (by rfl) (fun wz hSw => ?_) ?_
 ·have e0 := keepB hSw p3; have e1 := keepB hSw u3; go_simp
  try with_reducible rfl
 simp only [sIB, List.set]
 refine goX_read 78 hs (by rfl) (by rfl) (.slice (some ⟨bq, oq, none⟩) 4 cq) (by rfl) (fun wz hSw => ?_) ?_
 ·go_simp
  try with_reducible rfl
 simp only [sIB, List.set]
 refine goX_read 79 hs (by rfl) (by rfl) (.pointer (some ⟨bq, oq + 4, none⟩)) (by rfl) (fun wz hSw => ?_) ?_
 ·go_simp
  try with_reducible rfl
 simp only [sIB, List.set]
 refine goX_read 80 hs (by rfl) (by rfl) (.agg #[.bool o2, .slice E2 r2 l2]) (by rfl) (fun wz hSw => ?_) ?_
 ·have e0 := keepB hSw q2; have e1 := keepB hSw vv2; go_simp
  try with_reducible rfl
 simp only [sIB, List.set]
 refine goX_read 81 hs (by rfl) (by rfl) (.agg #[.int .i64 vb, .bool n3, .slice B3 m3 k3, .bool o2, .slice E2 r2 l2]) (by rfl) (fun wz hSw => ?_) ?_
 ·go_simp
  try with_reducible rfl
 simp only [sIB, List.set]
 refine goX_read 84 hs (by rfl) (by rfl) (.slice (some ⟨bp, op, none⟩) 4 cp) (by rfl) (fun wz hSw => ?_) ?_
 ·go_simp
  try with_reducible rfl
 simp only [sIB, List.set]
 refine goX_read 85 hs (by rfl) (by rfl) (.pointer (some ⟨bp, op, none⟩)) (by rfl) (fun wz hSw => ?_) ?_
 ·go_simp
  try with_reducible rfl
 simp only [sIB, List.set]
 refine goX_read 86 hs (by rfl) (by rfl) (.agg #[.bool n0, .slice B0 m0 k0]) (by rfl) (fun wz hSw => ?_) ?_
 ·have e0 := keepB hSw p0; have e1 := keepB hSw u0; go_simp
  try with_reducible rfl
 simp only [sIB, List.set]
 refine goX_read 87 hs (by rfl) (by rfl) (.slice (some ⟨bq, oq, none⟩) 4 cq) (by rfl) (fun wz hSw => ?_) ?_
 ·go_simp
  try with_reducible rfl
 simp only [sIB, List.set]
 refine goX_read 88 hs (by rfl) (by rfl) (.pointer (some ⟨bq, oq + 4, none⟩)) (by rfl) (fun wz hSw => ?_) ?_
 ·go_simp
  try with_reducible rfl
 simp only [sIB, List.set]
 refine goX_read 89 hs (by rfl) (by rfl) (.agg #[.bool o2, .slice E2 r2 l2]) (by rfl) (fun wz hSw => ?_) ?_
 ·have e0 := keepB hSw q2; have e1 := keepB hSw vv2; go_simp
  try with_reducible rfl
 simp only [sIB, List.set]
 refine goX_read 90 hs (by rfl) (by rfl) (.agg #[.int .i64 1, .bool n0, .slice B0 m0 k0, .bool o2, .slice E2 r2 l2]) (by rfl) (fun wz hSw => ?_) ?_
 ·go_simp
  try with_reducible rfl
 simp only [sIB, List.set]
 refine goX_read 91 hs (by rfl) (by rfl) (.slice (some ⟨bp, op, none⟩) 4 cp) (by rfl) (fun wz hSw => ?_) ?_
 ·go_simp
  try with_reducible rfl
 simp only [sIB, List.set]
 refine goX_read 92 hs (by rfl) (by rfl) (.pointer (some ⟨bp, op + 4, none⟩)) (by rfl) (fun wz hSw => ?_) ?_
 ·go_simp
  try with_reducible rfl
 simp only [sIB, List.set]
 refine goX_read 93 hs (by rfl) (by rfl) (.agg #[.bool n2, .slice B2 m2 k2]) (by rfl) (fun wz hSw => ?_) ?_
 ·have e0 := keepB hSw p2; have e1 := keepB hSw u2; go_simp
  try with_reducible rfl
 simp only [sIB, List.set]
 refine goX_read 94 hs (by rfl) (by rfl) (.slice (some ⟨bq, oq, none⟩) 4 cq) (by rfl) (fun wz hSw => ?_) ?_
 ·go_simp
  try with_reducible rfl
 simp only [sIB, List.set]
 refine goX_read 95 hs (by rfl) (by rfl) (.pointer (some ⟨bq, oq, none⟩)) (by rfl) (fun wz hSw => ?_) ?_
 ·go_simp
  try with_reducible rfl
 simp only [sIB, List.set]
 refine goX_read 96 hs (by rfl) (by rfl) (.agg #[.bool o0, .slice E0 r0 l0]) (by rfl) (fun wz hSw => ?_) ?_
 ·have e0 := keepB hSw q0; have e1 := keepB hSw vv0; go_simp
  try with_reducible rfl
 simp only [sIB, List.set]
 refine goX_read 97 hs (by rfl) (by rfl) (.agg #[.int .i64 1, .bool n2, .slice B2 m2 k2, .bool o0, .slice E0 r0 l0]) (by rfl) (fun wz hSw => ?_) ?_
 ·go_simp
  try with_reducible rfl
 simp only [sIB, List.set]
 refine goX_read 98 hs (by rfl) (by rfl) (.int .i64 va) (by rfl) (fun wz hSw => ?_) ?_
 ·go_simp
  try with_reducible rfl
 simp only [sIB, List.set]
 refine goX_read 99 hs (by rfl) (by rfl) (.slice (some ⟨bp, op, none⟩) 4 cp) (by rfl) (fun wz hSw => ?_) ?_
 ·go_simp
  try with_reducible rfl
 simp only [sIB, List.set]
 refine goX_read 100 hs (by rfl) (by rfl) (.pointer (some ⟨bp, op + 2, none⟩)) (by rfl) (fun wz hSw => ?_) ?_
 ·go_simp
  try with_reducible rfl
 simp only [sIB, List.set]
 refine goX_read 101 hs (by rfl) (by rfl) (.agg #[.bool n1, .slice B1 m1 k1]) (by rfl) (fun wz hSw => ?_) ?_
 ·have e0 := keepB hSw p1; have e1 := keepB hSw u1; go_simp
  try with_reducible rfl
 simp only [sIB, List.set]
 refine goX_read 102 hs (by rfl) (by rfl) (.slice (some ⟨bq, oq, none⟩) 4 cq) (by rfl) (fun wz hSw => ?_) ?_
 ·go_simp
  try with_reducible rfl
 simp only [sIB, List.set]
 refine goX_read 103 hs (by rfl) (by rfl) (.pointer (some ⟨bq, oq + 6, none⟩)) (by rfl) (fun wz hSw => ?_) ?_
 ·go_simp
  try with_reducible rfl
 simp only [sIB, List.set]
 refine goX_read 104 hs (by rfl) (by rfl) (.agg #[.bool o3, .slice E3 r3 l3]) (by rfl) (fun wz hSw => ?_) ?_
 ·have e0 := keepB hSw q3; have e1 := keepB hSw vv3; go_simp
  try with_reducible rfl
 simp only [sIB, List.set]
 refine goX_read 105 hs (by rfl) (by rfl) (.agg #[.int .i64 va, .bool n1, .slice B1 m1 k1, .bool o3, .slice E3 r3 l3]) (by rfl) (fun wz hSw => ?_) ?_
 ·go_simp
  try with_reducible rfl
 simp only [sIB, List.set]
 refine goX_read 106 hs (by rfl) (by rfl) (.int .i64 va) (by rfl) (fun wz hSw => ?_) ?_
 ·go_simp
  try with_reducible rfl
 simp only [sIB, List.set]
 refine goX_read 107 hs (by rfl) (by rfl) (.int .i64 (-va)) (by rfl) (fun wz hSw => ?_) ?_
 ·go_simp
  first | done | exact nA | exact nB | exact nAB | simp [nA, nB, nAB] | (try with_reducible rfl)
 simp only [sIB, List.set]
 refine goX_read 108 hs (by rfl) (by rfl) (.slice (some ⟨bp, op, none⟩) 4 cp) (by rfl) (fun wz hSw => ?_) ?_
 ·go_simp
  try with_reducible rfl
 simp only [sIB, List.set]
 refine goX_read 109 hs (by rfl) (by rfl) (.pointer (some ⟨bp, op + 6, none⟩)) (by rfl) (fun wz hSw => ?_) ?_
 ·go_simp
  try with_reducible rfl
 simp only [sIB, List.set]
 refine goX_read 110 hs (by rfl) (by rfl) (.agg #[.bool n3, .slice B3 m3 k3]) (by rfl) (fun wz hSw => ?_) ?_
 ·have e0 := keepB hSw p3; have e1 := keepB hSw u3; go_simp
  try with_reducible rfl
 simp only [sIB, List.set]
 refine goX_read 111 hs (by rfl) (by rfl) (.slice (some ⟨bq, oq, none⟩) 4 cq) (by rfl) (fun wz hSw => ?_) ?_
 ·go_simp
  try with_reducible rfl
 simp only [sIB, List.set]
 refine goX_read 112 hs (by rfl) (by rfl) (.pointer (some ⟨bq, oq + 2, none⟩)) (by rfl) (fun wz hSw => ?_) ?_
 ·go_simp
  try with_reducible rfl
 simp only [sIB, List.set]
 refine goX_read 113 hs (by rfl) (by rfl) (.agg #[.bool o1, .slice E1 r1 l1]) (by rfl) (fun wz hSw => ?_) ?_
 ·have e0 := keepB hSw q1; have e1 := keepB hSw vv1; go_simp
  try with_reducible rfl
 simp only [sIB, List.set]
 refine goX_read 114 hs (by rfl) (by rfl) (.agg #[.int .i64 (-va), .bool n3, .slice B3 m3 k3, .bool o1, .slice E1 r1 l1]) (by rfl) (fun wz hSw => ?_) ?_
 ·go_simp
  try with_reducible rfl
 simp only [sIB, List.set]
 refine goX_read 117 hs (by rfl) (by rfl) (.slice (some ⟨bp, op, none⟩) 4 cp) (by rfl) (fun wz hSw => ?_) ?_
 ·go_simp
  try with_reducible rfl
 simp only [sIB, List.set]
 refine goX_read 118 hs (by rfl) (by rfl) (.pointer (some ⟨bp, op, none⟩)) (by rfl) (fun wz hSw => ?_) ?_
 ·go_simp
  try with_reducible rfl
 simp only [sIB, List.set]
 refine goX_read 119 hs (by rfl) (by rfl) (.agg #[.bool n0, .slice B0 m0 k0]) (by rfl) (fun wz hSw => ?_) ?_
 ·have e0 := keepB hSw p0; have e1 := keepB hSw u0; go_simp
  try with_reducible rfl
 simp only [sIB, List.set]
 refine goX_read 120 hs (by rfl) (by rfl) (.slice (some ⟨bq, oq, none⟩) 4 cq) (by rfl) (fun wz hSw => ?_) ?_
 ·go_simp
  try with_reducible rfl
 simp only [sIB, List.set]
 refine goX_read 121 hs (by rfl) (by rfl) (.pointer (some ⟨bq, oq + 6, none⟩)) (by rfl) (fun wz hSw => ?_) ?_
 ·go_simp
  try with_reducible rfl
 simp only [sIB, List.set]
 refine goX_read 122 hs (by rfl) (by rfl) (.agg #[.bool o3, .slice E3 r3 l3]) (by rfl) (fun wz hSw => ?_) ?_
 ·have e0 := keepB hSw q3; have e1 := keepB hSw vv3; go_simp
  try with_reducible rfl
 simp only [sIB, List.set]
 refine goX_read 123 hs (by rfl) (by rfl) (.agg #[.int .i64 1, .bool n0, .slice B0 m0 k0, .bool o3, .slice E3 r3 l3]) (by rfl) (fun wz hSw => ?_) ?_
 ·go_simp
  try with_reducible rfl
 simp only [sIB, List.set]
 refine goX_read 124 hs (by rfl) (by rfl) (.slice (some ⟨bp, op, none⟩) 4 cp) (by rfl) (fun wz hSw => ?_) ?_
 ·go_simp
  try with_reducible rfl
 simp only [sIB, List.set]
 refine goX_read 125 hs (by rfl) (by rfl) (.pointer (some ⟨bp, op + 6, none⟩)) (by rfl) (fun wz hSw => ?_) ?_
 ·go_simp
  try with_reducible rfl
 simp only [sIB, List.set]
 refine goX_read 126 hs (by rfl) (by rfl) (.agg #[.bool n3, .slice B3 m3 k3]) (by rfl) (fun wz hSw => ?_) ?_
 ·have e0 := keepB hSw p3; have e1 := keepB hSw u3; go_simp
  try with_reducible rfl
 simp only [sIB, List.set]
 refine goX_read 127 hs (by rfl) (by rfl) (.slice (some ⟨bq, oq, none⟩) 4 cq) (by rfl) (fun wz hSw => ?_) ?_
 ·go_simp
  try with_reducible rfl
 simp only [sIB, List.set]
 refine goX_read 128 hs (by rfl) (by rfl) (.pointer (some ⟨bq, oq, none⟩)) (by rfl) (fun wz hSw => ?_) ?_
 ·go_simp
  try with_reducible rfl
 simp only [sIB, List.set]
 refine goX_read 129 hs (by rfl) (by rfl) (.agg #[.bool o0, .slice E0 r0 l0]) (by rfl) (fun wz hSw => ?_) ?_
 ·have e0 := keepB hSw q0; have e1 := keepB hSw vv0; go_simp
  try with_reducible rfl
 simp only [sIB, List.set]
 refine goX_read 130 hs (by rfl) (by rfl) (.agg #[.int .i64 1, .bool n3, .slice B3 m3 k3, .bool o0, .slice E0 r0 l0]) (by rfl) (fun wz hSw => ?_) ?_
 ·go_simp
  try with_reducible rfl
 simp only [sIB, List.set]
 refine goX_read 131 hs (by rfl) (by rfl) (.slice (some ⟨bp, op, none⟩) 4 cp) (by rfl) (fun wz hSw => ?_) ?_
 ·go_simp
  try with_reducible rfl
 simp only [sIB, List.set]
 refine goX_read 132 hs (by rfl) (by rfl) (.pointer (some ⟨bp, op + 2, none⟩)) (by rfl) (fun wz hSw => ?_) ?_
 ·go_simp
  try with_reducible rfl
 simp only [sIB, List.set]
 refine goX_read 133 hs (by rfl) (by rfl) (.agg #[.bool n1, .slice B1 m1 k1]) (by rfl) (fun wz hSw => ?_) ?_
 ·have e0 := keepB hSw p1; have e1 := keepB hSw u1; go_simp
  try with_reducible rfl
 simp only [sIB, List.set]
 refine goX_read 134 hs (by rfl) (by rfl) (.slice (some ⟨bq, oq, none⟩) 4 cq) (by rfl) (fun wz hSw => ?_) ?_
 ·go_simp
  try with_reducible rfl
 simp only [sIB, List.set]
 refine goX_read 135 hs (by rfl) (by rfl) (.pointer (some ⟨bq, oq + 4, none⟩)) (by rfl) (fun wz hSw => ?_) ?_
 ·go_simp
  try with_reducible rfl
 simp only [sIB, List.set]
 refine goX_read 136 hs (by rfl) (by rfl) (.agg #[.bool o2, .slice E2 r2 l2]) (by rfl) (fun wz hSw => ?_) ?_
 ·have e0 := keepB hSw q2; have e1 := keepB hSw vv2; go_simp
  try with_reducible rfl
 simp only [sIB, List.set]
 refine goX_read 137 hs (by rfl) (by rfl) (.agg #[.int .i64 1, .bool n1, .slice B1 m1 k1, .bool o2, .slice E2 r2 l2]) (by rfl) (fun wz hSw => ?_) ?_
 ·go_simp
  try with_reducible rfl
 simp only [sIB, List.set]
 refine goX_read 138 hs (by rfl) (by rfl) (.slice (some ⟨bp, op, none⟩) 4 cp) (by rfl) (fun wz hSw => ?_) ?_
 ·go_simp
  try with_reducible rfl
 simp only [sIB, List.set]
 refine goX_read 139 hs (by rfl) (by rfl) (.pointer (some ⟨bp, op + 4, none⟩)) (by rfl) (fun wz hSw => ?_) ?_
 ·go_simp
  try with_reducible rfl
 simp only [sIB, List.set]
 refine goX_read 140 hs (by rfl) (by rfl) (.agg #[.bool n2, .slice B2 m2 k2]) (by rfl) (fun wz hSw => ?_) ?_
 ·have e0 := keepB hSw p2; have e1 := keepB hSw u2; go_simp
  try with_reducible rfl
 simp only [sIB, List.set]
 refine goX_read 141 hs (by rfl) (by rfl) (.slice (some ⟨bq, oq, none⟩) 4 cq) (by rfl) (fun wz hSw => ?_) ?_
 ·go_simp
  try with_reducible rfl
 simp only [sIB, List.set]
 refine goX_read 142 hs (by rfl) (by rfl) (.pointer (some ⟨bq, oq + 2, none⟩)) (by rfl) (fun wz hSw => ?_) ?_
 ·go_simp
  try with_reducible rfl
 simp only [sIB, List.set]
 refine goX_read 143 hs (by rfl) (by rfl) (.agg #[.bool o1, .slice E1 r1 l1]) (by rfl) (fun wz hSw => ?_) ?_
 ·have e0 := keepB hSw q1; have e1 := keepB hSw vv1; go_simp
  try with_reducible rfl
 simp only [sIB, List.set]
 refine goX_read 144 hs (by rfl) (by rfl) (.agg #[.int .i64 (-1), .bool n2, .slice B2 m2 k2, .bool o1, .slice E1 r1 l1]) (by rfl) (fun wz hSw => ?_) ?_
 ·go_simp
  try with_reducible rfl
 simp only [sIB, List.set]
 refine (fun (key : ∀ O, O = _ → goX _ O _ _ _ _ _ _) => key _ rfl) ?_
 intro O hO
 have ho34 := opAt hO 34 rfl
 simp only [List.getElem_toArray] at ho34
 have HO34 := Lib.hid ho34
 clear ho34
 have ho35 := opAt hO 35 rfl
 simp only [List.getElem_toArray] at ho35
 have HO35 := Lib.hid ho35
 clear ho35
 have ho67 := opAt hO 67 rfl
 simp only [List.getElem_toArray] at ho67
 have HO67 := Lib.hid ho67
 clear ho67
 have ho68 := opAt hO 68 rfl
 simp only [List.getElem_toArray] at ho68
 have HO68 := Lib.hid ho68
 clear ho68
 have ho100 := opAt hO 100 rfl
 simp only [List.getElem_toArray] at ho100
 have HO100 := Lib.hid ho100
 clear ho100
 have ho101 := opAt hO 101 rfl
 simp only [List.getElem_toArray] at ho101
 have HO101 := Lib.hid ho101
 clear ho101
 have ho130 := opAt hO 130 rfl
 simp only [List.getElem_toArray] at ho130
 have HO130 := Lib.hid ho130
 clear ho130
 have ho131 := opAt hO 131 rfl
 simp only [List.getElem_toArray] at ho131
 have HO131 := Lib.hid ho131
 clear ho131
 have ho132 := opAt hO 132 rfl
 simp only [List.getElem_toArray] at ho132
 have HO132 := Lib.hid ho132
 clear ho132
 have ho133 := opAt hO 133 rfl
 simp only [List.getElem_toArray] at ho133
 have HO133 := Lib.hid ho133
 clear ho133
 clear hO
 clear p0 u0 q0 vv0 p1 u1 q1 vv1 p2 u2 q2 vv2 p3 u3 q3 vv3
 obtain ⟨F, hF⟩ : ∃ F : Value → Value → Value → Value → Value → Value → Value → Value → Act, F = fun s49 s50 s82 s83 s115 s116 s145 s146 => ⟨#[.agg #[.int .i64 va, .int .i64 vb, .slice AM qM cM], .slice (some ⟨bp, op, none⟩) 4 cp, .slice (some ⟨bq, oq, none⟩) 4 cq, .pointer (some ⟨S, 0, none⟩), undef, undef, .slice none 0 0, .int .i64 va, .int .i64 vb, .pointer (some ⟨S, 0, none⟩), .pointer (some ⟨S, 0, none⟩), .int .i64 va, .pointer (some ⟨S, 0, none⟩), .pointer (some ⟨S, 1, none⟩), .int .i64 vb, .slice (some ⟨bp, op, none⟩) 4 cp, .pointer (some ⟨bp, op, none⟩), .agg #[.bool n0, .slice B0 m0 k0], .slice (some ⟨bq, oq, none⟩) 4 cq, .pointer (some ⟨bq, oq, none⟩), .agg #[.bool o0, .slice E0 r0 l0], .agg #[.int .i64 1, .bool n0, .slice B0 m0 k0, .bool o0, .slice E0 r0 l0], .int .i64 va, .slice (some ⟨bp, op, none⟩) 4 cp, .pointer (some ⟨bp, op + 2, none⟩), .agg #[.bool n1, .slice B1 m1 k1], .slice (some ⟨bq, oq, none⟩) 4 cq, .pointer (some ⟨bq, oq + 2, none⟩), .agg #[.bool o1, .slice E1 r1 l1], .agg #[.int .i64 va, .bool n1, .slice B1 m1 k1, .bool o1, .slice E1 r1 l1], .int .i64 vb, .slice (some ⟨bp, op, none⟩) 4 cp, .pointer (some ⟨bp, op + 4, none⟩), .agg #[.bool n2, .slice B2 m2 k2], .slice (some ⟨bq, oq, none⟩) 4 cq, .pointer (some ⟨bq, oq + 4, none⟩), .agg #[.bool o2, .slice E2 r2 l2], .agg #[.int .i64 vb, .bool n2, .slice B2 m2 k2, .bool o2, .slice E2 r2 l2], .int .i64 va, .int .i64 (-va), .int .i64 vb, .int .i64 (-va * vb), .slice (some ⟨bp, op, none⟩) 4 cp, .pointer (some ⟨bp, op + 6, none⟩), .agg #[.bool n3, .slice B3 m3 k3], .slice (some ⟨bq, oq, none⟩) 4 cq, .pointer (some ⟨bq, oq + 6, none⟩), .agg #[.bool o3, .slice E3 r3 l3], .agg #[.int .i64 (-va * vb), .bool n3, .slice B3 m3 k3, .bool o3, .slice E3 r3 l3], s49, s50, .slice (some ⟨bp, op, none⟩) 4 cp, .pointer (some ⟨bp, op, none⟩), .agg #[.bool n0, .slice B0 m0 k0], .slice (some ⟨bq, oq, none⟩) 4 cq, .pointer (some ⟨bq, oq + 2, none⟩), .agg #[.bool o1, .slice E1 r1 l1], .agg #[.int .i64 1, .bool n0, .slice B0 m0 k0, .bool o1, .slice E1 r1 l1], .slice (some ⟨bp, op, none⟩) 4 cp, .pointer (some ⟨bp, op + 2, none⟩), .agg #[.bool n1, .slice B1 m1 k1], .slice (some ⟨bq, oq, none⟩) 4 cq, .pointer (some ⟨bq, oq, none⟩), .agg #[.bool o0, .slice E0 r0 l0], .agg #[.int .i64 1, .bool n1, .slice B1 m1 k1, .bool o0, .slice E0 r0 l0], .int .i64 vb, .int .i64 (-vb), .slice (some ⟨bp, op, none⟩) 4 cp, .pointer (some ⟨bp, op + 4, none⟩), .agg #[.bool n2, .slice B2 m2 k2], .slice (some ⟨bq, oq, none⟩) 4 cq, .pointer (some ⟨bq, oq + 6, none⟩), .agg #[.bool o3, .slice E3 r3 l3], .agg #[.int .i64 (-vb), .bool n2, .slice B2 m2 k2, .bool o3, .slice E3 r3 l3], .int .i64 vb, .slice (some ⟨bp, op, none⟩) 4 cp, .pointer (some ⟨bp, op + 6, none⟩), .agg #[.bool n3, .slice B3 m3 k3], .slice (some ⟨bq, oq, none⟩) 4 cq, .pointer (some ⟨bq, oq + 4, none⟩), .agg #[.bool o2, .slice E2 r2 l2], .agg #[.int .i64 vb, .bool n3, .slice B3 m3 k3, .bool o2, .slice E2 r2 l2], s82, s83, .slice (some ⟨bp, op, none⟩) 4 cp, .pointer (some ⟨bp, op, none⟩), .agg #[.bool n0, .slice B0 m0 k0], .slice (some ⟨bq, oq, none⟩) 4 cq, .pointer (some ⟨bq, oq + 4, none⟩), .agg #[.bool o2, .slice E2 r2 l2], .agg #[.int .i64 1, .bool n0, .slice B0 m0 k0, .bool o2, .slice E2 r2 l2], .slice (some ⟨bp, op, none⟩) 4 cp, .pointer (some ⟨bp, op + 4, none⟩), .agg #[.bool n2, .slice B2 m2 k2], .slice (some ⟨bq, oq, none⟩) 4 cq, .pointer (some ⟨bq, oq, none⟩), .agg #[.bool o0, .slice E0 r0 l0], .agg #[.int .i64 1, .bool n2, .slice B2 m2 k2, .bool o0, .slice E0 r0 l0], .int .i64 va, .slice (some ⟨bp, op, none⟩) 4 cp, .pointer (some ⟨bp, op + 2, none⟩), .agg #[.bool n1, .slice B1 m1 k1], .slice (some ⟨bq, oq, none⟩) 4 cq, .pointer (some ⟨bq, oq + 6, none⟩), .agg #[.bool o3, .slice E3 r3 l3], .agg #[.int .i64 va, .bool n1, .slice B1 m1 k1, .bool o3, .slice E3 r3 l3], .int .i64 va, .int .i64 (-va), .slice (some ⟨bp, op, none⟩) 4 cp, .pointer (some ⟨bp, op + 6, none⟩), .agg #[.bool n3, .slice B3 m3 k3], .slice (some ⟨bq, oq, none⟩) 4 cq, .pointer (some ⟨bq, oq + 2, none⟩), .agg #[.bool o1, .slice E1 r1 l1], .agg #[.int .i64 (-va), .bool n3, .slice B3 m3 k3, .bool o1, .slice E1 r1 l1], s115, s116, .slice (some ⟨bp, op, none⟩) 4 cp, .pointer (some ⟨bp, op, none⟩), .agg #[.bool n0, .slice B0 m0 k0], .slice (some ⟨bq, oq, none⟩) 4 cq, .pointer (some ⟨bq, oq + 6, none⟩), .agg #[.bool o3, .slice E3 r3 l3], .agg #[.int .i64 1, .bool n0, .slice B0 m0 k0, .bool o3, .slice E3 r3 l3], .slice (some ⟨bp, op, none⟩) 4 cp, .pointer (some ⟨bp, op + 6, none⟩), .agg #[.bool n3, .slice B3 m3 k3], .slice (some ⟨bq, oq, none⟩) 4 cq, .pointer (some ⟨bq, oq, none⟩), .agg #[.bool o0, .slice E0 r0 l0], .agg #[.int .i64 1, .bool n3, .slice B3 m3 k3, .bool o0, .slice E0 r0 l0], .slice (some ⟨bp, op, none⟩) 4 cp, .pointer (some ⟨bp, op + 2, none⟩), .agg #[.bool n1, .slice B1 m1 k1], .slice (some ⟨bq, oq, none⟩) 4 cq, .pointer (some ⟨bq, oq + 4, none⟩), .agg #[.bool o2, .slice E2 r2 l2], .agg #[.int .i64 1, .bool n1, .slice B1 m1 k1, .bool o2, .slice E2 r2 l2], .slice (some ⟨bp, op, none⟩) 4 cp, .pointer (some ⟨bp, op + 4, none⟩), .agg #[.bool n2, .slice B2 m2 k2], .slice (some ⟨bq, oq, none⟩) 4 cq, .pointer (some ⟨bq, oq + 2, none⟩), .agg #[.bool o1, .slice E1 r1 l1], .agg #[.int .i64 (-1), .bool n2, .slice B2 m2 k2, .bool o1, .slice E1 r1 l1], s145, s146, undef], []⟩ := ⟨_, rfl⟩
 have HF := Lib.hid hF
 clear hF
 have HB0 : Hid (∀ (go : Act → World → Prop) (V : World) (s49 s50 s82 s83 s115 s116 s145 s146 : Value), Below w.heap.size w V → (∀ V2 g, Below V.heap.size V V2 → TmB V2 g (tmT0 va vb p q) → go (F (.slice (some ⟨g, 0, none⟩) 4 4) s50 s82 s83 s115 s116 s145 s146) V2) → goB Tryz.prog O (onlyN Q) [] (fun V => Below w.heap.size w V) 34 go (F s49 s50 s82 s83 s115 s116 s145 s146) V) := Lib.hid (by
  intro go V s49 s50 s82 s83 s115 s116 s145 s146 hs hgo
  have HG := Lib.hid hgo
  clear hgo
  simp only [HF.out] at HG ⊢
  refine goX_step HO34.out ?_
  go_wp2_with fail
  obtain ⟨V2, hV2⟩ : ∃ U, U = V.alloc (.cells #[.int .i64 1, .bool n0, .slice B0 m0 k0, .bool o0, .slice E0 r0 l0, .int .i64 va, .bool n1, .slice B1 m1 k1, .bool o1, .slice E1 r1 l1, .int .i64 vb, .bool n2, .slice B2 m2 k2, .bool o2, .slice E2 r2 l2, .int .i64 (-va * vb), .bool n3, .slice B3 m3 k3, .bool o3, .slice E3 r3 l3] 252) := ⟨_, rfl⟩
  obtain ⟨G, hG⟩ : ∃ B, B = V.heap.size := ⟨_, rfl⟩
  have hA : Arr V2 G 252 [.int .i64 1, .bool n0, .slice B0 m0 k0, .bool o0, .slice E0 r0 l0, .int .i64 va, .bool n1, .slice B1 m1 k1, .bool o1, .slice E1 r1 l1, .int .i64 vb, .bool n2, .slice B2 m2 k2, .bool o2, .slice E2 r2 l2, .int .i64 (-va * vb), .bool n3, .slice B3 m3 k3, .bool o3, .slice E3 r3 l3] := by rw [hV2, hG]; exact Arr.new V _ [.int .i64 1, .bool n0, .slice B0 m0 k0, .bool o0, .slice E0 r0 l0, .int .i64 va, .bool n1, .slice B1 m1 k1, .bool o1, .slice E1 r1 l1, .int .i64 vb, .bool n2, .slice B2 m2 k2, .bool o2, .slice E2 r2 l2, .int .i64 (-va * vb), .bool n3, .slice B3 m3 k3, .bool o3, .slice E3 r3 l3]
  have hb : Below V.heap.size V V2 := by rw [hV2]; exact (Below.refl _ _).alloc (Nat.le_refl _) _
  rw [← hV2, ← hG]
  have hb2 := hs.trans (hb.mono hs.size)
  first | refine ⟨fun _ => hb2, ?_⟩ | refine ⟨hb2, ?_⟩ | skip
  exact HG.out V2 G hb (TmB.four hA (X0.out.below hb2) (Y0.out.below hb2) (X1.out.below hb2) (Y1.out.below hb2) (X2.out.below hb2) (Y2.out.below hb2) (X3.out.below hb2) (Y3.out.below hb2)))
 have HC0 : Hid (∀ (go : Act → World → Prop) (V : World) (G : Nat) (s50 s82 s83 s115 s116 s145 s146 : Value), Below w.heap.size w V → TmB V G (tmT0 va vb p q) → (∀ V2 z, Below V.heap.size V V2 → NIntV V2 (w.heap.size ≤ ·) z (smT (tmT0 va vb p q) 4) → go (F (.slice (some ⟨G, 0, none⟩) 4 4) z s82 s83 s115 s116 s145 s146) V2) → goB Tryz.prog O (onlyN Q) [] (fun V => Below w.heap.size w V) 35 go (F (.slice (some ⟨G, 0, none⟩) 4 4) s50 s82 s83 s115 s116 s145 s146) V) := Lib.hid (by
  intro go V G s50 s82 s83 s115 s116 s145 s146 hs hT hgo
  have HG := Lib.hid hgo
  clear hgo
  simp only [HF.out] at HG ⊢
  refine goX_call 50 HO35.out (by rfl) (by rfl) (by go_simp) (sum_any (c := 4) (n := 4) (by rfl) (by decide) hT HS0.out) ?_
  rintro e V2 ⟨z, rfl, hz, hb⟩
  refine ⟨_, rfl, fun _ => hs.trans (hb.mono hs.size), ?_⟩
  simp only [sIB, List.set]
  exact HG.out V2 z hb (hz.mono fun b (hx : _ ≤ b) _ => Nat.le_trans hs.size hx))
 have HB1 : Hid (∀ (go : Act → World → Prop) (V : World) (s49 s50 s82 s83 s115 s116 s145 s146 : Value), Below w.heap.size w V → (∀ V2 g, Below V.heap.size V V2 → TmB V2 g (tmT1 va vb p q) → go (F s49 s50 (.slice (some ⟨g, 0, none⟩) 4 4) s83 s115 s116 s145 s146) V2) → goB Tryz.prog O (onlyN Q) [] (fun V => Below w.heap.size w V) 67 go (F s49 s50 s82 s83 s115 s116 s145 s146) V) := Lib.hid (by
  intro go V s49 s50 s82 s83 s115 s116 s145 s146 hs hgo
  have HG := Lib.hid hgo
  clear hgo
  simp only [HF.out] at HG ⊢
  refine goX_step HO67.out ?_
  go_wp2_with fail
  obtain ⟨V2, hV2⟩ : ∃ U, U = V.alloc (.cells #[.int .i64 1, .bool n0, .slice B0 m0 k0, .bool o1, .slice E1 r1 l1, .int .i64 1, .bool n1, .slice B1 m1 k1, .bool o0, .slice E0 r0 l0, .int .i64 (-vb), .bool n2, .slice B2 m2 k2, .bool o3, .slice E3 r3 l3, .int .i64 vb, .bool n3, .slice B3 m3 k3, .bool o2, .slice E2 r2 l2] 252) := ⟨_, rfl⟩
  obtain ⟨G, hG⟩ : ∃ B, B = V.heap.size := ⟨_, rfl⟩
  have hA : Arr V2 G 252 [.int .i64 1, .bool n0, .slice B0 m0 k0, .bool o1, .slice E1 r1 l1, .int .i64 1, .bool n1, .slice B1 m1 k1, .bool o0, .slice E0 r0 l0, .int .i64 (-vb), .bool n2, .slice B2 m2 k2, .bool o3, .slice E3 r3 l3, .int .i64 vb, .bool n3, .slice B3 m3 k3, .bool o2, .slice E2 r2 l2] := by rw [hV2, hG]; exact Arr.new V _ [.int .i64 1, .bool n0, .slice B0 m0 k0, .bool o1, .slice E1 r1 l1, .int .i64 1, .bool n1, .slice B1 m1 k1, .bool o0, .slice E0 r0 l0, .int .i64 (-vb), .bool n2, .slice B2 m2 k2, .bool o3, .slice E3 r3 l3, .int .i64 vb, .bool n3, .slice B3 m3 k3, .bool o2, .slice E2 r2 l2]
  have hb : Below V.heap.size V V2 := by rw [hV2]; exact (Below.refl _ _).alloc (Nat.le_refl _) _
  rw [← hV2, ← hG]
  have hb2 := hs.trans (hb.mono hs.size)
  first | refine ⟨fun _ => hb2, ?_⟩ | refine ⟨hb2, ?_⟩ | skip
  exact HG.out V2 G hb (TmB.four hA (X0.out.below hb2) (Y1.out.below hb2) (X1.out.below hb2) (Y0.out.below hb2) (X2.out.below hb2) (Y3.out.below hb2) (X3.out.below hb2) (Y2.out.below hb2)))
 have HC1 : Hid (∀ (go : Act → World → Prop) (V : World) (G : Nat) (s49 s50 s83 s115 s116 s145 s146 : Value), Below w.heap.size w V → TmB V G (tmT1 va vb p q) → (∀ V2 z, Below V.heap.size V V2 → NIntV V2 (w.heap.size ≤ ·) z (smT (tmT1 va vb p q) 4) → go (F s49 s50 (.slice (some ⟨G, 0, none⟩) 4 4) z s115 s116 s145 s146) V2) → goB Tryz.prog O (onlyN Q) [] (fun V => Below w.heap.size w V) 68 go (F s49 s50 (.slice (some ⟨G, 0, none⟩) 4 4) s83 s115 s116 s145 s146) V) := Lib.hid (by
  intro go V G s49 s50 s83 s115 s116 s145 s146 hs hT hgo
  have HG := Lib.hid hgo
  clear hgo
  simp only [HF.out] at HG ⊢
  refine goX_call 83 HO68.out (by rfl) (by rfl) (by go_simp) (sum_any (c := 4) (n := 4) (by rfl) (by decide) hT HS1.out) ?_
  rintro e V2 ⟨z, rfl, hz, hb⟩
  refine ⟨_, rfl, fun _ => hs.trans (hb.mono hs.size), ?_⟩
  simp only [sIB, List.set]
  exact HG.out V2 z hb (hz.mono fun b (hx : _ ≤ b) _ => Nat.le_trans hs.size hx))
 have HB2 : Hid (∀ (go : Act → World → Prop) (V : World) (s49 s50 s82 s83 s115 s116 s145 s146 : Value), Below w.heap.size w V → (∀ V2 g, Below V.heap.size V V2 → TmB V2 g (tmT2 va vb p q) → go (F s49 s50 s82 s83 (.slice (some ⟨g, 0, none⟩) 4 4) s116 s145 s146) V2) → goB Tryz.prog O (onlyN Q) [] (fun V => Below w.heap.size w V) 100 go (F s49 s50 s82 s83 s115 s116 s145 s146) V) := Lib.hid (by
  intro go V s49 s50 s82 s83 s115 s116 s145 s146 hs hgo
  have HG := Lib.hid hgo
  clear hgo
  simp only [HF.out] at HG ⊢
  refine goX_step HO100.out ?_
  go_wp2_with fail
  obtain ⟨V2, hV2⟩ : ∃ U, U = V.alloc (.cells #[.int .i64 1, .bool n0, .slice B0 m0 k0, .bool o2, .slice E2 r2 l2, .int .i64 1, .bool n2, .slice B2 m2 k2, .bool o0, .slice E0 r0 l0, .int .i64 va, .bool n1, .slice B1 m1 k1, .bool o3, .slice E3 r3 l3, .int .i64 (-va), .bool n3, .slice B3 m3 k3, .bool o1, .slice E1 r1 l1] 252) := ⟨_, rfl⟩
  obtain ⟨G, hG⟩ : ∃ B, B = V.heap.size := ⟨_, rfl⟩
  have hA : Arr V2 G 252 [.int .i64 1, .bool n0, .slice B0 m0 k0, .bool o2, .slice E2 r2 l2, .int .i64 1, .bool n2, .slice B2 m2 k2, .bool o0, .slice E0 r0 l0, .int .i64 va, .bool n1, .slice B1 m1 k1, .bool o3, .slice E3 r3 l3, .int .i64 (-va), .bool n3, .slice B3 m3 k3, .bool o1, .slice E1 r1 l1] := by rw [hV2, hG]; exact Arr.new V _ [.int .i64 1, .bool n0, .slice B0 m0 k0, .bool o2, .slice E2 r2 l2, .int .i64 1, .bool n2, .slice B2 m2 k2, .bool o0, .slice E0 r0 l0, .int .i64 va, .bool n1, .slice B1 m1 k1, .bool o3, .slice E3 r3 l3, .int .i64 (-va), .bool n3, .slice B3 m3 k3, .bool o1, .slice E1 r1 l1]
  have hb : Below V.heap.size V V2 := by rw [hV2]; exact (Below.refl _ _).alloc (Nat.le_refl _) _
  rw [← hV2, ← hG]
  have hb2 := hs.trans (hb.mono hs.size)
  first | refine ⟨fun _ => hb2, ?_⟩ | refine ⟨hb2, ?_⟩ | skip
  exact HG.out V2 G hb (TmB.four hA (X0.out.below hb2) (Y2.out.below hb2) (X2.out.below hb2) (Y0.out.below hb2) (X1.out.below hb2) (Y3.out.below hb2) (X3.out.below hb2) (Y1.out.below hb2)))
 have HC2 : Hid (∀ (go : Act → World → Prop) (V : World) (G : Nat) (s49 s50 s82 s83 s116 s145 s146 : Value), Below w.heap.size w V → TmB V G (tmT2 va vb p q) → (∀ V2 z, Below V.heap.size V V2 → NIntV V2 (w.heap.size ≤ ·) z (smT (tmT2 va vb p q) 4) → go (F s49 s50 s82 s83 (.slice (some ⟨G, 0, none⟩) 4 4) z s145 s146) V2) → goB Tryz.prog O (onlyN Q) [] (fun V => Below w.heap.size w V) 101 go (F s49 s50 s82 s83 (.slice (some ⟨G, 0, none⟩) 4 4) s116 s145 s146) V) := Lib.hid (by
  intro go V G s49 s50 s82 s83 s116 s145 s146 hs hT hgo
  have HG := Lib.hid hgo
  clear hgo
  simp only [HF.out] at HG ⊢
  refine goX_call 116 HO101.out (by rfl) (by rfl) (by go_simp) (sum_any (c := 4) (n := 4) (by rfl) (by decide) hT HS2.out) ?_
  rintro e V2 ⟨z, rfl, hz, hb⟩
  refine ⟨_, rfl, fun _ => hs.trans (hb.mono hs.size), ?_⟩
  simp only [sIB, List.set]
  exact HG.out V2 z hb (hz.mono fun b (hx : _ ≤ b) _ => Nat.le_trans hs.size hx))
 have HB3 : Hid (∀ (go : Act → World → Prop) (V : World) (s49 s50 s82 s83 s115 s116 s145 s146 : Value), Below w.heap.size w V → (∀ V2 g, Below V.heap.size V V2 → TmB V2 g (tmT3 va vb p q) → go (F s49 s50 s82 s83 s115 s116 (.slice (some ⟨g, 0, none⟩) 4 4) s146) V2) → goB Tryz.prog O (onlyN Q) [] (fun V => Below w.heap.size w V) 130 go (F s49 s50 s82 s83 s115 s116 s145 s146) V) := Lib.hid (by
  intro go V s49 s50 s82 s83 s115 s116 s145 s146 hs hgo
  have HG := Lib.hid hgo
  clear hgo
  simp only [HF.out] at HG ⊢
  refine goX_step HO130.out ?_
  go_wp2_with fail
  obtain ⟨V2, hV2⟩ : ∃ U, U = V.alloc (.cells #[.int .i64 1, .bool n0, .slice B0 m0 k0, .bool o3, .slice E3 r3 l3, .int .i64 1, .bool n3, .slice B3 m3 k3, .bool o0, .slice E0 r0 l0, .int .i64 1, .bool n1, .slice B1 m1 k1, .bool o2, .slice E2 r2 l2, .int .i64 (-1), .bool n2, .slice B2 m2 k2, .bool o1, .slice E1 r1 l1] 252) := ⟨_, rfl⟩
  obtain ⟨G, hG⟩ : ∃ B, B = V.heap.size := ⟨_, rfl⟩
  have hA : Arr V2 G 252 [.int .i64 1, .bool n0, .slice B0 m0 k0, .bool o3, .slice E3 r3 l3, .int .i64 1, .bool n3, .slice B3 m3 k3, .bool o0, .slice E0 r0 l0, .int .i64 1, .bool n1, .slice B1 m1 k1, .bool o2, .slice E2 r2 l2, .int .i64 (-1), .bool n2, .slice B2 m2 k2, .bool o1, .slice E1 r1 l1] := by rw [hV2, hG]; exact Arr.new V _ [.int .i64 1, .bool n0, .slice B0 m0 k0, .bool o3, .slice E3 r3 l3, .int .i64 1, .bool n3, .slice B3 m3 k3, .bool o0, .slice E0 r0 l0, .int .i64 1, .bool n1, .slice B1 m1 k1, .bool o2, .slice E2 r2 l2, .int .i64 (-1), .bool n2, .slice B2 m2 k2, .bool o1, .slice E1 r1 l1]
  have hb : Below V.heap.size V V2 := by rw [hV2]; exact (Below.refl _ _).alloc (Nat.le_refl _) _
  rw [← hV2, ← hG]
  have hb2 := hs.trans (hb.mono hs.size)
  first | refine ⟨fun _ => hb2, ?_⟩ | refine ⟨hb2, ?_⟩ | skip
  exact HG.out V2 G hb (TmB.four hA (X0.out.below hb2) (Y3.out.below hb2) (X3.out.below hb2) (Y0.out.below hb2) (X1.out.below hb2) (Y2.out.below hb2) (X2.out.below hb2) (Y1.out.below hb2)))
 have HC3 : Hid (∀ (go : Act → World → Prop) (V : World) (G : Nat) (s49 s50 s82 s83 s115 s116 s146 : Value), Below w.heap.size w V → TmB V G (tmT3 va vb p q) → (∀ V2 z, Below V.heap.size V V2 → NIntV V2 (w.heap.size ≤ ·) z (smT (tmT3 va vb p q) 4) → go (F s49 s50 s82 s83 s115 s116 (.slice (some ⟨G, 0, none⟩) 4 4) z) V2) → goB Tryz.prog O (onlyN Q) [] (fun V => Below w.heap.size w V) 131 go (F s49 s50 s82 s83 s115 s116 (.slice (some ⟨G, 0, none⟩) 4 4) s146) V) := Lib.hid (by
  intro go V G s49 s50 s82 s83 s115 s116 s146 hs hT hgo
  have HG := Lib.hid hgo
  clear hgo
  simp only [HF.out] at HG ⊢
  refine goX_call 146 HO131.out (by rfl) (by rfl) (by go_simp) (sum_any (c := 4) (n := 4) (by rfl) (by decide) hT HS3.out) ?_
  rintro e V2 ⟨z, rfl, hz, hb⟩
  refine ⟨_, rfl, fun _ => hs.trans (hb.mono hs.size), ?_⟩
  simp only [sIB, List.set]
  exact HG.out V2 z hb (hz.mono fun b (hx : _ ≤ b) _ => Nat.le_trans hs.size hx))
 have K40123 : Hid (∀ (V : World) (g0 : Nat) (g1 : Nat) (g2 : Nat) (g3 : Nat) (z0 : Value) (z1 : Value) (z2 : Value) (z3 : Value), Below w.heap.size w V → NIntV V (w.heap.size ≤ ·) z0 (smT (tmT0 va vb p q) 4) → NIntV V (w.heap.size ≤ ·) z1 (smT (tmT1 va vb p q) 4) → NIntV V (w.heap.size ≤ ·) z2 (smT (tmT2 va vb p q) 4) → NIntV V (w.heap.size ≤ ·) z3 (smT (tmT3 va vb p q) 4) → goX Tryz.prog O (onlyN Q) [] (fun V => Below w.heap.size w V) tmt40123 (F (.slice (some ⟨g0, 0, none⟩) 4 4) z0 (.slice (some ⟨g1, 0, none⟩) 4 4) z1 (.slice (some ⟨g2, 0, none⟩) 4 4) z2 (.slice (some ⟨g3, 0, none⟩) 4 4) z3) V) := Lib.hid (by
  intro V g0 g1 g2 g3 z0 z1 z2 z3 hs hz0 hz1 hz2 hz3
  obtain ⟨n0', B0', m0', k0', rfl, f0⟩ := hz0.shp
  obtain ⟨n1', B1', m1', k1', rfl, f1⟩ := hz1.shp
  obtain ⟨n2', B2', m2', k2', rfl, f2⟩ := hz2.shp
  obtain ⟨n3', B3', m3', k3', rfl, f3⟩ := hz3.shp
  simp only [HF.out]
  unfold tmt40123
  refine goX_step HO132.out ?_
  go_wp2_with fail
  obtain ⟨V2, hV2⟩ : ∃ U, U = V.alloc (.cells #[.bool n0', .slice B0' m0' k0', .bool n1', .slice B1' m1' k1', .bool n2', .slice B2' m2' k2', .bool n3', .slice B3' m3' k3'] 40) := ⟨_, rfl⟩
  obtain ⟨G, hG⟩ : ∃ B, B = V.heap.size := ⟨_, rfl⟩
  have hA : Arr V2 G 40 [.bool n0', .slice B0' m0' k0', .bool n1', .slice B1' m1' k1', .bool n2', .slice B2' m2' k2', .bool n3', .slice B3' m3' k3'] := by rw [hV2, hG]; exact Arr.new V _ [.bool n0', .slice B0' m0' k0', .bool n1', .slice B1' m1' k1', .bool n2', .slice B2' m2' k2', .bool n3', .slice B3' m3' k3']
  have hb : Below V.heap.size V V2 := by rw [hV2]; exact (Below.refl _ _).alloc (Nat.le_refl _) _
  rw [← hV2, ← hG]
  have hb2 := hs.trans (hb.mono hs.size)
  first | refine ⟨fun _ => hb2, ?_⟩ | refine ⟨hb2, ?_⟩ | skip
  have hGw : w.heap.size ≤ G := by rw [hG]; exact hs.size
  clear hV2 hG
  refine goX_step HO133.out ?_
  go_wp2_with fail
  first | refine ⟨fun _ => hb2, ?_⟩ | refine ⟨hb2, ?_⟩ | skip
  refine goX_nil ?_
  exact HQ.out V2 G _ _ _ _ _ _ _ _ _ rfl (PvD.four hA hGw (f0.below hb) (f1.below hb) (f2.below hb) (f3.below hb)) hb2)
 have K30123 : Hid (∀ (V : World) (g0 : Nat) (g1 : Nat) (g2 : Nat) (g3 : Nat) (z0 : Value) (z1 : Value) (z2 : Value), Below w.heap.size w V → TmB V g3 (tmT3 va vb p q) → NIntV V (w.heap.size ≤ ·) z0 (smT (tmT0 va vb p q) 4) → NIntV V (w.heap.size ≤ ·) z1 (smT (tmT1 va vb p q) 4) → NIntV V (w.heap.size ≤ ·) z2 (smT (tmT2 va vb p q) 4) → goX Tryz.prog O (onlyN Q) [] (fun V => Below w.heap.size w V) tmt30123 (F (.slice (some ⟨g0, 0, none⟩) 4 4) z0 (.slice (some ⟨g1, 0, none⟩) 4 4) z1 (.slice (some ⟨g2, 0, none⟩) 4 4) z2 (.slice (some ⟨g3, 0, none⟩) 4 4) undef) V) := Lib.hid (by
  intro V g0 g1 g2 g3 z0 z1 z2 hs hg3 hz0 hz1 hz2
  unfold tmt30123
  unfold goX
  exact HC3.out _ V _ _ _ _ _ _ _ _ hs hg3 fun V2 z3 hb hz3 => K40123.out V2 g0 g1 g2 g3 z0 z1 z2 z3 (hs.trans (hb.mono hs.size)) (hz0.below hb) (hz1.below hb) (hz2.below hb) hz3)
 have K3012 : Hid (∀ (V : World) (g0 : Nat) (g1 : Nat) (g2 : Nat) (z0 : Value) (z1 : Value) (z2 : Value), Below w.heap.size w V → NIntV V (w.heap.size ≤ ·) z0 (smT (tmT0 va vb p q) 4) → NIntV V (w.heap.size ≤ ·) z1 (smT (tmT1 va vb p q) 4) → NIntV V (w.heap.size ≤ ·) z2 (smT (tmT2 va vb p q) 4) → goX Tryz.prog O (onlyN Q) [] (fun V => Below w.heap.size w V) tmt3012 (F (.slice (some ⟨g0, 0, none⟩) 4 4) z0 (.slice (some ⟨g1, 0, none⟩) 4 4) z1 (.slice (some ⟨g2, 0, none⟩) 4 4) z2 undef undef) V) := Lib.hid (by
  intro V g0 g1 g2 z0 z1 z2 hs hz0 hz1 hz2
  unfold tmt3012
  unfold goX
  exact HB3.out _ V _ _ _ _ _ _ _ _ hs fun V2 g3 hb hg3 => K30123.out V2 g0 g1 g2 g3 z0 z1 z2 (hs.trans (hb.mono hs.size)) hg3 (hz0.below hb) (hz1.below hb) (hz2.below hb))
 have K20123 : Hid (∀ (V : World) (g0 : Nat) (g1 : Nat) (g2 : Nat) (g3 : Nat) (z0 : Value) (z1 : Value), Below w.heap.size w V → TmB V g2 (tmT2 va vb p q) → TmB V g3 (tmT3 va vb p q) → NIntV V (w.heap.size ≤ ·) z0 (smT (tmT0 va vb p q) 4) → NIntV V (w.heap.size ≤ ·) z1 (smT (tmT1 va vb p q) 4) → goX Tryz.prog O (onlyN Q) [] (fun V => Below w.heap.size w V) tmt20123 (F (.slice (some ⟨g0, 0, none⟩) 4 4) z0 (.slice (some ⟨g1, 0, none⟩) 4 4) z1 (.slice (some ⟨g2, 0, none⟩) 4 4) undef (.slice (some ⟨g3, 0, none⟩) 4 4) undef) V) := Lib.hid (by
  intro V g0 g1 g2 g3 z0 z1 hs hg2 hg3 hz0 hz1
  unfold tmt20123
  unfold goX
  exact HC2.out _ V _ _ _ _ _ _ _ _ hs hg2 fun V2 z2 hb hz2 => K30123.out V2 g0 g1 g2 g3 z0 z1 z2 (hs.trans (hb.mono hs.size)) (hg3.below hb) (hz0.below hb) (hz1.below hb) hz2)
 have K2012 : Hid (∀ (V : World) (g0 : Nat) (g1 : Nat) (g2 : Nat) (z0 : Value) (z1 : Value), Below w.heap.size w V → TmB V g2 (tmT2 va vb p q) → NIntV V (w.heap.size ≤ ·) z0 (smT (tmT0 va vb p q) 4) → NIntV V (w.heap.size ≤ ·) z1 (smT (tmT1 va vb p q) 4) → goX Tryz.prog O (onlyN Q) [] (fun V => Below w.heap.size w V) tmt2012 (F (.slice (some ⟨g0, 0, none⟩) 4 4) z0 (.slice (some ⟨g1, 0, none⟩) 4 4) z1 (.slice (some ⟨g2, 0, none⟩) 4 4) undef undef undef) V) := Lib.hid (by
  intro V g0 g1 g2 z0 z1 hs hg2 hz0 hz1
  unfold tmt2012
  unfold goX
  exact ⟨HC2.out _ V _ _ _ _ _ _ _ _ hs hg2 fun V2 z2 hb hz2 => K3012.out V2 g0 g1 g2 z0 z1 z2 (hs.trans (hb.mono hs.size)) (hz0.below hb) (hz1.below hb) hz2, HB3.out _ V _ _ _ _ _ _ _ _ hs fun V2 g3 hb hg3 => K20123.out V2 g0 g1 g2 g3 z0 z1 (hs.trans (hb.mono hs.size)) (hg2.below hb) hg3 (hz0.below hb) (hz1.below hb)⟩)
 have K2013 : Hid (∀ (V : World) (g0 : Nat) (g1 : Nat) (g3 : Nat) (z0 : Value) (z1 : Value), Below w.heap.size w V → TmB V g3 (tmT3 va vb p q) → NIntV V (w.heap.size ≤ ·) z0 (smT (tmT0 va vb p q) 4) → NIntV V (w.heap.size ≤ ·) z1 (smT (tmT1 va vb p q) 4) → goX Tryz.prog O (onlyN Q) [] (fun V => Below w.heap.size w V) tmt2013 (F (.slice (some ⟨g0, 0, none⟩) 4 4) z0 (.slice (some ⟨g1, 0, none⟩) 4 4) z1 undef undef (.slice (some ⟨g3, 0, none⟩) 4 4) undef) V) := Lib.hid (by
  intro V g0 g1 g3 z0 z1 hs hg3 hz0 hz1
  unfold tmt2013
  unfold goX
  exact HB2.out _ V _ _ _ _ _ _ _ _ hs fun V2 g2 hb hg2 => K20123.out V2 g0 g1 g2 g3 z0 z1 (hs.trans (hb.mono hs.size)) hg2 (hg3.below hb) (hz0.below hb) (hz1.below hb))
 have K201 : Hid (∀ (V : World) (g0 : Nat) (g1 : Nat) (z0 : Value) (z1 : Value), Below w.heap.size w V → NIntV V (w.heap.size ≤ ·) z0 (smT (tmT0 va vb p q) 4) → NIntV V (w.heap.size ≤ ·) z1 (smT (tmT1 va vb p q) 4) → goX Tryz.prog O (onlyN Q) [] (fun V => Below w.heap.size w V) tmt201 (F (.slice (some ⟨g0, 0, none⟩) 4 4) z0 (.slice (some ⟨g1, 0, none⟩) 4 4) z1 undef undef undef undef) V) := Lib.hid (by
  intro V g0 g1 z0 z1 hs hz0 hz1
  unfold tmt201
  unfold goX
  exact ⟨HB2.out _ V _ _ _ _ _ _ _ _ hs fun V2 g2 hb hg2 => K2012.out V2 g0 g1 g2 z0 z1 (hs.trans (hb.mono hs.size)) hg2 (hz0.below hb) (hz1.below hb), HB3.out _ V _ _ _ _ _ _ _ _ hs fun V2 g3 hb hg3 => K2013.out V2 g0 g1 g3 z0 z1 (hs.trans (hb.mono hs.size)) hg3 (hz0.below hb) (hz1.below hb)⟩)
 have K10123 : Hid (∀ (V : World) (g0 : Nat) (g1 : Nat) (g2 : Nat) (g3 : Nat) (z0 : Value), Below w.heap.size w V → TmB V g1 (tmT1 va vb p q) → TmB V g2 (tmT2 va vb p q) → TmB V g3 (tmT3 va vb p q) → NIntV V (w.heap.size ≤ ·) z0 (smT (tmT0 va vb p q) 4) → goX Tryz.prog O (onlyN Q) [] (fun V => Below w.heap.size w V) tmt10123 (F (.slice (some ⟨g0, 0, none⟩) 4 4) z0 (.slice (some ⟨g1, 0, none⟩) 4 4) undef (.slice (some ⟨g2, 0, none⟩) 4 4) undef (.slice (some ⟨g3, 0, none⟩) 4 4) undef) V) := Lib.hid (by
  intro V g0 g1 g2 g3 z0 hs hg1 hg2 hg3 hz0
  unfold tmt10123
  unfold goX
  exact HC1.out _ V _ _ _ _ _ _ _ _ hs hg1 fun V2 z1 hb hz1 => K20123.out V2 g0 g1 g2 g3 z0 z1 (hs.trans (hb.mono hs.size)) (hg2.below hb) (hg3.below hb) (hz0.below hb) hz1)
 have K1012 : Hid (∀ (V : World) (g0 : Nat) (g1 : Nat) (g2 : Nat) (z0 : Value), Below w.heap.size w V → TmB V g1 (tmT1 va vb p q) → TmB V g2 (tmT2 va vb p q) → NIntV V (w.heap.size ≤ ·) z0 (smT (tmT0 va vb p q) 4) → goX Tryz.prog O (onlyN Q) [] (fun V => Below w.heap.size w V) tmt1012 (F (.slice (some ⟨g0, 0, none⟩) 4 4) z0 (.slice (some ⟨g1, 0, none⟩) 4 4) undef (.slice (some ⟨g2, 0, none⟩) 4 4) undef undef undef) V) := Lib.hid (by
  intro V g0 g1 g2 z0 hs hg1 hg2 hz0
  unfold tmt1012
  unfold goX
  exact ⟨HC1.out _ V _ _ _ _ _ _ _ _ hs hg1 fun V2 z1 hb hz1 => K2012.out V2 g0 g1 g2 z0 z1 (hs.trans (hb.mono hs.size)) (hg2.below hb) (hz0.below hb) hz1, HB3.out _ V _ _ _ _ _ _ _ _ hs fun V2 g3 hb hg3 => K10123.out V2 g0 g1 g2 g3 z0 (hs.trans (hb.mono hs.size)) (hg1.below hb) (hg2.below hb) hg3 (hz0.below hb)⟩)
 have K1013 : Hid (∀ (V : World) (g0 : Nat) (g1 : Nat) (g3 : Nat) (z0 : Value), Below w.heap.size w V → TmB V g1 (tmT1 va vb p q) → TmB V g3 (tmT3 va vb p q) → NIntV V (w.heap.size ≤ ·) z0 (smT (tmT0 va vb p q) 4) → goX Tryz.prog O (onlyN Q) [] (fun V => Below w.heap.size w V) tmt1013 (F (.slice (some ⟨g0, 0, none⟩) 4 4) z0 (.slice (some ⟨g1, 0, none⟩) 4 4) undef undef undef (.slice (some ⟨g3, 0, none⟩) 4 4) undef) V) := Lib.hid (by
  intro V g0 g1 g3 z0 hs hg1 hg3 hz0
  unfold tmt1013
  unfold goX
  exact ⟨HC1.out _ V _ _ _ _ _ _ _ _ hs hg1 fun V2 z1 hb hz1 => K2013.out V2 g0 g1 g3 z0 z1 (hs.trans (hb.mono hs.size)) (hg3.below hb) (hz0.below hb) hz1, HB2.out _ V _ _ _ _ _ _ _ _ hs fun V2 g2 hb hg2 => K10123.out V2 g0 g1 g2 g3 z0 (hs.trans (hb.mono hs.size)) (hg1.below hb) hg2 (hg3.below hb) (hz0.below hb)⟩)
 have K1023 : Hid (∀ (V : World) (g0 : Nat) (g2 : Nat) (g3 : Nat) (z0 : Value), Below w.heap.size w V → TmB V g2 (tmT2 va vb p q) → TmB V g3 (tmT3 va vb p q) → NIntV V (w.heap.size ≤ ·) z0 (smT (tmT0 va vb p q) 4) → goX Tryz.prog O (onlyN Q) [] (fun V => Below w.heap.size w V) tmt1023 (F (.slice (some ⟨g0, 0, none⟩) 4 4) z0 undef undef (.slice (some ⟨g2, 0, none⟩) 4 4) undef (.slice (some ⟨g3, 0, none⟩) 4 4) undef) V) := Lib.hid (by
  intro V g0 g2 g3 z0 hs hg2 hg3 hz0
  unfold tmt1023
  unfold goX
  exact HB1.out _ V _ _ _ _ _ _ _ _ hs fun V2 g1 hb hg1 => K10123.out V2 g0 g1 g2 g3 z0 (hs.trans (hb.mono hs.size)) hg1 (hg2.below hb) (hg3.below hb) (hz0.below hb))
 have K101 : Hid (∀ (V : World) (g0 : Nat) (g1 : Nat) (z0 : Value), Below w.heap.size w V → TmB V g1 (tmT1 va vb p q) → NIntV V (w.heap.size ≤ ·) z0 (smT (tmT0 va vb p q) 4) → goX Tryz.prog O (onlyN Q) [] (fun V => Below w.heap.size w V) tmt101 (F (.slice (some ⟨g0, 0, none⟩) 4 4) z0 (.slice (some ⟨g1, 0, none⟩) 4 4) undef undef undef undef undef) V) := Lib.hid (by
  intro V g0 g1 z0 hs hg1 hz0
  unfold tmt101
  unfold goX
  exact ⟨HC1.out _ V _ _ _ _ _ _ _ _ hs hg1 fun V2 z1 hb hz1 => K201.out V2 g0 g1 z0 z1 (hs.trans (hb.mono hs.size)) (hz0.below hb) hz1, HB2.out _ V _ _ _ _ _ _ _ _ hs fun V2 g2 hb hg2 => K1012.out V2 g0 g1 g2 z0 (hs.trans (hb.mono hs.size)) (hg1.below hb) hg2 (hz0.below hb), HB3.out _ V _ _ _ _ _ _ _ _ hs fun V2 g3 hb hg3 => K1013.out V2 g0 g1 g3 z0 (hs.trans (hb.mono hs.size)) (hg1.below hb) hg3 (hz0.below hb)⟩)
 have K102 : Hid (∀ (V : World) (g0 : Nat) (g2 : Nat) (z0 : Value), Below w.heap.size w V → TmB V g2 (tmT2 va vb p q) → NIntV V (w.heap.size ≤ ·) z0 (smT (tmT0 va vb p q) 4) → goX Tryz.prog O (onlyN Q) [] (fun V => Below w.heap.size w V) tmt102 (F (.slice (some ⟨g0, 0, none⟩) 4 4) z0 undef undef (.slice (some ⟨g2, 0, none⟩) 4 4) undef undef undef) V) := Lib.hid (by
  intro V g0 g2 z0 hs hg2 hz0
  unfold tmt102
  unfold goX
  exact ⟨HB1.out _ V _ _ _ _ _ _ _ _ hs fun V2 g1 hb hg1 => K1012.out V2 g0 g1 g2 z0 (hs.trans (hb.mono hs.size)) hg1 (hg2.below hb) (hz0.below hb), HB3.out _ V _ _ _ _ _ _ _ _ hs fun V2 g3 hb hg3 => K1023.out V2 g0 g2 g3 z0 (hs.trans (hb.mono hs.size)) (hg2.below hb) hg3 (hz0.below hb)⟩)
 have K103 : Hid (∀ (V : World) (g0 : Nat) (g3 : Nat) (z0 : Value), Below w.heap.size w V → TmB V g3 (tmT3 va vb p q) → NIntV V (w.heap.size ≤ ·) z0 (smT (tmT0 va vb p q) 4) → goX Tryz.prog O (onlyN Q) [] (fun V => Below w.heap.size w V) tmt103 (F (.slice (some ⟨g0, 0, none⟩) 4 4) z0 undef undef undef undef (.slice (some ⟨g3, 0, none⟩) 4 4) undef) V) := Lib.hid (by
  intro V g0 g3 z0 hs hg3 hz0
  unfold tmt103
  unfold goX
  exact ⟨HB1.out _ V _ _ _ _ _ _ _ _ hs fun V2 g1 hb hg1 => K1013.out V2 g0 g1 g3 z0 (hs.trans (hb.mono hs.size)) hg1 (hg3.below hb) (hz0.below hb), HB2.out _ V _ _ _ _ _ _ _ _ hs fun V2 g2 hb hg2 => K1023.out V2 g0 g2 g3 z0 (hs.trans (hb.mono hs.size)) hg2 (hg3.below hb) (hz0.below hb)⟩)
 have K10 : Hid (∀ (V : World) (g0 : Nat) (z0 : Value), Below w.heap.size w V → NIntV V (w.heap.size ≤ ·) z0 (smT (tmT0 va vb p q) 4) → goX Tryz.prog O (onlyN Q) [] (fun V => Below w.heap.size w V) tmt10 (F (.slice (some ⟨g0, 0, none⟩) 4 4) z0 undef undef undef undef undef undef) V) := Lib.hid (by
  intro V g0 z0 hs hz0
  unfold tmt10
  unfold goX
  exact ⟨HB1.out _ V _ _ _ _ _ _ _ _ hs fun V2 g1 hb hg1 => K101.out V2 g0 g1 z0 (hs.trans (hb.mono hs.size)) hg1 (hz0.below hb), HB2.out _ V _ _ _ _ _ _ _ _ hs fun V2 g2 hb hg2 => K102.out V2 g0 g2 z0 (hs.trans (hb.mono hs.size)) hg2 (hz0.below hb), HB3.out _ V _ _ _ _ _ _ _ _ hs fun V2 g3 hb hg3 => K103.out V2 g0 g3 z0 (hs.trans (hb.mono hs.size)) hg3 (hz0.below hb)⟩)
 have K00123 : Hid (∀ (V : World) (g0 : Nat) (g1 : Nat) (g2 : Nat) (g3 : Nat), Below w.heap.size w V → TmB V g0 (tmT0 va vb p q) → TmB V g1 (tmT1 va vb p q) → TmB V g2 (tmT2 va vb p q) → TmB V g3 (tmT3 va vb p q) → goX Tryz.prog O (onlyN Q) [] (fun V => Below w.heap.size w V) tmt00123 (F (.slice (some ⟨g0, 0, none⟩) 4 4) undef (.slice (some ⟨g1, 0, none⟩) 4 4) undef (.slice (some ⟨g2, 0, none⟩) 4 4) undef (.slice (some ⟨g3, 0, none⟩) 4 4) undef) V) := Lib.hid (by
  intro V g0 g1 g2 g3 hs hg0 hg1 hg2 hg3
  unfold tmt00123
  unfold goX
  exact HC0.out _ V _ _ _ _ _ _ _ _ hs hg0 fun V2 z0 hb hz0 => K10123.out V2 g0 g1 g2 g3 z0 (hs.trans (hb.mono hs.size)) (hg1.below hb) (hg2.below hb) (hg3.below hb) hz0)
 have K0012 : Hid (∀ (V : World) (g0 : Nat) (g1 : Nat) (g2 : Nat), Below w.heap.size w V → TmB V g0 (tmT0 va vb p q) → TmB V g1 (tmT1 va vb p q) → TmB V g2 (tmT2 va vb p q) → goX Tryz.prog O (onlyN Q) [] (fun V => Below w.heap.size w V) tmt0012 (F (.slice (some ⟨g0, 0, none⟩) 4 4) undef (.slice (some ⟨g1, 0, none⟩) 4 4) undef (.slice (some ⟨g2, 0, none⟩) 4 4) undef undef undef) V) := Lib.hid (by
  intro V g0 g1 g2 hs hg0 hg1 hg2
  unfold tmt0012
  unfold goX
  exact ⟨HC0.out _ V _ _ _ _ _ _ _ _ hs hg0 fun V2 z0 hb hz0 => K1012.out V2 g0 g1 g2 z0 (hs.trans (hb.mono hs.size)) (hg1.below hb) (hg2.below hb) hz0, HB3.out _ V _ _ _ _ _ _ _ _ hs fun V2 g3 hb hg3 => K00123.out V2 g0 g1 g2 g3 (hs.trans (hb.mono hs.size)) (hg0.below hb) (hg1.below hb) (hg2.below hb) hg3⟩)
 have K0013 : Hid (∀ (V : World) (g0 : Nat) (g1 : Nat) (g3 : Nat), Below w.heap.size w V → TmB V g0 (tmT0 va vb p q) → TmB V g1 (tmT1 va vb p q) → TmB V g3 (tmT3 va vb p q) → goX Tryz.prog O (onlyN Q) [] (fun V => Below w.heap.size w V) tmt0013 (F (.slice (some ⟨g0, 0, none⟩) 4 4) undef (.slice (some ⟨g1, 0, none⟩) 4 4) undef undef undef (.slice (some ⟨g3, 0, none⟩) 4 4) undef) V) := Lib.hid (by
  intro V g0 g1 g3 hs hg0 hg1 hg3
  unfold tmt0013
  unfold goX
  exact ⟨HC0.out _ V _ _ _ _ _ _ _ _ hs hg0 fun V2 z0 hb hz0 => K1013.out V2 g0 g1 g3 z0 (hs.trans (hb.mono hs.size)) (hg1.below hb) (hg3.below hb) hz0, HB2.out _ V _ _ _ _ _ _ _ _ hs fun V2 g2 hb hg2 => K00123.out V2 g0 g1 g2 g3 (hs.trans (hb.mono hs.size)) (hg0.below hb) (hg1.below hb) hg2 (hg3.below hb)⟩)
 have K0023 : Hid (∀ (V : World) (g0 : Nat) (g2 : Nat) (g3 : Nat), Below w.heap.size w V → TmB V g0 (tmT0 va vb p q) → TmB V g2 (tmT2 va vb p q) → TmB V g3 (tmT3 va vb p q) → goX Tryz.prog O (onlyN Q) [] (fun V => Below w.heap.size w V) tmt0023 (F (.slice (some ⟨g0, 0, none⟩) 4 4) undef undef undef (.slice (some ⟨g2, 0, none⟩) 4 4) undef (.slice (some ⟨g3, 0, none⟩) 4 4) undef) V) := Lib.hid (by
  intro V g0 g2 g3 hs hg0 hg2 hg3
  unfold tmt0023
  unfold goX
  exact ⟨HC0.out _ V _ _ _ _ _ _ _ _ hs hg0 fun V2 z0 hb hz0 => K1023.out V2 g0 g2 g3 z0 (hs.trans (hb.mono hs.size)) (hg2.below hb) (hg3.below hb) hz0, HB1.out _ V _ _ _ _ _ _ _ _ hs fun V2 g1 hb hg1 => K00123.out V2 g0 g1 g2 g3 (hs.trans (hb.mono hs.size)) (hg0.below hb) hg1 (hg2.below hb) (hg3.below hb)⟩)
 have K0123 : Hid (∀ (V : World) (g1 : Nat) (g2 : Nat) (g3 : Nat), Below w.heap.size w V → TmB V g1 (tmT1 va vb p q) → TmB V g2 (tmT2 va vb p q) → TmB V g3 (tmT3 va vb p q) → goX Tryz.prog O (onlyN Q) [] (fun V => Below w.heap.size w V) tmt0123 (F undef undef (.slice (some ⟨g1, 0, none⟩) 4 4) undef (.slice (some ⟨g2, 0, none⟩) 4 4) undef (.slice (some ⟨g3, 0, none⟩) 4 4) undef) V) := Lib.hid (by
  intro V g1 g2 g3 hs hg1 hg2 hg3
  unfold tmt0123
  unfold goX
  exact HB0.out _ V _ _ _ _ _ _ _ _ hs fun V2 g0 hb hg0 => K00123.out V2 g0 g1 g2 g3 (hs.trans (hb.mono hs.size)) hg0 (hg1.below hb) (hg2.below hb) (hg3.below hb))
 have K001 : Hid (∀ (V : World) (g0 : Nat) (g1 : Nat), Below w.heap.size w V → TmB V g0 (tmT0 va vb p q) → TmB V g1 (tmT1 va vb p q) → goX Tryz.prog O (onlyN Q) [] (fun V => Below w.heap.size w V) tmt001 (F (.slice (some ⟨g0, 0, none⟩) 4 4) undef (.slice (some ⟨g1, 0, none⟩) 4 4) undef undef undef undef undef) V) := Lib.hid (by
  intro V g0 g1 hs hg0 hg1
  unfold tmt001
  unfold goX
  exact ⟨HC0.out _ V _ _ _ _ _ _ _ _ hs hg0 fun V2 z0 hb hz0 => K101.out V2 g0 g1 z0 (hs.trans (hb.mono hs.size)) (hg1.below hb) hz0, HB2.out _ V _ _ _ _ _ _ _ _ hs fun V2 g2 hb hg2 => K0012.out V2 g0 g1 g2 (hs.trans (hb.mono hs.size)) (hg0.below hb) (hg1.below hb) hg2, HB3.out _ V _ _ _ _ _ _ _ _ hs fun V2 g3 hb hg3 => K0013.out V2 g0 g1 g3 (hs.trans (hb.mono hs.size)) (hg0.below hb) (hg1.below hb) hg3⟩)
 have K002 : Hid (∀ (V : World) (g0 : Nat) (g2 : Nat), Below w.heap.size w V → TmB V g0 (tmT0 va vb p q) → TmB V g2 (tmT2 va vb p q) → goX Tryz.prog O (onlyN Q) [] (fun V => Below w.heap.size w V) tmt002 (F (.slice (some ⟨g0, 0, none⟩) 4 4) undef undef undef (.slice (some ⟨g2, 0, none⟩) 4 4) undef undef undef) V) := Lib.hid (by
  intro V g0 g2 hs hg0 hg2
  unfold tmt002
  unfold goX
  exact ⟨HC0.out _ V _ _ _ _ _ _ _ _ hs hg0 fun V2 z0 hb hz0 => K102.out V2 g0 g2 z0 (hs.trans (hb.mono hs.size)) (hg2.below hb) hz0, HB1.out _ V _ _ _ _ _ _ _ _ hs fun V2 g1 hb hg1 => K0012.out V2 g0 g1 g2 (hs.trans (hb.mono hs.size)) (hg0.below hb) hg1 (hg2.below hb), HB3.out _ V _ _ _ _ _ _ _ _ hs fun V2 g3 hb hg3 => K0023.out V2 g0 g2 g3 (hs.trans (hb.mono hs.size)) (hg0.below hb) (hg2.below hb) hg3⟩)
 have K003 : Hid (∀ (V : World) (g0 : Nat) (g3 : Nat), Below w.heap.size w V → TmB V g0 (tmT0 va vb p q) → TmB V g3 (tmT3 va vb p q) → goX Tryz.prog O (onlyN Q) [] (fun V => Below w.heap.size w V) tmt003 (F (.slice (some ⟨g0, 0, none⟩) 4 4) undef undef undef undef undef (.slice (some ⟨g3, 0, none⟩) 4 4) undef) V) := Lib.hid (by
  intro V g0 g3 hs hg0 hg3
  unfold tmt003
  unfold goX
  exact ⟨HC0.out _ V _ _ _ _ _ _ _ _ hs hg0 fun V2 z0 hb hz0 => K103.out V2 g0 g3 z0 (hs.trans (hb.mono hs.size)) (hg3.below hb) hz0, HB1.out _ V _ _ _ _ _ _ _ _ hs fun V2 g1 hb hg1 => K0013.out V2 g0 g1 g3 (hs.trans (hb.mono hs.size)) (hg0.below hb) hg1 (hg3.below hb), HB2.out _ V _ _ _ _ _ _ _ _ hs fun V2 g2 hb hg2 => K0023.out V2 g0 g2 g3 (hs.trans (hb.mono hs.size)) (hg0.below hb) hg2 (hg3.below hb)⟩)
 have K012 : Hid (∀ (V : World) (g1 : Nat) (g2 : Nat), Below w.heap.size w V → TmB V g1 (tmT1 va vb p q) → TmB V g2 (tmT2 va vb p q) → goX Tryz.prog O (onlyN Q) [] (fun V => Below w.heap.size w V) tmt012 (F undef undef (.slice (some ⟨g1, 0, none⟩) 4 4) undef (.slice (some ⟨g2, 0, none⟩) 4 4) undef undef undef) V) := Lib.hid (by
  intro V g1 g2 hs hg1 hg2
  unfold tmt012
  unfold goX
  exact ⟨HB0.out _ V _ _ _ _ _ _ _ _ hs fun V2 g0 hb hg0 => K0012.out V2 g0 g1 g2 (hs.trans (hb.mono hs.size)) hg0 (hg1.below hb) (hg2.below hb), HB3.out _ V _ _ _ _ _ _ _ _ hs fun V2 g3 hb hg3 => K0123.out V2 g1 g2 g3 (hs.trans (hb.mono hs.size)) (hg1.below hb) (hg2.below hb) hg3⟩)
 have K013 : Hid (∀ (V : World) (g1 : Nat) (g3 : Nat), Below w.heap.size w V → TmB V g1 (tmT1 va vb p q) → TmB V g3 (tmT3 va vb p q) → goX Tryz.prog O (onlyN Q) [] (fun V => Below w.heap.size w V) tmt013 (F undef undef (.slice (some ⟨g1, 0, none⟩) 4 4) undef undef undef (.slice (some ⟨g3, 0, none⟩) 4 4) undef) V) := Lib.hid (by
  intro V g1 g3 hs hg1 hg3
  unfold tmt013
  unfold goX
  exact ⟨HB0.out _ V _ _ _ _ _ _ _ _ hs fun V2 g0 hb hg0 => K0013.out V2 g0 g1 g3 (hs.trans (hb.mono hs.size)) hg0 (hg1.below hb) (hg3.below hb), HB2.out _ V _ _ _ _ _ _ _ _ hs fun V2 g2 hb hg2 => K0123.out V2 g1 g2 g3 (hs.trans (hb.mono hs.size)) (hg1.below hb) hg2 (hg3.below hb)⟩)
 have K023 : Hid (∀ (V : World) (g2 : Nat) (g3 : Nat), Below w.heap.size w V → TmB V g2 (tmT2 va vb p q) → TmB V g3 (tmT3 va vb p q) → goX Tryz.prog O (onlyN Q) [] (fun V => Below w.heap.size w V) tmt023 (F undef undef undef undef (.slice (some ⟨g2, 0, none⟩) 4 4) undef (.slice (some ⟨g3, 0, none⟩) 4 4) undef) V) := Lib.hid (by
  intro V g2 g3 hs hg2 hg3
  unfold tmt023
  unfold goX
  exact ⟨HB0.out _ V _ _ _ _ _ _ _ _ hs fun V2 g0 hb hg0 => K0023.out V2 g0 g2 g3 (hs.trans (hb.mono hs.size)) hg0 (hg2.below hb) (hg3.below hb), HB1.out _ V _ _ _ _ _ _ _ _ hs fun V2 g1 hb hg1 => K0123.out V2 g1 g2 g3 (hs.trans (hb.mono hs.size)) hg1 (hg2.below hb) (hg3.below hb)⟩)
 have K00 : Hid (∀ (V : World) (g0 : Nat), Below w.heap.size w V → TmB V g0 (tmT0 va vb p q) → goX Tryz.prog O (onlyN Q) [] (fun V => Below w.heap.size w V) tmt00 (F (.slice (some ⟨g0, 0, none⟩) 4 4) undef undef undef undef undef undef undef) V) := Lib.hid (by
  intro V g0 hs hg0
  unfold tmt00
  unfold goX
  exact ⟨HC0.out _ V _ _ _ _ _ _ _ _ hs hg0 fun V2 z0 hb hz0 => K10.out V2 g0 z0 (hs.trans (hb.mono hs.size)) hz0, HB1.out _ V _ _ _ _ _ _ _ _ hs fun V2 g1 hb hg1 => K001.out V2 g0 g1 (hs.trans (hb.mono hs.size)) (hg0.below hb) hg1, HB2.out _ V _ _ _ _ _ _ _ _ hs fun V2 g2 hb hg2 => K002.out V2 g0 g2 (hs.trans (hb.mono hs.size)) (hg0.below hb) hg2, HB3.out _ V _ _ _ _ _ _ _ _ hs fun V2 g3 hb hg3 => K003.out V2 g0 g3 (hs.trans (hb.mono hs.size)) (hg0.below hb) hg3⟩)
 have K01 : Hid (∀ (V : World) (g1 : Nat), Below w.heap.size w V → TmB V g1 (tmT1 va vb p q) → goX Tryz.prog O (onlyN Q) [] (fun V => Below w.heap.size w V) tmt01 (F undef undef (.slice (some ⟨g1, 0, none⟩) 4 4) undef undef undef undef undef) V) := Lib.hid (by
  intro V g1 hs hg1
  unfold tmt01
  unfold goX
  exact ⟨HB0.out _ V _ _ _ _ _ _ _ _ hs fun V2 g0 hb hg0 => K001.out V2 g0 g1 (hs.trans (hb.mono hs.size)) hg0 (hg1.below hb), HB2.out _ V _ _ _ _ _ _ _ _ hs fun V2 g2 hb hg2 => K012.out V2 g1 g2 (hs.trans (hb.mono hs.size)) (hg1.below hb) hg2, HB3.out _ V _ _ _ _ _ _ _ _ hs fun V2 g3 hb hg3 => K013.out V2 g1 g3 (hs.trans (hb.mono hs.size)) (hg1.below hb) hg3⟩)
 have K02 : Hid (∀ (V : World) (g2 : Nat), Below w.heap.size w V → TmB V g2 (tmT2 va vb p q) → goX Tryz.prog O (onlyN Q) [] (fun V => Below w.heap.size w V) tmt02 (F undef undef undef undef (.slice (some ⟨g2, 0, none⟩) 4 4) undef undef undef) V) := Lib.hid (by
  intro V g2 hs hg2
  unfold tmt02
  unfold goX
  exact ⟨HB0.out _ V _ _ _ _ _ _ _ _ hs fun V2 g0 hb hg0 => K002.out V2 g0 g2 (hs.trans (hb.mono hs.size)) hg0 (hg2.below hb), HB1.out _ V _ _ _ _ _ _ _ _ hs fun V2 g1 hb hg1 => K012.out V2 g1 g2 (hs.trans (hb.mono hs.size)) hg1 (hg2.below hb), HB3.out _ V _ _ _ _ _ _ _ _ hs fun V2 g3 hb hg3 => K023.out V2 g2 g3 (hs.trans (hb.mono hs.size)) (hg2.below hb) hg3⟩)
 have K03 : Hid (∀ (V : World) (g3 : Nat), Below w.heap.size w V → TmB V g3 (tmT3 va vb p q) → goX Tryz.prog O (onlyN Q) [] (fun V => Below w.heap.size w V) tmt03 (F undef undef undef undef undef undef (.slice (some ⟨g3, 0, none⟩) 4 4) undef) V) := Lib.hid (by
  intro V g3 hs hg3
  unfold tmt03
  unfold goX
  exact ⟨HB0.out _ V _ _ _ _ _ _ _ _ hs fun V2 g0 hb hg0 => K003.out V2 g0 g3 (hs.trans (hb.mono hs.size)) hg0 (hg3.below hb), HB1.out _ V _ _ _ _ _ _ _ _ hs fun V2 g1 hb hg1 => K013.out V2 g1 g3 (hs.trans (hb.mono hs.size)) hg1 (hg3.below hb), HB2.out _ V _ _ _ _ _ _ _ _ hs fun V2 g2 hb hg2 => K023.out V2 g2 g3 (hs.trans (hb.mono hs.size)) hg2 (hg3.below hb)⟩)
 have K0 : Hid (∀ (V : World), Below w.heap.size w V → goX Tryz.prog O (onlyN Q) [] (fun V => Below w.heap.size w V) tmt0 (F undef undef undef undef undef undef undef undef) V) := Lib.hid (by
  intro V hs
  unfold tmt0
  unfold goX
  exact ⟨HB0.out _ V _ _ _ _ _ _ _ _ hs fun V2 g0 hb hg0 => K00.out V2 g0 (hs.trans (hb.mono hs.size)) hg0, HB1.out _ V _ _ _ _ _ _ _ _ hs fun V2 g1 hb hg1 => K01.out V2 g1 (hs.trans (hb.mono hs.size)) hg1, HB2.out _ V _ _ _ _ _ _ _ _ hs fun V2 g2 hb hg2 => K02.out V2 g2 (hs.trans (hb.mono hs.size)) hg2, HB3.out _ V _ _ _ _ _ _ _ _ hs fun V2 g3 hb hg3 => K03.out V2 g3 (hs.trans (hb.mono hs.size)) hg3⟩)
 have HZ := K0.out v0 hs
 rw [HF.out] at HZ
 dsimp only at HZ
 exact HZ
end Go.Proofs.YtdjpeimecfhdjaaGreat
