/- Package graph: Cayley at q = 5. -/
import Derived.Test.YtefcdclmabdmbaaGreatDoorKo
import Derived.Test.YtefcdclmabdmbaaGreatDoorKn
import Derived.Test.YtefcdclmabdmbaaGreatDoorKp
import Derived.Maps.OwnIn
namespace Go.Proofs.YtefcdclmabdmbaaGreatDoor
open Go.RowKit Go.Shelf
attribute [local go_sem] Oper.semAt_some

theorem wfN {k : Nat} (h : k ≤ 120) : (Lit.int .i64 (k : Nat)).wf = true := by
  have key : ∀ k, k < 121 → (Lit.int .i64 ((k : Nat) : Int)).wf = true := by decide +kernel
  exact key k (by omega)
theorem primeI_5 : primeI (5 : Int) = true := primeI_true (n := 5) (by decide) (by decide) pr_5
/-- Whether a number is a square modulo 5. -/
def hf5 (p : Int) : Bool := jac (p % 5).toNat 5 == 1
set_option maxRecDepth 100000 in
theorem vertices5_any {w : World} (p : Int) : Calls Tryz.prog 65 #[.int .i64 p, .int .i64 5] w fun e w' => e = .returned (.int .i64 (if hf5 p = true then 60 else 120)) ∧ w = w' := by
  have HL := Lib.hid (fun w => Legendre_any (w := w) (a := p) (p := 5) primeI_5 (by decide))
  by_cases h : hf5 p = true
  · rw [if_pos h]
    unfold hf5 at h
    have hj : (jac (p % ((5 : Nat) : Int)).toNat 5 == 1) = true := h
    generalize jac (p % ((5 : Nat) : Int)).toNat 5 = j at *
    clear h
    go_enter Tryz.func65, Tryz.ntmps65
    go_wp2_with (go_at_call 134; go_must (refine (HL.out _).mono ?_); rintro e w1 ⟨rfl, rfl⟩)
    go_ret
    exact ⟨rfl, rfl⟩
  · rw [if_neg h]
    unfold hf5 at h
    have hj : (jac (p % ((5 : Nat) : Int)).toNat 5 == 1) = false := by simpa using h
    generalize jac (p % ((5 : Nat) : Int)).toNat 5 = j at *
    clear h
    go_enter Tryz.func65, Tryz.ntmps65
    go_wp2_with (go_at_call 134; go_must (refine (HL.out _).mono ?_); rintro e w1 ⟨rfl, rfl⟩)
    go_ret
    exact ⟨rfl, rfl⟩
/-- The cells of a list of quaternions. -/
def QC5 (w : World) (g : Nat) (L : List Qt) : Prop := ∀ i q, L[i]? = some q →
  w.cell? ⟨g, i * 5, none⟩ = some (.int .i64 q.1) ∧ w.cell? ⟨g, i * 5 + 1, none⟩ = some (.int .i64 q.2.1) ∧ w.cell? ⟨g, i * 5 + 2, none⟩ = some (.int .i64 q.2.2.1) ∧ w.cell? ⟨g, i * 5 + 3, none⟩ = some (.int .i64 q.2.2.2) ∧ w.cell? ⟨g, i * 5 + 4, none⟩ = some (.int .i64 1)
theorem QC5.below {w w' : World} {g : Nat} {L : List Qt} (h : QC5 w g L) (hg : g < w.heap.size) (hb : Below w.heap.size w w') : QC5 w' g L := by
  intro i q hq
  obtain ⟨h0, h1, h2, h3, h4⟩ := h i q hq
  exact ⟨(hb.cell (p := ⟨g, i * 5, none⟩) hg).trans h0, (hb.cell (p := ⟨g, i * 5 + 1, none⟩) hg).trans h1, (hb.cell (p := ⟨g, i * 5 + 2, none⟩) hg).trans h2, (hb.cell (p := ⟨g, i * 5 + 3, none⟩) hg).trans h3, (hb.cell (p := ⟨g, i * 5 + 4, none⟩) hg).trans h4⟩
theorem OwnQ.cells5 {w : World} {base : Nat} {A : Option Addr} {n c : Nat} {L : List Qt} (h : OwnQ w base (.slice A n c) L) (hn : 0 < n) : ∃ g, A = some ⟨g, 0, none⟩ ∧ base ≤ g ∧ g < w.heap.size ∧ n ≤ c ∧ c ≤ maxLen ∧ QC5 w g L := by
  obtain rfl := h.len
  obtain ⟨g, cap, e, hb, h1, h2, _, h4⟩ := own_cells h hn
  injection e with e1 e2 e3
  subst e1 e3
  have hlt := (World.ownsRow.lt h g rfl).2
  refine ⟨g, rfl, hb, hlt, h1, h2, fun i q hq => ?_⟩
  have key := fun (j : Nat) (hj : j < 5) (u : Value) (hu : (qc q)[j]? = some u) => h4 (i * 5 + j) u ((qcs_at hq j hj).trans hu)
  exact ⟨key 0 (by omega) _ rfl, key 1 (by omega) _ rfl, key 2 (by omega) _ rfl, key 3 (by omega) _ rfl, key 4 (by omega) _ rfl⟩

/-- The matrix of a generator. -/
theorem pmatrix5 {w : World} {P : Nat} (hP : PlI w P) {q : Qt} (hq : (1 ≤ q.1 ∧ q.1 ≤ 20) ∧ (-20 ≤ q.2.1 ∧ q.2.1 ≤ 20) ∧ (-20 ≤ q.2.2.1 ∧ q.2.2.1 ≤ 20) ∧ (-20 ≤ q.2.2.2 ∧ q.2.2.2 ≤ 20)) :
    Calls Tryz.prog 69 #[.pointer (some ⟨P, 0, none⟩), .agg #[.int .i64 q.1, .int .i64 q.2.1, .int .i64 q.2.2.1, .int .i64 q.2.2.2, .int .i64 1], .int .i64 2] w fun e w' => e = .returned (.agg #[.int .i64 ((cg5 q).1 : Nat), .int .i64 ((cg5 q).2.1 : Nat), .int .i64 ((cg5 q).2.2.1 : Nat), .int .i64 ((cg5 q).2.2.2 : Nat)]) ∧ Below w.heap.size w w' := by
  obtain ⟨⟨a1, a2⟩, ⟨b1, b2⟩, ⟨c1, c2⟩, d1, d2⟩ := hq
  refine (pmatrix_any (den := 1) (u := 2) hP.1 (by omega) (by omega) (by omega) (by omega) (by omega) (by omega) (by omega)).mono ?_
  rintro e w' ⟨rfl, hb⟩
  refine ⟨?_, hb⟩
  have key : ∀ x : Int, Value.int .i64 (x % ((5 : Nat) : Int)) = .int .i64 (((x % 5).toNat : Nat) : Int) := fun x => by
    congr 1
    omega
  unfold cg5
  simp only [key]
theorem mix5 (x y z t : Nat) : ((x : Int) * y + (z : Int) * t) % ((5 : Nat) : Int) = (((x * y + z * t) % 5 : Nat) : Int) := by
  rw [← Int.natCast_mul, ← Int.natCast_mul, ← Int.natCast_add]
  exact (Int.natCast_emod _ _).symm
theorem ptimes5 {w : World} {P a b c d e f g h : Nat} (hP : Pla w P 5) (hm : In5 (a, b, c, d)) (hq : In5 (e, f, g, h)) :
    Calls Tryz.prog 74 #[.pointer (some ⟨P, 0, none⟩), .agg #[.int .i64 (a : Nat), .int .i64 (b : Nat), .int .i64 (c : Nat), .int .i64 (d : Nat)], .agg #[.int .i64 (e : Nat), .int .i64 (f : Nat), .int .i64 (g : Nat), .int .i64 (h : Nat)]] w fun en w' => en = .returned (.agg #[.int .i64 ((tms5 (a, b, c, d) (e, f, g, h)).1 : Nat), .int .i64 ((tms5 (a, b, c, d) (e, f, g, h)).2.1 : Nat), .int .i64 ((tms5 (a, b, c, d) (e, f, g, h)).2.2.1 : Nat), .int .i64 ((tms5 (a, b, c, d) (e, f, g, h)).2.2.2 : Nat)]) ∧ Below w.heap.size w w' := by
  obtain ⟨h1, h2, h3, h4⟩ := hm
  obtain ⟨k1, k2, k3, k4⟩ := hq
  simp only at h1 h2 h3 h4 k1 k2 k3 k4
  refine (ptimes_any (a := a) (b := b) (c := c) (d := d) (e := e) (f := f) (g := g) (h := h) hP (by omega) (by omega) (by omega) (by omega) (by omega) (by omega) (by omega) (by omega) (by omega) (by omega)).mono ?_
  rintro en w' ⟨rfl, hb⟩
  refine ⟨?_, hb⟩
  simp only [mix5]
  rfl
/-- append(own, x): x lies in a new block; what else is kept. -/
theorem wpList_pushZg (w0 : World) (d : Nat) {ops : Array Oper} {rest : List Oper} {o : Oper} {a : Act} {Q : Exit → Act → World → Prop} (hgd : o.guard = none) (hd : o.dst = some d) (s x : Operand)
    (ho : o.op = .call { callee := .builtin .append, args := #[s, x], argTypes := #[55, 55] })
    (base : Nat) (A : Option Addr) (n c : Nat) (l : List Int) (hs : a.eval s = .slice A n c) (hown : OwnZ w0 base (.slice A n c) l)
    (y : Int) (hy : -9223372036854775808 ≤ y ∧ y ≤ 9223372036854775807) (hx : a.eval x = .slice (some ⟨w0.heap.size, 0, none⟩) 1 1) (h63 : n + 1 ≤ 1000000000) (hbase : base ≤ w0.heap.size)
    (h : ∀ A' c' w', OwnZ w' base (.slice A' (n + 1) c') (l ++ [y]) → w0.grownBy w' (Value.slice A n c).ownBlock → Below base w0 w' → wpList Tryz.prog ops Q rest { a with tmps := a.tmps.setIfInBounds d (.slice A' (n + 1) c') } w') :
    wpList Tryz.prog ops Q (o :: rest) a (w0.alloc (.cells #[.int .i64 y] 3)) := by
  obtain rfl := hown.len
  refine wpList_app _ hgd s x 55 55 ho base 3 3 (.int .i64 0) 1 8 Tryz.underlying55 Tryz.underlying55 info_intZ rfl (by omega) _ l.length (l.map (Value.int .i64)) hs (World.ownsRow.alloc hown.1 _) _ 1 1 [.int .i64 y] hx (src_block (heap_alloc_new w0 _) 1 1 rfl) (by simp [Value.oneCell']) (by unfold maxLen; omega) (by omega) (by simp; omega) ?_
  intro v' w' hown' hg hob
  obtain ⟨A', c', rfl, _, _⟩ := own_slice hown'
  have hg0 : w0.grownBy w' (Value.slice A l.length c).ownBlock := grownBy_trans (World.grownBy_alloc w0 _ _) hg
  rw [put_some hd]
  refine h A' c' w' ⟨?_, fun z hz => ?_⟩ hg0 ((Below.refl _ _).grown hg0 hbase (fun k hk => (World.ownsRow.lt hown.1 k hk).1))
  · rw [List.length_append, List.map_append]; exact hown'
  · rcases List.mem_append.1 hz with h1 | h1
    · exact hown.2 z h1
    · rw [List.mem_singleton] at h1; rw [h1]; exact hy
/-- What the reads of a row's element need. -/
def SRow (Mb Gb : Nat) (q : Nq) (wg V : World) : Prop := Below (Mb + 1) wg V ∧ V.heap[Gb]? = some (clObj q)
theorem SRow.below {Mb Gb : Nat} {q : Nq} {wg V V' : World} (h : SRow Mb Gb q wg V) (hm : Mb + 1 ≤ V.heap.size) (hb : Below V.heap.size V V') : SRow Mb Gb q wg V' :=
  ⟨h.1.trans (hb.mono hm), (hb.block Gb (Array.getElem?_eq_some_iff.1 h.2).1).trans h.2⟩
theorem SRow.cell {Mb Gb : Nat} {q : Nq} {wg V : World} (h : SRow Mb Gb q wg V) {b o : Nat} {u : Value} (hb : b < Mb + 1) (hu : wg.cell? ⟨b, o, none⟩ = some u) : V.cell? ⟨b, o, none⟩ = some u := (h.1.cell (p := ⟨b, o, none⟩) hb).trans hu

theorem OwnZ.below2 {w w' w'' : World} {base : Nat} {v : Value} {l : List Int} (h : OwnZ w base v l) (hb : Below w.heap.size w w') (hb2 : Below w'.heap.size w' w'') : OwnZ w'' base v l := (h.below hb).below hb2
theorem rowC5_take {codes : List Nat} {m : Nq} {gs : List Nq} {j : Nat} {q : Nq} (h : gs[j]? = some q) : (rowC5 codes m gs).take (j + 1) = (rowC5 codes m gs).take j ++ [posC codes (code5 (nrm5 (tms5 m q)))] := by
  unfold rowC5
  rw [List.take_add_one, List.getElem?_map, h]
  rfl
theorem toZ_snoc (l : List Nat) (x : Nat) : toZ (l ++ [x]) = toZ l ++ [(x : Int)] := by simp [toZ]
theorem nm5_max (m : Nq) : (nm5 m).size ≤ maxLen := by rw [nm5_size]; unfold maxLen; omega
/-- What the reads of a graph under way need. -/
def SGr (Ob Mb : Nat) (sN sE : Value) (m : Nq) (V : World) : Prop := V.heap[Ob]? = some (.cells #[sN, sE] 25 (0, 0)) ∧ V.heap[Mb]? = some (clObj m)
theorem SGr.below {Ob Mb : Nat} {sN sE : Value} {m : Nq} {V V' : World} (h : SGr Ob Mb sN sE m V) (hb : Below V.heap.size V V') : SGr Ob Mb sN sE m V' :=
  ⟨(hb.block _ (Array.getElem?_eq_some_iff.1 h.1).1).trans h.1, (hb.block _ (Array.getElem?_eq_some_iff.1 h.2).1).trans h.2⟩
theorem SGr.grown {Ob Mb : Nat} {sN sE : Value} {m : Nq} {V V' : World} {ob : Option Nat} (h : SGr Ob Mb sN sE m V) (hg : V.grownBy V' ob) (ho : ∀ g, ob = some g → g ≠ Ob ∧ g ≠ Mb) : SGr Ob Mb sN sE m V' :=
  ⟨(hg.block _ (Array.getElem?_eq_some_iff.1 h.1).1 (fun e => (ho _ e.symm).1 rfl)).trans h.1, (hg.block _ (Array.getElem?_eq_some_iff.1 h.2).1 (fun e => (ho _ e.symm).2 rfl)).trans h.2⟩
/-- Behind a round of the outer loop. -/
theorem row_done {WO v0 V : World} {Ob i : Nat} {A : List Nq} {R : List (List Nat)} {m : Nq} {l : List Int} {An Ae : Option Addr} {cn ce cE : Nat} {AE : Option Addr}
    (hO1 : (V.setCell ⟨Ob, 0, none⟩ (.slice An (i + 1) cn)).heap[Ob]? = some (.cells #[.slice An (i + 1) cn, .slice AE i cE] 25 (0, 0)))
    (gb : GB V (Ob + 1) (.slice An (i + 1) cn) (.slice Ae (i + 1) ce) ((A.map nm5).take i ++ [nm5 m]) ((toI R).take i ++ [l])) (bw : Below (Ob + 1) v0 V) (hw : Below Ob WO v0) (hm : A[i]? = some m) (hl : (toI R)[i]? = some l) :
    ((V.setCell ⟨Ob, 0, none⟩ (.slice An (i + 1) cn)).setCell ⟨Ob, 1, none⟩ (.slice Ae (i + 1) ce)).heap[Ob]? = some (.cells #[.slice An (i + 1) cn, .slice Ae (i + 1) ce] 25 (0, 0)) ∧
    GB ((V.setCell ⟨Ob, 0, none⟩ (.slice An (i + 1) cn)).setCell ⟨Ob, 1, none⟩ (.slice Ae (i + 1) ce)) (Ob + 1) (.slice An (i + 1) cn) (.slice Ae (i + 1) ce) ((A.map nm5).take (i + 1)) ((toI R).take (i + 1)) ∧
    Below Ob WO ((V.setCell ⟨Ob, 0, none⟩ (.slice An (i + 1) cn)).setCell ⟨Ob, 1, none⟩ (.slice Ae (i + 1) ce)) := by
  refine ⟨Go.Joins.block_setCell (i := 1) hO1 (.slice Ae (i + 1) ce), ?_, ?_⟩
  · have hu : Upd (fun b => b = Ob) V ((V.setCell ⟨Ob, 0, none⟩ (.slice An (i + 1) cn)).setCell ⟨Ob, 1, none⟩ (.slice Ae (i + 1) ce)) :=
      ⟨rfl, rfl, rfl, by simp [World.setCell], fun k hk hS => (Below.heap_setCell _ ⟨Ob, 1, none⟩ _ k hS).trans (Below.heap_setCell _ ⟨Ob, 0, none⟩ _ k hS)⟩
    have e1 : (A.map nm5).take (i + 1) = (A.map nm5).take i ++ [nm5 m] := by rw [List.take_add_one, List.getElem?_map, hm]; rfl
    have e2 : (toI R).take (i + 1) = (toI R).take i ++ [l] := by rw [List.take_add_one, hl]; rfl
    rw [e1, e2]
    exact gb.updG hu (fun k hk => by omega)
  · exact ((hw.trans (bw.mono (by omega))).setCell (p := ⟨Ob, 0, none⟩) (Nat.le_refl _) _).setCell (p := ⟨Ob, 1, none⟩) (Nat.le_refl _) _
theorem goG_nilN {P : Program} {ops : Array Oper} {Q : Exit → Act → World → Prop} {S : World → Prop} {Z : List Nat} {a : Act} {w : World} (h : Q .normal a w) : goG P ops (noPanic Q) S Z .nil a w := h
def CayR (w : World) (A : List Nq) (R : List (List Nat)) (e : Ending) (w' : World) : Prop := ∃ v, e = .returned (.tuple #[v, .int .i64 0]) ∧ GrV w' v (A.map nm5) (toI R) ∧ Below w.heap.size w w'
set_option maxHeartbeats 8000000 in
set_option maxRecDepth 100000 in
theorem Cayley_ok {w : World} {p : Nat} {A gs : List Nq} {R : List (List Nat)} (hgp : gdI (p : Int) = true) (hg5 : gdI (5 : Int) = true) (hp5 : p ≠ 5) (hp : p ≤ 41) (hall : all5 (hf5 p) = A) (hgs : (gqs p).map cg5 = gs) (hC : Cay A gs R) (hgl : 0 < gs.length) :
    Calls Tryz.prog 19 #[.int .i64 (p : Nat), .int .i64 5] w (CayR w A R) := by
  have HG := Lib.hid (fun (w : World) (x : Int) (hx : x = p ∨ x = 5) => show Calls Tryz.prog 64 #[.int .i64 x] w fun e w' => e = .returned (.bool true) ∧ w = w' from (good_any (w := w) x).mono fun e w' ⟨h1, h2⟩ => ⟨by rw [h1]; rcases hx with rfl | rfl <;> first | rw [hgp] | rw [hg5], h2⟩)
  obtain ⟨v, hv1, hv2⟩ : ∃ v : Int, (if hf5 p = true then (60 : Int) else 120) = v ∧ v ≤ 120 := ⟨_, rfl, by split <;> omega⟩
  have HV := Lib.hid (fun (w : World) => show Calls Tryz.prog 65 #[.int .i64 (p : Nat), .int .i64 5] w fun e w' => e = .returned (.int .i64 v) ∧ w = w' from (vertices5_any (w := w) (p : Int)).mono fun e w' ⟨h1, h2⟩ => ⟨by rw [h1, hv1], h2⟩)
  have HPO := Lib.hid (fun (w : World) => planeOf_any (w := w))
  have HRO := Lib.hid (fun (w : World) (P : Nat) (h : Pla w P 5) => proot5_any h)
  have HGE := Lib.hid (fun (w : World) => generators_any (w := w) (p := p) (by omega))
  have HC := Lib.hid hC
  have HALL := Lib.hid hall
  have HGS := Lib.hid hgs
  have d1 : decide ((400 : Int) ≤ (p : Int)) = false := decide_eq_false (by omega)
  have d2 : decide ((2500 : Int) < v) = false := decide_eq_false (by omega)
  have d3 : ((p : Int) == 5) = false := by rw [beq_eq_false_iff_ne]; omega
  have d4 : ¬ (p = 5) := hp5
  clear hgp hg5 hall hgs hC hv1
  refine (callsIn_wide (n := 3)).1 (callsIn_of_wp_marks Tryz.func19 rfl trivial ?_ rfl)
  simp only [Tryz.ntmps19, List.size_toArray, List.length_cons, List.length_nil, Nat.reduceAdd, Nat.reduceSub, Array.replicate_succ, Array.replicate_zero, List.push_toArray, List.append_toArray, List.nil_append, List.cons_append]
  refine wpIn_wide.2 ?_
  obtain ⟨W0, hW0⟩ : ∃ W0, W0 = w.alloc (.cells #[.slice none 0 0, .slice none 0 0] 25) := ⟨_, rfl⟩
  have hb0 : Below w.heap.size w W0 := by rw [hW0]; exact (Below.refl _ _).alloc (Nat.le_refl _) _
  have hg0 : W0.heap[w.heap.size]? = some (.cells #[.slice none 0 0, .slice none 0 0] 25 (0, 0)) := by rw [hW0]; exact heap_alloc_new w _
  have HW0 := Lib.hid hW0
  clear hW0
  go_wp2_with (first
    | (go_at_call 64; go_must (refine (HG.out _ _ (by first | exact .inl rfl | exact .inr rfl)).mono ?_); rintro e w1 ⟨rfl, rfl⟩)
    | (go_at_call 65; go_must (refine (HV.out _).mono ?_); rintro e w1 ⟨rfl, rfl⟩)
    | (go_at_call 66; rw [← HW0.out]; go_must (refine (HPO.out _).mono ?_); rintro e w1 ⟨P, rfl, hPI, hPs, hb1⟩; have HPI := Lib.hid hPI; have hPA := hPI.1.below (below_alP (Below.refl _ _) (.cells #[.pointer (some ⟨P, 0, none⟩)] 96)); clear hPI)
    | (go_at_call 67; go_must (refine (HRO.out _ P hPA).mono ?_); rintro e w2 ⟨rfl, hb2⟩)
    | (go_at_call 68; go_must (refine (HGE.out _).mono ?_); rintro e w3 ⟨AQ, nQ, cQ, rfl, hQ, hb3⟩))
  obtain ⟨X, hX⟩ : ∃ X, X = w1.heap.size := ⟨_, rfl⟩
  obtain ⟨G, hG⟩ : ∃ G, G = w.heap.size := ⟨_, rfl⟩
  have hbx := below_alP (Below.refl w1.heap.size w1) (.cells #[.pointer (some ⟨P, 0, none⟩)] 96)
  have hx0 : (w1.alloc (.cells #[.pointer (some ⟨P, 0, none⟩)] 96)).cell? ⟨X, 0, none⟩ = some (.pointer (some ⟨P, 0, none⟩)) := by rw [hX]; simp
  have hx3 : w3.cell? ⟨X, 0, none⟩ = some (.pointer (some ⟨P, 0, none⟩)) := keepP hb3 (keepP hb2 hx0)
  have hb13 : Below w1.heap.size w1 w3 := (hbx.trans (hb2.mono hbx.size)).trans (hb3.mono (Nat.le_trans hbx.size hb2.size))
  have hPI3 : PlI w3 P := HPI.out.below hb13
  have hb03 : Below w.heap.size w w3 := hb0.trans ((hb1.mono hb0.size).trans (hb13.mono (Nat.le_trans hb0.size hb1.size)))
  have hg3 : w3.heap[G]? = some (.cells #[.slice none 0 0, .slice none 0 0] 25 (0, 0)) := by
    have hl := (Array.getElem?_eq_some_iff.1 hg0).1
    rw [hG]
    exact ((hb13.block _ (Nat.lt_of_lt_of_le hl hb1.size)).trans (hb1.block _ hl)).trans hg0
  have hGX : G < P ∧ P < X := by
    have h1 := (Array.getElem?_eq_some_iff.1 hg0).1
    have h2 := HPI.out.lt
    omega
  have hX3 := cell_some_lt hx3
  rw [← hX, ← hG]
  have HX := Lib.hid hX
  have HG0 := Lib.hid hG
  have HB03 := Lib.hid hb03
  have HG3 := Lib.hid hg3
  have HPI3 := Lib.hid hPI3
  have HQ := Lib.hid hQ
  have HNQ := Lib.hid hQ.len
  clear hX hG hbx hx0 hb13 hb03 hg3 hPI3 hPA hb0 hb1 hb2 hb3 hg0 HPI hQ d1 d2 d3 d4 HG HV HPO HRO HGE hPs
  have hnQ0 : 0 < nQ := by
    have h1 := congrArg List.length HGS.out
    rw [List.length_map] at h1
    rw [HNQ.out, h1]
    exact hgl
  obtain ⟨gq, rfl, hgq1, hgql, hcQ, hmQ, hQC⟩ := HQ.out.cells5 hnQ0
  have HQC := Lib.hid hQC
  unfold maxLen at hmQ
  clear hQC
  have hl0 := OwnC.nil (T := 105) w3 w3.heap.size
  go_loopw [7, 53] (fun sv kv wr => ∃ (k c : Nat) (A1 : Option Addr), kv = .int .i64 (k : Nat) ∧ k ≤ nQ ∧ sv = .slice A1 k c ∧ OwnC 105 wr w3.heap.size (.slice A1 k c) (((gqs p).map cg5).take k) ∧ Below w3.heap.size w3 wr) (fun _ kv _ => nQ - (intOf kv).toNat)
  case atStart => exact ⟨0, 0, none, rfl, by omega, rfl, hl0, Below.refl _ _⟩
  case round =>
    clear hl0
    obtain ⟨k, c, A1, rfl, hk, rfl, hown, hbr⟩ := hrel
    by_cases hkn : k < nQ
    · obtain ⟨q, hq⟩ : ∃ q, (gqs (p : Int))[k]? = some q := ⟨_, List.getElem?_eq_getElem (by rw [← HNQ.out]; exact hkn)⟩
      have hqb := gqs_small (List.mem_of_getElem? hq)
      obtain ⟨z0, z1, z2, z3, z4⟩ := HQC.out k q hq
      obtain ⟨qa, qb, qc, qd⟩ := q
      have y0 : wr.cell? ⟨gq, k * 5, none⟩ = some (.int .i64 qa) := keepP hbr z0
      have y1 : wr.cell? ⟨gq, k * 5 + 1, none⟩ = some (.int .i64 qb) := keepP hbr z1
      have y2 : wr.cell? ⟨gq, k * 5 + 2, none⟩ = some (.int .i64 qc) := keepP hbr z2
      have y3 : wr.cell? ⟨gq, k * 5 + 3, none⟩ = some (.int .i64 qd) := keepP hbr z3
      have y4 : wr.cell? ⟨gq, k * 5 + 4, none⟩ = some (.int .i64 1) := keepP hbr z4
      have kk0 : (0 : Int) ≤ (k : Int) := by omega
      have kk1 : (k : Int) < (nQ : Int) := by omega
      have hxr := keepP hbr hx3
      obtain ⟨Bq, hBq⟩ : ∃ Bq, Bq = wr.heap.size := ⟨_, rfl⟩
      obtain ⟨Wq, hWq⟩ : ∃ Wq, Wq = wr.alloc (.cells #[.int .i64 qa, .int .i64 qb, .int .i64 qc, .int .i64 qd, .int .i64 1] 103) := ⟨_, rfl⟩
      have hb1 : Below wr.heap.size wr Wq := by rw [hWq]; exact below_alP (Below.refl _ _) _
      have hx1 := keepP hb1 hxr
      have hq0 : Wq.heap[Bq]? = some (.cells #[.int .i64 qa, .int .i64 qb, .int .i64 qc, .int .i64 qd, .int .i64 1] 103 (0, 0)) := by rw [hWq, hBq]; exact heap_alloc_new wr _
      have c0 : Wq.cell? ⟨Bq, 0, none⟩ = some (.int .i64 qa) := by rw [Lib.cell_of_heap hq0]; rfl
      have c1 : Wq.cell? ⟨Bq, 1, none⟩ = some (.int .i64 qb) := by rw [Lib.cell_of_heap hq0]; rfl
      have c2 : Wq.cell? ⟨Bq, 2, none⟩ = some (.int .i64 qc) := by rw [Lib.cell_of_heap hq0]; rfl
      have c3 : Wq.cell? ⟨Bq, 3, none⟩ = some (.int .i64 qd) := by rw [Lib.cell_of_heap hq0]; rfl
      have c4 : Wq.cell? ⟨Bq, 4, none⟩ = some (.int .i64 1) := by rw [Lib.cell_of_heap hq0]; rfl
      have HMX := Lib.hid (pmatrix5 (w := Wq) (q := (qa, qb, qc, qd)) ((HPI3.out.below hbr).below hb1) hqb)
      have HTK := Lib.hid (show ((gqs (p : Int)).map cg5).take (k + 1) = ((gqs (p : Int)).map cg5).take k ++ [cg5 (qa, qb, qc, qd)] by rw [List.take_add_one, List.getElem?_map, hq]; rfl)
      have HOW := Lib.hid (hown.below hb1)
      have hsz3 : w3.heap.size ≤ Wq.heap.size := Nat.le_trans hbr.size hb1.size
      have hnq2 : nQ ≤ 42 := by
        have h1 := congrArg List.length HGS.out
        rw [List.length_map] at h1
        rw [HNQ.out, h1]
        exact HC.out.deg
      have HB1 := Lib.hid hb1
      have HBq := Lib.hid hBq
      have HWq := Lib.hid hWq
      have HBR := Lib.hid hbr
      clear z0 z1 z2 z3 z4 hq hqb hBq hWq hq0 hown hb1 hbr
      go_upto_region 11 with (fail)
      rw [← HWq.out]
      rw [← HBq.out]
      go_wp2_with (first
        | (go_at_call 69; go_must (refine HMX.out.mono ?_); rintro en w5 ⟨rfl, hb5⟩; have hsz5 := Nat.le_trans hsz3 hb5.size; have how5 := HOW.out.below hb5)
        | (at_builtin; refine wpList_pushC w5 infoC_class (by rfl) _ _ 98 98 (by rfl) Tryz.underlying98 Tryz.underlying98 w3.heap.size A1 k c _ (by rfl) how5 (cg5 (qa, qb, qc, qd)) (by rfl) (by omega) hsz5 ?_; intro A7 c7 w7 how7 hg7 hb7))
      have how8 : OwnC 105 w7 w3.heap.size (.slice A7 (k + 1) c7) (((gqs (p : Int)).map cg5).take (k + 1)) := by rw [HTK.out]; exact how7
      have hb8 : Below w3.heap.size w3 w7 := ((HBR.out.trans (HB1.out.mono HBR.out.size)).trans (hb5.mono hsz3)).trans hb7
      go_roundw
      case rel => exact ⟨k + 1, c7, A7, by go_num, by omega, rfl, how8, hb8⟩
      case measure => simp [intOf]; omega
    · have HK := Lib.hid (show k = nQ by omega)
      have hxr := keepP hbr hx3
      obtain ⟨hfb, hhf⟩ : ∃ b, b = hf5 (p : Int) := ⟨_, rfl⟩
      have HSQ := Lib.hid (show Calls Tryz.prog 70 #[.pointer (some ⟨P, 0, none⟩), .int .i64 (p : Nat)] wr fun e w' => e = .returned (.bool hfb) ∧ wr = w' by rw [hhf]; exact psquare_any (n := (p : Int)) (HPI3.out.below hbr).1 primeI_5 (by decide))
      have HHF := Lib.hid hhf
      clear hhf
      go_upto_region 14 with (go_at_call 70; go_must (refine HSQ.out.mono ?_); rintro e w5 ⟨rfl, rfl⟩)
      have hmm := @run_makeMap Tryz.prog
      go_upto_region 16 with (fail)
      obtain ⟨WM, hWM⟩ : ∃ WM, WM = (((wr.alloc (.cells #[.bool hfb] 4)).alloc (.map #[] 0)).alloc (.cells #[.map (some (wr.heap.size + 1))] 107)).alloc (.cells #[.slice none 0 0] 98) := ⟨_, rfl⟩
      rw [← hWM]
      obtain ⟨N, hN⟩ : ∃ N, N = wr.heap.size := ⟨_, rfl⟩
      rw [← hN] at hWM ⊢
      have hbM : Below wr.heap.size wr WM := by rw [hWM]; exact below_alP (below_alP (below_alP (below_alP (Below.refl _ _) _) _) _) _
      have sM : WM.heap.size = N + 4 := by rw [hWM, hN]; simp
      have m0 : WM.heap[N]? = some (.cells #[.bool hfb] 4 (0, 0)) := by
        rw [hWM, hN]
        exact (Below.heap_alloc _ _ _ (by simp; omega)).trans ((Below.heap_alloc _ _ _ (by simp; omega)).trans ((Below.heap_alloc _ _ _ (by simp)).trans (heap_alloc_new wr _)))
      have m1 : WM.ownsMap Tryz.prog 105 (plainElem Tryz.prog 3) (N + 1) 0 (.map [] : DataW Unit) := by
        rw [hWM, hN]
        have := (World.ownsMap_made (H := Unit) (wr.alloc (.cells #[.bool hfb] 4)) Tryz.prog 105 (plainElem Tryz.prog 3))
        rw [World.size_alloc] at this
        exact (this.alloc _).alloc _
      have m2 : WM.heap[N + 2]? = some (.cells #[.map (some (N + 1))] 107 (0, 0)) := by
        rw [hWM, hN]
        refine (Below.heap_alloc _ _ _ (by simp)).trans ?_
        have := heap_alloc_new ((wr.alloc (.cells #[.bool hfb] 4)).alloc (.map #[] 0)) (.cells #[.map (some (wr.heap.size + 1))] 107)
        simpa using this
      have m3 : WM.heap[N + 3]? = some (.cells #[.slice none 0 0] 98 (0, 0)) := by
        rw [hWM, hN]
        have := heap_alloc_new (((wr.alloc (.cells #[.bool hfb] 4)).alloc (.map #[] 0)).alloc (.cells #[.map (some (wr.heap.size + 1))] 107)) (.cells #[.slice none 0 0] 98)
        simpa using this
      have hxM := keepP hbM hxr
      have HbM := Lib.hid hbM
      have HN := Lib.hid hN
      clear hWM hmm hN hbM
      go_upto_region 17 with (fail)
      have hPI4 := (HPI3.out.below hbr).below HbM.out
      have hxl := cell_some_lt hxr
      have hNr := HN.out
      have hPN : P < N := by omega
      have hXN : X < N := by omega
      have hNM : N ≤ WM.heap.size := by omega
      have HsM := Lib.hid sM
      clear hNr sM
      refine (wpIn_wide (n := 3)).1 (wp_rangeCls P N rfl hPI4.1 hPN hNM (fun pre W => (∃ (A2 : Option Addr) (c2 nm : Nat) (D : DataW Unit), CSt W N hfb (ftk hfb pre) A2 c2 nm D) ∧ Below N WM W) ?hI ?h0 ?a1 ?hassign ?hbody ?hdone)
      case hassign =>
        intro x W K hK
        simp only [clV]
        gi_wp2
        exact hK
      case hI =>
        rintro pre B C ⟨⟨A2, c2, nm, D, h1⟩, h2⟩ hu
        rw [HsM.out] at hu
        exact ⟨⟨A2, c2, nm, D, h1.upd hu (fun k hk => hk)⟩, h2.trans (hu.below (by have := h2.size; omega) (fun k hk => by omega))⟩
      case h0 => exact ⟨⟨none, 0, 0, .map [], ⟨m0, m1, CIn.nil, m2, m3, OwnC.nil _ _, Nat.le_refl _⟩⟩, Below.refl _ _⟩
      case hdone =>
        rintro W ⟨⟨A2, c2, nm, D, hst⟩, hbW⟩ hD
        rw [HsM.out] at hD ⊢
        have hA5 : ftk hfb cls5 = A := by rw [HHF.out]; exact HALL.out
        rw [hA5] at hst
        have hlW : ∀ b, b < N → W.heap[b]? = WM.heap[b]? := fun b hb => hbW.block b hb
        have hlM : ∀ b, b < N → WM.heap[b]? = wr.heap[b]? := fun b hb => HbM.out.block b (by have := HN.out; omega)
        have hgens : OwnC 105 W w3.heap.size (.slice A1 k c) gs := by
          have e1 : ((gqs (p : Int)).map cg5).take k = gs := by
            rw [HK.out, HNQ.out, List.take_of_length_le (by simp)]
            exact HGS.out
          rw [e1] at hown
          exact hown.keep fun g _ hl _ => (hlW g (by have := HN.out; omega)).trans (hlM g (by have := HN.out; omega))
        have hXW : W.cell? ⟨X, 0, none⟩ = some (.pointer (some ⟨P, 0, none⟩)) := (hbW.cell (p := ⟨X, 0, none⟩) (by rw [HN.out]; exact hxl)).trans hxM
        have hPW : PlI W P := by
          obtain ⟨q1, B, q2, q3⟩ := HPI3.out.below hbr
          have hBl : B < N := by rw [HN.out]; exact q3.lt
          have ew : ∀ b o, b < N → W.cell? ⟨b, o, none⟩ = wr.cell? ⟨b, o, none⟩ := fun b o hb => World.cell?_of_block ((hlW b hb).trans (hlM b hb))
          exact ⟨(ew P 0 hPN).trans q1, B, (ew P 1 hPN).trans q2, ((hlW B hBl).trans (hlM B hBl)).trans q3⟩
        have hT : Below w.heap.size w W := by
          have t1 := HB03.out
          have t2 := t1.trans (hbr.mono t1.size)
          have t3 := t2.trans (HbM.out.mono t2.size)
          exact t3.trans (hbW.mono (by rw [HN.out]; exact t2.size))
        have hGW : W.heap[G]? = some (.cells #[.slice none 0 0, .slice none 0 0] 25 (0, 0)) :=
          (hlW G (by omega)).trans ((hlM G (by omega)).trans ((hbr.block G (by omega)).trans HG3.out))
        have HT := Lib.hid hT
        have HGW := Lib.hid hGW
        have HST := Lib.hid hst
        have HGE := Lib.hid hgens
        have HPW := Lib.hid hPW
        have HBW := Lib.hid hbW
        have HXW := Lib.hid hXW
        have HDD := Lib.hid hD
        have hkl : k = gs.length := hgens.len
        have hAcl := hst.own.cells HC.out.pos
        have hGcl := hgens.cells (by rw [hkl]; exact hgl)
        obtain ⟨gA, rfl, hgA1, hgAl, hcA, hmA, hclA⟩ := hAcl
        obtain ⟨gG, rfl, hgG1, hgGl, hcG, hmG, hclG⟩ := hGcl
        have HKL := Lib.hid hkl
        have HCA := Lib.hid hclA
        have HCG := Lib.hid hclG
        have HGI := Lib.hid (fun (q : Nq) (hq : q ∈ gs) => show In5 q by
          rw [← HGS.out] at hq
          obtain ⟨z, _, rfl⟩ := List.mem_map.1 hq
          exact cg5_in z)
        clear hkl hclA hclG
        obtain ⟨nA, hnA⟩ : ∃ nA, nA = A.length := ⟨_, rfl⟩
        rw [← hnA] at hcA
        have hb3 := hst.b3
        rw [← hnA] at hb3
        have ca : W.cell? ⟨N + 1 + 1 + 1, 0, none⟩ = some (.slice (some ⟨gA, 0, none⟩) nA c2) := by rw [Lib.cell_of_heap hb3]; rfl
        have HNA := Lib.hid hnA
        clear hT hGW hst hgens hPW hbW hXW hD hlW hlM hA5 hnA hb3 m0 m1 m2 m3 hown hbr hxr hxM hPI4
        obtain ⟨Ob, hOb⟩ : ∃ Ob, Ob = W.heap.size := ⟨_, rfl⟩
        obtain ⟨WO, hWO⟩ : ∃ WO, WO = W.alloc (.cells #[.slice none 0 0, .slice none 0 0] 25) := ⟨_, rfl⟩
        have hbO : Below W.heap.size W WO := by rw [hWO]; exact below_alP (Below.refl _ _) _
        have hO0 : WO.heap[Ob]? = some (.cells #[.slice none 0 0, .slice none 0 0] 25 (0, 0)) := by rw [hWO, hOb]; exact heap_alloc_new W _
        have sO : WO.heap.size = Ob + 1 := by rw [hWO, hOb, World.size_alloc]
        have caO := keepP hbO ca
        have HWO := Lib.hid hWO
        have HOb := Lib.hid hOb
        clear hWO hOb
        go_upto_region 22 with (fail)
        rw [← HWO.out, ← HOb.out]
        go_upto_block 5 with (fail)
        have hNOb : N + 5 ≤ Ob := by
          have h1 := (Array.getElem?_eq_some_iff.1 HDD.out).1
          rw [HOb.out]
          omega
        have hG0 : WO.heap[G]? = some (.cells #[.slice none 0 0, .slice none 0 0] 25 (0, 0)) := (hbO.block _ (Array.getElem?_eq_some_iff.1 HGW.out).1).trans HGW.out
        have hDO : WO.heap[N + 4]? = some (.deferred (some [])) := (hbO.block _ (Array.getElem?_eq_some_iff.1 HDD.out).1).trans HDD.out
        have HG4 := Lib.hid hG0
        have HDO := Lib.hid hDO
        have HBO := Lib.hid hbO
        clear hG0 hDO hbO ca
        go_wp2_with fail
        go_loopw [91] (fun iv wr2 => ∃ (i cN cE : Nat) (AN AE : Option Addr), iv = .int .i64 (i : Nat) ∧ i ≤ nA ∧ Hid (wr2.heap[Ob]? = some (.cells #[.slice AN i cN, .slice AE i cE] 25 (0, 0))) ∧ Hid (GB wr2 (Ob + 1) (.slice AN i cN) (.slice AE i cE) ((A.map nm5).take i) ((toI R).take i)) ∧ Hid (Below Ob WO wr2)) (fun iv _ => nA - (intOf iv).toNat)
        case atStart => exact ⟨0, 0, 0, none, none, rfl, by omega, Lib.hid hO0, Lib.hid (GB.nil _ _), Lib.hid (Below.refl _ _)⟩
        case round =>
          clear caO
          obtain ⟨i, cN, cE, AN, AE, rfl, hi, HOC, HGB, HBR⟩ := hrel
          by_cases hin : i < nA
          · obtain ⟨m, hm⟩ : ∃ m, A[i]? = some m := ⟨_, List.getElem?_eq_getElem (by rw [← HNA.out]; exact hin)⟩
            have hm5 := HC.out.in5 m (List.mem_of_getElem? hm)
            obtain ⟨ma, mb, mc, md⟩ := m
            obtain ⟨z0, z1, z2, z3⟩ := HCA.out i _ hm
            have hW2 : Below W.heap.size W wr := HBO.out.trans (HBR.out.mono (by rw [HOb.out]; exact Nat.le_refl _))
            have y0 : wr.cell? ⟨gA, i * 4, none⟩ = some (.int .i64 (ma : Nat)) := keepP hW2 z0
            have y1 : wr.cell? ⟨gA, i * 4 + 1, none⟩ = some (.int .i64 (mb : Nat)) := keepP hW2 z1
            have y2 : wr.cell? ⟨gA, i * 4 + 2, none⟩ = some (.int .i64 (mc : Nat)) := keepP hW2 z2
            have y3 : wr.cell? ⟨gA, i * 4 + 3, none⟩ = some (.int .i64 (md : Nat)) := keepP hW2 z3
            have HM5 := Lib.hid hm5
            have HMA := Lib.hid hm
            have HW2 := Lib.hid hW2
            have ii0 : (0 : Int) ≤ (i : Int) := by omega
            have ii1 : (i : Int) < (nA : Int) := by omega
            obtain ⟨Mb, hMb⟩ : ∃ Mb, Mb = wr.heap.size := ⟨_, rfl⟩
            obtain ⟨wm, hwm⟩ : ∃ wm, wm = wr.alloc (.cells #[.int .i64 (ma : Nat), .int .i64 (mb : Nat), .int .i64 (mc : Nat), .int .i64 (md : Nat)] 105) := ⟨_, rfl⟩
            have hbm : Below wr.heap.size wr wm := by rw [hwm]; exact below_alP (Below.refl _ _) _
            have hM0 : wm.heap[Mb]? = some (clObj (ma, mb, mc, md)) := by rw [hwm, hMb]; exact heap_alloc_new wr _
            have sm : wm.heap.size = Mb + 1 := by rw [hwm, hMb, World.size_alloc]
            have hMbO : Ob + 1 ≤ Mb := by rw [hMb]; have := HBR.out.size; omega
            have HWM2 := Lib.hid hwm
            have HMB := Lib.hid hMb
            have HBM := Lib.hid hbm
            have HM0 := Lib.hid hM0
            have HSM := Lib.hid sm
            clear z0 z1 z2 z3 hm5 hm hW2 hwm hMb hbm hM0 sm
            go_upto_block 7 with (fail)
            rw [← HWM2.out]
            rw [← HMB.out]
            go_wp2_with fail
            clear y0 y1 y2 y3
            go_loopw [18, 97] (fun lv jv wi => ∃ (j c3 : Nat) (A3 : Option Addr), jv = .int .i64 (j : Nat) ∧ j ≤ k ∧ lv = .slice A3 j c3 ∧ Hid (OwnZ wi (Mb + 1) (.slice A3 j c3) (toZ ((rowC5 (A.map code5) (ma, mb, mc, md) gs).take j))) ∧ Hid (Below (Mb + 1) wm wi)) (fun _ jv _ => k - (intOf jv).toNat)
            case atStart => exact ⟨0, 0, none, rfl, by omega, rfl, Lib.hid (OwnZ.nil _ _), Lib.hid (Below.refl _ _)⟩
            case round =>
              obtain ⟨j, c3, A3, rfl, hj, rfl, HOZ, HBI⟩ := hrel
              by_cases hjk : j < k
              · obtain ⟨q, hq⟩ : ∃ q, gs[j]? = some q := ⟨_, List.getElem?_eq_getElem (by rw [← HKL.out]; exact hjk)⟩
                obtain ⟨qa, qb, qc, qd⟩ := q
                have hq5 := HGI.out _ (List.mem_of_getElem? hq)
                obtain ⟨z0, z1, z2, z3⟩ := HCG.out j _ hq
                have hWm : Below W.heap.size W wm := HW2.out.trans (HBM.out.mono HW2.out.size)
                have hWi : Below W.heap.size W wr := hWm.trans (HBI.out.mono (by have := HMB.out; have := HW2.out.size; omega))
                have e0 := keepP hWi z0
                have e1 := keepP hWi z1
                have e2 := keepP hWi z2
                have e3 := keepP hWi z3
                have jj0 : (0 : Int) ≤ (j : Int) := by omega
                have jj1 : (j : Int) < (k : Int) := by omega
                obtain ⟨Gb, hGb⟩ : ∃ Gb, Gb = wr.heap.size := ⟨_, rfl⟩
                obtain ⟨wg, hwg⟩ : ∃ wg, wg = wr.alloc (.cells #[.int .i64 (qa : Nat), .int .i64 (qb : Nat), .int .i64 (qc : Nat), .int .i64 (qd : Nat)] 105) := ⟨_, rfl⟩
                have hbg : Below wr.heap.size wr wg := by rw [hwg]; exact below_alP (Below.refl _ _) _
                have hG4 : wg.heap[Gb]? = some (clObj (qa, qb, qc, qd)) := by rw [hwg, hGb]; exact heap_alloc_new wr _
                have sg : wg.heap.size = Gb + 1 := by rw [hwg, hGb, World.size_alloc]
                have hWg : Below W.heap.size W wg := hWi.trans (hbg.mono hWi.size)
                have hm4 : wg.heap[Mb]? = some (clObj (ma, mb, mc, md)) := (hbg.block Mb (by have := HBI.out.size; have := HSM.out; omega)).trans ((HBI.out.block Mb (by omega)).trans HM0.out)
                have QM := Lib.hid (show wg.cell? ⟨N + 1 + 1, 0, none⟩ = some (.map (some (N + 1))) from keepP hWg (by rw [Lib.cell_of_heap HST.out.b2]; rfl))
                have QX := Lib.hid (keepP hWg HXW.out)
                have QA0 := Lib.hid (show wg.cell? ⟨Mb, 0, none⟩ = some (.int .i64 (ma : Nat)) by rw [Lib.cell_of_heap hm4]; rfl)
                have QA1 := Lib.hid (show wg.cell? ⟨Mb, 1, none⟩ = some (.int .i64 (mb : Nat)) by rw [Lib.cell_of_heap hm4]; rfl)
                have QA2 := Lib.hid (show wg.cell? ⟨Mb, 2, none⟩ = some (.int .i64 (mc : Nat)) by rw [Lib.cell_of_heap hm4]; rfl)
                have QA3 := Lib.hid (show wg.cell? ⟨Mb, 3, none⟩ = some (.int .i64 (md : Nat)) by rw [Lib.cell_of_heap hm4]; rfl)
                have QB0 := Lib.hid (show wg.cell? ⟨Gb, 0, none⟩ = some (.int .i64 (qa : Nat)) by rw [Lib.cell_of_heap hG4]; rfl)
                have QB1 := Lib.hid (show wg.cell? ⟨Gb, 1, none⟩ = some (.int .i64 (qb : Nat)) by rw [Lib.cell_of_heap hG4]; rfl)
                have QB2 := Lib.hid (show wg.cell? ⟨Gb, 2, none⟩ = some (.int .i64 (qc : Nat)) by rw [Lib.cell_of_heap hG4]; rfl)
                have QB3 := Lib.hid (show wg.cell? ⟨Gb, 3, none⟩ = some (.int .i64 (qd : Nat)) by rw [Lib.cell_of_heap hG4]; rfl)
                have HPg := Lib.hid (HPW.out.below hWg)
                have HQ5 := Lib.hid hq5
                have HQ := Lib.hid hq
                have HWG := Lib.hid hWg
                have HBG := Lib.hid hbg
                have HSG := Lib.hid sg
                have HwG := Lib.hid hwg
                have HGb := Lib.hid hGb
                have HOZg := Lib.hid (HOZ.out.below hbg)
                have HG4b := Lib.hid hG4
                clear z0 z1 z2 z3 hWm hWi hq5 hq hWg hbg hG4 hm4 sg hwg hGb
                go_upto_region 29 with (fail)
                rw [← HwG.out]
                rw [← HGb.out]
                clear e0 e1 e2 e3
                have hMMg : Mb + 1 ≤ Gb := by have := HGb.out; have := HBI.out.size; have := HSM.out; omega
                have hNMb : N + 6 ≤ Mb + 1 := by omega
                have hs0 : SRow Mb Gb (qa, qb, qc, qd) wg wg.drew := ⟨(Below.refl _ _).drew, HG4b.out⟩
                have hMM : Mb < Mb + 1 := by omega
                have hXM2 : X < Mb + 1 := by omega
                have hNM2 : N + 1 + 1 < Mb + 1 := by omega
                refine wp_region_trq (.read 0 (.read 1 (.read 2 (.read 3 (.read 4 (.read 5 (.step 6 (.step 7 (.read 8 (.step 9 (.step 10 (.read 11 .nil)))))))))))) [] (by kernel_rfl) (by rfl) (by kernel_rfl) (by kernel_rfl) (SRow Mb Gb (qa, qb, qc, qd) wg) ?_
                change goG _ _ _ _ _ _ _ wg.drew
                refine goG_read 101 hs0 (by rfl) (by rfl) ?_ (by rfl) (fun wz hSw => ?_) ?_
                rotate_left
                · go_simp
                  try with_reducible rfl
                simp only [List.setIfInBounds_toArray, List.set]
                refine goG_read 102 hs0 (by rfl) (by rfl) ?_ (by rfl) (fun wz hSw => ?_) ?_
                rotate_left
                · have x0 := hSw.cell hNM2 QM.out; go_simp
                  try with_reducible rfl
                simp only [List.setIfInBounds_toArray, List.set]
                refine goG_read 103 hs0 (by rfl) (by rfl) ?_ (by rfl) (fun wz hSw => ?_) ?_
                rotate_left
                · have x0 := hSw.cell hXM2 QX.out; go_simp
                  try with_reducible rfl
                simp only [List.setIfInBounds_toArray, List.set]
                refine goG_read 104 hs0 (by rfl) (by rfl) ?_ (by rfl) (fun wz hSw => ?_) ?_
                rotate_left
                · have x0 := hSw.cell hXM2 QX.out; go_simp
                  try with_reducible rfl
                simp only [List.setIfInBounds_toArray, List.set]
                refine goG_read 105 hs0 (by rfl) (by rfl) ?_ (by rfl) (fun wz hSw => ?_) ?_
                rotate_left
                · have x0 := hSw.cell hMM QA0.out; have x1 := hSw.cell hMM QA1.out; have x2 := hSw.cell hMM QA2.out; have x3 := hSw.cell hMM QA3.out; go_simp
                  try with_reducible rfl
                simp only [List.setIfInBounds_toArray, List.set]
                refine goG_read 106 hs0 (by rfl) (by rfl) ?_ (by rfl) (fun wz hSw => ?_) ?_
                rotate_left
                · have hq0 := hSw.2; have x0 : wz.cell? ⟨Gb, 0, none⟩ = some (.int .i64 (qa : Nat)) := (by rw [Lib.cell_of_heap hq0]; rfl); have x1 : wz.cell? ⟨Gb, 1, none⟩ = some (.int .i64 (qb : Nat)) := (by rw [Lib.cell_of_heap hq0]; rfl); have x2 : wz.cell? ⟨Gb, 2, none⟩ = some (.int .i64 (qc : Nat)) := (by rw [Lib.cell_of_heap hq0]; rfl); have x3 : wz.cell? ⟨Gb, 3, none⟩ = some (.int .i64 (qd : Nat)) := (by rw [Lib.cell_of_heap hq0]; rfl); clear hq0; go_simp
                  try with_reducible rfl
                simp only [List.setIfInBounds_toArray, List.set]
                refine goG_step (by rfl) ?_
                have hPd : Pla wg.drew P 5 := HPg.out.1.below (Below.refl _ _).drew
                obtain ⟨T, hT⟩ : ∃ T, T = tms5 (ma, mb, mc, md) (qa, qb, qc, qd) := ⟨_, rfl⟩
                obtain ⟨ta, tb, tc, td⟩ := T
                have hTi : In5 (ta, tb, tc, td) := by rw [hT]; exact tms5_in _ _
                have HTI := Lib.hid (show Calls Tryz.prog 74 #[.pointer (some ⟨P, 0, none⟩), .agg #[.int .i64 (ma : Nat), .int .i64 (mb : Nat), .int .i64 (mc : Nat), .int .i64 (md : Nat)], .agg #[.int .i64 (qa : Nat), .int .i64 (qb : Nat), .int .i64 (qc : Nat), .int .i64 (qd : Nat)]] wg.drew fun en w' => en = .returned (.agg #[.int .i64 (ta : Nat), .int .i64 (tb : Nat), .int .i64 (tc : Nat), .int .i64 (td : Nat)]) ∧ Below wg.drew.heap.size wg.drew w' by
                  have h := ptimes5 hPd HM5.out HQ5.out
                  rw [← hT] at h
                  exact h)
                have HT2 := Lib.hid hT
                have HTi := Lib.hid hTi
                clear hT hTi
                go_wp2_with (go_at_call 74; go_must (refine HTI.out.mono ?_); rintro en w4 ⟨rfl, hb4⟩)
                have hsg : Mb + 1 ≤ wg.drew.heap.size := by show Mb + 1 ≤ wg.heap.size; have := HSG.out; omega
                have hs4 := hs0.below hsg hb4
                have hsg4 : Mb + 1 ≤ w4.heap.size := Nat.le_trans hsg hb4.size
                refine ⟨fun _ => hs4, ?_⟩
                refine goG_step (by rfl) ?_
                have HNI := Lib.hid (pnormal_any ((HPg.out.below (Below.refl wg.heap.size wg).drew).below hb4) HTi.out)
                go_wp2_with (go_at_call 73; go_must (refine HNI.out.mono ?_); rintro en w5 ⟨rfl, hb5⟩)
                have hs5 := hs4.below hsg4 hb5
                have hsg5 : Mb + 1 ≤ w5.heap.size := Nat.le_trans hsg4 hb5.size
                refine ⟨fun _ => hs5, ?_⟩
                obtain ⟨y, hy⟩ : ∃ y, y = nrm5 (ta, tb, tc, td) := ⟨_, rfl⟩
                have hy5 : In5 y := by rw [hy]; exact nrm5_in _
                obtain ⟨ps, hps⟩ : ∃ ps, ps = posC (A.map code5) (code5 y) := ⟨_, rfl⟩
                have hyA : A[ps]? = some y := by
                  have h := HC.out.found HMA.out (List.mem_of_getElem? HQ.out)
                  rw [← HT2.out, ← hy, ← hps] at h
                  exact h
                have hpl : ps < 120 := by
                  have h1 := (List.getElem?_eq_some_iff.1 hyA).1
                  have h2 := HC.out.few
                  omega
                rw [← hy]
                have HLK := Lib.hid (show ∀ V, SRow Mb Gb (qa, qb, qc, qd) wg V → (Instr.lookup 107 (.map (some (N + 1))) (clV y) false).run Tryz.prog V = .ok (.int .i64 (ps : Nat)) V from fun V hV => by
                  have h := look_row HST.out ((hV.1.block (N + 1) (by omega)).trans (HWG.out.block (N + 1) HST.out.mp.lt)) hy5 (List.mem_of_getElem? hyA)
                  rw [← hps] at h
                  exact h)
                have HPS := Lib.hid hps
                have HYY := Lib.hid hy
                clear hy hps hyA hy5
                refine goG_read 109 hs5 (by rfl) (by rfl) ?_ (by rfl) (fun wz hSw => ?_) ?_
                rotate_left
                · have hl := HLK.out wz hSw; go_simp
                  try with_reducible rfl
                simp only [List.setIfInBounds_toArray, List.set]
                refine goG_step (by rfl) ?_
                have hoz5 : OwnZ w5 (Mb + 1) (.slice A3 j c3) (toZ ((rowC5 (A.map code5) (ma, mb, mc, md) gs).take j)) := (HOZg.out.below ((Below.refl wg.heap.size wg).drew)).below2 hb4 hb5
                have HOZ5 := Lib.hid hoz5
                clear hoz5
                clear hs0 hs4 hPd hb4 hb5 hsg hsg4 HTI HNI HLK
                have hk42 : k ≤ 42 := by rw [HKL.out]; exact HC.out.deg
                go_step
                go_step
                go_step
                have hs6 : SRow Mb Gb (qa, qb, qc, qd) wg (w5.alloc (.cells #[.int .i64 (ps : Nat)] 3)) := hs5.below hsg5 (below_alP (Below.refl _ _) _)
                refine ⟨fun _ => hs6, ?_⟩
                refine goG_step (by rfl) ?_
                refine wpList_pushZg w5 111 (by rfl) (by rfl) _ _ (by rfl) (Mb + 1) A3 j c3 _ (by rfl) HOZ5.out (ps : Int) (by omega) (by rfl) (by omega) hsg5 ?_
                intro A7 c7 w7 hoz7 hg7 hb7
                simp only [List.setIfInBounds_toArray, List.set]
                go_step
                have hGb7 : w7.heap[Gb]? = some (clObj (qa, qb, qc, qd)) := by
                  refine (hg7.block Gb (Array.getElem?_eq_some_iff.1 hs5.2).1 (fun e => ?_)).trans hs5.2
                  have h1 := (World.ownsRow.lt HOZ.out.1 Gb e.symm).2
                  have h2 := HGb.out
                  omega
                have hs7 : SRow Mb Gb (qa, qb, qc, qd) wg w7 := ⟨hs5.1.trans hb7, hGb7⟩
                refine ⟨fun _ => hs7, ?_⟩
                refine goG_read 18 hs7 (by rfl) (by rfl) ?_ (by rfl) (fun wz hSw => ?_) ?_
                rotate_left
                · go_simp
                  try with_reducible rfl
                simp only [List.setIfInBounds_toArray, List.set]
                have hoz8 : OwnZ w7 (Mb + 1) (.slice A7 (j + 1) c7) (toZ ((rowC5 (A.map code5) (ma, mb, mc, md) gs).take (j + 1))) := by
                  have hpp : ps = posC (A.map code5) (code5 (nrm5 (tms5 (ma, mb, mc, md) (qa, qb, qc, qd)))) := by rw [← HT2.out, ← HYY.out]; exact HPS.out
                  have e := rowC5_take (codes := A.map code5) (m := (ma, mb, mc, md)) HQ.out
                  rw [← hpp] at e
                  rw [e]
                  rw [toZ_snoc]
                  exact hoz7
                have hb8 : Below (Mb + 1) wm w7 := HBI.out.trans ((HBG.out.mono (by have := HBI.out.size; have := HSM.out; omega)).trans hs7.1)
                have HOZ8 := Lib.hid hoz8
                have HB8 := Lib.hid hb8
                clear hoz8 hb8 hoz7 hg7 hb7 hGb7 hs7 hs6 hs5 hsg5
                rename_i KX hKX
                refine hKX _ _ ?_
                go_wp2_with fail
                go_roundw
                case rel => exact ⟨j + 1, c7, A7, by go_num, by omega, rfl, HOZ8, HB8⟩
                case measure => simp [intOf]; omega
              · obtain rfl : j = k := by omega
                have hrow : (rowC5 (A.map code5) (ma, mb, mc, md) gs).take j = rowC5 (A.map code5) (ma, mb, mc, md) gs := List.take_of_length_le (by unfold rowC5; rw [List.length_map, HKL.out]; exact Nat.le_refl _)
                have hoz := HOZ.out
                rw [hrow] at hoz
                have HSO := Lib.hid (sort_any hoz (by rw [HKL.out]; exact hgl) (by have := HC.out.deg; rw [HKL.out]; omega))
                clear hoz hrow
                go_upto_region 32 with (go_at_call 75; go_must (refine HSO.out.mono ?_); rintro e w8 ⟨rfl, hoz8, hb8⟩)
                have hB1 := HBM.out
                have hB2 : Below (Mb + 1) wm w8 := HBI.out.trans hb8
                have hB3 := hB1.trans (hB2.mono (by rw [← HMB.out]; omega))
                have gb8 := HGB.out.below hB3
                have hO8 := (hB3.block Ob (by rw [← HMB.out]; omega)).trans HOC.out
                have hM8 := (hB2.block Mb (by omega)).trans HM0.out
                have hlN : ∀ g, (Value.slice AN i cN).ownBlock = some g → g < Mb := fun g hg => by rw [HMB.out]; exact (World.ownsRow.lt HGB.out.nm g hg).2
                have hlE : ∀ g, (Value.slice AE i cE).ownBlock = some g → g < Mb := fun g hg => by
                  obtain ⟨vs, h2, _⟩ := HGB.out.ed
                  rw [HMB.out]
                  exact (World.ownsRow.lt h2 g hg).2
                have hoN : ∀ g, (Value.slice AN i cN).ownBlock = some g → g ≠ Ob ∧ g ≠ Mb := fun g hg => by
                  have h1 := hlN g hg
                  have h2 := (World.ownsRow.lt HGB.out.nm g hg).1
                  exact ⟨by omega, by omega⟩
                have hoE : ∀ g, (Value.slice AE i cE).ownBlock = some g → g ≠ Ob ∧ g ≠ Mb := fun g hg => by
                  have h1 := hlE g hg
                  obtain ⟨vs, h2, _⟩ := HGB.out.ed
                  have h3 := (World.ownsRow.lt h2 g hg).1
                  exact ⟨by omega, by omega⟩
                have hrr : (toI R)[i]? = some (toZ (sortC (rowC5 (A.map code5) (ma, mb, mc, md) gs))) := by
                  have h1 : i < R.length := by rw [HC.out.len, ← HNA.out]; exact hin
                  unfold toI toZ
                  rw [List.getElem?_map, gr_lt h1, HC.out.row HMA.out]
                  rfl
                have st8 : RSt w8 (Ob + 1) (.slice AN i cN) (.slice AE i cE) (.slice A3 j c3) ((A.map nm5).take i) ((toI R).take i) (toZ (sortC (rowC5 (A.map code5) (ma, mb, mc, md) gs))) :=
                  ⟨gb8, hoz8.row (fun b h1 h2 => ⟨by omega, fun e => by have := hlE b e.symm; omega, fun e => by have := hlN b e.symm; omega⟩)⟩
                have hW8 : Below Ob WO w8 := HBR.out.trans (hB3.mono (by rw [← HMB.out]; omega))
                obtain ⟨v0, hv0⟩ : ∃ v0, v0 = w8.drew := ⟨_, rfl⟩
                have hdr : Below w8.heap.size w8 v0 := by rw [hv0]; exact (Below.refl _ _).drew
                have st0 := st8.below hdr
                have s0 : SGr Ob Mb (.slice AN i cN) (.slice AE i cE) (ma, mb, mc, md) v0 := SGr.below ⟨hO8, hM8⟩ hdr
                have bw0 : Below (Ob + 1) v0 v0 := Below.refl _ _
                have szv0 : Ob + 1 ≤ v0.heap.size := (Array.getElem?_eq_some_iff.1 s0.1).1
                have hW0 : Below Ob WO v0 := hW8.trans (hdr.mono (by have := (Array.getElem?_eq_some_iff.1 hO8).1; omega))
                have HW8 := Lib.hid hW0
                have HROW := Lib.hid hrr
                have q0 : v0.cell? ⟨Ob, 0, none⟩ = some (.slice AN i cN) := by rw [Lib.cell_of_heap s0.1]; rfl
                have q1 : v0.cell? ⟨Ob, 1, none⟩ = some (.slice AE i cE) := by rw [Lib.cell_of_heap s0.1]; rfl
                have hnA2 : nA ≤ 120 := by rw [HNA.out]; exact HC.out.few
                have hv0' := Lib.hid hv0
                clear hB1 hB2 hB3 gb8 hO8 hM8 hrr st8 hW8 hW0 hdr hoz8 hb8 hv0
                refine wp_region_trq (.pure 0 (.pure 6 (.pure 8 (.read 1 (.read 2 (.read 7 (.two 3 9 (.two 4 9 (.two 5 9 (.pure 11 (.step 9 (.step 10 (.step 12 (.pure 13 (.step 14 .nil)))))) (.step 5 (.pure 11 (.step 10 (.step 12 (.pure 13 (.step 14 .nil))))))) (.step 4 (.step 5 (.pure 11 (.step 10 (.step 12 (.pure 13 (.step 14 .nil)))))))) (.step 3 (.step 4 (.step 5 (.pure 11 (.step 10 (.step 12 (.pure 13 (.step 14 .nil)))))))))))))))
                  [0, 6, 8, 11, 12, 13, 14] (by kernel_rfl) (by rfl) (by kernel_rfl) (by kernel_rfl) (SGr Ob Mb (.slice AN i cN) (.slice AE i cE) (ma, mb, mc, md)) ?_
                change goG _ _ _ _ _ _ _ w8.drew
                rw [← hv0'.out]
                refine goG_pure 115 (by rfl) (by rfl) ?_ (by rfl) (fun wz => ?_) ?_
                rotate_left
                · go_simp
                  try with_reducible rfl
                simp only [List.setIfInBounds_toArray, List.set]
                refine goG_pure 121 (by rfl) (by rfl) ?_ (by rfl) (fun wz => ?_) ?_
                rotate_left
                · go_simp
                  try with_reducible rfl
                simp only [List.setIfInBounds_toArray, List.set]
                refine goG_pure 123 (by rfl) (by rfl) ?_ (by rfl) (fun wz => ?_) ?_
                rotate_left
                · go_simp
                  try with_reducible rfl
                simp only [List.setIfInBounds_toArray, List.set]
                refine goG_read 116 s0 (by rfl) (by rfl) ?_ (by rfl) (fun wz hSw => ?_) ?_
                rotate_left
                · have hz := hSw.1; have x0 : wz.cell? ⟨Ob, 0, none⟩ = some (.slice AN i cN) := (by rw [Lib.cell_of_heap hz]; rfl); have x1 : wz.cell? ⟨Ob, 1, none⟩ = some (.slice AE i cE) := (by rw [Lib.cell_of_heap hz]; rfl); clear hz; go_simp
                  try with_reducible rfl
                simp only [List.setIfInBounds_toArray, List.set]
                refine goG_read 117 s0 (by rfl) (by rfl) ?_ (by rfl) (fun wz hSw => ?_) ?_
                rotate_left
                · have hz := hSw.2; have x0 : wz.cell? ⟨Mb, 0, none⟩ = some (.int .i64 (ma : Nat)) := (by rw [Lib.cell_of_heap hz]; rfl); have x1 : wz.cell? ⟨Mb, 1, none⟩ = some (.int .i64 (mb : Nat)) := (by rw [Lib.cell_of_heap hz]; rfl); have x2 : wz.cell? ⟨Mb, 2, none⟩ = some (.int .i64 (mc : Nat)) := (by rw [Lib.cell_of_heap hz]; rfl); have x3 : wz.cell? ⟨Mb, 3, none⟩ = some (.int .i64 (md : Nat)) := (by rw [Lib.cell_of_heap hz]; rfl); clear hz; go_simp
                  try with_reducible rfl
                simp only [List.setIfInBounds_toArray, List.set]
                refine goG_read 122 s0 (by rfl) (by rfl) ?_ (by rfl) (fun wz hSw => ?_) ?_
                rotate_left
                · have hz := hSw.1; have x0 : wz.cell? ⟨Ob, 0, none⟩ = some (.slice AN i cN) := (by rw [Lib.cell_of_heap hz]; rfl); have x1 : wz.cell? ⟨Ob, 1, none⟩ = some (.slice AE i cE) := (by rw [Lib.cell_of_heap hz]; rfl); clear hz; go_simp
                  try with_reducible rfl
                simp only [List.setIfInBounds_toArray, List.set]
                refine goG_two (by rfl) (by rfl) ?_ ?_
                · have HNM1 := Lib.hid (name_any (w := v0) HM5.out)
                  go_wp2_with (go_at_call 77; go_must (refine HNM1.out.mono ?_); rintro en v1 ⟨rfl, hbv1⟩)
                  have stv1 := st0.below hbv1
                  have sv1 : SGr Ob Mb (.slice AN i cN) (.slice AE i cE) (ma, mb, mc, md) v1 := s0.below hbv1
                  have bwv1 := bw0.trans (hbv1.mono szv0)
                  have szv1 : Ob + 1 ≤ v1.heap.size := Nat.le_trans szv0 hbv1.size
                  refine ⟨fun _ => sv1, ?_⟩
                  refine goG_two (by rfl) (by rfl) ?_ ?_
                  · go_step
                    go_step
                    go_step
                    obtain ⟨v2, hv2⟩ : ∃ V2, V2 = v1.alloc (.cells #[.string (nm5 (ma, mb, mc, md))] 9) := ⟨_, rfl⟩
                    have hbv2 : Below v1.heap.size v1 v2 := by rw [hv2]; exact below_alP (Below.refl _ _) _
                    have ebv2 : v2.heap[v1.heap.size]? = some (.cells #[.string (nm5 (ma, mb, mc, md))] 9 (0, 0)) := by rw [hv2]; exact heap_alloc_new v1 _
                    have stv2 := stv1.below hbv2
                    have sv2 : SGr Ob Mb (.slice AN i cN) (.slice AE i cE) (ma, mb, mc, md) v2 := sv1.below hbv2
                    have bwv2 := bwv1.trans (hbv2.mono szv1)
                    have szv2 : Ob + 1 ≤ v2.heap.size := Nat.le_trans szv1 hbv2.size
                    rw [← hv2]
                    clear hv2
                    refine ⟨fun _ => sv2, ?_⟩
                    refine goG_two (by rfl) (by rfl) ?_ ?_
                    · refine wpList_pushNmD v2 120 (by rfl) (by rfl) _ _ (by rfl) (Ob + 1) AN i cN (.slice AE i cE) (.slice A3 j c3) _ _ _ (by rfl) stv2 (nm5 (ma, mb, mc, md)) (nm5_max _) _ ebv2 (by rfl) (by omega) szv2 ?_
                      intro An cn v3 stv3 hgv3 hbv3
                      simp only [List.setIfInBounds_toArray, List.set]
                      go_step
                      have sv3 : SGr Ob Mb (.slice AN i cN) (.slice AE i cE) (ma, mb, mc, md) v3 := sv2.grown hgv3 hoN
                      have bwv3 := bwv2.trans hbv3
                      have szv3 : Ob + 1 ≤ v3.heap.size := Nat.le_trans szv2 hbv3.size
                      refine ⟨fun _ => sv3, ?_⟩
                      refine goG_pure 126 (by rfl) (by rfl) ?_ (by rfl) (fun wz => ?_) ?_
                      rotate_left
                      · go_simp
                        try with_reducible rfl
                      simp only [List.setIfInBounds_toArray, List.set]
                      refine goG_step (by rfl) ?_
                      go_step
                      go_step
                      go_step
                      obtain ⟨v4, hv4⟩ : ∃ V2, V2 = v3.alloc (.cells #[(.slice A3 j c3)] 55) := ⟨_, rfl⟩
                      have hbv4 : Below v3.heap.size v3 v4 := by rw [hv4]; exact below_alP (Below.refl _ _) _
                      have ebv4 : v4.heap[v3.heap.size]? = some (.cells #[(.slice A3 j c3)] 55 (0, 0)) := by rw [hv4]; exact heap_alloc_new v3 _
                      have stv4 := stv3.below hbv4
                      have sv4 : SGr Ob Mb (.slice AN i cN) (.slice AE i cE) (ma, mb, mc, md) v4 := sv3.below hbv4
                      have bwv4 := bwv3.trans (hbv4.mono szv3)
                      have szv4 : Ob + 1 ≤ v4.heap.size := Nat.le_trans szv3 hbv4.size
                      rw [← hv4]
                      clear hv4
                      refine ⟨fun _ => sv4, ?_⟩
                      refine goG_step (by rfl) ?_
                      refine wpList_pushEdD v4 125 (by rfl) (by rfl) _ _ (by rfl) (Ob + 1) (.slice An (i + 1) cn) AE i cE _ _ (by rfl) (.slice A3 j c3) _ stv4 _ ebv4 (by rfl) (by omega) szv4 ?_
                      intro Ae ce v5 gbv5 hgv5 hbv5
                      simp only [List.setIfInBounds_toArray, List.set]
                      go_step
                      have sv5 : SGr Ob Mb (.slice AN i cN) (.slice AE i cE) (ma, mb, mc, md) v5 := sv4.grown hgv5 hoE
                      have bwv5 := bwv4.trans hbv5
                      have szv5 : Ob + 1 ≤ v5.heap.size := Nat.le_trans szv4 hbv5.size
                      refine ⟨fun _ => sv5, ?_⟩
                      refine goG_step (by rfl) ?_
                      have hO0 : v5.heap[Ob]? = some (.cells #[.slice AN i cN, .slice AE i cE] 25 (0, 0)) := sv5.1
                      have o0 : v5.cell? ⟨Ob, 0, none⟩ = some (.slice AN i cN) := by rw [Lib.cell_of_heap hO0]; rfl
                      have p0 := Lib.frozen_of_heap hO0 0
                      go_step
                      go_step
                      go_step
                      refine ⟨fun h => absurd h (by decide), ?_⟩
                      refine goG_pure 127 (by rfl) (by rfl) ?_ (by rfl) (fun wz => ?_) ?_
                      rotate_left
                      · go_simp
                        try with_reducible rfl
                      simp only [List.setIfInBounds_toArray, List.set]
                      refine goG_step (by rfl) ?_
                      have hO1 : (v5.setCell ⟨Ob, 0, none⟩ (.slice An (i + 1) cn)).heap[Ob]? = some (.cells #[.slice An (i + 1) cn, .slice AE i cE] 25 (0, 0)) := Go.Joins.block_setCell (i := 0) hO0 (.slice An (i + 1) cn)
                      have o1 : (v5.setCell ⟨Ob, 0, none⟩ (.slice An (i + 1) cn)).cell? ⟨Ob, 1, none⟩ = some (.slice AE i cE) := by rw [Lib.cell_of_heap hO1]; rfl
                      have p1 := Lib.frozen_of_heap hO1 1
                      go_step
                      go_step
                      go_step
                      refine ⟨fun h => absurd h (by decide), ?_⟩
                      have HF := Lib.hid (row_done hO1 gbv5 bwv5 HW8.out HMA.out HROW.out)
                      refine goG_nilN ?_
                      go_wp2_with fail
                      go_roundw
                      case rel => exact ⟨i + 1, cn, ce, An, Ae, by go_num, by omega, Lib.hid HF.out.1, Lib.hid HF.out.2.1, Lib.hid HF.out.2.2⟩
                      case measure => simp [intOf]; omega
                    · go_step
                      go_step
                      go_step
                      obtain ⟨v6, hv6⟩ : ∃ V2, V2 = v2.alloc (.cells #[(.slice A3 j c3)] 55) := ⟨_, rfl⟩
                      have hbv6 : Below v2.heap.size v2 v6 := by rw [hv6]; exact below_alP (Below.refl _ _) _
                      have ebv6 : v6.heap[v2.heap.size]? = some (.cells #[(.slice A3 j c3)] 55 (0, 0)) := by rw [hv6]; exact heap_alloc_new v2 _
                      have stv6 := stv2.below hbv6
                      have sv6 : SGr Ob Mb (.slice AN i cN) (.slice AE i cE) (ma, mb, mc, md) v6 := sv2.below hbv6
                      have bwv6 := bwv2.trans (hbv6.mono szv2)
                      have szv6 : Ob + 1 ≤ v6.heap.size := Nat.le_trans szv2 hbv6.size
                      have e1v6 := (hbv6.block _ (Array.getElem?_eq_some_iff.1 ebv2).1).trans ebv2
                      rw [← hv6]
                      clear hv6
                      refine ⟨fun _ => sv6, ?_⟩
                      refine goG_step (by rfl) ?_
                      refine wpList_pushNmD v6 120 (by rfl) (by rfl) _ _ (by rfl) (Ob + 1) AN i cN (.slice AE i cE) (.slice A3 j c3) _ _ _ (by rfl) stv6 (nm5 (ma, mb, mc, md)) (nm5_max _) _ e1v6 (by rfl) (by omega) szv6 ?_
                      intro An cn v7 stv7 hgv7 hbv7
                      simp only [List.setIfInBounds_toArray, List.set]
                      go_step
                      have sv7 : SGr Ob Mb (.slice AN i cN) (.slice AE i cE) (ma, mb, mc, md) v7 := sv6.grown hgv7 hoN
                      have bwv7 := bwv6.trans hbv7
                      have szv7 : Ob + 1 ≤ v7.heap.size := Nat.le_trans szv6 hbv7.size
                      have e2v7 := (hgv7.block _ (Array.getElem?_eq_some_iff.1 ebv6).1 (fun e => by have h1 := hlN _ e.symm; have h2 := (Array.getElem?_eq_some_iff.1 sv2.2).1; omega)).trans ebv6
                      refine ⟨fun _ => sv7, ?_⟩
                      refine goG_pure 126 (by rfl) (by rfl) ?_ (by rfl) (fun wz => ?_) ?_
                      rotate_left
                      · go_simp
                        try with_reducible rfl
                      simp only [List.setIfInBounds_toArray, List.set]
                      refine goG_step (by rfl) ?_
                      refine wpList_pushEdD v7 125 (by rfl) (by rfl) _ _ (by rfl) (Ob + 1) (.slice An (i + 1) cn) AE i cE _ _ (by rfl) (.slice A3 j c3) _ stv7 _ e2v7 (by rfl) (by omega) szv7 ?_
                      intro Ae ce v8 gbv8 hgv8 hbv8
                      simp only [List.setIfInBounds_toArray, List.set]
                      go_step
                      have sv8 : SGr Ob Mb (.slice AN i cN) (.slice AE i cE) (ma, mb, mc, md) v8 := sv7.grown hgv8 hoE
                      have bwv8 := bwv7.trans hbv8
                      have szv8 : Ob + 1 ≤ v8.heap.size := Nat.le_trans szv7 hbv8.size
                      refine ⟨fun _ => sv8, ?_⟩
                      refine goG_step (by rfl) ?_
                      have hO0 : v8.heap[Ob]? = some (.cells #[.slice AN i cN, .slice AE i cE] 25 (0, 0)) := sv8.1
                      have o0 : v8.cell? ⟨Ob, 0, none⟩ = some (.slice AN i cN) := by rw [Lib.cell_of_heap hO0]; rfl
                      have p0 := Lib.frozen_of_heap hO0 0
                      go_step
                      go_step
                      go_step
                      refine ⟨fun h => absurd h (by decide), ?_⟩
                      refine goG_pure 127 (by rfl) (by rfl) ?_ (by rfl) (fun wz => ?_) ?_
                      rotate_left
                      · go_simp
                        try with_reducible rfl
                      simp only [List.setIfInBounds_toArray, List.set]
                      refine goG_step (by rfl) ?_
                      have hO1 : (v8.setCell ⟨Ob, 0, none⟩ (.slice An (i + 1) cn)).heap[Ob]? = some (.cells #[.slice An (i + 1) cn, .slice AE i cE] 25 (0, 0)) := Go.Joins.block_setCell (i := 0) hO0 (.slice An (i + 1) cn)
                      have o1 : (v8.setCell ⟨Ob, 0, none⟩ (.slice An (i + 1) cn)).cell? ⟨Ob, 1, none⟩ = some (.slice AE i cE) := by rw [Lib.cell_of_heap hO1]; rfl
                      have p1 := Lib.frozen_of_heap hO1 1
                      go_step
                      go_step
                      go_step
                      refine ⟨fun h => absurd h (by decide), ?_⟩
                      have HF := Lib.hid (row_done hO1 gbv8 bwv8 HW8.out HMA.out HROW.out)
                      refine goG_nilN ?_
                      go_wp2_with fail
                      go_roundw
                      case rel => exact ⟨i + 1, cn, ce, An, Ae, by go_num, by omega, Lib.hid HF.out.1, Lib.hid HF.out.2.1, Lib.hid HF.out.2.2⟩
                      case measure => simp [intOf]; omega
                  · go_step
                    go_step
                    go_step
                    obtain ⟨v9, hv9⟩ : ∃ V2, V2 = v1.alloc (.cells #[(.slice A3 j c3)] 55) := ⟨_, rfl⟩
                    have hbv9 : Below v1.heap.size v1 v9 := by rw [hv9]; exact below_alP (Below.refl _ _) _
                    have ebv9 : v9.heap[v1.heap.size]? = some (.cells #[(.slice A3 j c3)] 55 (0, 0)) := by rw [hv9]; exact heap_alloc_new v1 _
                    have stv9 := stv1.below hbv9
                    have sv9 : SGr Ob Mb (.slice AN i cN) (.slice AE i cE) (ma, mb, mc, md) v9 := sv1.below hbv9
                    have bwv9 := bwv1.trans (hbv9.mono szv1)
                    have szv9 : Ob + 1 ≤ v9.heap.size := Nat.le_trans szv1 hbv9.size
                    rw [← hv9]
                    clear hv9
                    refine ⟨fun _ => sv9, ?_⟩
                    refine goG_step (by rfl) ?_
                    go_step
                    go_step
                    go_step
                    obtain ⟨v10, hv10⟩ : ∃ V2, V2 = v9.alloc (.cells #[.string (nm5 (ma, mb, mc, md))] 9) := ⟨_, rfl⟩
                    have hbv10 : Below v9.heap.size v9 v10 := by rw [hv10]; exact below_alP (Below.refl _ _) _
                    have ebv10 : v10.heap[v9.heap.size]? = some (.cells #[.string (nm5 (ma, mb, mc, md))] 9 (0, 0)) := by rw [hv10]; exact heap_alloc_new v9 _
                    have stv10 := stv9.below hbv10
                    have sv10 : SGr Ob Mb (.slice AN i cN) (.slice AE i cE) (ma, mb, mc, md) v10 := sv9.below hbv10
                    have bwv10 := bwv9.trans (hbv10.mono szv9)
                    have szv10 : Ob + 1 ≤ v10.heap.size := Nat.le_trans szv9 hbv10.size
                    have e2v10 := (hbv10.block _ (Array.getElem?_eq_some_iff.1 ebv9).1).trans ebv9
                    rw [← hv10]
                    clear hv10
                    refine ⟨fun _ => sv10, ?_⟩
                    refine goG_step (by rfl) ?_
                    refine wpList_pushNmD v10 120 (by rfl) (by rfl) _ _ (by rfl) (Ob + 1) AN i cN (.slice AE i cE) (.slice A3 j c3) _ _ _ (by rfl) stv10 (nm5 (ma, mb, mc, md)) (nm5_max _) _ ebv10 (by rfl) (by omega) szv10 ?_
                    intro An cn v11 stv11 hgv11 hbv11
                    simp only [List.setIfInBounds_toArray, List.set]
                    go_step
                    have sv11 : SGr Ob Mb (.slice AN i cN) (.slice AE i cE) (ma, mb, mc, md) v11 := sv10.grown hgv11 hoN
                    have bwv11 := bwv10.trans hbv11
                    have szv11 : Ob + 1 ≤ v11.heap.size := Nat.le_trans szv10 hbv11.size
                    have e2v11 := (hgv11.block _ (Array.getElem?_eq_some_iff.1 e2v10).1 (fun e => by have h1 := hlN _ e.symm; have h2 := (Array.getElem?_eq_some_iff.1 sv1.2).1; omega)).trans e2v10
                    refine ⟨fun _ => sv11, ?_⟩
                    refine goG_pure 126 (by rfl) (by rfl) ?_ (by rfl) (fun wz => ?_) ?_
                    rotate_left
                    · go_simp
                      try with_reducible rfl
                    simp only [List.setIfInBounds_toArray, List.set]
                    refine goG_step (by rfl) ?_
                    refine wpList_pushEdD v11 125 (by rfl) (by rfl) _ _ (by rfl) (Ob + 1) (.slice An (i + 1) cn) AE i cE _ _ (by rfl) (.slice A3 j c3) _ stv11 _ e2v11 (by rfl) (by omega) szv11 ?_
                    intro Ae ce v12 gbv12 hgv12 hbv12
                    simp only [List.setIfInBounds_toArray, List.set]
                    go_step
                    have sv12 : SGr Ob Mb (.slice AN i cN) (.slice AE i cE) (ma, mb, mc, md) v12 := sv11.grown hgv12 hoE
                    have bwv12 := bwv11.trans hbv12
                    have szv12 : Ob + 1 ≤ v12.heap.size := Nat.le_trans szv11 hbv12.size
                    refine ⟨fun _ => sv12, ?_⟩
                    refine goG_step (by rfl) ?_
                    have hO0 : v12.heap[Ob]? = some (.cells #[.slice AN i cN, .slice AE i cE] 25 (0, 0)) := sv12.1
                    have o0 : v12.cell? ⟨Ob, 0, none⟩ = some (.slice AN i cN) := by rw [Lib.cell_of_heap hO0]; rfl
                    have p0 := Lib.frozen_of_heap hO0 0
                    go_step
                    go_step
                    go_step
                    refine ⟨fun h => absurd h (by decide), ?_⟩
                    refine goG_pure 127 (by rfl) (by rfl) ?_ (by rfl) (fun wz => ?_) ?_
                    rotate_left
                    · go_simp
                      try with_reducible rfl
                    simp only [List.setIfInBounds_toArray, List.set]
                    refine goG_step (by rfl) ?_
                    have hO1 : (v12.setCell ⟨Ob, 0, none⟩ (.slice An (i + 1) cn)).heap[Ob]? = some (.cells #[.slice An (i + 1) cn, .slice AE i cE] 25 (0, 0)) := Go.Joins.block_setCell (i := 0) hO0 (.slice An (i + 1) cn)
                    have o1 : (v12.setCell ⟨Ob, 0, none⟩ (.slice An (i + 1) cn)).cell? ⟨Ob, 1, none⟩ = some (.slice AE i cE) := by rw [Lib.cell_of_heap hO1]; rfl
                    have p1 := Lib.frozen_of_heap hO1 1
                    go_step
                    go_step
                    go_step
                    refine ⟨fun h => absurd h (by decide), ?_⟩
                    have HF := Lib.hid (row_done hO1 gbv12 bwv12 HW8.out HMA.out HROW.out)
                    refine goG_nilN ?_
                    go_wp2_with fail
                    go_roundw
                    case rel => exact ⟨i + 1, cn, ce, An, Ae, by go_num, by omega, Lib.hid HF.out.1, Lib.hid HF.out.2.1, Lib.hid HF.out.2.2⟩
                    case measure => simp [intOf]; omega
                · go_step
                  go_step
                  go_step
                  obtain ⟨v13, hv13⟩ : ∃ V2, V2 = v0.alloc (.cells #[(.slice A3 j c3)] 55) := ⟨_, rfl⟩
                  have hbv13 : Below v0.heap.size v0 v13 := by rw [hv13]; exact below_alP (Below.refl _ _) _
                  have ebv13 : v13.heap[v0.heap.size]? = some (.cells #[(.slice A3 j c3)] 55 (0, 0)) := by rw [hv13]; exact heap_alloc_new v0 _
                  have stv13 := st0.below hbv13
                  have sv13 : SGr Ob Mb (.slice AN i cN) (.slice AE i cE) (ma, mb, mc, md) v13 := s0.below hbv13
                  have bwv13 := bw0.trans (hbv13.mono szv0)
                  have szv13 : Ob + 1 ≤ v13.heap.size := Nat.le_trans szv0 hbv13.size
                  rw [← hv13]
                  clear hv13
                  refine ⟨fun _ => sv13, ?_⟩
                  refine goG_step (by rfl) ?_
                  have HNM14 := Lib.hid (name_any (w := v13) HM5.out)
                  go_wp2_with (go_at_call 77; go_must (refine HNM14.out.mono ?_); rintro en v14 ⟨rfl, hbv14⟩)
                  have stv14 := stv13.below hbv14
                  have sv14 : SGr Ob Mb (.slice AN i cN) (.slice AE i cE) (ma, mb, mc, md) v14 := sv13.below hbv14
                  have bwv14 := bwv13.trans (hbv14.mono szv13)
                  have szv14 : Ob + 1 ≤ v14.heap.size := Nat.le_trans szv13 hbv14.size
                  have e2v14 := (hbv14.block _ (Array.getElem?_eq_some_iff.1 ebv13).1).trans ebv13
                  refine ⟨fun _ => sv14, ?_⟩
                  refine goG_step (by rfl) ?_
                  go_step
                  go_step
                  go_step
                  obtain ⟨v15, hv15⟩ : ∃ V2, V2 = v14.alloc (.cells #[.string (nm5 (ma, mb, mc, md))] 9) := ⟨_, rfl⟩
                  have hbv15 : Below v14.heap.size v14 v15 := by rw [hv15]; exact below_alP (Below.refl _ _) _
                  have ebv15 : v15.heap[v14.heap.size]? = some (.cells #[.string (nm5 (ma, mb, mc, md))] 9 (0, 0)) := by rw [hv15]; exact heap_alloc_new v14 _
                  have stv15 := stv14.below hbv15
                  have sv15 : SGr Ob Mb (.slice AN i cN) (.slice AE i cE) (ma, mb, mc, md) v15 := sv14.below hbv15
                  have bwv15 := bwv14.trans (hbv15.mono szv14)
                  have szv15 : Ob + 1 ≤ v15.heap.size := Nat.le_trans szv14 hbv15.size
                  have e2v15 := (hbv15.block _ (Array.getElem?_eq_some_iff.1 e2v14).1).trans e2v14
                  rw [← hv15]
                  clear hv15
                  refine ⟨fun _ => sv15, ?_⟩
                  refine goG_step (by rfl) ?_
                  refine wpList_pushNmD v15 120 (by rfl) (by rfl) _ _ (by rfl) (Ob + 1) AN i cN (.slice AE i cE) (.slice A3 j c3) _ _ _ (by rfl) stv15 (nm5 (ma, mb, mc, md)) (nm5_max _) _ ebv15 (by rfl) (by omega) szv15 ?_
                  intro An cn v16 stv16 hgv16 hbv16
                  simp only [List.setIfInBounds_toArray, List.set]
                  go_step
                  have sv16 : SGr Ob Mb (.slice AN i cN) (.slice AE i cE) (ma, mb, mc, md) v16 := sv15.grown hgv16 hoN
                  have bwv16 := bwv15.trans hbv16
                  have szv16 : Ob + 1 ≤ v16.heap.size := Nat.le_trans szv15 hbv16.size
                  have e2v16 := (hgv16.block _ (Array.getElem?_eq_some_iff.1 e2v15).1 (fun e => by have h1 := hlN _ e.symm; have h2 := (Array.getElem?_eq_some_iff.1 s0.2).1; omega)).trans e2v15
                  refine ⟨fun _ => sv16, ?_⟩
                  refine goG_pure 126 (by rfl) (by rfl) ?_ (by rfl) (fun wz => ?_) ?_
                  rotate_left
                  · go_simp
                    try with_reducible rfl
                  simp only [List.setIfInBounds_toArray, List.set]
                  refine goG_step (by rfl) ?_
                  refine wpList_pushEdD v16 125 (by rfl) (by rfl) _ _ (by rfl) (Ob + 1) (.slice An (i + 1) cn) AE i cE _ _ (by rfl) (.slice A3 j c3) _ stv16 _ e2v16 (by rfl) (by omega) szv16 ?_
                  intro Ae ce v17 gbv17 hgv17 hbv17
                  simp only [List.setIfInBounds_toArray, List.set]
                  go_step
                  have sv17 : SGr Ob Mb (.slice AN i cN) (.slice AE i cE) (ma, mb, mc, md) v17 := sv16.grown hgv17 hoE
                  have bwv17 := bwv16.trans hbv17
                  have szv17 : Ob + 1 ≤ v17.heap.size := Nat.le_trans szv16 hbv17.size
                  refine ⟨fun _ => sv17, ?_⟩
                  refine goG_step (by rfl) ?_
                  have hO0 : v17.heap[Ob]? = some (.cells #[.slice AN i cN, .slice AE i cE] 25 (0, 0)) := sv17.1
                  have o0 : v17.cell? ⟨Ob, 0, none⟩ = some (.slice AN i cN) := by rw [Lib.cell_of_heap hO0]; rfl
                  have p0 := Lib.frozen_of_heap hO0 0
                  go_step
                  go_step
                  go_step
                  refine ⟨fun h => absurd h (by decide), ?_⟩
                  refine goG_pure 127 (by rfl) (by rfl) ?_ (by rfl) (fun wz => ?_) ?_
                  rotate_left
                  · go_simp
                    try with_reducible rfl
                  simp only [List.setIfInBounds_toArray, List.set]
                  refine goG_step (by rfl) ?_
                  have hO1 : (v17.setCell ⟨Ob, 0, none⟩ (.slice An (i + 1) cn)).heap[Ob]? = some (.cells #[.slice An (i + 1) cn, .slice AE i cE] 25 (0, 0)) := Go.Joins.block_setCell (i := 0) hO0 (.slice An (i + 1) cn)
                  have o1 : (v17.setCell ⟨Ob, 0, none⟩ (.slice An (i + 1) cn)).cell? ⟨Ob, 1, none⟩ = some (.slice AE i cE) := by rw [Lib.cell_of_heap hO1]; rfl
                  have p1 := Lib.frozen_of_heap hO1 1
                  go_step
                  go_step
                  go_step
                  refine ⟨fun h => absurd h (by decide), ?_⟩
                  have HF := Lib.hid (row_done hO1 gbv17 bwv17 HW8.out HMA.out HROW.out)
                  refine goG_nilN ?_
                  go_wp2_with fail
                  go_roundw
                  case rel => exact ⟨i + 1, cn, ce, An, Ae, by go_num, by omega, Lib.hid HF.out.1, Lib.hid HF.out.2.1, Lib.hid HF.out.2.2⟩
                  case measure => simp [intOf]; omega
          · obtain rfl : i = nA := by omega
            have hRl : R.length = A.length := HC.out.len
            have hGr := (HBR.out.block G (by omega)).trans HG4.out
            have hDr := (HBR.out.block (N + 4) (by omega)).trans HDO.out
            have g0 : wr.cell? ⟨Ob, 0, none⟩ = some (.slice AN i cN) := by rw [Lib.cell_of_heap HOC.out]; rfl
            have g1 : wr.cell? ⟨Ob, 1, none⟩ = some (.slice AE i cE) := by rw [Lib.cell_of_heap HOC.out]; rfl
            have q0 : wr.cell? ⟨G, 0, none⟩ = some (.slice none 0 0) := by rw [Lib.cell_of_heap hGr]; rfl
            have q1 : wr.cell? ⟨G, 1, none⟩ = some (.slice none 0 0) := by rw [Lib.cell_of_heap hGr]; rfl
            have f0 := Lib.frozen_of_heap hGr 0
            have f1 := Lib.frozen_of_heap hGr 1
            have HGR := Lib.hid hGr
            have HDR := Lib.hid hDr
            have hbr0 : Below w.heap.size WO wr := HBR.out.mono (by have := HG0.out; omega)
            have HBR0 := Lib.hid hbr0
            clear hGr hDr hbr0
            go_wp2_with fail
            obtain ⟨W6, hW6⟩ : ∃ W6, W6 = (wr.setCell ⟨G, 0, none⟩ (.slice AN i cN)).setCell ⟨G, 1, none⟩ (.slice AE i cE) := ⟨_, rfl⟩
            have hu6 : Upd (fun b => b = G) wr W6 := by
              rw [hW6]
              exact ⟨rfl, rfl, rfl, by simp [World.setCell], fun k hk hS => (Below.heap_setCell _ ⟨G, 1, none⟩ _ k hS).trans (Below.heap_setCell _ ⟨G, 0, none⟩ _ k hS)⟩
            have m0 : W6.heap[G]? = some (.cells #[.slice AN i cN, .slice AE i cE] 25 (0, 0)) := by
              rw [hW6]
              exact Go.Joins.block_setCell (i := 1) (Go.Joins.block_setCell (i := 0) HGR.out (.slice AN i cN)) (.slice AE i cE)
            have mD : W6.heap[N + 4]? = some (.deferred (some [])) := (hu6.block _ (Array.getElem?_eq_some_iff.1 HDR.out).1 (by omega)).trans HDR.out
            rw [← hW6]
            have q0 : (W6.putObj (N + 4) (.deferred none)).heap[G]? = some (.cells #[.slice AN i cN, .slice AE i cE] 25 (0, 0)) := (World.putObj_heap_other (by omega)).trans m0
            have a0 : (W6.putObj (N + 4) (.deferred none)).cell? ⟨G, 0, none⟩ = some (.slice AN i cN) := by rw [Lib.cell_of_heap q0]; rfl
            have a1 : (W6.putObj (N + 4) (.deferred none)).cell? ⟨G, 1, none⟩ = some (.slice AE i cE) := by rw [Lib.cell_of_heap q0]; rfl
            refine ⟨by simp, .inl ⟨_, _, rfl, run_takeDeferred mD, ?_⟩⟩
            have hsz6 := hu6.size
            have hOl := (Array.getElem?_eq_some_iff.1 HOC.out).1
            have huf : Upd (fun b => b = G ∨ b = N + 4) wr (W6.putObj (N + 4) (.deferred none)) := ⟨hu6.os, hu6.tape, hu6.output, by simp [World.putObj]; exact hsz6, fun k hk hS => (World.putObj_heap_other (by omega)).trans (hu6.block k hk (by omega))⟩
            refine ⟨.tuple #[.agg #[.slice AN i cN, .slice AE i cE], .int .i64 0], by simp [results, Tryz.results19, go_sem, a0, a1], _, rfl, ?_, ?_⟩
            · have hgb := HGB.out
              have e1 : (A.map nm5).take i = A.map nm5 := List.take_of_length_le (by rw [List.length_map, HNA.out]; exact Nat.le_refl _)
              have e2 : (toI R).take i = toI R := List.take_of_length_le (by rw [toI_length, hRl, HNA.out]; exact Nat.le_refl _)
              rw [e1, e2] at hgb
              exact (hgb.updG huf (fun k hk => by omega)).gr
            · have t4 := HT.out.trans (HBO.out.mono HT.out.size)
              have t5 := t4.trans (HBR.out.mono (by have := HT.out.size; have := HOb.out; omega))
              exact t5.trans (huf.below t5.size (fun k hk => by have := HG0.out; omega))
      case hbody =>
        rintro pre x W0 W ⟨⟨A2, c2, nm, D, hst⟩, hbW⟩ hpx hmx hNl hPW
        obtain ⟨Nb, hNb⟩ : ∃ Nb, Nb = W0.heap.size := ⟨_, rfl⟩
        rw [← hNb] at hmx hNl ⊢
        clear hNb
        obtain ⟨hxp, hx5, hpre5, hpl⟩ := pre_fresh hpx
        rw [HsM.out] at hNl ⊢
        obtain ⟨xa, xb, xc, xd⟩ := x
        have hmx' : W.heap[Nb]? = some (.cells #[.int .i64 (xa : Nat), .int .i64 (xb : Nat), .int .i64 (xc : Nat), .int .i64 (xd : Nat)] 105 (0, 0)) := hmx
        have n0 : W.cell? ⟨Nb, 0, none⟩ = some (.int .i64 (xa : Nat)) := by rw [Lib.cell_of_heap hmx']; rfl
        have n1 : W.cell? ⟨Nb, 1, none⟩ = some (.int .i64 (xb : Nat)) := by rw [Lib.cell_of_heap hmx']; rfl
        have n2 : W.cell? ⟨Nb, 2, none⟩ = some (.int .i64 (xc : Nat)) := by rw [Lib.cell_of_heap hmx']; rfl
        have n3 : W.cell? ⟨Nb, 3, none⟩ = some (.int .i64 (xd : Nat)) := by rw [Lib.cell_of_heap hmx']; rfl
        have qh : W.cell? ⟨N, 0, none⟩ = some (.bool hfb) := by rw [Lib.cell_of_heap hst.b0]; rfl
        have qX : W.cell? ⟨X, 0, none⟩ = some (.pointer (some ⟨P, 0, none⟩)) := (hbW.cell (p := ⟨X, 0, none⟩) (by rw [HN.out]; exact hxl)).trans hxM
        have QH := Lib.hid qh
        have QX := Lib.hid qX
        have Q0 := Lib.hid n0
        have Q1 := Lib.hid n1
        have Q2 := Lib.hid n2
        have Q3 := Lib.hid n3
        have hs0 : Below W.heap.size W W.drew := (Below.refl _ _).drew
        have HST := Lib.hid hst
        have HBW := Lib.hid hbW
        have HX5 := Lib.hid hx5
        have HPX := Lib.hid (And.intro hxp (And.intro hpre5 hpl))
        have hNbl := (Array.getElem?_eq_some_iff.1 hmx).1
        have HMX := Lib.hid hmx
        clear hst hbW hx5 hxp hpre5 hpl hpx hmx hmx' n0 n1 n2 n3 qh qX m0 m1 m2 m3
        cases hfb with
        | false =>
          gi_wp2
          refine wpIn_region_trg (.read 0 (.read 1 (.read 2 (.read 3 (.read 4 (.read 5 (.step 6 (.step 7 (.read 8 .nil))))))))) [] (by kernel_rfl) (by rfl) (by kernel_rfl) (by kernel_rfl) (by kernel_rfl) (fun _ _ _ _ _ h => h) (fun ⟨_, _, h⟩ => h) (fun V => Below W.heap.size W V) ?_
          change goG _ _ _ _ _ _ _ W.drew
          refine goG_read 72 hs0 (by rfl) (by rfl) ?_ (by rfl) (fun wz hSw => ?_) ?_
          rotate_left
          · have x0 := keepP hSw QH.out; go_simp
            try with_reducible rfl
          simp only [List.setIfInBounds_toArray, List.set]
          refine goG_read 73 hs0 (by rfl) (by rfl) ?_ (by rfl) (fun wz hSw => ?_) ?_
          rotate_left
          · go_simp
            try with_reducible rfl
          simp only [List.setIfInBounds_toArray, List.set]
          refine goG_read 74 hs0 (by rfl) (by rfl) ?_ (by rfl) (fun wz hSw => ?_) ?_
          rotate_left
          · go_simp
            try with_reducible rfl
          simp only [List.setIfInBounds_toArray, List.set]
          refine goG_skip 75 hs0 (by rfl) (by rfl) (by rfl) ?_
          simp only [List.setIfInBounds_toArray, List.set]
          refine goG_skip 76 hs0 (by rfl) (by rfl) (by rfl) ?_
          simp only [List.setIfInBounds_toArray, List.set]
          refine goG_skip 77 hs0 (by rfl) (by rfl) (by rfl) ?_
          simp only [List.setIfInBounds_toArray, List.set]
          refine goG_stepSkip 78 hs0 (by rfl) (by rfl) (by rfl) ?_
          simp only [List.setIfInBounds_toArray, List.set]
          refine goG_stepSkip 79 hs0 (by rfl) (by rfl) (by rfl) ?_
          simp only [List.setIfInBounds_toArray, List.set]
          refine goG_read 80 hs0 (by rfl) (by rfl) ?_ (by rfl) (fun wz hSw => ?_) ?_
          rotate_left
          · go_simp
            try with_reducible rfl
          simp only [List.setIfInBounds_toArray, List.set]
          obtain ⟨W5, hW5⟩ : ∃ W5, W5 = W.drew := ⟨_, rfl⟩
          rw [← hW5] at hs0 ⊢
          clear hW5
          rename_i KX hKX
          refine hKX _ _ ?_
          have HTK := Lib.hid (show (!false || sq5 (det5 (xa, xb, xc, xd))) = true from rfl)
          have hst5 := HST.out.below hs0
          have hs5s := hs0.size
          have htk : (!false || sq5 (det5 (xa, xb, xc, xd))) = true := HTK.out
          obtain ⟨Lk, hLk⟩ : ∃ Lk, Lk = (ftk false pre).length := ⟨_, rfl⟩
          have hown5 := hst5.own
          have hb35 := hst5.b3
          rw [← hLk] at hown5 hb35
          have cm : W5.cell? ⟨N + 1 + 1, 0, none⟩ = some (.map (some (N + 1))) := by rw [Lib.cell_of_heap hst5.b2]; rfl
          have ca : W5.cell? ⟨N + 1 + 1 + 1, 0, none⟩ = some (.slice A2 Lk c2) := by rw [Lib.cell_of_heap hb35]; rfl
          have n0 := keepP hs0 Q0.out
          have n1 := keepP hs0 Q1.out
          have n2 := keepP hs0 Q2.out
          have n3 := keepP hs0 Q3.out
          have hl3 := (Array.getElem?_eq_some_iff.1 hb35).1
          have hLL : Lk ≤ 120 := by
            rw [hLk]
            exact Nat.le_trans (List.length_filter_le _ _) (Nat.le_of_lt HPX.out.2.2)
          have hnm : nm < maxLen := by have := hst5.nml; unfold maxLen; omega
          have hwf : (Lit.int .i64 (Lk : Nat)).wf = true := wfN (by omega)
          have HST5 := Lib.hid hst5
          have HOWN5 := Lib.hid hown5
          have HB35 := Lib.hid hb35
          have HLK := Lib.hid hLk
          clear hst5 hown5 hb35 hLk htk
          gi_wp2_with (first
            | (gi_at_mapUpdate; refine wpListIn_mapUpdate_own _ rfl _ _ _ 107 rfl 105 3 class_keyed Tryz.underlying107 (plainElem Tryz.prog 3) (N + 1) nm D rfl HST5.out.mp hnm (clV (xa, xb, xc, xd)) (.int .i64 (Lk : Nat)) (ckL (xa, xb, xc, xd)) (by rfl) (by rfl) (keyOf_class HX5.out) (.lit (.int .i64 (Lk : Nat))) [] (plainElem_int Tryz.underlying3 hwf) ?_
               intro w6 hown6 hg6
               have hsz6 := hg6.size
               have ca6 : w6.cell? ⟨N + 1 + 1 + 1, 0, none⟩ = some (.slice A2 Lk c2) := (World.cell?_of_block (hg6.block (N + 3) hl3 (by intro e; injection e with e; omega))).trans ca
               have hNb5 : Nb < (W5).heap.size := Nat.lt_of_lt_of_le hNbl hs5s
               have hbN := hg6.block Nb hNb5 (by intro e; injection e with e; omega)
               have p0 : w6.cell? ⟨Nb, 0, none⟩ = some (.int .i64 (xa : Nat)) := (World.cell?_of_block hbN).trans n0
               have p1 : w6.cell? ⟨Nb, 1, none⟩ = some (.int .i64 (xb : Nat)) := (World.cell?_of_block hbN).trans n1
               have p2 : w6.cell? ⟨Nb, 2, none⟩ = some (.int .i64 (xc : Nat)) := (World.cell?_of_block hbN).trans n2
               have p3 : w6.cell? ⟨Nb, 3, none⟩ = some (.int .i64 (xd : Nat)) := (World.cell?_of_block hbN).trans n3
               have ho6 : OwnC 105 w6 (N + 6) (.slice A2 Lk c2) (ftk false pre) := HOWN5.out.keep fun g hg hl _ => hg6.block g hl (by intro e; injection e with e; omega)
               have hN6 : N + 6 ≤ w6.heap.size := by omega)
            | (gi_at_builtin; refine listIn_op (by rfl) (fun c h => by cases h) (wp_pushC w6 infoC_class _ _ 98 98 (by rfl) Tryz.underlying98 Tryz.underlying98 (N + 6) A2 Lk c2 (ftk false pre) (by rfl) ho6 (xa, xb, xc, xd) (by rfl) (by omega) hN6 ?_)
               intro A7 c7 w7 hown7 hg7 hb7
               have ca7 : w7.cell? ⟨N + 1 + 1 + 1, 0, none⟩ = some (.slice A2 Lk c2) := (hb7.cell (p := ⟨N + 3, 0, none⟩) (by show N + 3 < N + 6; omega)).trans ca6
               have hB7 : w7.heap[N + 3]? = some (.cells #[.slice A2 Lk c2] 98 (0, 0)) := ((hb7.block (N + 3) (by omega)).trans (hg6.block (N + 3) hl3 (by intro e; injection e with e; omega))).trans HB35.out
               have fa7 : w7.frozen? ⟨N + 1 + 1 + 1, 0, none⟩ = false := Lib.frozen_of_heap hB7 0))
          exact cls_taken hs0 HST5.out hown6 hg6 hown7 hb7 HLK.out HX5.out HPX.out HTK.out (by omega) HBW.out
        | true =>
          gi_wp2
          refine wpIn_region_trg (.read 0 (.read 1 (.read 2 (.read 3 (.read 4 (.read 5 (.step 6 (.step 7 (.read 8 .nil))))))))) [] (by kernel_rfl) (by rfl) (by kernel_rfl) (by kernel_rfl) (by kernel_rfl) (fun _ _ _ _ _ h => h) (fun ⟨_, _, h⟩ => h) (fun V => Below W.heap.size W V) ?_
          change goG _ _ _ _ _ _ _ W.drew
          refine goG_read 72 hs0 (by rfl) (by rfl) ?_ (by rfl) (fun wz hSw => ?_) ?_
          rotate_left
          · have x0 := keepP hSw QH.out; go_simp
            try with_reducible rfl
          simp only [List.setIfInBounds_toArray, List.set]
          refine goG_read 73 hs0 (by rfl) (by rfl) ?_ (by rfl) (fun wz hSw => ?_) ?_
          rotate_left
          · go_simp
            try with_reducible rfl
          simp only [List.setIfInBounds_toArray, List.set]
          refine goG_read 74 hs0 (by rfl) (by rfl) ?_ (by rfl) (fun wz hSw => ?_) ?_
          rotate_left
          · go_simp
            try with_reducible rfl
          simp only [List.setIfInBounds_toArray, List.set]
          refine goG_read 75 hs0 (by rfl) (by rfl) ?_ (by rfl) (fun wz hSw => ?_) ?_
          rotate_left
          · have x0 := keepP hSw QX.out; go_simp
            try with_reducible rfl
          simp only [List.setIfInBounds_toArray, List.set]
          refine goG_read 76 hs0 (by rfl) (by rfl) ?_ (by rfl) (fun wz hSw => ?_) ?_
          rotate_left
          · have x0 := keepP hSw QX.out; go_simp
            try with_reducible rfl
          simp only [List.setIfInBounds_toArray, List.set]
          refine goG_read 77 hs0 (by rfl) (by rfl) ?_ (by rfl) (fun wz hSw => ?_) ?_
          rotate_left
          · have y0 := keepP hSw Q0.out; have y1 := keepP hSw Q1.out; have y2 := keepP hSw Q2.out; have y3 := keepP hSw Q3.out; go_simp
            try with_reducible rfl
          simp only [List.setIfInBounds_toArray, List.set]
          refine goG_call 78 (by rfl) (by rfl) (by rfl) (by go_simp) (pdet5_any (hPW.below hs0) HX5.out) ?_
          rintro e w4 ⟨rfl, hb4⟩
          have hs4 : Below W.heap.size W w4 := btrP hs0 hb4
          refine ⟨_, rfl, fun _ => hs4, ?_⟩
          simp only [List.setIfInBounds_toArray, List.set]
          obtain ⟨dd, hdd⟩ : ∃ dd, dd = det5 (xa, xb, xc, xd) := ⟨_, rfl⟩
          rw [← hdd]
          have hd5 : dd < 5 := by rw [hdd]; exact Nat.mod_lt _ (by decide)
          have hsq : (jac (((dd : Nat) : Int) % ((5 : Nat) : Int)).toNat 5 == 1) = sq5 dd := by
            have key : ∀ d, d < 5 → (jac (((d : Nat) : Int) % ((5 : Nat) : Int)).toNat 5 == 1) = sq5 d := by decide +kernel
            exact key dd hd5
          have HDD := Lib.hid hdd
          have HSQ2 := Lib.hid (psquare_any (n := ((dd : Nat) : Int)) (hPW.below hs4) primeI_5 (by decide))
          rw [hsq] at HSQ2
          clear hsq hdd hd5
          refine goG_call 79 (by rfl) (by rfl) (by rfl) (by go_simp) HSQ2.out ?_
          rintro e w5 ⟨rfl, rfl⟩
          refine ⟨_, rfl, fun _ => hs4, ?_⟩
          simp only [List.setIfInBounds_toArray, List.set]
          refine goG_read 80 hs4 (by rfl) (by rfl) ?_ (by rfl) (fun wz hSw => ?_) ?_
          rotate_left
          · go_simp
            try with_reducible rfl
          simp only [List.setIfInBounds_toArray, List.set]
          rename_i KX hKX
          obtain ⟨W5, hW5⟩ : ∃ W5, W5 = w4 := ⟨_, rfl⟩
          rw [← hW5] at hs4 ⊢
          clear hW5
          cases hb : sq5 dd with
          | true =>
            refine hKX _ _ ?_
            have HTK := Lib.hid (show (!true || sq5 (det5 (xa, xb, xc, xd))) = true by rw [← HDD.out, hb]; rfl)
            have hst5 := HST.out.below hs4
            have hs5s := hs4.size
            have htk : (!true || sq5 (det5 (xa, xb, xc, xd))) = true := HTK.out
            obtain ⟨Lk, hLk⟩ : ∃ Lk, Lk = (ftk true pre).length := ⟨_, rfl⟩
            have hown5 := hst5.own
            have hb35 := hst5.b3
            rw [← hLk] at hown5 hb35
            have cm : W5.cell? ⟨N + 1 + 1, 0, none⟩ = some (.map (some (N + 1))) := by rw [Lib.cell_of_heap hst5.b2]; rfl
            have ca : W5.cell? ⟨N + 1 + 1 + 1, 0, none⟩ = some (.slice A2 Lk c2) := by rw [Lib.cell_of_heap hb35]; rfl
            have n0 := keepP hs4 Q0.out
            have n1 := keepP hs4 Q1.out
            have n2 := keepP hs4 Q2.out
            have n3 := keepP hs4 Q3.out
            have hl3 := (Array.getElem?_eq_some_iff.1 hb35).1
            have hLL : Lk ≤ 120 := by
              rw [hLk]
              exact Nat.le_trans (List.length_filter_le _ _) (Nat.le_of_lt HPX.out.2.2)
            have hnm : nm < maxLen := by have := hst5.nml; unfold maxLen; omega
            have hwf : (Lit.int .i64 (Lk : Nat)).wf = true := wfN (by omega)
            have HST5 := Lib.hid hst5
            have HOWN5 := Lib.hid hown5
            have HB35 := Lib.hid hb35
            have HLK := Lib.hid hLk
            clear hst5 hown5 hb35 hLk htk
            gi_wp2_with (first
              | (gi_at_mapUpdate; refine wpListIn_mapUpdate_own _ rfl _ _ _ 107 rfl 105 3 class_keyed Tryz.underlying107 (plainElem Tryz.prog 3) (N + 1) nm D rfl HST5.out.mp hnm (clV (xa, xb, xc, xd)) (.int .i64 (Lk : Nat)) (ckL (xa, xb, xc, xd)) (by rfl) (by rfl) (keyOf_class HX5.out) (.lit (.int .i64 (Lk : Nat))) [] (plainElem_int Tryz.underlying3 hwf) ?_
                 intro w6 hown6 hg6
                 have hsz6 := hg6.size
                 have ca6 : w6.cell? ⟨N + 1 + 1 + 1, 0, none⟩ = some (.slice A2 Lk c2) := (World.cell?_of_block (hg6.block (N + 3) hl3 (by intro e; injection e with e; omega))).trans ca
                 have hNb5 : Nb < (W5).heap.size := Nat.lt_of_lt_of_le hNbl hs5s
                 have hbN := hg6.block Nb hNb5 (by intro e; injection e with e; omega)
                 have p0 : w6.cell? ⟨Nb, 0, none⟩ = some (.int .i64 (xa : Nat)) := (World.cell?_of_block hbN).trans n0
                 have p1 : w6.cell? ⟨Nb, 1, none⟩ = some (.int .i64 (xb : Nat)) := (World.cell?_of_block hbN).trans n1
                 have p2 : w6.cell? ⟨Nb, 2, none⟩ = some (.int .i64 (xc : Nat)) := (World.cell?_of_block hbN).trans n2
                 have p3 : w6.cell? ⟨Nb, 3, none⟩ = some (.int .i64 (xd : Nat)) := (World.cell?_of_block hbN).trans n3
                 have ho6 : OwnC 105 w6 (N + 6) (.slice A2 Lk c2) (ftk true pre) := HOWN5.out.keep fun g hg hl _ => hg6.block g hl (by intro e; injection e with e; omega)
                 have hN6 : N + 6 ≤ w6.heap.size := by omega)
              | (gi_at_builtin; refine listIn_op (by rfl) (fun c h => by cases h) (wp_pushC w6 infoC_class _ _ 98 98 (by rfl) Tryz.underlying98 Tryz.underlying98 (N + 6) A2 Lk c2 (ftk true pre) (by rfl) ho6 (xa, xb, xc, xd) (by rfl) (by omega) hN6 ?_)
                 intro A7 c7 w7 hown7 hg7 hb7
                 have ca7 : w7.cell? ⟨N + 1 + 1 + 1, 0, none⟩ = some (.slice A2 Lk c2) := (hb7.cell (p := ⟨N + 3, 0, none⟩) (by show N + 3 < N + 6; omega)).trans ca6
                 have hB7 : w7.heap[N + 3]? = some (.cells #[.slice A2 Lk c2] 98 (0, 0)) := ((hb7.block (N + 3) (by omega)).trans (hg6.block (N + 3) hl3 (by intro e; injection e with e; omega))).trans HB35.out
                 have fa7 : w7.frozen? ⟨N + 1 + 1 + 1, 0, none⟩ = false := Lib.frozen_of_heap hB7 0))
            exact cls_taken hs4 HST5.out hown6 hg6 hown7 hb7 HLK.out HX5.out HPX.out HTK.out (by omega) HBW.out
          | false =>
            refine hKX _ _ ?_
            have HTK := Lib.hid (show (!true || sq5 (det5 (xa, xb, xc, xd))) = false by rw [← HDD.out, hb]; rfl)
            have HST5 := Lib.hid (HST.out.below hs4)
            gi_wp2
            exact cls_not hs4 HST5.out HTK.out (by omega) HBW.out
end Go.Proofs.YtefcdclmabdmbaaGreatDoor
