/- Package brandt: grid.at, a map that remembers what was counted. Package brandt: the closure that collects enclosures. Package brandt: grid.enclose. Package brandt: Enclose. -/
import Derived.Test.YtdmdagilopckgaaGreatExe
import Derived.Maps.OwnSet
import Derived.Maps.Views
namespace Go.Proofs.YtdmdagilopckgaaGreat
open Go.RowKit Go.Maps Go.WideShapes

theorem key_int : Maps.Keyed Tryz.prog 3 := int_keyed Tryz.underlying3
theorem zero_int (w : World) : (zeroValue 3).run Tryz.prog w = .ok (.int .i64 0) w := by kernel_rfl

/-- What grid.at counts. -/
def gat (t : List Int) (den k : Int) : Int := chA (lwN k den) (lwD k den) (ch t)
/-- A map that remembers values of f. -/
def Mem (w : World) (M N : Nat) (f : Int → Int) : Prop :=
  ∃ (m : Nat) (D : DataW Unit), w.ownsMap Tryz.prog 3 (plainElem Tryz.prog 3) M m D ∧ m ≤ N ∧ ∀ k : Int, has D (.int .i64 k) = true → D.atKey (.int .i64 k) (.lit (.int .i64 0)) = .lit (.int .i64 (f k))
theorem Mem.grown {w w' : World} {M N : Nat} {f : Int → Int} {row : Option Nat} (h : Mem w M N f) (hg : w.grownBy w' row) (hne : some M ≠ row) : Mem w' M N f := by
  obtain ⟨m, D, h1, h2⟩ := h
  exact ⟨m, D, h1.kept hg hne, h2⟩
theorem Mem.below {w w' : World} {M N : Nat} {f : Int → Int} (h : Mem w M N f) (hb : Below w.heap.size w w') : Mem w' M N f := by
  obtain ⟨m, D, h1, h2⟩ := h
  exact ⟨m, D, h1.kept (row := none) ⟨hb.os, hb.tape, hb.output, hb.size, fun k hk _ => hb.block k hk⟩ (by simp), h2⟩
/-- A grid at P with its map at M; what the chain lies in is older than B. -/
structure Grd (w : World) (B P M N : Nat) (t : List Int) (den : Int) : Prop where
  cells : ∃ A n c, RowsD PvD w (· < B) (.slice A n c) (ch t) ∧ w.cell? ⟨P, 0, none⟩ = some (.slice A n c)
  c1 : w.cell? ⟨P, 1, none⟩ = some (.int .i64 den)
  c2 : w.cell? ⟨P, 2, none⟩ = some (.map (some M))
  mem : Mem w M N (gat t den)
  bp : B ≤ P
  bm : B ≤ M
  pm : P ≠ M
theorem keepN {w w' : World} {row : Option Nat} {P o : Nat} {u : Value} (hg : w.grownBy w' row) (hne : some P ≠ row) (h : w.cell? ⟨P, o, none⟩ = some u) : w'.cell? ⟨P, o, none⟩ = some u := hg.cell h hne
theorem Grd.grown {w w' : World} {B P M N : Nat} {t : List Int} {den : Int} {row : Option Nat} (h : Grd w B P M N t den) (hg : w.grownBy w' row) (hr : ∀ b, row = some b → B ≤ b ∧ b ≠ P ∧ b ≠ M) : Grd w' B P M N t den := by
  obtain ⟨A, n, c, h1, h2⟩ := h.cells
  have hP : some P ≠ row := fun e => (hr P e.symm).2.1 rfl
  have hM : some M ≠ row := fun e => (hr M e.symm).2.2 rfl
  exact ⟨⟨A, n, c, h1.keep fun b hb hl => hg.block b hl (fun e => by have := (hr b e.symm).1; omega), keepN hg hP h2⟩, keepN hg hP h.c1, keepN hg hP h.c2, h.mem.grown hg hM, h.bp, h.bm, h.pm⟩
theorem Grd.below {w w' : World} {B P M N : Nat} {t : List Int} {den : Int} (h : Grd w B P M N t den) (hb : Below w.heap.size w w') : Grd w' B P M N t den :=
  h.grown (row := none) ⟨hb.os, hb.tape, hb.output, hb.size, fun k hk _ => hb.block k hk⟩ (fun b e => by cases e)

theorem Grd.grownM {w w' : World} {B P M N N' : Nat} {t : List Int} {den : Int} (h : Grd w B P M N t den) (hg : w.grownBy w' (some M)) (hm : Mem w' M N' (gat t den)) : Grd w' B P M N' t den := by
  obtain ⟨A, n, c, h1, h2⟩ := h.cells
  have hP : some P ≠ some M := fun e => h.pm (by injection e)
  exact ⟨⟨A, n, c, h1.keep fun b hb hl => hg.block b hl (fun e => by injection e with e; have := h.bm; omega), keepN hg hP h2⟩, keepN hg hP h.c1, keepN hg hP h.c2, hm, h.bp, h.bm, h.pm⟩
theorem wf_i64 {k : Int} (h1 : -9223372036854775808 ≤ k) (h2 : k ≤ 9223372036854775807) : (Lit.int .i64 k).wf = true := by
  have e1 : IntKind.i64.min = -9223372036854775808 := rfl
  have e2 : IntKind.i64.max = 9223372036854775807 := rfl
  simp [Lit.wf, e1, e2, h1, h2]
/-- What grid.at answers. -/
def AtR (w : World) (B P M N : Nat) (t : List Int) (den k : Int) (e : Ending) (w' : World) : Prop :=
  e = .returned (.int .i64 (gat t den k)) ∧ Grd w' B P M (N + 1) t den ∧ w.grownBy w' (some M)

theorem lw_small {k den : Int} (hk : k.natAbs ≤ 1000000000) (h0 : 0 < den) (hd : den ≤ 1000000000) : (lwN k den).natAbs ≤ 1000000000 ∧ (lwD k den).natAbs ≤ 1000000000 :=
  ⟨Nat.le_trans (Int.natAbs_ediv_le_natAbs _ _) hk, Nat.le_trans (Int.natAbs_ediv_le_natAbs _ _) (by omega)⟩

set_option maxHeartbeats 2000000 in
set_option maxRecDepth 100000 in
theorem gridAt_any {w : World} {B P M N : Nat} {t : List Int} {den k : Int} (h : Grd w B P M N t den) (g : GoodP t) (hN : N ≤ 4000000000000000000) (hk : k.natAbs ≤ 1000000000) (h0 : 0 < den) (hd : den ≤ 1000000000) :
    Calls Tryz.prog 35 #[.pointer (some ⟨P, 0, none⟩), .int .i64 k] w (AtR w B P M N t den k) := by
  obtain ⟨A, n, c, hch, c0⟩ := h.cells
  obtain ⟨hn, hc, hr⟩ := hch.room
  clear hn
  unfold maxLen at hr
  have c1 := h.c1
  have c2 := h.c2
  obtain ⟨m, D, hm, hmN, hmem⟩ := h.mem
  have hwk : (Lit.int .i64 k).wf = true := wf_i64 (by omega) (by omega)
  have hkey : keyOf Tryz.prog 3 (.int .i64 k) = some (.int .i64 k) := keyOf_int_mk Tryz.underlying3 hwk
  have HKEY := Lib.hid hkey
  have HOWN := Lib.hid hm
  have HG := Lib.hid h
  have hz := zero_int
  obtain ⟨l1, l2⟩ := lw_small hk h0 hd
  clear hkey h hm
  cases hh : has D (.int .i64 k)
  · have HV := Lib.hid (show ∀ w', w'.ownsMap Tryz.prog 3 (plainElem Tryz.prog 3) M (m + 1) (D.put (.int .i64 k) (.lit (.int .i64 (gat t den k)))) → Mem w' M (N + 1) (gat t den) from fun w' h' => ⟨m + 1, _, h', by omega, fun k' hk' => by
      by_cases hkk : k' = k
      · subst hkk
        exact atKey_put_same (HOWN.out.isMap) (show WideAt.IsKeyLit (.int .i64 k') from trivial) _ _
      · have hne : (Lit.int .i64 k') ≠ (Lit.int .i64 k) := fun e => hkk (by injection e)
        rw [has_put_other hne] at hk'
        rw [atKey_put_other hne]
        exact hmem k' hk'⟩)
    have HH := Lib.hid hh
    have hg := chA_le (lwN k den) (lwD k den) g
    have HC := Lib.hid (fun w' (hb : Below w.heap.size w w') => changesAt_good (num := lwN k den) (den := lwD k den) (show CV w' (.slice A n c) (ch t) from (hch.below hb).t) g l1 l2)
    have HL := Lib.hid (fun w' => @lowest_any k den w' (by omega) h0 (by omega))
    have HE := Lib.hid (show gat t den k = chA (lwN k den) (lwD k den) (ch t) from rfl)
    rw [HE.out] at HV
    clear hmem hh hch
    generalize chA (lwN k den) (lwD k den) (ch t) = r at *
    generalize lwN k den = nx at *
    generalize lwD k den = dx at *
    go_enter Tryz.func35, Tryz.ntmps35
    go_wp2_with (at_lookup; go_must (refine wpList_lookup_own_ok_int _ rfl _ _ 75 rfl 3 3 .i64 key_int Tryz.underlying75 Tryz.underlying3 (zero_int _) M m D rfl HOWN.out _ _ rfl HKEY.out ?_); intro x hat hwx; rw [HH.out])
    have hs0 : Below w.heap.size w w.drew := (Below.refl _ _).drew
    refine wp_region_trg (.read 0 (.read 1 (.read 2 (.read 3 (.read 4 (.read 5 (.read 6 (.read 7 (.read 8 (.step 9 (.step 10 (.step 11 .nil)))))))))))) [] (by kernel_rfl) (by rfl) (by kernel_rfl) (by kernel_rfl) (fun _ _ _ _ _ h => h) (fun W' => Below w.heap.size w W') ?_
    change goG _ _ _ _ _ _ _ w.drew
    have C0 := Lib.hid c0
    have C1 := Lib.hid c1
    have C2 := Lib.hid c2
    clear c0 c1 c2
    refine goG_read 18 hs0 (by rfl) (by rfl) ?_ (by rfl) (fun wz hSw => ?_) ?_
    rotate_left
    · go_simp
      try with_reducible rfl
    simp only [List.setIfInBounds_toArray, List.set]
    refine goG_read 19 hs0 (by rfl) (by rfl) ?_ (by rfl) (fun wz hSw => ?_) ?_
    rotate_left
    · go_simp
      try with_reducible rfl
    simp only [List.setIfInBounds_toArray, List.set]
    refine goG_read 20 hs0 (by rfl) (by rfl) ?_ (by rfl) (fun wz hSw => ?_) ?_
    rotate_left
    · go_simp
      try with_reducible rfl
    simp only [List.setIfInBounds_toArray, List.set]
    refine goG_read 21 hs0 (by rfl) (by rfl) ?_ (by rfl) (fun wz hSw => ?_) ?_
    rotate_left
    · (have x0 := keepB hSw C0.out); go_simp
      try with_reducible rfl
    simp only [List.setIfInBounds_toArray, List.set]
    refine goG_read 22 hs0 (by rfl) (by rfl) ?_ (by rfl) (fun wz hSw => ?_) ?_
    rotate_left
    · go_simp
      try with_reducible rfl
    simp only [List.setIfInBounds_toArray, List.set]
    refine goG_read 23 hs0 (by rfl) (by rfl) ?_ (by rfl) (fun wz hSw => ?_) ?_
    rotate_left
    · go_simp
      try with_reducible rfl
    simp only [List.setIfInBounds_toArray, List.set]
    refine goG_read 24 hs0 (by rfl) (by rfl) ?_ (by rfl) (fun wz hSw => ?_) ?_
    rotate_left
    · go_simp
      try with_reducible rfl
    simp only [List.setIfInBounds_toArray, List.set]
    refine goG_read 25 hs0 (by rfl) (by rfl) ?_ (by rfl) (fun wz hSw => ?_) ?_
    rotate_left
    · go_simp
      try with_reducible rfl
    simp only [List.setIfInBounds_toArray, List.set]
    refine goG_read 26 hs0 (by rfl) (by rfl) ?_ (by rfl) (fun wz hSw => ?_) ?_
    rotate_left
    · (have x0 := keepB hSw C1.out); go_simp
      try with_reducible rfl
    simp only [List.setIfInBounds_toArray, List.set]
    refine goG_step (by rfl) ?_
    go_wp2_with (go_at_call 75; go_must (refine (HL.out _).mono ?_); rintro e w5 ⟨rfl, hb5⟩)
    have hs1 := btr hs0 hb5
    refine ⟨fun _ => hs1, ?_⟩
    refine goG_step (by rfl) ?_
    go_wp2_with (go_at_call 34; go_must (refine (HC.out _ hs1).mono ?_); rintro e w6 ⟨rfl, hb6⟩)
    have hs2 := btr hs1 hb6
    refine ⟨fun _ => hs2, ?_⟩
    refine goG_step (by rfl) ?_
    go_wp2_with fail
    refine ⟨fun _ => hs2, ?_⟩
    rename_i hK
    refine hK _ _ ?_
    have c2 := keepB hs2 C2.out
    go_wp2_with (at_mapUpdate; go_must (refine wpList_mapUpdate_own _ rfl _ _ _ 75 rfl 3 3 key_int Tryz.underlying75 _ M m D rfl (HOWN.out.kept (row := none) ⟨hs2.os, hs2.tape, hs2.output, hs2.size, fun k hk _ => hs2.block k hk⟩ (by simp)) (by unfold maxLen; omega) _ _ _ rfl rfl HKEY.out _ [] (plainElem_int Tryz.underlying3 (wf_i64 (by omega) (by omega))) ?_); intro w7 hown7 hg7)
    go_ret
    have hgw : w.grownBy w7 (some M) := grownBy_trans ⟨hs2.os, hs2.tape, hs2.output, hs2.size, fun k hk _ => hs2.block k hk⟩ hg7
    exact ⟨by rw [HE.out]; rfl, HG.out.grownM hgw (HV.out _ hown7), hgw⟩
  · have HV := Lib.hid (hmem k hh)
    have HH := Lib.hid hh
    clear hmem hh
    go_enter Tryz.func35, Tryz.ntmps35
    go_wp2_with (at_lookup; go_must (refine wpList_lookup_own_ok_int _ rfl _ _ 75 rfl 3 3 .i64 key_int Tryz.underlying75 Tryz.underlying3 (zero_int _) M m D rfl HOWN.out _ _ rfl HKEY.out ?_); intro x hat hwx; rw [HH.out])
    go_ret
    have hx := HV.out
    rw [hat] at hx
    injection hx with hx
    injection hx with _ hx
    obtain ⟨m', D', k1, k2, k3⟩ := HG.out.mem
    exact ⟨by rw [← hx]; rfl, { HG.out with mem := ⟨m', D', k1, by omega, k3⟩ }, ⟨rfl, rfl, rfl, Nat.le_refl _, fun _ _ _ => rfl⟩⟩
end Go.Proofs.YtdmdagilopckgaaGreat

namespace Go.Proofs.YtdmdagilopckgaaGreat
open Go.RowKit Go.WideShapes

/-- An enclosure: two fractions and a count. -/
abbrev En : Type := Int × Int × Int × Int × Int
def enc (q : En) : List Value := [.int .i64 q.1, .int .i64 q.2.1, .int .i64 q.2.2.1, .int .i64 q.2.2.2.1, .int .i64 q.2.2.2.2]
def encs : List En → List Value
  | [] => []
  | q :: L => enc q ++ encs L
theorem encs_append : ∀ L M : List En, encs (L ++ M) = encs L ++ encs M
  | [], _ => rfl
  | q :: L, M => by show enc q ++ encs (L ++ M) = enc q ++ encs L ++ encs M; rw [encs_append L M, List.append_assoc]
theorem encs_one (q : En) : encs [q] = enc q := by simp [encs]
theorem encs_at : ∀ {L : List En} {i : Nat} {q : En}, L[i]? = some q → ∀ (j : Nat), j < 5 → (encs L)[i * 5 + j]? = (enc q)[j]?
  | [], i, q, h => by simp at h
  | q0 :: L, 0, q, h => by
    intro j hj
    simp at h
    subst h
    rw [Nat.zero_mul, Nat.zero_add]
    exact List.getElem?_append_left (by simpa [enc] using hj)
  | q0 :: L, i + 1, q, h => by
    intro j hj
    have h1 := encs_at (L := L) (i := i) (q := q) (by simpa using h) j hj
    show (enc q0 ++ encs L)[(i + 1) * 5 + j]? = _
    rw [List.getElem?_append_right (by simp [enc]; omega), show (i + 1) * 5 + j - (enc q0).length = i * 5 + j by simp [enc]; omega]
    exact h1
theorem info_Enc : (Tryz.prog.info? 42).map (fun i => (i.zero, i.size, i.bytes)) = some (some (.agg #[.int .i64 0, .int .i64 0, .int .i64 0, .int .i64 0, .int .i64 0]), 5, 40) := by kernel_rfl
/-- The call's own list of enclosures. -/
def OwnE (w : World) (base : Nat) (v : Value) (L : List En) : Prop := w.ownsRow base 42 5 v L.length (encs L)
theorem OwnE.slice {w : World} {base : Nat} {v : Value} {L : List En} (h : OwnE w base v L) : ∃ A c, v = .slice A L.length c ∧ L.length ≤ c ∧ c ≤ maxLen := own_slice h
theorem OwnE.lt {w : World} {base : Nat} {v : Value} {L : List En} (h : OwnE w base v L) {b : Nat} (hb : v.ownBlock = some b) : base ≤ b ∧ b < w.heap.size := World.ownsRow.lt h b hb
theorem OwnE.grown {w w' : World} {base : Nat} {v : Value} {L : List En} {row : Option Nat} (h : OwnE w base v L) (hg : w.grownBy w' row) (hne : ∀ b, v.ownBlock = some b → some b ≠ row) : OwnE w' base v L :=
  World.ownsRow.kept h hg (by cases hv : v.ownBlock with | none => exact .inl rfl | some b => exact .inr (hne b hv))

/-- The grid, and the variable at Q that collects the enclosures L. -/
structure Grs (w : World) (B P M Q N : Nat) (t : List Int) (den : Int) (L : List En) : Prop where
  grd : Grd w B P M N t den
  out : ∃ v, Arr w Q 32 [v] ∧ OwnE w B v L ∧ ∀ b, v.ownBlock = some b → b ≠ P ∧ b ≠ M ∧ b ≠ Q
  bq : B ≤ Q
  qp : Q ≠ P
  qm : Q ≠ M
theorem Grs.atR {w w' : World} {B P M Q N : Nat} {t : List Int} {den : Int} {L : List En} (h : Grs w B P M Q N t den L) (ha : Grd w' B P M (N + 1) t den) (hg : w.grownBy w' (some M)) : Grs w' B P M Q (N + 1) t den L ∧ Below B w w' := by
  obtain ⟨v, h1, h2, h3⟩ := h.out
  refine ⟨⟨ha, ⟨v, (hg.block Q h1.lt (fun e => h.qm (by injection e))).trans h1, h2.grown hg fun b hb e => (h3 b hb).2.1 (by injection e), h3⟩, h.bq, h.qp, h.qm⟩, ?_⟩
  have := h1.lt
  have := h.bq
  exact (Below.refl B w).grown hg (by omega) (fun k hk => by injection hk with hk; subst hk; exact h.grd.bm)

section
variable (w0 : World)
/-- append(own, x). -/
theorem wpList_pushE {ops : Array Oper} {rest : List Oper} {o : Oper} {a : Act} {Q : Exit → Act → World → Prop} (hgd : o.guard = none) (s x : Operand) (t t' : TypeId)
    (ho : o.op = .call { callee := .builtin .append, args := #[s, x], argTypes := #[t, t'] })
    (ht : Tryz.prog.underlying t = some (.slice 42)) (ht' : Tryz.prog.underlying t' = some (.slice 42))
    (base : Nat) (A : Option Addr) (c : Nat) (L : List En) (hs : a.eval s = .slice A L.length c) (hown : OwnE w0 base (.slice A L.length c) L)
    (q1 q2 q3 q4 q5 : Int) (g : Nat) (hx : a.eval x = .slice (some ⟨g, 0, none⟩) 1 1) (hgw : g = w0.heap.size) (h63 : L.length + 1 ≤ 1000000000) (hbase : base ≤ w0.heap.size)
    (h : ∀ A' c' w', OwnE w' base (.slice A' (L.length + 1) c') (L ++ [(q1, q2, q3, q4, q5)]) → w0.grownBy w' (Value.slice A L.length c).ownBlock → (∀ b, b < w0.heap.size → (Value.slice A' (L.length + 1) c').ownBlock = some b → (Value.slice A L.length c).ownBlock = some b) → wpList Tryz.prog ops Q rest (a.put o.dst (.slice A' (L.length + 1) c')) w') :
    wpList Tryz.prog ops Q (o :: rest) a (w0.alloc (.cells #[.int .i64 q1, .int .i64 q2, .int .i64 q3, .int .i64 q4, .int .i64 q5] 42)) := by
  subst hgw
  refine wpList_app _ hgd s x t t' ho base 42 42 (.agg #[.int .i64 0, .int .i64 0, .int .i64 0, .int .i64 0, .int .i64 0]) 5 40 ht ht' info_Enc rfl (by omega) _ L.length (encs L) hs (World.ownsRow.alloc hown _) _ 1 1 (enc (q1, q2, q3, q4, q5)) hx (src_block (heap_alloc_new w0 _) 1 5 rfl) (by simp [enc, Value.oneCell']) (by unfold maxLen; omega) (by omega) (by simp; omega) ?_
  intro v' w' hown' hg hob
  obtain ⟨A', c', rfl, _, _⟩ := own_slice hown'
  have hg0 : w0.grownBy w' (Value.slice A L.length c).ownBlock := grownBy_trans (World.grownBy_alloc w0 _ _) hg
  refine h A' c' w' ?_ hg0 (fun b hb e => ?_)
  · unfold OwnE
    rw [encs_append, encs_one, show (L ++ [(q1, q2, q3, q4, q5)]).length = L.length + 1 by simp]
    exact hown'
  · rcases hob with e2 | e2
    · rw [← e2]; exact e
    · rw [e2] at e
      have e := Option.some.inj e
      simp at e
      omega
end

theorem grown_set (w : World) (Q : Nat) (o : Nat) (u : Value) : w.grownBy (w.setCell ⟨Q, o, none⟩ u) (some Q) :=
  ⟨rfl, rfl, rfl, by simp, fun k _ hk => Below.heap_setCell w _ u k (fun e => hk (by rw [e]))⟩
theorem Grd.lt {w : World} {B P M N : Nat} {t : List Int} {den : Int} (h : Grd w B P M N t den) : P < w.heap.size ∧ M < w.heap.size := by
  obtain ⟨m, D, hm, _⟩ := h.mem
  exact ⟨cell_lt h.c1, hm.lt⟩

set_option maxHeartbeats 1000000 in
theorem yield_any {w : World} {B P M Q N : Nat} {t : List Int} {den : Int} {L : List En} {a b c d n : Int} (h : Grs w B P M Q N t den L) (hL : L.length ≤ 100000000) :
    Calls Tryz.prog 39 #[.agg #[.int .i64 a, .int .i64 b, .int .i64 c, .int .i64 d, .int .i64 n], .pointer (some ⟨Q, 0, none⟩)] w fun e w' => e = .returned (.tuple #[]) ∧ Grs w' B P M Q N t den (L ++ [(a, b, c, d, n)]) ∧ Below B w w' := by
  obtain ⟨v, hv, how, hne⟩ := h.out
  have h0 : w.cell? ⟨Q, 0, none⟩ = some v := by rw [hv.cell]; rfl
  have z0 : w.frozen? ⟨Q, 0, none⟩ = false := hv.frozen 0
  have hQ := hv.lt
  have hBQ := h.bq
  obtain ⟨A, k, rfl, hk1, hk2⟩ := how.slice
  unfold maxLen at hk2
  have HO := Lib.hid how
  have HG := Lib.hid h.grd
  have HV := Lib.hid hv
  have HN := Lib.hid hne
  have hq1 := Lib.hid h.qp
  have hq2 := Lib.hid h.qm
  clear how h hv hne
  go_enter Tryz.func39, Tryz.ntmps39
  have hw0 : OwnE (w.alloc (.cells #[.int .i64 a, .int .i64 b, .int .i64 c, .int .i64 d, .int .i64 n] 42)) B (.slice A L.length k) L := World.ownsRow.alloc HO.out _
  have HW := Lib.hid hw0
  clear hw0
  go_wp2_with (at_builtin; go_must (refine wpList_pushE _ rfl _ _ _ _ rfl Tryz.underlying32 Tryz.underlying32 B A k L rfl HW.out a b c d n (w.heap.size + 1) (by rfl) (by simp) (by omega) (by simp; omega) ?_); intro A5 c5 w5 how5 hg5 hnb5; have hg6 := grownBy_trans (World.grownBy_alloc w (.cells #[.int .i64 a, .int .i64 b, .int .i64 c, .int .i64 d, .int .i64 n] 42) _) hg5; have hv5 : Arr w5 Q 32 [.slice A L.length k] := (hg6.block Q hQ (fun e => (HN.out Q e.symm).2.2 rfl)).trans HV.out; have h5 : w5.cell? ⟨Q, 0, none⟩ = some (.slice A L.length k) := by {rw [hv5.cell]; rfl}; have z5 : w5.frozen? ⟨Q, 0, none⟩ = false := hv5.frozen 0)
  go_end0
  have hb : Below B w w5 := (Below.refl B w).grown hg6 (by omega) (fun k hk => (HO.out.lt hk).1)
  obtain ⟨l1, l2⟩ := HG.out.lt
  have hq := hq1.out
  have hm := hq2.out
  have hnew : ∀ b, (Value.slice A5 (L.length + 1) c5).ownBlock = some b → b ≠ P ∧ b ≠ M ∧ b ≠ Q := fun b e => by
    rcases Nat.lt_or_ge b w.heap.size with hl | hl
    · exact HN.out b (hnb5 b (by simp; omega) e)
    · omega
  refine ⟨rfl, ⟨?_, ⟨_, ?_, ?_, hnew⟩, hBQ, hq, hm⟩, hb.setCell (by simpa using hBQ) _⟩
  · refine (HG.out.grown hg6 fun b e => ⟨(HO.out.lt e).1, (HN.out b e).1, (HN.out b e).2.1⟩).grown (grown_set _ Q 0 _) fun b e => ?_
    have e := Option.some.inj e
    subst e
    exact ⟨hBQ, hq, hm⟩
  · exact hv5.set_ 0 _
  · have e : (L ++ [(a, b, c, d, n)]).length = L.length + 1 := by simp
    exact how5.grown (grown_set _ Q 0 _) fun b e h => (hnew b e).2.2 (by injection h)
end Go.Proofs.YtdmdagilopckgaaGreat

namespace Go.Proofs.YtdmdagilopckgaaGreat
open Go.RowKit Go.WideShapes

/-- The enclosures between two places; f counts, den is the denominator. -/
def enF (f : Int → Int) (den : Int) : Nat → Int → Int → List En
  | 0, lo, hi => if f lo - f hi = 0 then [] else if hi - lo = 1 then [(lwN lo den, lwD lo den, lwN hi den, lwD hi den, f lo - f hi)] else []
  | d + 1, lo, hi => if f lo - f hi = 0 then [] else if hi - lo = 1 then [(lwN lo den, lwD lo den, lwN hi den, lwD hi den, f lo - f hi)] else enF f den d lo (lo + (hi - lo) / 2) ++ enF f den d (lo + (hi - lo) / 2) hi
theorem enF_zero {f : Int → Int} {den lo hi : Int} (d : Nat) (h : f lo - f hi = 0) : enF f den d lo hi = [] := by cases d <;> rw [enF, if_pos h]
theorem enF_one {f : Int → Int} {den lo hi : Int} (d : Nat) (h : ¬ f lo - f hi = 0) (h1 : hi - lo = 1) : enF f den d lo hi = [(lwN lo den, lwD lo den, lwN hi den, lwD hi den, f lo - f hi)] := by cases d <;> rw [enF, if_neg h, if_pos h1]
theorem enF_more {f : Int → Int} {den lo hi : Int} (d : Nat) (h : ¬ f lo - f hi = 0) (h1 : ¬ hi - lo = 1) : enF f den (d + 1) lo hi = enF f den d lo (lo + (hi - lo) / 2) ++ enF f den d (lo + (hi - lo) / 2) hi := by rw [enF, if_neg h, if_neg h1]
theorem enF_length (f : Int → Int) (den : Int) : ∀ (d : Nat) (lo hi : Int), (enF f den d lo hi).length ≤ 2 ^ d
  | 0, lo, hi => by rw [enF]; split <;> (try split) <;> simp
  | d + 1, lo, hi => by
    rw [enF]
    split
    · simp
    · split
      · exact Nat.one_le_two_pow
      · rw [List.length_append, Nat.pow_succ]
        have h1 := enF_length f den d lo (lo + (hi - lo) / 2)
        have h2 := enF_length f den d (lo + (hi - lo) / 2) hi
        omega

theorem Grs.mono {w : World} {B P M Q N N' : Nat} {t : List Int} {den : Int} {L : List En} (h : Grs w B P M Q N t den L) (hN : N ≤ N') : Grs w B P M Q N' t den L := by
  obtain ⟨m, D, h1, h2, h3⟩ := h.grd.mem
  exact ⟨⟨h.grd.cells, h.grd.c1, h.grd.c2, ⟨m, D, h1, Nat.le_trans h2 hN, h3⟩, h.grd.bp, h.grd.bm, h.grd.pm⟩, h.out, h.bq, h.qp, h.qm⟩

theorem Grs.below {w w' : World} {B P M Q N : Nat} {t : List Int} {den : Int} {L : List En} (h : Grs w B P M Q N t den L) (hb : Below w.heap.size w w') : Grs w' B P M Q N t den L := by
  obtain ⟨v, h1, h2, h3⟩ := h.out
  exact ⟨h.grd.below hb, ⟨v, h1.below' hb, h2.grown (row := none) ⟨hb.os, hb.tape, hb.output, hb.size, fun k hk _ => hb.block k hk⟩ (fun _ _ e => by cases e), h3⟩, h.bq, h.qp, h.qm⟩
theorem Grs.size {w : World} {B P M Q N : Nat} {t : List Int} {den : Int} {L : List En} (h : Grs w B P M Q N t den L) : B ≤ w.heap.size := by
  obtain ⟨v, h1, _⟩ := h.out
  have := h1.lt
  have := h.bq
  omega

/-- What enclose leaves. -/
def EncR (w : World) (B P M Q N : Nat) (t : List Int) (den : Int) (L : List En) (e : Ending) (w' : World) : Prop :=
  e = .returned (.tuple #[]) ∧ Grs w' B P M Q N t den L ∧ Below B w w'

set_option maxHeartbeats 2000000 in
set_option maxRecDepth 100000 in
theorem enclose_none {B P M Q N : Nat} {t : List Int} {den lo hi : Int} {L : List En} {w : World} (g : GoodP t) (h0 : 0 < den) (hd : den ≤ 1000000000) (h : Grs w B P M Q N t den L) (hlo : lo.natAbs ≤ 1000000000) (hhi : hi.natAbs ≤ 1000000000) (hN : N + 2 ≤ 4000000000000000000) (hz : gat t den lo - gat t den hi = 0) :
    Calls Tryz.prog 38 #[.pointer (some ⟨P, 0, none⟩), .int .i64 lo, .int .i64 hi, .func (.func 39) #[] #[.pointer (some ⟨Q, 0, none⟩)]] w (EncR w B P M Q (N + 2) t den L) := by
  have e1 : 0 ≤ gat t den lo ∧ gat t den lo ≤ 12 := chA_le _ _ g
  have e2 : 0 ≤ gat t den hi ∧ gat t den hi ≤ 12 := chA_le _ _ g
  have HA := Lib.hid (gridAt_any (k := lo) h.grd g (by omega) hlo h0 hd)
  have HB := Lib.hid (fun (w1 : World) (h1 : Grs w1 B P M Q (N + 1) t den L) => gridAt_any (k := hi) h1.grd g (by omega) hhi h0 hd)
  have HG := Lib.hid h
  clear h
  generalize hx : gat t den lo = x at *
  generalize hy : gat t den hi = y at *
  have HX := Lib.hid hx
  have HY := Lib.hid hy
  obtain rfl : x = y := by omega
  clear hz hx hy
  go_enter Tryz.func38, Tryz.ntmps38
  go_wp2_with (first
    | (go_at_call 35; (with_reducible refine HA.out.mono ?_); rintro e w1 ⟨rfl, k1, k2⟩; obtain ⟨hs1, hb1⟩ := HG.out.atR k1 k2; rw [HX.out])
    | (go_at_call 35; (with_reducible refine (HB.out _ hs1).mono ?_); rintro e w2 ⟨rfl, k3, k4⟩; obtain ⟨hs2, hb2⟩ := hs1.atR k3 k4; rw [HY.out]))
  go_end0
  exact ⟨rfl, hs2, hb1.trans hb2⟩

set_option maxHeartbeats 4000000 in
set_option maxRecDepth 100000 in
theorem enclose_unit {B P M Q N : Nat} {t : List Int} {den lo hi : Int} {L : List En} {w : World} (g : GoodP t) (h0 : 0 < den) (hd : den ≤ 1000000000) (h : Grs w B P M Q N t den L) (hlo : lo.natAbs ≤ 1000000000) (hhi : hi.natAbs ≤ 1000000000) (hN : N + 2 ≤ 4000000000000000000) (hL : L.length ≤ 100000000) (hz : ¬ gat t den lo - gat t den hi = 0) (hone : hi - lo = 1) :
    Calls Tryz.prog 38 #[.pointer (some ⟨P, 0, none⟩), .int .i64 lo, .int .i64 hi, .func (.func 39) #[] #[.pointer (some ⟨Q, 0, none⟩)]] w (EncR w B P M Q (N + 2) t den (L ++ [(lwN lo den, lwD lo den, lwN hi den, lwD hi den, gat t den lo - gat t den hi)])) := by
  have e1 : 0 ≤ gat t den lo ∧ gat t den lo ≤ 12 := chA_le _ _ g
  have e2 : 0 ≤ gat t den hi ∧ gat t den hi ≤ 12 := chA_le _ _ g
  have HA := Lib.hid (gridAt_any (k := lo) h.grd g (by omega) hlo h0 hd)
  have HB := Lib.hid (fun (w1 : World) (h1 : Grs w1 B P M Q (N + 1) t den L) => gridAt_any (k := hi) h1.grd g (by omega) hhi h0 hd)
  have HL1 := Lib.hid (fun w' => @lowest_any lo den w' (by omega) h0 (by omega))
  have HL2 := Lib.hid (fun w' => @lowest_any hi den w' (by omega) h0 (by omega))
  have HG := Lib.hid h
  clear h
  obtain ⟨R, hR⟩ : ∃ R, R = L ++ [(lwN lo den, lwD lo den, lwN hi den, lwD hi den, gat t den lo - gat t den hi)] := ⟨_, rfl⟩
  rw [← hR]
  generalize hx : gat t den lo = x at *
  generalize hy : gat t den hi = y at *
  have HX := Lib.hid hx
  have HY := Lib.hid hy
  generalize lwN lo den = a at *
  generalize lwD lo den = b at *
  generalize lwN hi den = c at *
  generalize lwD hi den = d at *
  have HR := Lib.hid hR
  have z1 : (x - y == 0) = false := beq_eq_false_iff_ne.2 hz
  have z2 : (hi - lo == 1) = true := beq_iff_eq.2 hone
  clear hx hy hR hz hone
  go_enter Tryz.func38, Tryz.ntmps38
  go_wp2_with (first
    | (go_at_call 35; (with_reducible refine HA.out.mono ?_); rintro e w1 ⟨rfl, k1, k2⟩; obtain ⟨hs1, hb1⟩ := HG.out.atR k1 k2; rw [HX.out])
    | (go_at_call 35; (with_reducible refine (HB.out _ hs1).mono ?_); rintro e w2 ⟨rfl, k3, k4⟩; obtain ⟨hs2, hb2⟩ := hs1.atR k3 k4; rw [HY.out]))
  have C1 := Lib.hid hs2.grd.c1
  have hs0 : w2.drew.cell? ⟨P, 1, none⟩ = some (.int .i64 den) := C1.out
  have hd0 : Below w2.heap.size w2 w2.drew := (Below.refl _ _).drew
  refine wp_region_trg (.read 0 (.read 1 (.read 2 (.read 3 (.read 4 (.read 5 (.read 7 (.read 8 (.read 9 (.read 10 (.read 11 (.read 13 (.step 6 (.step 12 (.step 14 (.step 15 .nil)))))))))))))))) [] (by kernel_rfl) (by rfl) (by kernel_rfl) (by kernel_rfl) (fun _ _ _ _ _ h => h) (fun W' => W'.cell? ⟨P, 1, none⟩ = some (.int .i64 den)) ?_
  change goG _ _ _ _ _ _ _ w2.drew
  refine goG_read 25 hs0 (by rfl) (by rfl) ?_ (by rfl) (fun wz hSw => ?_) ?_
  rotate_left
  · go_simp
    try with_reducible rfl
  simp only [List.setIfInBounds_toArray, List.set]
  refine goG_read 26 hs0 (by rfl) (by rfl) ?_ (by rfl) (fun wz hSw => ?_) ?_
  rotate_left
  · go_simp
    try with_reducible rfl
  simp only [List.setIfInBounds_toArray, List.set]
  refine goG_read 27 hs0 (by rfl) (by rfl) ?_ (by rfl) (fun wz hSw => ?_) ?_
  rotate_left
  · go_simp
    try with_reducible rfl
  simp only [List.setIfInBounds_toArray, List.set]
  refine goG_read 28 hs0 (by rfl) (by rfl) ?_ (by rfl) (fun wz hSw => ?_) ?_
  rotate_left
  · go_simp
    try with_reducible rfl
  simp only [List.setIfInBounds_toArray, List.set]
  refine goG_read 29 hs0 (by rfl) (by rfl) ?_ (by rfl) (fun wz hSw => ?_) ?_
  rotate_left
  · go_simp
    try with_reducible rfl
  simp only [List.setIfInBounds_toArray, List.set]
  refine goG_read 30 hs0 (by rfl) (by rfl) ?_ (by rfl) (fun wz hSw => ?_) ?_
  rotate_left
  · (have x0 := hSw); go_simp
    try with_reducible rfl
  simp only [List.setIfInBounds_toArray, List.set]
  refine goG_read 32 hs0 (by rfl) (by rfl) ?_ (by rfl) (fun wz hSw => ?_) ?_
  rotate_left
  · go_simp
    try with_reducible rfl
  simp only [List.setIfInBounds_toArray, List.set]
  refine goG_read 33 hs0 (by rfl) (by rfl) ?_ (by rfl) (fun wz hSw => ?_) ?_
  rotate_left
  · go_simp
    try with_reducible rfl
  simp only [List.setIfInBounds_toArray, List.set]
  refine goG_read 34 hs0 (by rfl) (by rfl) ?_ (by rfl) (fun wz hSw => ?_) ?_
  rotate_left
  · go_simp
    try with_reducible rfl
  simp only [List.setIfInBounds_toArray, List.set]
  refine goG_read 35 hs0 (by rfl) (by rfl) ?_ (by rfl) (fun wz hSw => ?_) ?_
  rotate_left
  · go_simp
    try with_reducible rfl
  simp only [List.setIfInBounds_toArray, List.set]
  refine goG_read 36 hs0 (by rfl) (by rfl) ?_ (by rfl) (fun wz hSw => ?_) ?_
  rotate_left
  · (have x0 := hSw); go_simp
    try with_reducible rfl
  simp only [List.setIfInBounds_toArray, List.set]
  refine goG_read 38 hs0 (by rfl) (by rfl) ?_ (by rfl) (fun wz hSw => ?_) ?_
  rotate_left
  · go_simp
    try with_reducible rfl
  simp only [List.setIfInBounds_toArray, List.set]
  refine goG_step (by rfl) ?_
  go_wp2_with (go_at_call 75; go_must (refine (HL1.out _).mono ?_); rintro e w5 ⟨rfl, hb5⟩)
  have hd1 := btr hd0 hb5
  refine ⟨fun _ => keepB hd1 C1.out, ?_⟩
  refine goG_step (by rfl) ?_
  go_wp2_with (go_at_call 75; go_must (refine (HL2.out _).mono ?_); rintro e w6 ⟨rfl, hb6⟩)
  have hd2 := btr hd1 hb6
  refine ⟨fun _ => keepB hd2 C1.out, ?_⟩
  refine goG_step (by rfl) ?_
  go_wp2_with fail
  refine ⟨fun _ => keepB hd2 C1.out, ?_⟩
  refine goG_step (by rfl) ?_
  go_wp2_with (go_at_call 39; go_must (refine (yield_any (hs2.below hd2) hL).mono ?_); rintro e w7 ⟨rfl, hs7, hb7⟩)
  refine ⟨fun _ => hs7.grd.c1, ?_⟩
  rename_i hK
  refine hK _ _ ?_
  go_wp2_with fail
  go_end0
  have hsz := hs2.size
  exact ⟨rfl, by rw [HR.out]; exact hs7, (hb1.trans hb2).trans ((hd2.mono hsz).trans hb7)⟩

set_option maxHeartbeats 4000000 in
set_option maxRecDepth 100000 in
theorem enclose_any {B P M Q : Nat} {t : List Int} {den : Int} (g : GoodP t) (h0 : 0 < den) (hd : den ≤ 1000000000) : ∀ (d : Nat) {w : World} {N : Nat} {L : List En} {lo hi : Int}, Grs w B P M Q N t den L → lo ≤ hi → hi - lo ≤ 2 ^ d → -1000000000 ≤ lo → hi ≤ 1000000000 → N + 2 ^ (d + 2) ≤ 4000000000000000000 → L.length + 2 ^ d ≤ 100000000 →
    Calls Tryz.prog 38 #[.pointer (some ⟨P, 0, none⟩), .int .i64 lo, .int .i64 hi, .func (.func 39) #[] #[.pointer (some ⟨Q, 0, none⟩)]] w (EncR w B P M Q (N + (2 ^ (d + 2) - 2)) t den (L ++ enF (gat t den) den d lo hi)) := by
  intro d
  induction d with
  | zero =>
    intro w N L lo hi h hlh hdd hlo hhi hN hL
    by_cases hz : gat t den lo - gat t den hi = 0
    · rw [enF_zero 0 hz, List.append_nil]
      exact enclose_none g h0 hd h (by omega) (by omega) (by omega) hz
    · have hone : hi - lo = 1 := by
        have : hi ≠ lo := fun e => hz (by rw [e]; omega)
        simp at hdd
        omega
      rw [enF_one 0 hz hone]
      exact enclose_unit g h0 hd h (by omega) (by omega) (by omega) (by omega) hz hone
  | succ d ih =>
    intro w N L lo hi h hlh hdd hlo hhi hN hL
    have hp2 : 2 ^ (d + 1 + 2) = 2 * 2 ^ (d + 2) := by rw [Nat.pow_succ]; omega
    have hp3 : 4 ≤ 2 ^ (d + 2) := Nat.pow_le_pow_right (n := 2) (by omega) (show 2 ≤ d + 2 by omega)
    have hp4 : 2 ^ (d + 1) = 2 * 2 ^ d := by rw [Nat.pow_succ]; omega
    have hp5 : (2 : Int) ^ (d + 1) = 2 * 2 ^ d := by rw [Int.pow_succ]; omega
    by_cases hz : gat t den lo - gat t den hi = 0
    · rw [enF_zero _ hz, List.append_nil]
      refine (enclose_none g h0 hd h (by omega) (by omega) (by omega) hz).mono ?_
      rintro e w' ⟨h1, h2, h3⟩
      exact ⟨h1, h2.mono (by omega), h3⟩
    · by_cases hone : hi - lo = 1
      · rw [enF_one _ hz hone]
        refine (enclose_unit g h0 hd h (by omega) (by omega) (by omega) (by omega) hz hone).mono ?_
        rintro e w' ⟨h1, h2, h3⟩
        exact ⟨h1, h2.mono (by omega), h3⟩
      · have hne : hi ≠ lo := fun e => hz (by rw [e]; omega)
        rw [enF_more d hz hone]
        have e1 : 0 ≤ gat t den lo ∧ gat t den lo ≤ 12 := chA_le _ _ g
        have e2 : 0 ≤ gat t den hi ∧ gat t den hi ≤ 12 := chA_le _ _ g
        obtain ⟨m, hm⟩ : ∃ m, m = lo + (hi - lo) / 2 := ⟨_, rfl⟩
        have HM := Lib.hid hm
        have hm1 : lo ≤ m ∧ m ≤ hi ∧ m - lo ≤ 2 ^ d ∧ hi - m ≤ 2 ^ d := by omega
        rw [← hm, ← List.append_assoc]
        have l1 := enF_length (gat t den) den d lo m
        have HA := Lib.hid (gridAt_any (k := lo) h.grd g (by omega) (by omega) h0 hd)
        have HB := Lib.hid (fun (w1 : World) (h1 : Grs w1 B P M Q (N + 1) t den L) => gridAt_any (k := hi) h1.grd g (by omega) (by omega) h0 hd)
        have HI := Lib.hid (fun (w1 : World) (h1 : Grs w1 B P M Q (N + 1 + 1) t den L) => ih (lo := lo) (hi := m) h1 (by omega) (by omega) (by omega) (by omega) (by omega) (by omega))
        have HJ := Lib.hid (fun (w1 : World) (h1 : Grs w1 B P M Q (N + 1 + 1 + (2 ^ (d + 2) - 2)) t den (L ++ enF (gat t den) den d lo m)) => ih (lo := m) (hi := hi) h1 (by omega) (by omega) (by omega) (by omega) (by omega) (by rw [List.length_append]; omega))
        have HN : Hid (N + 1 + 1 + (2 ^ (d + 2) - 2) + (2 ^ (d + 2) - 2) ≤ N + (2 ^ (d + 1 + 2) - 2)) := Lib.hid (by omega)
        have HG := Lib.hid h
        clear h ih hdd hN hL hp2 hp3 hp4 hp5 l1
        generalize enF (gat t den) den d lo m = R1 at *
        generalize enF (gat t den) den d m hi = R2 at *
        generalize (2 ^ (d + 2) - 2) = c at *
        generalize N + (2 ^ (d + 1 + 2) - 2) = N' at *
        generalize hx : gat t den lo = x at *
        generalize hy : gat t den hi = y at *
        have HX := Lib.hid hx
        have HY := Lib.hid hy
        have z1 : (x - y == 0) = false := beq_eq_false_iff_ne.2 hz
        have z2 : (hi - lo == 1) = false := beq_eq_false_iff_ne.2 hone
        clear hx hy hz hone hm hne
        go_enter Tryz.func38, Tryz.ntmps38
        go_wp2_with (first
          | (go_at_call 35; (with_reducible refine HA.out.mono ?_); rintro e w1 ⟨rfl, k1, k2⟩; obtain ⟨hs1, hb1⟩ := HG.out.atR k1 k2; rw [HX.out])
          | (go_at_call 35; (with_reducible refine (HB.out _ hs1).mono ?_); rintro e w2 ⟨rfl, k3, k4⟩; obtain ⟨hs2, hb2⟩ := hs1.atR k3 k4; rw [HY.out])
          | (go_at_call 38; rw [← HM.out]; (with_reducible refine (HI.out _ hs2).mono ?_); rintro e w3 ⟨rfl, hs3, hb3⟩)
          | (go_at_call 38; (with_reducible refine (HJ.out _ hs3).mono ?_); rintro e w4 ⟨rfl, hs4, hb4⟩))
        go_end0
        exact ⟨rfl, hs4.mono HN.out, ((hb1.trans hb2).trans hb3).trans hb4⟩
end Go.Proofs.YtdmdagilopckgaaGreat

namespace Go.Proofs.YtdmdagilopckgaaGreat
open Go.RowKit Go.WideShapes

/-- A list of enclosures in memory. -/
structure EnA (w : World) (A : Option Addr) (n c : Nat) (L : List En) : Prop where
  len : L.length = n
  cap : n ≤ c
  room : c ≤ maxLen
  cells : 0 < n → ∃ b off, A = some ⟨b, off, none⟩ ∧ ∀ j u, (encs L)[j]? = some u → w.cell? ⟨b, off + j, none⟩ = some u
theorem EnA.below {w w' : World} {A : Option Addr} {n c : Nat} {L : List En} (h : EnA w A n c L) (hb : Below w.heap.size w w') : EnA w' A n c L :=
  ⟨h.len, h.cap, h.room, fun hn => by
    obtain ⟨b, off, e, hc⟩ := h.cells hn
    exact ⟨b, off, e, fun j u hu => keepB hb (hc j u hu)⟩⟩
/-- The five cells of an element. -/
theorem EnA.at {w : World} {A : Option Addr} {n c : Nat} {L : List En} (h : EnA w A n c L) {i : Nat} {q : En} (hq : L[i]? = some q) : ∃ b off, A = some ⟨b, off, none⟩ ∧ w.cell? ⟨b, off + i * 5, none⟩ = some (.int .i64 q.1) ∧ w.cell? ⟨b, off + i * 5 + 1, none⟩ = some (.int .i64 q.2.1) ∧ w.cell? ⟨b, off + i * 5 + 2, none⟩ = some (.int .i64 q.2.2.1) ∧ w.cell? ⟨b, off + i * 5 + 3, none⟩ = some (.int .i64 q.2.2.2.1) ∧ w.cell? ⟨b, off + i * 5 + 4, none⟩ = some (.int .i64 q.2.2.2.2) := by
  have hi : i < L.length := by
    rcases Nat.lt_or_ge i L.length with h1 | h1
    · exact h1
    · rw [List.getElem?_eq_none h1] at hq; cases hq
  obtain ⟨b, off, e, hc⟩ := h.cells (by have := h.len; omega)
  have key : ∀ j u, j < 5 → (enc q)[j]? = some u → w.cell? ⟨b, off + i * 5 + j, none⟩ = some u := fun j u hj hu => by
    rw [Nat.add_assoc]
    exact hc _ _ ((encs_at hq j hj).trans hu)
  exact ⟨b, off, e, key 0 _ (by omega) rfl, key 1 _ (by omega) rfl, key 2 _ (by omega) rfl, key 3 _ (by omega) rfl, key 4 _ (by omega) rfl⟩
def EnV (w : World) (v : Value) (L : List En) : Prop := ∃ A c, v = .slice A L.length c ∧ EnA w A L.length c L
theorem OwnE.env {w : World} {base : Nat} {v : Value} {L : List En} (h : OwnE w base v L) : EnV w v L := by
  obtain ⟨A, c, rfl, h1, h2⟩ := h.slice
  refine ⟨A, c, rfl, rfl, h1, h2, fun hn => ?_⟩
  obtain ⟨g, cap, e, _, _, _, _, h4⟩ := own_cells h hn
  injection e with e1 e2 e3
  exact ⟨g, 0, e1, fun j u hu => by rw [Nat.zero_add]; exact h4 j u hu⟩

/-- How many roots lie within the limit. -/
def insR (t : List Int) (den : Int) : Int := gat t den (-1000000 * den) - gat t den (1000000 * den) + (if sgA' (-1000000) 1 t = 0 then 1 else 0)
/-- The error of Enclose. -/
def enE (l : List Int) (den : Int) : Int := if rdE l ≠ 0 then rdE l else if den < 1 then 2 else if 1000 < den then 2 else if insR (tz l) den = allR (ch (tz l)) then 0 else 8
/-- The enclosures of all roots. -/
def enL (t : List Int) (den : Int) : List En := enF (gat t den) den 26 (-1000000 * den - 1) (1000000 * den)

theorem Grd.roots {w : World} {B P M N : Nat} {t : List Int} {den : Int} (h : Grd w B P M N t den) (g : GoodP t) : ∃ A n c, n ≤ c ∧ w.cell? ⟨P, 0, none⟩ = some (.slice A n c) ∧ Calls Tryz.prog 37 #[.slice A n c] w fun e w' => e = .returned (.int .i64 (allR (ch t))) ∧ Below w.heap.size w w' := by
  obtain ⟨A, n, c, h1, h2⟩ := h.cells
  exact ⟨A, n, c, h1.room.2.1, h2, roots_good h1.t g⟩
theorem grown2 {w1 w2 W w3 w4 : World} (hsz : w1.heap.size ≤ w2.heap.size) (hb : Below w1.heap.size w1 W) (k2 : W.grownBy w3 (some w2.heap.size)) (k4 : w3.grownBy w4 (some w2.heap.size)) : Below w1.heap.size w1 w4 :=
  (hb.grown k2 hb.size (fun k e => by injection e with e; omega)).grown k4 (Nat.le_trans hb.size k2.size) (fun k e => by injection e with e; omega)
theorem enc_start {w : World} {B P M N : Nat} {t : List Int} {den : Int} (h : Grd w B P M N t den) : Grs (w.alloc (.cells #[.slice none 0 0] 32)) B P M w.heap.size N t den [] := by
  obtain ⟨l1, l2⟩ := h.lt
  exact ⟨h.below (below_al (Below.refl _ _) _), ⟨.slice none 0 0, Arr.new w _ [.slice none 0 0], World.ownsRow_nil _ _ _ _, fun b e => by cases e⟩, by have := h.bp; omega, by omega, by omega⟩

set_option maxHeartbeats 4000000 in
set_option maxRecDepth 100000 in
theorem Enclose_any {A : Option Addr} {n c : Nat} {l : List Int} {den : Int} {w : World} (h : Pl IntB w (fun _ => True) A n c l) (hg : rdE l = 0 → GoodP (tz l)) (hden : den ≤ 20 ∨ 1000 < den) :
    Calls Tryz.prog 9 #[.slice A n c, .int .i64 den] w (AnsR w (enE l den) (fun w' v => EnV w' v (enL (tz l) den)) (.slice none 0 0)) := by
  have hm := h.room
  unfold maxLen at hm
  have hc := h.cap
  obtain ⟨d, hd⟩ : ∃ d, rdE l = d := ⟨_, rfl⟩
  by_cases h1 : d = 0
  · subst h1
    have HR := Lib.hid (read_ok h hd)
    have G1 := Lib.hid (hg hd)
    have HE := Lib.hid (show enE l den = if den < 1 then 2 else if 1000 < den then 2 else if insR (tz l) den = allR (ch (tz l)) then 0 else 8 by unfold enE; rw [if_neg (by rw [hd]; simp)])
    clear h hg hd
    generalize tz l = t at *
    by_cases h2 : den < 1
    · have HE2 := Lib.hid (show enE l den = 2 by rw [HE.out, if_pos h2])
      have z1 : decide (den < 1) = true := decide_eq_true h2
      clear hden
      go_enter Tryz.func9, Tryz.ntmps9
      go_wp2_with (go_at_call 30; go_must (refine HR.out.mono ?_); rintro e w1 ⟨A1, c1, rfl, hp1, hb1⟩; have hc1 := hp1.cap; have hr1 := hp1.room; unfold maxLen at hr1)
      go_ret2
      rw [HE2.out]
      exact AnsR.no (by decide) rfl hb1
    · have z1 : decide (den < 1) = false := decide_eq_false h2
      by_cases h3 : 1000 < den
      · have HE2 := Lib.hid (show enE l den = 2 by rw [HE.out, if_neg h2, if_pos h3])
        have z2 : decide (1000 < den) = true := decide_eq_true h3
        clear hden
        go_enter Tryz.func9, Tryz.ntmps9
        go_wp2_with (go_at_call 30; go_must (refine HR.out.mono ?_); rintro e w1 ⟨A1, c1, rfl, hp1, hb1⟩; have hc1 := hp1.cap; have hr1 := hp1.room; unfold maxLen at hr1)
        go_ret2
        rw [HE2.out]
        exact AnsR.no (by decide) rfl hb1
      · have z2 : decide (1000 < den) = false := decide_eq_false h3
        have hd20 : den ≤ 20 := by omega
        have HE2 := Lib.hid (show enE l den = if insR t den = allR (ch t) then 0 else 8 by rw [HE.out, if_neg h2, if_neg h3])
        clear hden HE h3
        have hmm := @run_makeMap Tryz.prog
        go_enter Tryz.func9, Tryz.ntmps9
        go_wp2_with (first
          | (go_at_call 30; go_must (refine HR.out.mono ?_); rintro e w1 ⟨A1, c1, rfl, hp1, hb1⟩; have hc1 := hp1.cap; have hr1 := hp1.room; unfold maxLen at hr1; have HP := Lib.hid hp1; clear hp1)
          | (go_at_call 33; go_must (refine (chain_good HP.out G1.out).mono ?_); rintro e w2 ⟨v2, rfl, hv2, hb2⟩; obtain ⟨A2, c2, rfl⟩ := hv2.slice))
        have hv3 : RowsD PvD w2 (· < w2.heap.size) (.slice A2 (ch t).length c2) (ch t) := hv2.mono fun b _ h => h
        obtain ⟨W, hW⟩ : ∃ W, W = (w2.alloc (.map #[] 0)).alloc (.cells #[.slice A2 (ch t).length c2, .int .i64 den, .map (some w2.heap.size)] 77) := ⟨_, rfl⟩
        have hbW : Below w2.heap.size w2 W := by rw [hW]; exact below_al (below_al (Below.refl _ _) _) _
        have hgr : Grd W w2.heap.size (w2.heap.size + 1) w2.heap.size 0 t den := by
          refine ⟨⟨A2, _, c2, Foot.below hv3 hbW, by rw [hW]; go_simp⟩, by rw [hW]; go_simp, by rw [hW]; go_simp, ?_, by omega, by omega, by omega⟩
          rw [hW]
          exact ⟨0, .map [], (World.ownsMap_made w2 _ _ _).alloc _, Nat.le_refl _, fun k hk => by simp [Maps.has] at hk⟩
        have HW := Lib.hid hW
        have HG := Lib.hid hgr
        have HA := Lib.hid (gridAt_any (k := -1000000 * den) hgr G1.out (by omega) (by omega) (by omega) (by omega))
        have HB := Lib.hid (fun (w3 : World) (h1 : Grd w3 w2.heap.size (w2.heap.size + 1) w2.heap.size 1 t den) => gridAt_any (k := 1000000 * den) h1 G1.out (by omega) (by omega) (by omega) (by omega))
        have HS := Lib.hid (fun (w3 : World) (hb : Below w1.heap.size w1 w3) => sign_good (num := -1000000) (den := 1) (HP.out.below hb) G1.out (by decide) (by decide))
        have HX := Lib.hid (fun (w3 : World) (N : Nat) (h1 : Grd w3 w2.heap.size (w2.heap.size + 1) w2.heap.size N t den) => h1.roots G1.out)
        have e1 : 0 ≤ gat t den (-1000000 * den) ∧ gat t den (-1000000 * den) ≤ 12 := chA_le _ _ G1.out
        have e2 : 0 ≤ gat t den (1000000 * den) ∧ gat t den (1000000 * den) ≤ 12 := chA_le _ _ G1.out
        have HI : Hid (insR t den = gat t den (-1000000 * den) - gat t den (1000000 * den) + (if sgA' (-1000000) 1 t = 0 then 1 else 0)) := Lib.hid rfl
        have hsz : w1.heap.size ≤ w2.heap.size := hb2.size
        have hb12 := btr hb1 hb2
        have hb2W := btr hb2 hbW
        have hll := (hv3.room).1
        clear hW hgr hv3 hv2 hll
        obtain ⟨x, hx⟩ : ∃ x, x = gat t den (-1000000 * den) := ⟨_, rfl⟩
        obtain ⟨y, hy⟩ : ∃ y, y = gat t den (1000000 * den) := ⟨_, rfl⟩
        obtain ⟨s, hs⟩ : ∃ s, s = sgA' (-1000000) 1 t := ⟨_, rfl⟩
        obtain ⟨r, hr⟩ : ∃ r, r = allR (ch t) := ⟨_, rfl⟩
        rw [← hx, ← hy, ← hs] at HI
        rw [← hx] at e1
        rw [← hy] at e2
        have X := Lib.hid hx
        have Y := Lib.hid hy
        have S := Lib.hid hs
        have R := Lib.hid hr
        clear hx hy hs hr
        by_cases h4 : s = 0
        · have HV := Lib.hid (show insR t den = x - y + 1 by rw [HI.out, if_pos h4])
          have z3 : (s == 0) = true := beq_iff_eq.2 h4
          clear h4
          by_cases h5 : x - y + 1 = r
          · have HF := Lib.hid (show enE l den = 0 by rw [HE2.out, HV.out, ← R.out, if_pos h5])
            have z4 : (x - y + 1 != r) = false := by rw [bne_eq_false_iff_eq]; exact h5
            clear h5
            go_wp2_with (first
              | (go_at_call 35; rw [← HW.out]; (with_reducible refine HA.out.mono ?_); rintro e w3 ⟨rfl, k1, k2⟩; rw [← X.out])
              | (go_at_call 35; (with_reducible refine (HB.out _ k1).mono ?_); rintro e w4 ⟨rfl, k3, k4⟩; rw [← Y.out]; have hbz : Below w1.heap.size w1 w4 := grown2 hsz hb2W k2 k4)
              | (go_at_call 36; go_must (refine (HS.out _ hbz).mono ?_); rintro e w5 ⟨rfl, hb5⟩; rw [← S.out]; have k5 := k3.below hb5; obtain ⟨A5, n5, c5, k6, q5, k7⟩ := HX.out _ _ k5; have q6 := k5.c1)
              | (go_at_call 37; go_must (refine k7.mono ?_); rintro e w6 ⟨rfl, hb6⟩; rw [← R.out])
              | (go_at_call 38; (refine (enclose_any (Q := w6.heap.size) (N := 2) (L := []) G1.out (by omega) (by omega) 26 (enc_start (k5.below hb6)) (by omega) (by omega) (by omega) (by omega) (by omega) (by simp)).mono ?_); rintro e w7 ⟨rfl, hs7, hb7⟩; obtain ⟨v7, a7, o7, n7⟩ := hs7.out; have q7 : w7.cell? ⟨w6.heap.size, 0, none⟩ = some v7 := by {rw [a7.cell]; rfl}))
            go_ret2
            have hA := btr hb1 (btr hbz (btr hb5 hb6))
            have hE := o7.env
            rw [List.nil_append] at hE
            exact AnsR.yes (v := v7) HF.out rfl hE ((below_al hA _).trans (hb7.mono (Nat.le_trans hb1.size hsz)))
          · have HF := Lib.hid (show enE l den = 8 by rw [HE2.out, HV.out, ← R.out, if_neg h5])
            have z4 : (x - y + 1 != r) = true := by rw [bne_iff_ne]; exact h5
            clear h5
            go_wp2_with (first
              | (go_at_call 35; rw [← HW.out]; (with_reducible refine HA.out.mono ?_); rintro e w3 ⟨rfl, k1, k2⟩; rw [← X.out])
              | (go_at_call 35; (with_reducible refine (HB.out _ k1).mono ?_); rintro e w4 ⟨rfl, k3, k4⟩; rw [← Y.out]; have hbz : Below w1.heap.size w1 w4 := grown2 hsz hb2W k2 k4)
              | (go_at_call 36; go_must (refine (HS.out _ hbz).mono ?_); rintro e w5 ⟨rfl, hb5⟩; rw [← S.out]; have k5 := k3.below hb5; obtain ⟨A5, n5, c5, k6, q5, k7⟩ := HX.out _ _ k5; have q6 := k5.c1)
              | (go_at_call 37; go_must (refine k7.mono ?_); rintro e w6 ⟨rfl, hb6⟩; rw [← R.out]))
            go_ret2
            rw [HF.out]
            exact AnsR.no (by decide) rfl (btr hb1 (btr hbz (btr hb5 hb6)))
        · have HV := Lib.hid (show insR t den = x - y by rw [HI.out, if_neg h4]; omega)
          have z3 : (s == 0) = false := beq_eq_false_iff_ne.2 h4
          clear h4
          by_cases h5 : x - y = r
          · have HF := Lib.hid (show enE l den = 0 by rw [HE2.out, HV.out, ← R.out, if_pos h5])
            have z4 : (x - y != r) = false := by rw [bne_eq_false_iff_eq]; exact h5
            clear h5
            go_wp2_with (first
              | (go_at_call 35; rw [← HW.out]; (with_reducible refine HA.out.mono ?_); rintro e w3 ⟨rfl, k1, k2⟩; rw [← X.out])
              | (go_at_call 35; (with_reducible refine (HB.out _ k1).mono ?_); rintro e w4 ⟨rfl, k3, k4⟩; rw [← Y.out]; have hbz : Below w1.heap.size w1 w4 := grown2 hsz hb2W k2 k4)
              | (go_at_call 36; go_must (refine (HS.out _ hbz).mono ?_); rintro e w5 ⟨rfl, hb5⟩; rw [← S.out]; have k5 := k3.below hb5; obtain ⟨A5, n5, c5, k6, q5, k7⟩ := HX.out _ _ k5; have q6 := k5.c1)
              | (go_at_call 37; go_must (refine k7.mono ?_); rintro e w6 ⟨rfl, hb6⟩; rw [← R.out])
              | (go_at_call 38; (refine (enclose_any (Q := w6.heap.size) (N := 2) (L := []) G1.out (by omega) (by omega) 26 (enc_start (k5.below hb6)) (by omega) (by omega) (by omega) (by omega) (by omega) (by simp)).mono ?_); rintro e w7 ⟨rfl, hs7, hb7⟩; obtain ⟨v7, a7, o7, n7⟩ := hs7.out; have q7 : w7.cell? ⟨w6.heap.size, 0, none⟩ = some v7 := by {rw [a7.cell]; rfl}))
            go_ret2
            have hA := btr hb1 (btr hbz (btr hb5 hb6))
            have hE := o7.env
            rw [List.nil_append] at hE
            exact AnsR.yes (v := v7) HF.out rfl hE ((below_al hA _).trans (hb7.mono (Nat.le_trans hb1.size hsz)))
          · have HF := Lib.hid (show enE l den = 8 by rw [HE2.out, HV.out, ← R.out, if_neg h5])
            have z4 : (x - y != r) = true := by rw [bne_iff_ne]; exact h5
            clear h5
            go_wp2_with (first
              | (go_at_call 35; rw [← HW.out]; (with_reducible refine HA.out.mono ?_); rintro e w3 ⟨rfl, k1, k2⟩; rw [← X.out])
              | (go_at_call 35; (with_reducible refine (HB.out _ k1).mono ?_); rintro e w4 ⟨rfl, k3, k4⟩; rw [← Y.out]; have hbz : Below w1.heap.size w1 w4 := grown2 hsz hb2W k2 k4)
              | (go_at_call 36; go_must (refine (HS.out _ hbz).mono ?_); rintro e w5 ⟨rfl, hb5⟩; rw [← S.out]; have k5 := k3.below hb5; obtain ⟨A5, n5, c5, k6, q5, k7⟩ := HX.out _ _ k5; have q6 := k5.c1)
              | (go_at_call 37; go_must (refine k7.mono ?_); rintro e w6 ⟨rfl, hb6⟩; rw [← R.out]))
            go_ret2
            rw [HF.out]
            exact AnsR.no (by decide) rfl (btr hb1 (btr hbz (btr hb5 hb6)))
  · have HR := Lib.hid (read_no h hd h1)
    have HE := Lib.hid (show enE l den = d by unfold enE; rw [if_pos (by rw [hd]; exact h1), hd])
    clear h hg hd
    generalize tz l = t at *
    go_enter Tryz.func9, Tryz.ntmps9
    go_wp2_with (go_at_call 30; go_must (refine HR.out.mono ?_); rintro e w1 ⟨rfl, hb1⟩)
    go_ret2
    rw [HE.out]
    exact AnsR.no h1 rfl hb1
end Go.Proofs.YtdmdagilopckgaaGreat
