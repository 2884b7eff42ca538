/- Maps from edges to numbers: their keys; one more at a key. -/
import Derived.Test.YtpkjdnplmgfbbaaDoorCkp
import Derived.Maps.RangeWalk
import Derived.WideKeyEntry
import Derived.DeepKeys4
namespace Go.Proofs.YtpkjdnplmgfbbaaDoor
open Go.RowKit Go.Maps Go.WideElems Go.WideShapes Go.MapKept Go.ChangeMaps

theorem laid_outE : laidOutB Tryd.prog = true := by kernel_rfl
theorem edge_row : 138 < Tryd.prog.types.size := of_decide_eq_true (by kernel_rfl)
theorem edge_law : WideMaps.KeyLaw Tryd.prog 138 := deep_law_laid laid_outE (m := 2) (by omega) edge_row (by kernel_rfl) (by kernel_rfl)
theorem edge_keyed : Keyed Tryd.prog 138 := Keyed.of_law edge_law
theorem cells_edge : Tryd.prog.cellsOf 138 = 2 := by kernel_rfl
theorem cells_intE : Tryd.prog.cellsOf 3 = 1 := by kernel_rfl
theorem types_some : ∃ m, Tryd.prog.types.size = m + 1 := ⟨Tryd.prog.types.size - 1, by kernel_rfl⟩
theorem edge_type : Tryd.prog.keyType 138 = true := by kernel_rfl

/-- What an edge reads as, as a key. -/
def ek (a b : Int) : Lit := .string (keyBytes [.int .i64 a, .int .i64 b])

theorem keyLits_int {m : Nat} {cs : List Value} {L : List Lit} (h : Tryd.prog.keyLits (m + 1) 3 cs = some L) : ∃ a, cs = [.int .i64 a] ∧ L = [.int .i64 a] ∧ (Lit.int .i64 a).wf = true := by
  unfold Program.keyLits at h
  simp only [Tryd.underlying3] at h
  split at h
  · rename_i h2; cases h2
  · rename_i q q' n h2
    cases h2
    split at h
    · rename_i h3
      obtain ⟨rfl, h4⟩ := h3
      injection h with h
      exact ⟨n, rfl, h.symm, h4⟩
    · cases h
  · rename_i h2; cases h2
  · rename_i h2; cases h2
  · rename_i h2; cases h2
  · cases h
theorem keyLits_mk {m : Nat} {a : Int} (ha : (Lit.int .i64 a).wf = true) : Tryd.prog.keyLits (m + 1) 3 [.int .i64 a] = some [.int .i64 a] := by
  unfold Program.keyLits
  simp only [Tryd.underlying3]
  simp [ha]

set_option maxRecDepth 100000 in
theorem keyOf_edge {a b : Int} (ha : (Lit.int .i64 a).wf = true) (hb : (Lit.int .i64 b).wf = true) : keyOf Tryd.prog 138 (.agg #[.int .i64 a, .int .i64 b]) = some (ek a b) := by
  obtain ⟨m, hm⟩ := types_some
  unfold keyOf
  simp only [Tryd.underlying138]
  rw [edge_type, hm, if_pos (by kernel_rfl)]
  unfold Program.keyLits
  simp only [Tryd.underlying138, cells_edge]
  rw [if_pos ⟨rfl, by decide +kernel⟩]
  simp [Value.cells, cells_intE, keyLits_mk ha, keyLits_mk hb, ek]
set_option maxRecDepth 100000 in
theorem edge_inv {v : Value} {kl : Lit} (h : keyOf Tryd.prog 138 v = some kl) : ∃ a b, v = .agg #[.int .i64 a, .int .i64 b] ∧ (Lit.int .i64 a).wf = true ∧ (Lit.int .i64 b).wf = true ∧ kl = ek a b := by
  obtain ⟨xs, L, rfl, hl, rfl⟩ := keyOf_top (by kernel_rfl) h
  obtain ⟨m, hm⟩ := types_some
  rw [hm] at hl
  unfold Program.keyLits at hl
  simp only [Tryd.underlying138, cells_edge] at hl
  split at hl
  · rename_i h2
    obtain ⟨h2, _⟩ := h2
    obtain ⟨x, y, hxy⟩ : ∃ x y, xs.toList = [x, y] := by
      match xs.toList, h2 with
      | [x, y], _ => exact ⟨x, y, rfl⟩
    rw [hxy] at hl
    simp only [List.mapM_cons, List.mapM_nil, cells_intE, List.drop_zero, List.take_succ_cons, List.take_zero, List.drop_succ_cons] at hl
    cases hx : Tryd.prog.keyLits (m + 1) 3 [x] with
    | none => rw [hx] at hl; simp at hl
    | some L1 =>
      cases hy : Tryd.prog.keyLits (m + 1) 3 [y] with
      | none => rw [hx, hy] at hl; simp at hl
      | some L2 =>
        rw [hx, hy] at hl
        obtain ⟨a, ha1, ha2, ha3⟩ := keyLits_int hx
        obtain ⟨b, hb1, hb2, hb3⟩ := keyLits_int hy
        simp at ha1 hb1 hl
        subst ha1 hb1 ha2 hb2
        refine ⟨a, b, ?_, ha3, hb3, ?_⟩
        · congr 1
          exact Array.toList_inj.1 hxy
        · rw [← hl]; rfl
  · cases hl
theorem ek_inj {a b a' b' : Int} (ha : (Lit.int .i64 a).wf = true) (hb : (Lit.int .i64 b).wf = true) (ha' : (Lit.int .i64 a').wf = true) (hb' : (Lit.int .i64 b').wf = true) (h : ek a b = ek a' b') : a = a' ∧ b = b' := by
  have h1 := keyOf_edge ha hb
  have h2 := keyOf_edge ha' hb'
  rw [h] at h1
  have := edge_law.inj h1 h2
  simp at this
  exact this

/-- One more at a key: the look-up, the entry, the store into it; the look-up may come behind the entry. -/
theorem incr_run {H : Type} {P : Program} {w : World} {t k e : TypeId} {q : IntKind} (K : WideMaps.KeyLaw P k) (ht : P.underlying t = some (.map k e)) (he : P.underlying e = some (.int q)) (hz : ∀ u : World, (zeroValue e).run P u = .ok (.int q 0) u)
    {b n : Nat} {D : DataW H} (hown : w.ownsMap P k (plainElem P e) b n D) (hn : n < maxLen) {key : Value} {kl : Lit} (hkey : keyOf P k key = some kl) :
    ∃ (c : Int) (st : Nat) (w1 : World), (Lit.int q c).wf = true ∧ D.atKey kl (.lit (.int q 0)) = .lit (.int q c) ∧ (Instr.lookup t (.map (some b)) key false).run P w = .ok (.int q c) w ∧
      (Instr.mapEntry t (.map (some b)) key).run P w = .ok (.tuple #[.int q c, .int .i64 (st : Nat)]) w1 ∧ (Instr.lookup t (.map (some b)) key false).run P w1 = .ok (.int q c) w1 ∧
      ∀ x : Int, (Lit.int q x).wf = true → ∃ w2, (Instr.entryStore t (.map (some b)) (.int .i64 (st : Nat)) (.int q x)).run P w1 = .ok () w2 ∧ w2.ownsMap P k (plainElem P e) b (n + 1) (D.put kl (.lit (.int q x))) ∧ w.grownBy w2 (some b) := by
  obtain ⟨c, hrun, hat, hwc⟩ := hown.lookup_int (Keyed.of_law K) ht he (hz w) hkey
  have hup := fun x (hx : (Lit.int q x).wf = true) => hown.update (Keyed.of_law K) ht hn hkey (plainElem_int (H := H) he hx)
  obtain ⟨es, clock, hb, F, hs, hD⟩ := hown
  clear hD
  obtain ⟨v0, st, es1, clock1, hme, hv0, hst⟩ := entry_then_store K ht hz hb F hkey
  have hb1 : (setBlock w b (.map es1 clock1)).heap[b]? = some (.map es1 clock1) := heap_setBlock_same hb _
  have hsb : ∀ o, setBlock (setBlock w b (.map es1 clock1)) b o = setBlock w b o := fun o => by simp [setBlock]
  -- what the look-up reads behind the entry
  have hlk : (Instr.lookup t (.map (some b)) key false).run P (setBlock w b (.map es1 clock1)) = .ok v0 (setBlock w b (.map es1 clock1)) ∧ (Instr.lookup t (.map (some b)) key false).run P w = .ok v0 w := by
    rcases K.find w hkey es.toList F.keys with ⟨h1, h2⟩ | ⟨j, e0, h1, h2, h3⟩
    · have hm : (Instr.mapEntry t (.map (some b)) key).run P w = .ok (.tuple #[.int q 0, goInt clock]) (setBlock w b (.map (es.push ⟨key, .int q 0, clock⟩) (clock + 1))) := by
        simp [Instr.mapEntry, run_underlying ht, MapKept.run_getObj_map hb, K.check w false hkey, h1, hz, MapKept.run_setObj_map _ hb, Result.andThen, setBlock]
      rw [hm] at hme
      simp only [Result.ok.injEq, Value.tuple.injEq, Array.mk.injEq, List.cons.injEq, and_true] at hme
      obtain ⟨⟨e1, _⟩, e2⟩ := hme
      subst e1
      have e3 : es1 = es.push ⟨key, .int q 0, clock⟩ := by
        have := congrArg (fun W : World => W.heap[b]?) e2
        simp only [heap_setBlock_same hb] at this
        injection this with this
        injection this with this
        exact this.symm
      subst e3
      refine ⟨?_, by simp [Instr.lookup, run_underlying ht, MapKept.run_getObj_map hb, K.check w _ hkey, h1, hz, Result.andThen]⟩
      rcases K.find (setBlock w b (.map (es.push ⟨key, .int q 0, clock⟩) clock1)) hkey (es.push ⟨key, .int q 0, clock⟩).toList (fun x hx => by
        simp only [Array.toList_push, List.mem_append, List.mem_singleton] at hx
        rcases hx with hx | rfl
        · exact F.keys x hx
        · exact ⟨kl, hkey⟩) with ⟨k1, k2⟩ | ⟨i, x, k1, k2, k3⟩
      · exact absurd rfl (k2 ⟨key, .int q 0, clock⟩ (by simp))
      · have hx := List.mem_of_getElem? k2
        simp only [Array.toList_push, List.mem_append, List.mem_singleton] at hx
        rcases hx with hx | rfl
        · exact absurd k3 (h2 x hx)
        · rw [Array.toList_push] at k1
          simp [Instr.lookup, run_underlying ht, MapKept.run_getObj_map hb1, K.check _ _ hkey, k1, Result.andThen]
    · rcases hv0 with ⟨e1, he1, hk1, rfl⟩ | ⟨hno, _⟩
      · have e2 : e1 = e0 := entry_eq_of_key ((stamped_iff es clock).1 F.stamped).2.2 he1 (List.mem_of_getElem? h2) (hk1.trans h3.symm)
        subst e2
        refine ⟨?_, by simp [Instr.lookup, run_underlying ht, MapKept.run_getObj_map hb, K.check w _ hkey, h1, Result.andThen]⟩
        have hj : es[j]? = some e1 := by simpa using h2
        have hsame : es.modify j (fun e => { e with key := key }) = es := by
          apply Array.ext'
          rw [Array.toList_modify, modify_eq_set _ _ _ _ h2]
          have : ({ e1 with key := key } : MapEntry) = e1 := by rw [← h3]
          rw [this]
          exact set_self _ _ _ h2
        have hm : (Instr.mapEntry t (.map (some b)) key).run P w = .ok (.tuple #[e1.val, goInt e1.born]) (setBlock w b (.map es clock)) := by
          simp [Instr.mapEntry, run_underlying ht, MapKept.run_getObj_map hb, K.check w false hkey, h1, hj, h3, K.stays w hkey, hsame, MapKept.run_setObj_map _ hb, Result.andThen, setBlock]
        rw [hm] at hme
        simp only [Result.ok.injEq] at hme
        have e3 : es1 = es := by
          have := congrArg (fun W : World => W.heap[b]?) hme.2
          simp only [heap_setBlock_same hb] at this
          injection this with this
          injection this with this
          exact this.symm
        subst e3
        rcases K.find (setBlock w b (.map es1 clock1)) hkey es1.toList F.keys with ⟨k1, k2⟩ | ⟨i, x, k1, k2, k3⟩
        · exact absurd h3 (k2 e1 (List.mem_of_getElem? h2))
        · have e4 : x = e1 := entry_eq_of_key ((stamped_iff es1 clock).1 F.stamped).2.2 (List.mem_of_getElem? k2) he1 (k3.trans h3.symm)
          subst e4
          simp [Instr.lookup, run_underlying ht, MapKept.run_getObj_map hb1, K.check _ _ hkey, k1, Result.andThen]
      · exact absurd h3 (hno e0 (List.mem_of_getElem? h2))
  have hv : v0 = .int q c := by
    have := hlk.2.symm.trans hrun
    simp only [Result.ok.injEq] at this
    exact this.1
  subst hv
  refine ⟨c, st, _, hwc, hat, hrun, hme, hlk.1, fun x hx => ?_⟩
  obtain ⟨w', h1, h2, h3⟩ := hup x hx
  obtain ⟨es', clock', k1, k2⟩ := hst _ (.int q x) hb1
  rw [h1] at k2
  simp only [Result.ok.injEq, true_and] at k2
  rw [hsb, ← k2] at k1
  exact ⟨w', k1, h2, h3⟩
end Go.Proofs.YtpkjdnplmgfbbaaDoor
