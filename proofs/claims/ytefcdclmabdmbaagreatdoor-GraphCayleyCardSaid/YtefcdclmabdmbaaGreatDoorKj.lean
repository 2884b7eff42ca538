/- Lists of vertices: the reference's count; slices.ContainsFunc, slices.Contains; checkList, CheckPath and the reference's CheckPath. Maps from edges to numbers: their keys; one more at a key. Plain graphs: components and colourings. No program in sight. Plain graphs: numbers of walks tell where there are walks; odd closed walks and colourings. No program in sight. graph.edges, graph.undirected, graph.Undirected. -/
import Derived.Test.YtefcdclmabdmbaaGreatDoorKf
import Derived.Maps.RangeWalk
import Derived.WideKeyEntry
import Derived.DeepKeys4
import Derived.Test.YtefcdclmabdmbaaGreatDoorKb
import Derived.RegionTactic
import Derived.ChangeAlike
namespace Go.Proofs.YtefcdclmabdmbaaGreatDoor
open Go.RowKit

/-- slices.ContainsFunc of a list of ints. -/
theorem ContainsFunc_any {w : World} {A : Option Addr} {n c : Nat} {l : List Int} (h : Il w A n c l) {f : FuncId} {lb : Array Value} {p : Int → Bool} (hf : Asks w f lb l p)
    (eg : ∀ args w, (callFunc f args).run Tryz.prog w = .ok (.enter f args) w) :
    Calls Tryz.prog 91 #[.slice A n c, .func (.func f) #[] lb] w fun e w' => e = .returned (.bool (l.any p)) ∧ Below w.heap.size w w' := by
  have EG := Lib.hid eg
  clear eg
  have HF := Lib.hid hf
  clear hf
  go_enter Tryz.func91, Tryz.ntmps91
  go_wp2_with (go_at_call 95; refine (IndexFunc_any h HF.out EG.out).mono ?_; rintro e w1 ⟨⟨i, y, hi1, hi2, rfl⟩ | ⟨hi2, rfl⟩, hb1⟩)
  · have e : l.any p = true := List.any_eq_true.2 ⟨y, List.mem_of_getElem? hi1, List.find?_some hi2⟩
    have HE := Lib.hid e
    clear e hi1 hi2
    go_ret
    exact ⟨ret_bool (by rw [HE.out]), hb1⟩
  · have e : l.any p = false := by
      rw [List.any_eq_false]
      intro x hx
      have := List.find?_eq_none.1 hi2 x hx
      simpa using this
    have HE := Lib.hid e
    clear e hi2
    go_ret
    exact ⟨ret_bool (by rw [HE.out]), hb1⟩

end Go.Proofs.YtefcdclmabdmbaaGreatDoor

namespace Go.Proofs.YtefcdclmabdmbaaGreatDoor
open Go.RowKit Go.Maps Go.WideElems Go.WideShapes Go.MapKept Go.ChangeMaps

theorem laid_outE : laidOutB Tryz.prog = true := by kernel_rfl
theorem edge_row : 182 < Tryz.prog.types.size := of_decide_eq_true (by kernel_rfl)
theorem edge_law : WideMaps.KeyLaw Tryz.prog 182 := deep_law_laid laid_outE (m := 2) (by omega) edge_row (by kernel_rfl) (by kernel_rfl)
theorem edge_keyed : Keyed Tryz.prog 182 := Keyed.of_law edge_law
theorem cells_edge : Tryz.prog.cellsOf 182 = 2 := by kernel_rfl
theorem cells_intE : Tryz.prog.cellsOf 3 = 1 := by kernel_rfl
theorem types_some : ∃ m, Tryz.prog.types.size = m + 1 := ⟨Tryz.prog.types.size - 1, by kernel_rfl⟩
theorem edge_type : Tryz.prog.keyType 182 = true := by kernel_rfl

/-- What an edge reads as, as a key. -/
def ek (a b : Int) : Lit := .string (keyBytes [.int .i64 a, .int .i64 b])

theorem keyLits_int {m : Nat} {cs : List Value} {L : List Lit} (h : Tryz.prog.keyLits (m + 1) 3 cs = some L) : ∃ a, cs = [.int .i64 a] ∧ L = [.int .i64 a] ∧ (Lit.int .i64 a).wf = true := by
  unfold Program.keyLits at h
  simp only [Tryz.underlying3] at h
  split at h
  · rename_i h2; cases h2
  · rename_i q q' n h2
    cases h2
    split at h
    · rename_i h3
      obtain ⟨rfl, h4⟩ := h3
      injection h with h
      exact ⟨n, rfl, h.symm, h4⟩
    · cases h
  · rename_i h2; cases h2
  · rename_i h2; cases h2
  · rename_i h2; cases h2
  · cases h
theorem keyLits_mk {m : Nat} {a : Int} (ha : (Lit.int .i64 a).wf = true) : Tryz.prog.keyLits (m + 1) 3 [.int .i64 a] = some [.int .i64 a] := by
  unfold Program.keyLits
  simp only [Tryz.underlying3]
  simp [ha]

set_option maxRecDepth 100000 in
theorem keyOf_edge {a b : Int} (ha : (Lit.int .i64 a).wf = true) (hb : (Lit.int .i64 b).wf = true) : keyOf Tryz.prog 182 (.agg #[.int .i64 a, .int .i64 b]) = some (ek a b) := by
  obtain ⟨m, hm⟩ := types_some
  unfold keyOf
  simp only [Tryz.underlying182]
  rw [edge_type, hm, if_pos (by kernel_rfl)]
  unfold Program.keyLits
  simp only [Tryz.underlying182, cells_edge]
  rw [if_pos ⟨rfl, by decide +kernel⟩]
  simp [Value.cells, cells_intE, keyLits_mk ha, keyLits_mk hb, ek]
set_option maxRecDepth 100000 in
theorem edge_inv {v : Value} {kl : Lit} (h : keyOf Tryz.prog 182 v = some kl) : ∃ a b, v = .agg #[.int .i64 a, .int .i64 b] ∧ (Lit.int .i64 a).wf = true ∧ (Lit.int .i64 b).wf = true ∧ kl = ek a b := by
  obtain ⟨xs, L, rfl, hl, rfl⟩ := keyOf_top (by kernel_rfl) h
  obtain ⟨m, hm⟩ := types_some
  rw [hm] at hl
  unfold Program.keyLits at hl
  simp only [Tryz.underlying182, cells_edge] at hl
  split at hl
  · rename_i h2
    obtain ⟨h2, _⟩ := h2
    obtain ⟨x, y, hxy⟩ : ∃ x y, xs.toList = [x, y] := by
      match xs.toList, h2 with
      | [x, y], _ => exact ⟨x, y, rfl⟩
    rw [hxy] at hl
    simp only [List.mapM_cons, List.mapM_nil, cells_intE, List.drop_zero, List.take_succ_cons, List.take_zero, List.drop_succ_cons] at hl
    cases hx : Tryz.prog.keyLits (m + 1) 3 [x] with
    | none => rw [hx] at hl; simp at hl
    | some L1 =>
      cases hy : Tryz.prog.keyLits (m + 1) 3 [y] with
      | none => rw [hx, hy] at hl; simp at hl
      | some L2 =>
        rw [hx, hy] at hl
        obtain ⟨a, ha1, ha2, ha3⟩ := keyLits_int hx
        obtain ⟨b, hb1, hb2, hb3⟩ := keyLits_int hy
        simp at ha1 hb1 hl
        subst ha1 hb1 ha2 hb2
        refine ⟨a, b, ?_, ha3, hb3, ?_⟩
        · congr 1
          exact Array.toList_inj.1 hxy
        · rw [← hl]; rfl
  · cases hl
theorem ek_inj {a b a' b' : Int} (ha : (Lit.int .i64 a).wf = true) (hb : (Lit.int .i64 b).wf = true) (ha' : (Lit.int .i64 a').wf = true) (hb' : (Lit.int .i64 b').wf = true) (h : ek a b = ek a' b') : a = a' ∧ b = b' := by
  have h1 := keyOf_edge ha hb
  have h2 := keyOf_edge ha' hb'
  rw [h] at h1
  have := edge_law.inj h1 h2
  simp at this
  exact this

/-- One more at a key: the look-up, the entry, the store into it; the look-up may come behind the entry. -/
theorem incr_run {H : Type} {P : Program} {w : World} {t k e : TypeId} {q : IntKind} (K : WideMaps.KeyLaw P k) (ht : P.underlying t = some (.map k e)) (he : P.underlying e = some (.int q)) (hz : ∀ u : World, (zeroValue e).run P u = .ok (.int q 0) u)
    {b n : Nat} {D : DataW H} (hown : w.ownsMap P k (plainElem P e) b n D) (hn : n < maxLen) {key : Value} {kl : Lit} (hkey : keyOf P k key = some kl) :
    ∃ (c : Int) (st : Nat) (w1 : World), (Lit.int q c).wf = true ∧ D.atKey kl (.lit (.int q 0)) = .lit (.int q c) ∧ (Instr.lookup t (.map (some b)) key false).run P w = .ok (.int q c) w ∧
      (Instr.mapEntry t (.map (some b)) key).run P w = .ok (.tuple #[.int q c, .int .i64 (st : Nat)]) w1 ∧ (Instr.lookup t (.map (some b)) key false).run P w1 = .ok (.int q c) w1 ∧
      ∀ x : Int, (Lit.int q x).wf = true → ∃ w2, (Instr.entryStore t (.map (some b)) (.int .i64 (st : Nat)) (.int q x)).run P w1 = .ok () w2 ∧ w2.ownsMap P k (plainElem P e) b (n + 1) (D.put kl (.lit (.int q x))) ∧ w.grownBy w2 (some b) := by
  obtain ⟨c, hrun, hat, hwc⟩ := hown.lookup_int (Keyed.of_law K) ht he (hz w) hkey
  have hup := fun x (hx : (Lit.int q x).wf = true) => hown.update (Keyed.of_law K) ht hn hkey (plainElem_int (H := H) he hx)
  obtain ⟨es, clock, hb, F, hs, hD⟩ := hown
  clear hD
  obtain ⟨v0, st, es1, clock1, hme, hv0, hst⟩ := entry_then_store K ht hz hb F hkey
  have hb1 : (setBlock w b (.map es1 clock1)).heap[b]? = some (.map es1 clock1) := heap_setBlock_same hb _
  have hsb : ∀ o, setBlock (setBlock w b (.map es1 clock1)) b o = setBlock w b o := fun o => by simp [setBlock]
  -- what the look-up reads behind the entry
  have hlk : (Instr.lookup t (.map (some b)) key false).run P (setBlock w b (.map es1 clock1)) = .ok v0 (setBlock w b (.map es1 clock1)) ∧ (Instr.lookup t (.map (some b)) key false).run P w = .ok v0 w := by
    rcases K.find w hkey es.toList F.keys with ⟨h1, h2⟩ | ⟨j, e0, h1, h2, h3⟩
    · have hm : (Instr.mapEntry t (.map (some b)) key).run P w = .ok (.tuple #[.int q 0, goInt clock]) (setBlock w b (.map (es.push ⟨key, .int q 0, clock⟩) (clock + 1))) := by
        simp [Instr.mapEntry, run_underlying ht, MapKept.run_getObj_map hb, K.check w false hkey, h1, hz, MapKept.run_setObj_map _ hb, Result.andThen, setBlock]
      rw [hm] at hme
      simp only [Result.ok.injEq, Value.tuple.injEq, Array.mk.injEq, List.cons.injEq, and_true] at hme
      obtain ⟨⟨e1, _⟩, e2⟩ := hme
      subst e1
      have e3 : es1 = es.push ⟨key, .int q 0, clock⟩ := by
        have := congrArg (fun W : World => W.heap[b]?) e2
        simp only [heap_setBlock_same hb] at this
        injection this with this
        injection this with this
        exact this.symm
      subst e3
      refine ⟨?_, by simp [Instr.lookup, run_underlying ht, MapKept.run_getObj_map hb, K.check w _ hkey, h1, hz, Result.andThen]⟩
      rcases K.find (setBlock w b (.map (es.push ⟨key, .int q 0, clock⟩) clock1)) hkey (es.push ⟨key, .int q 0, clock⟩).toList (fun x hx => by
        simp only [Array.toList_push, List.mem_append, List.mem_singleton] at hx
        rcases hx with hx | rfl
        · exact F.keys x hx
        · exact ⟨kl, hkey⟩) with ⟨k1, k2⟩ | ⟨i, x, k1, k2, k3⟩
      · exact absurd rfl (k2 ⟨key, .int q 0, clock⟩ (by simp))
      · have hx := List.mem_of_getElem? k2
        simp only [Array.toList_push, List.mem_append, List.mem_singleton] at hx
        rcases hx with hx | rfl
        · exact absurd k3 (h2 x hx)
        · rw [Array.toList_push] at k1
          simp [Instr.lookup, run_underlying ht, MapKept.run_getObj_map hb1, K.check _ _ hkey, k1, Result.andThen]
    · rcases hv0 with ⟨e1, he1, hk1, rfl⟩ | ⟨hno, _⟩
      · have e2 : e1 = e0 := entry_eq_of_key ((stamped_iff es clock).1 F.stamped).2.2 he1 (List.mem_of_getElem? h2) (hk1.trans h3.symm)
        subst e2
        refine ⟨?_, by simp [Instr.lookup, run_underlying ht, MapKept.run_getObj_map hb, K.check w _ hkey, h1, Result.andThen]⟩
        have hj : es[j]? = some e1 := by simpa using h2
        have hsame : es.modify j (fun e => { e with key := key }) = es := by
          apply Array.ext'
          rw [Array.toList_modify, modify_eq_set _ _ _ _ h2]
          have : ({ e1 with key := key } : MapEntry) = e1 := by rw [← h3]
          rw [this]
          exact set_self _ _ _ h2
        have hm : (Instr.mapEntry t (.map (some b)) key).run P w = .ok (.tuple #[e1.val, goInt e1.born]) (setBlock w b (.map es clock)) := by
          simp [Instr.mapEntry, run_underlying ht, MapKept.run_getObj_map hb, K.check w false hkey, h1, hj, h3, K.stays w hkey, hsame, MapKept.run_setObj_map _ hb, Result.andThen, setBlock]
        rw [hm] at hme
        simp only [Result.ok.injEq] at hme
        have e3 : es1 = es := by
          have := congrArg (fun W : World => W.heap[b]?) hme.2
          simp only [heap_setBlock_same hb] at this
          injection this with this
          injection this with this
          exact this.symm
        subst e3
        rcases K.find (setBlock w b (.map es1 clock1)) hkey es1.toList F.keys with ⟨k1, k2⟩ | ⟨i, x, k1, k2, k3⟩
        · exact absurd h3 (k2 e1 (List.mem_of_getElem? h2))
        · have e4 : x = e1 := entry_eq_of_key ((stamped_iff es1 clock).1 F.stamped).2.2 (List.mem_of_getElem? k2) he1 (k3.trans h3.symm)
          subst e4
          simp [Instr.lookup, run_underlying ht, MapKept.run_getObj_map hb1, K.check _ _ hkey, k1, Result.andThen]
      · exact absurd h3 (hno e0 (List.mem_of_getElem? h2))
  have hv : v0 = .int q c := by
    have := hlk.2.symm.trans hrun
    simp only [Result.ok.injEq] at this
    exact this.1
  subst hv
  refine ⟨c, st, _, hwc, hat, hrun, hme, hlk.1, fun x hx => ?_⟩
  obtain ⟨w', h1, h2, h3⟩ := hup x hx
  obtain ⟨es', clock', k1, k2⟩ := hst _ (.int q x) hb1
  rw [h1] at k2
  simp only [Result.ok.injEq, true_and] at k2
  rw [hsb, ← k2] at k1
  exact ⟨w', k1, h2, h3⟩
end Go.Proofs.YtefcdclmabdmbaaGreatDoor

namespace Go.Proofs.YtefcdclmabdmbaaGreatDoor

/-- Some walk leads from u to v. -/
def Con (R : List (List Nat)) (u v : Nat) : Prop := ∃ m, Wk R u m v
/-- Each edge leads back. -/
def Sym (R : List (List Nat)) : Prop := ∀ u v, u ∈ gr R v ↔ v ∈ gr R u

theorem Wk.add {R : List (List Nat)} {u v x a : Nat} : ∀ {b}, Wk R u a v → Wk R v b x → Wk R u (a + b) x
  | 0, h, k => by have e : x = v := k; rw [e]; exact h
  | b + 1, h, k => by obtain ⟨z, k1, k2⟩ := k; exact ⟨z, Wk.add h k1, k2⟩
theorem Wk.one {R : List (List Nat)} {u v : Nat} (h : v ∈ gr R u) : Wk R u 1 v := ⟨u, rfl, h⟩
theorem Wk.back {R : List (List Nat)} (hR : Sym R) : ∀ {m u v}, Wk R u m v → Wk R v m u
  | 0, u, v, h => by have e : v = u := h; rw [e]; rfl
  | m + 1, u, v, h => by
    obtain ⟨z, h1, h2⟩ := h
    have h3 : Wk R v 1 z := Wk.one ((hR z v).2 h2)
    have h4 := h3.add (Wk.back hR h1)
    rwa [Nat.add_comm 1 m] at h4
theorem Con.refl (R : List (List Nat)) (u : Nat) : Con R u u := ⟨0, rfl⟩
theorem Con.trans {R : List (List Nat)} {u v x : Nat} (h : Con R u v) (k : Con R v x) : Con R u x := by
  obtain ⟨a, h⟩ := h
  obtain ⟨b, k⟩ := k
  exact ⟨a + b, h.add k⟩
theorem Con.symm {R : List (List Nat)} (hR : Sym R) {u v : Nat} (h : Con R u v) : Con R v u := by obtain ⟨a, h⟩ := h; exact ⟨a, h.back hR⟩
theorem Con.one {R : List (List Nat)} {u v : Nat} (h : v ∈ gr R u) : Con R u v := ⟨1, Wk.one h⟩
theorem Con.lt {R : List (List Nat)} (hE : Valid R) {u v : Nat} (hu : u < R.length) (h : Con R u v) : v < R.length := by obtain ⟨a, h⟩ := h; exact h.lt hE hu
/-- What is closed under edges holds along walks. -/
theorem Con.ind {R : List (List Nat)} {P : Nat → Prop} (hP : ∀ u v, P u → v ∈ gr R u → P v) {u v : Nat} (h : Con R u v) (hu : P u) : P v := by
  obtain ⟨m, h⟩ := h
  induction m generalizing v with
  | zero => have e : v = u := h; rw [e]; exact hu
  | succ m ih => obtain ⟨z, h1, h2⟩ := h; exact hP z v (ih h1) h2

/-- The least vertex of its component. -/
def Root (R : List (List Nat)) (r : Nat) : Prop := ∀ x, Con R x r → r ≤ x

theorem least {P : Nat → Prop} : ∀ n, P n → ∃ m, m ≤ n ∧ P m ∧ ∀ x, P x → m ≤ x := by
  intro n
  induction n using Nat.strongRecOn with
  | ind n ih =>
    intro hn
    by_cases h : ∃ x, x < n ∧ P x
    · obtain ⟨x, hx, hp⟩ := h
      obtain ⟨m, h1, h2, h3⟩ := ih x hx hp
      exact ⟨m, by omega, h2, h3⟩
    · refine ⟨n, Nat.le_refl _, hn, fun x hx => ?_⟩
      rcases Nat.lt_or_ge x n with h1 | h1
      · exact absurd ⟨x, h1, hx⟩ h
      · exact h1
theorem root_of {R : List (List Nat)} (v : Nat) : ∃ r, r ≤ v ∧ Root R r ∧ Con R r v := by
  obtain ⟨r, h1, h2, h3⟩ := least (P := fun x => Con R x v) v (Con.refl R v)
  exact ⟨r, h1, fun x hx => h3 x (hx.trans h2), h2⟩
theorem Root.unique {R : List (List Nat)} (hR : Sym R) {r s v : Nat} (h : Root R r) (k : Root R s) (h1 : Con R r v) (k1 : Con R s v) : r = s := by
  have a := h s (k1.trans (h1.symm hR))
  have b := k r (h1.trans (k1.symm hR))
  omega

open Classical in
/-- The roots below a number. -/
noncomputable def rts (R : List (List Nat)) : Nat → List Nat
  | 0 => []
  | i + 1 => if Root R i then rts R i ++ [i] else rts R i
theorem rts_root {R : List (List Nat)} {i : Nat} (h : Root R i) : rts R (i + 1) = rts R i ++ [i] := by rw [rts, if_pos h]
theorem rts_not {R : List (List Nat)} {i : Nat} (h : ¬ Root R i) : rts R (i + 1) = rts R i := by rw [rts, if_neg h]
theorem rts_mem {R : List (List Nat)} {r : Nat} : ∀ i, r ∈ rts R i ↔ r < i ∧ Root R r
  | 0 => by simp [rts]
  | i + 1 => by
    by_cases h : Root R i
    · rw [rts_root h, List.mem_append, rts_mem i, List.mem_singleton]
      constructor
      · rintro (⟨h1, h2⟩ | rfl)
        · exact ⟨by omega, h2⟩
        · exact ⟨by omega, h⟩
      · rintro ⟨h1, h2⟩
        by_cases e : r = i
        · exact .inr e
        · exact .inl ⟨by omega, h2⟩
    · rw [rts_not h, rts_mem i]
      constructor
      · rintro ⟨h1, h2⟩; exact ⟨by omega, h2⟩
      · rintro ⟨h1, h2⟩
        refine ⟨?_, h2⟩
        by_cases e : r = i
        · rw [e] at h2; exact absurd h2 h
        · omega
theorem rts_inj {R : List (List Nat)} : ∀ i (a b : Nat) r, (rts R i)[a]? = some r → (rts R i)[b]? = some r → a = b
  | 0, a, b, r, h, _ => by simp [rts] at h
  | i + 1, a, b, r, h, k => by
    by_cases hr : Root R i
    · rw [rts_root hr] at h k
      have hlt : ∀ {c : Nat}, (rts R i)[c]? = some i → False := fun hc => by
        have := ((rts_mem i).1 (List.mem_of_getElem? hc)).1; omega
      rcases getElem?_snoc_cases h with ⟨h1, h2⟩ | ⟨h1, h2⟩ <;> rcases getElem?_snoc_cases k with ⟨k1, k2⟩ | ⟨k1, k2⟩
      · exact rts_inj i a b r h2 k2
      · rw [k2] at h2; exact absurd h2 hlt
      · rw [h2] at k2; exact absurd k2 hlt
      · omega
    · rw [rts_not hr] at h k; exact rts_inj i a b r h k

/-- The numbers of the components, where the roots below i have been gone through; -1 elsewhere. -/
def CompI (R : List (List Nat)) (i : Nat) (l : List Int) : Prop :=
  l.length = R.length ∧ ∀ v, v < R.length → (∃ k r : Nat, (rts R i)[k]? = some r ∧ Con R r v ∧ l.getD v 0 = k) ∨ ((∀ r, r < i → ¬ Con R r v) ∧ l.getD v 0 = -1)
theorem CompI.zero (R : List (List Nat)) : CompI R 0 (List.replicate R.length (-1)) :=
  ⟨by simp, fun v hv => .inr ⟨fun r hr => by omega, by simp [List.getD, hv]⟩⟩
/-- Where the vertex has a number already, it is no root. -/
theorem CompI.skip {R : List (List Nat)} {i : Nat} {l : List Int} (h : CompI R i l) (hi : i < R.length) (hl : ¬ l.getD i 0 < 0) : CompI R (i + 1) l ∧ rts R (i + 1) = rts R i := by
  obtain ⟨k, r, h1, h2, h3⟩ : ∃ k r : Nat, (rts R i)[k]? = some r ∧ Con R r i ∧ l.getD i 0 = k := by
    rcases h.2 i hi with h1 | h1
    · exact h1
    · omega
  obtain ⟨h4, h5⟩ := (rts_mem i).1 (List.mem_of_getElem? h1)
  have hno : ¬ Root R i := fun hr => by have := hr r h2; omega
  refine ⟨⟨h.1, fun v hv => ?_⟩, rts_not hno⟩
  rw [rts_not hno]
  rcases h.2 v hv with h6 | ⟨h6, h7⟩
  · exact .inl h6
  · refine .inr ⟨fun x hx hc => ?_, h7⟩
    by_cases e : x = i
    · rw [e] at hc; exact h6 r h4 (h2.trans hc)
    · exact h6 x (by omega) hc
/-- A new component. -/
theorem CompI.step {R : List (List Nat)} {i : Nat} {l m : List Int} (h : CompI R i l) (hi : i < R.length) (hl : l.getD i 0 < 0) (hm : m.length = l.length)
    (h1 : ∀ v, v < R.length → Con R i v → m.getD v 0 = ((rts R i).length : Nat)) (h2 : ∀ v, v < R.length → ¬ Con R i v → m.getD v 0 = l.getD v 0) : CompI R (i + 1) m ∧ (rts R (i + 1)).length = (rts R i).length + 1 := by
  have hr : Root R i := fun x hx => by
    rcases h.2 i hi with ⟨k, r, _, _, h3⟩ | ⟨h3, _⟩
    · omega
    · rcases Nat.lt_or_ge x i with h4 | h4
      · exact absurd hx (h3 x h4)
      · exact h4
  refine ⟨⟨by rw [hm, h.1], fun v hv => ?_⟩, by rw [rts_root hr]; simp⟩
  rw [rts_root hr]
  by_cases hc : Con R i v
  · exact .inl ⟨(rts R i).length, i, by simp, hc, h1 v hv hc⟩
  · rw [h2 v hv hc]
    rcases h.2 v hv with ⟨k, r, a1, a2, a3⟩ | ⟨a1, a2⟩
    · exact .inl ⟨k, r, getElem?_snoc_old a1, a2, a3⟩
    · refine .inr ⟨fun x hx hc2 => ?_, a2⟩
      by_cases e : x = i
      · rw [e] at hc2; exact hc hc2
      · exact a1 x (by omega) hc2

/-- The numbers of all components. -/
def IsComp (R : List (List Nat)) (l : List Int) : Prop := l.length = R.length ∧ ∀ v, v < R.length → ∃ k r : Nat, (rts R R.length)[k]? = some r ∧ Con R r v ∧ l.getD v 0 = k
theorem CompI.done {R : List (List Nat)} {l : List Int} (h : CompI R R.length l) : IsComp R l := by
  refine ⟨h.1, fun v hv => ?_⟩
  rcases h.2 v hv with h1 | ⟨h1, _⟩
  · exact h1
  · exact absurd (Con.refl R v) (h1 v hv)
theorem list_eq_of_getD {l k : List Int} (hl : l.length = k.length) (h : ∀ v, v < l.length → l.getD v 0 = k.getD v 0) : l = k := by
  apply List.ext_getElem?
  intro i
  rcases Nat.lt_or_ge i l.length with hi | hi
  · have a := h i hi
    have e1 : l[i]? = some (l.getD i 0) := by simp [List.getD, List.getElem?_eq_getElem hi]
    have e2 : k[i]? = some (k.getD i 0) := by simp [List.getD, List.getElem?_eq_getElem (show i < k.length by omega)]
    rw [e1, e2, a]
  · rw [List.getElem?_eq_none hi, List.getElem?_eq_none (by omega)]
theorem IsComp.unique {R : List (List Nat)} (hR : Sym R) {l m : List Int} (h : IsComp R l) (k : IsComp R m) : l = m := by
  refine list_eq_of_getD (by rw [h.1, k.1]) fun v hv => ?_
  rw [h.1] at hv
  obtain ⟨a, r, h1, h2, h3⟩ := h.2 v hv
  obtain ⟨b, s, k1, k2, k3⟩ := k.2 v hv
  have e := Root.unique hR ((rts_mem _).1 (List.mem_of_getElem? h1)).2 ((rts_mem _).1 (List.mem_of_getElem? k1)).2 h2 k2
  subst e
  rw [h3, k3, rts_inj _ _ _ _ h1 k1]

/-- Labels on the way to the least vertices: each one is connected, and no greater. -/
def LabI (R : List (List Nat)) (l : List Int) : Prop := l.length = R.length ∧ ∀ v, v < R.length → ∃ x : Nat, l.getD v 0 = x ∧ x ≤ v ∧ Con R x v
theorem LabI.start (R : List (List Nat)) {l : List Int} (h : l.length = R.length) (h2 : ∀ v, v < R.length → l.getD v 0 = v) : LabI R l := ⟨h, fun v hv => ⟨v, h2 v hv, Nat.le_refl _, Con.refl R v⟩⟩
theorem LabI.step {R : List (List Nat)} {l : List Int} (h : LabI R l) {i k : Nat} (hi : i < R.length) (hk : k < R.length) (hj : k ∈ gr R i) (hlt : l.getD i 0 < l.getD k 0) : LabI R (l.set k (l.getD i 0)) := by
  refine ⟨by simp [h.1], fun v hv => ?_⟩
  obtain ⟨x, h1, h2, h3⟩ := h.2 i hi
  obtain ⟨y, k1, k2, k3⟩ := h.2 k hk
  rw [getD_set]
  by_cases e : k = v
  · subst e
    rw [if_pos ⟨rfl, by rw [h.1]; exact hk⟩]
    exact ⟨x, h1, by omega, h3.trans (Con.one hj)⟩
  · rw [if_neg (fun hh => e hh.1)]
    exact h.2 v hv
/-- The sum of the labels. -/
def lsum (l : List Int) : Nat → Nat
  | 0 => 0
  | n + 1 => lsum l n + (l.getD n 0).toNat
theorem lsum_set {l : List Int} {k : Nat} {x : Int} (hk : k < l.length) (hx : x.toNat < (l.getD k 0).toNat) : ∀ n, lsum (l.set k x) n + (if k < n then 1 else 0) ≤ lsum l n
  | 0 => by simp [lsum]
  | n + 1 => by
    have ih := lsum_set hk hx n
    rw [lsum, lsum, getD_set]
    by_cases e : k = n
    · subst e
      rw [if_pos ⟨rfl, hk⟩, if_pos (by omega)]
      rw [if_neg (by omega)] at ih
      omega
    · rw [if_neg (fun hh => e hh.1)]
      by_cases h : k < n
      · rw [if_pos h] at ih; rw [if_pos (by omega)]; omega
      · rw [if_neg h] at ih; rw [if_neg (by omega)]; omega
theorem LabI.done {R : List (List Nat)} (hR : Sym R) (hE : Valid R) {l : List Int} (h : LabI R l) (hf : ∀ i k, i < R.length → k < R.length → k ∈ gr R i → ¬ l.getD i 0 < l.getD k 0) : ∀ v r, v < R.length → Root R r → Con R r v → l.getD v 0 = r := by
  intro v r hv hr hc
  have hrl : r < R.length := (hc.symm hR).lt hE hv
  have h1 : l.getD r 0 = r := by
    obtain ⟨x, h1, h2, h3⟩ := h.2 r hrl
    have := hr x h3
    omega
  have h2 : v < R.length ∧ l.getD v 0 = r := by
    refine Con.ind (P := fun u => u < R.length ∧ l.getD u 0 = r) (fun u z ⟨hu, he⟩ hz => ?_) hc ⟨hrl, h1⟩
    have hzl := hE u hu z hz
    refine ⟨hzl, ?_⟩
    have a := hf u z hu hzl hz
    have b := hf z u hzl hu ((hR u z).2 hz)
    omega
  exact h2.2

/-- A colouring on the way: what has a colour has that of the lengths of some walk from its root. -/
def ColI (R : List (List Nat)) (P : Nat → Prop) (l : List Int) : Prop :=
  l.length = R.length ∧ ∀ v, v < R.length → (P v ∧ ∃ m r : Nat, Root R r ∧ Wk R r m v ∧ l.getD v 0 = (m % 2 : Nat)) ∨ (¬ P v ∧ l.getD v 0 = -1)
theorem ColI.zero {R : List (List Nat)} : ColI R (fun _ => False) (List.replicate R.length (-1)) := ⟨by simp, fun v hv => .inr ⟨fun h => h, by simp [List.getD, hv]⟩⟩
theorem ColI.iff {R : List (List Nat)} {P : Nat → Prop} {l : List Int} (h : ColI R P l) {v : Nat} (hv : v < R.length) : 0 ≤ l.getD v 0 ↔ P v := by
  rcases h.2 v hv with ⟨h1, m, r, _, _, h2⟩ | ⟨h1, h2⟩
  · exact ⟨fun _ => h1, fun _ => by omega⟩
  · exact ⟨fun h => by omega, fun h => absurd h h1⟩
theorem ColI.small {R : List (List Nat)} {P : Nat → Prop} {l : List Int} (h : ColI R P l) {v : Nat} (hv : v < R.length) : -1 ≤ l.getD v 0 ∧ l.getD v 0 ≤ 1 := by
  rcases h.2 v hv with ⟨h1, m, r, _, _, h2⟩ | ⟨h1, h2⟩ <;> omega
theorem ColI.imp {R : List (List Nat)} {P P' : Nat → Prop} {l : List Int} (h : ColI R P l) (hp : ∀ v, v < R.length → (P v ↔ P' v)) : ColI R P' l :=
  ⟨h.1, fun v hv => by
    rcases h.2 v hv with ⟨h1, h2⟩ | ⟨h1, h2⟩
    · exact .inl ⟨(hp v hv).1 h1, h2⟩
    · exact .inr ⟨fun h3 => h1 ((hp v hv).2 h3), h2⟩⟩
theorem ColI.root {R : List (List Nat)} {P : Nat → Prop} {l : List Int} (h : ColI R P l) {i : Nat} (hi : i < R.length) (hr : Root R i) : ColI R (fun v => P v ∨ v = i) (l.set i 0) := by
  refine ⟨by simp [h.1], fun v hv => ?_⟩
  rw [getD_set]
  by_cases e : i = v
  · subst e
    rw [if_pos ⟨rfl, by rw [h.1]; exact hi⟩]
    exact .inl ⟨.inr rfl, 0, i, hr, rfl, rfl⟩
  · rw [if_neg (fun hh => e hh.1)]
    rcases h.2 v hv with ⟨h1, h2⟩ | ⟨h1, h2⟩
    · exact .inl ⟨.inl h1, h2⟩
    · exact .inr ⟨fun h3 => h3.elim h1 (fun e2 => e e2.symm), h2⟩
theorem ColI.edge {R : List (List Nat)} {P : Nat → Prop} {l : List Int} (h : ColI R P l) {a b : Nat} (ha : a < R.length) (hb : b < R.length) (hp : P a) (hj : b ∈ gr R a) : ColI R (fun v => P v ∨ v = b) (l.set b (1 - l.getD a 0)) := by
  obtain ⟨m, r, hr, hw, he⟩ : ∃ m r : Nat, Root R r ∧ Wk R r m a ∧ l.getD a 0 = (m % 2 : Nat) := by
    rcases h.2 a ha with ⟨_, h2⟩ | ⟨h1, _⟩
    · exact h2
    · exact absurd hp h1
  refine ⟨by simp [h.1], fun v hv => ?_⟩
  rw [getD_set]
  by_cases e : b = v
  · subst e
    rw [if_pos ⟨rfl, by rw [h.1]; exact hb⟩]
    exact .inl ⟨.inr rfl, m + 1, r, hr, ⟨a, hw, hj⟩, by rw [he]; omega⟩
  · rw [if_neg (fun hh => e hh.1)]
    rcases h.2 v hv with ⟨h1, h2⟩ | ⟨h1, h2⟩
    · exact .inl ⟨.inl h1, h2⟩
    · exact .inr ⟨fun h3 => h3.elim h1 (fun e2 => e e2.symm), h2⟩

/-- No edge joins vertices of one colour. -/
def Proper (R : List (List Nat)) (l : List Int) : Prop := ∀ u v, u < R.length → v ∈ gr R u → l.getD u 0 ≠ l.getD v 0
/-- Two colourings that are whole: if one is proper they are one. -/
theorem ColI.unique {R : List (List Nat)} (hR : Sym R) (hE : Valid R) {l m : List Int} (h : ColI R (fun _ => True) l) (k : ColI R (fun _ => True) m) (hp : Proper R l) : l = m := by
  have hw : ∀ j r v, Root R r → r < R.length → Wk R r j v → l.getD v 0 = (j % 2 : Nat) := by
    intro j
    induction j with
    | zero =>
      intro r v hr hrl hv
      have e : v = r := hv
      subst e
      rcases h.2 v hrl with ⟨_, m', s, h1, h2, h3⟩ | ⟨h1, _⟩
      · have e := Root.unique hR hr h1 (Con.refl R v) ⟨m', h2⟩
        subst e
        -- a closed walk of the root: the colours alternate along it
        have alt : ∀ q u, Wk R v q u → (l.getD u 0 = l.getD v 0 ∧ q % 2 = 0) ∨ (l.getD u 0 = 1 - l.getD v 0 ∧ q % 2 = 1) := by
          intro q
          induction q with
          | zero => intro u hu; have e : u = v := hu; subst e; exact .inl ⟨rfl, rfl⟩
          | succ q ih =>
            intro u hu
            obtain ⟨z, h4, h5⟩ := hu
            have hzl := h4.lt hE hrl
            have hul := hE z hzl u h5
            have hne := hp z u hzl h5
            have b1 : 0 ≤ l.getD z 0 := (h.iff hzl).2 trivial
            have b2 : 0 ≤ l.getD u 0 := (h.iff hul).2 trivial
            have b3 := h.small hzl
            have b4 := h.small hul
            have b5 : 0 ≤ l.getD v 0 := (h.iff hrl).2 trivial
            have b6 := h.small hrl
            rcases ih z h4 with ⟨c1, c2⟩ | ⟨c1, c2⟩
            · right; omega
            · left; omega
        rcases alt m' v h2 with ⟨_, c2⟩ | ⟨c1, c2⟩
        · omega
        · omega
      · exact absurd trivial h1
    | succ j ih =>
      intro r v hr hrl hv
      obtain ⟨z, h4, h5⟩ := hv
      have hzl := h4.lt hE hrl
      have hvl := hE z hzl v h5
      have hne := hp z v hzl h5
      have b1 := ih r z hr hrl h4
      have b2 : 0 ≤ l.getD v 0 := (h.iff hvl).2 trivial
      have b4 := h.small hvl
      omega
  refine list_eq_of_getD (by rw [h.1, k.1]) fun v hv => ?_
  rw [h.1] at hv
  rcases k.2 v hv with ⟨_, q, r, k1, k2, k3⟩ | ⟨k1, _⟩
  · rw [k3]
    exact hw q r v k1 ((Con.symm hR ⟨q, k2⟩).lt hE hv) k2
  · exact absurd trivial k1

/-- The neighbours in both directions: the edges of the first rows, and of the next row the first ones. -/
def bo1 (R : List (List Nat)) (i : Nat) (l : List Nat) : List (List Nat) := l.foldl (fun R v => (R.set i (gr R i ++ [v])).set v (gr (R.set i (gr R i ++ [v])) v ++ [i])) R
def bo (E : List (List Nat)) : Nat → List (List Nat)
  | 0 => List.replicate E.length []
  | k + 1 => bo1 (bo E k) k (gr E k)
theorem bo1_snoc (R : List (List Nat)) (i : Nat) (l : List Nat) (v : Nat) : bo1 R i (l ++ [v]) = ((bo1 R i l).set i (gr (bo1 R i l) i ++ [v])).set v (gr ((bo1 R i l).set i (gr (bo1 R i l) i ++ [v])) v ++ [i]) := by simp [bo1]
theorem bo1_length (R : List (List Nat)) (i : Nat) (l : List Nat) : (bo1 R i l).length = R.length := by
  induction l generalizing R with
  | nil => rfl
  | cons v r ih => show (bo1 _ i r).length = _; rw [ih]; simp
theorem bo_length (E : List (List Nat)) : ∀ k, (bo E k).length = E.length
  | 0 => by simp [bo]
  | k + 1 => by rw [bo, bo1_length, bo_length E k]
theorem bo1_mem {R : List (List Nat)} {i : Nat} (hi : i < R.length) : ∀ (l : List Nat), (∀ x ∈ l, x < R.length) → ∀ u v, u ∈ gr (bo1 R i l) v ↔ u ∈ gr R v ∨ (u = i ∧ v ∈ l) ∨ (v = i ∧ u ∈ l) := by
  intro l
  induction l generalizing R with
  | nil => intro _ u v; simp [bo1]
  | cons x r ih =>
    intro hl u v
    have hx : x < R.length := hl x (by simp)
    show u ∈ gr (bo1 _ i r) v ↔ _
    rw [ih (by simpa using hi) (fun y hy => by simpa using hl y (by simp [hy]))]
    have ms : ∀ {l : List Nat} {a b : Nat}, a ∈ l ++ [b] ↔ a ∈ l ∨ a = b := by simp
    rw [gr_set (by simpa using hx)]
    by_cases e1 : x = v
    · rw [if_pos e1, gr_set hi]
      by_cases e2 : i = x
      · rw [if_pos e2, ms, ms, List.mem_cons, List.mem_cons]
        grind
      · rw [if_neg e2, ms, List.mem_cons, List.mem_cons]
        grind
    · rw [if_neg e1, gr_set hi]
      by_cases e2 : i = v
      · rw [if_pos e2, ms, List.mem_cons, List.mem_cons]
        grind
      · rw [if_neg e2, List.mem_cons, List.mem_cons]
        grind
theorem bo_mem {E : List (List Nat)} (hE : Valid E) : ∀ k, k ≤ E.length → ∀ u v, u ∈ gr (bo E k) v ↔ (u < k ∧ v ∈ gr E u) ∨ (v < k ∧ u ∈ gr E v)
  | 0, _, u, v => by
    constructor
    · intro h
      rw [bo] at h
      rcases Nat.lt_or_ge v E.length with h1 | h1
      · have : gr (List.replicate E.length []) v = [] := by simp [gr, List.getD, h1]
        rw [this] at h; cases h
      · rw [gr_ge (by simpa using h1)] at h; cases h
    · rintro (⟨h, _⟩ | ⟨h, _⟩) <;> omega
  | k + 1, hk, u, v => by
    rw [bo, bo1_mem (by rw [bo_length]; omega) _ (fun x hx => by rw [bo_length]; exact hE k (by omega) x hx), bo_mem hE k (by omega)]
    constructor
    · rintro ((⟨h1, h2⟩ | ⟨h1, h2⟩) | ⟨h1, h2⟩ | ⟨h1, h2⟩)
      · exact .inl ⟨by omega, h2⟩
      · exact .inr ⟨by omega, h2⟩
      · exact .inl ⟨by omega, by rw [h1]; exact h2⟩
      · exact .inr ⟨by omega, by rw [h1]; exact h2⟩
    · rintro (⟨h1, h2⟩ | ⟨h1, h2⟩)
      · by_cases e : u = k
        · exact .inr (.inl ⟨e, by rw [← e]; exact h2⟩)
        · exact .inl (.inl ⟨by omega, h2⟩)
      · by_cases e : v = k
        · exact .inr (.inr ⟨e, by rw [← e]; exact h2⟩)
        · exact .inl (.inr ⟨by omega, h2⟩)
/-- The graph with all edges in both directions. -/
def bth (E : List (List Nat)) : List (List Nat) := bo E E.length
theorem bth_length (E : List (List Nat)) : (bth E).length = E.length := bo_length E _
theorem bth_mem {E : List (List Nat)} (hE : Valid E) (u v : Nat) : u ∈ gr (bth E) v ↔ v ∈ gr E u ∨ u ∈ gr E v := by
  unfold bth
  rw [bo_mem hE _ (Nat.le_refl _)]
  constructor
  · rintro (⟨_, h⟩ | ⟨_, h⟩)
    · exact .inl h
    · exact .inr h
  · rintro (h | h)
    · exact .inl ⟨gr_mem h, h⟩
    · exact .inr ⟨gr_mem h, h⟩
theorem bth_sym {E : List (List Nat)} (hE : Valid E) : Sym (bth E) := fun u v => by rw [bth_mem hE, bth_mem hE]; exact or_comm
theorem bth_valid {E : List (List Nat)} (hE : Valid E) : Valid (bth E) := fun v hv x hx => by
  rw [bth_length] at *
  rcases (bth_mem hE x v).1 hx with h | h
  · exact gr_mem h
  · exact hE v hv x h
theorem bo1_len {R : List (List Nat)} {i M : Nat} (hi : i < R.length) : ∀ (l : List Nat), (∀ x ∈ l, x < R.length) → (∀ v, (gr R v).length ≤ M) → ∀ v, (gr (bo1 R i l) v).length ≤ M + 2 * l.length := by
  intro l
  induction l generalizing R M with
  | nil => intro _ h v; exact h v
  | cons x r ih =>
    intro hl h v
    have hx : x < R.length := hl x (by simp)
    have := ih (R := (R.set i (gr R i ++ [x])).set x (gr (R.set i (gr R i ++ [x])) x ++ [i])) (M := M + 2) (by simpa using hi) (fun y hy => by simpa using hl y (by simp [hy])) (fun u => by
      have h1 : ∀ z, (gr (R.set i (gr R i ++ [x])) z).length ≤ M + 1 := fun z => by
        rw [gr_set hi]
        split
        · rw [List.length_append]; have := h i; simp; omega
        · have := h z; omega
      rw [gr_set (by simpa using hx)]
      split
      · rw [List.length_append]; have := h1 x; simp; omega
      · have := h1 u; omega) v
    show (gr (bo1 _ i r) v).length ≤ _
    simp only [List.length_cons]
    omega
theorem bo_len {E : List (List Nat)} (hE : Valid E) (hd : ∀ v, (gr E v).length ≤ 400) : ∀ k, k ≤ E.length → ∀ v, (gr (bo E k) v).length ≤ k * 800
  | 0, _, v => by
    rcases Nat.lt_or_ge v E.length with h1 | h1
    · simp [bo, gr, List.getD, h1]
    · rw [gr_ge (by rw [bo_length]; exact h1)]; simp
  | k + 1, hk, v => by
    have h1 := bo1_len (i := k) (M := k * 800) (R := bo E k) (by rw [bo_length]; omega) (gr E k) (fun x hx => by rw [bo_length]; exact hE k (by omega) x hx) (bo_len hE hd k (by omega)) v
    have := hd k
    rw [bo]
    omega

/-- Whatever a search has found was found along an edge. -/
def EdgeQ (E : List (List Nat)) (q : List (Nat × Nat)) : Prop := ∀ (j : Nat) p, 0 < j → q[j]? = some p → p.2 ∈ gr E p.1
theorem EdgeQ.one {E : List (List Nat)} {s : Bs} (h : EdgeQ E s.q) (h0 : 0 < s.q.length) {v x : Nat} (hx : x ∈ gr E v) : EdgeQ E (addOne v s x).q ∧ 0 < (addOne v s x).q.length := by
  unfold addOne
  split
  · exact ⟨h, h0⟩
  · refine ⟨fun j p hj hp => ?_, by simp⟩
    rcases getElem?_snoc_cases hp with ⟨_, h2⟩ | ⟨_, h2⟩
    · exact h j p hj h2
    · rw [h2]; exact hx
theorem EdgeQ.all {E : List (List Nat)} {v : Nat} : ∀ (l : List Nat) {s : Bs}, (∀ x ∈ l, x ∈ gr E v) → EdgeQ E s.q → 0 < s.q.length → EdgeQ E (addAll v s l).q ∧ 0 < (addAll v s l).q.length
  | [], s, _, h, h0 => ⟨h, h0⟩
  | x :: r, s, hl, h, h0 => by
    obtain ⟨h1, h2⟩ := h.one h0 (hl x (by simp))
    exact EdgeQ.all r (fun y hy => hl y (by simp [hy])) h1 h2
theorem bs_edge (E : List (List Nat)) (a : Nat) : ∀ k, EdgeQ E (bs E a k).q ∧ 0 < (bs E a k).q.length
  | 0 => ⟨fun j p hj hp => by
      have : (bs E a 0).q = [(a, a)] := rfl
      rw [this] at hp
      have := some_lt hp
      simp at this
      omega, by show 0 < [(a, a)].length; simp⟩
  | k + 1 => by
    have ih := bs_edge E a k
    rw [bs]
    split
    · exact ih
    · exact EdgeQ.all _ (fun x hx => hx) ih.1 ih.2
/-- A whole search finds what is connected. -/
theorem bs_con {E : List (List Nat)} (hE : Valid E) {a k : Nat} (ha : a < E.length) (hk : (bs E a k).q.length = k) (hpr : ∀ i, i < k → ∃ p, (bs E a i).q[i]? = some p) (v : Nat) : (∃ p ∈ (bs E a k).q, p.2 = v) ↔ Con E a v := by
  obtain ⟨dep, h⟩ := bs_inv hE ha k hpr
  constructor
  · rintro ⟨p, hp, rfl⟩
    obtain ⟨j, hj⟩ := List.getElem?_of_mem hp
    obtain ⟨d, hd⟩ : ∃ d, dep[j]? = some d := ⟨_, List.getElem?_eq_getElem (by rw [h.dlen]; exact some_lt hj)⟩
    exact ⟨d, h.walk j p d hj hd⟩
  · rintro ⟨m, hm⟩
    obtain ⟨j, d, h1, _, _⟩ := h.reach hk m v hm
    obtain ⟨b, hb⟩ := snd_some h1
    exact ⟨(b, v), List.mem_of_getElem? hb, rfl⟩
/-- The next one to be visited: the first one, or one whose edge comes from one that was visited. -/
theorem bs_next {E : List (List Nat)} (hE : Valid E) {a k : Nat} (ha : a < E.length) (hpr : ∀ i, i < k → ∃ p, (bs E a i).q[i]? = some p) {p : Nat × Nat} (hp : (bs E a k).q[k]? = some p) :
    p.1 < E.length ∧ p.2 < E.length ∧ ((k = 0 ∧ p = (a, a)) ∨ (p.2 ≠ a ∧ p.2 ∈ gr E p.1 ∧ (∃ q ∈ (bs E a k).q.take k, q.2 = p.1) ∧ ∀ q ∈ (bs E a k).q.take k, q.2 ≠ p.2)) := by
  obtain ⟨dep, h⟩ := bs_inv hE ha k hpr
  by_cases h0 : k = 0
  · subst h0
    have := h.first
    rw [hp] at this
    injection this with this
    subst this
    exact ⟨ha, ha, .inl ⟨rfl, rfl⟩⟩
  · have h2 := h.small k p hp
    have hed := (bs_edge E a k).1 k p (by omega) hp
    obtain ⟨d, hd⟩ : ∃ d, dep[k]? = some d := ⟨_, List.getElem?_eq_getElem (by rw [h.dlen]; exact some_lt hp)⟩
    obtain ⟨i, di, a1, _, a3, _, _⟩ := h.par k p d (by omega) hp hd
    obtain ⟨b, hb⟩ := snd_some a3
    have hdis : ∀ q ∈ (bs E a k).q.take k, q.2 ≠ p.2 := by
      intro q hq e
      obtain ⟨j, hj⟩ := List.getElem?_of_mem hq
      have hjl := some_lt hj
      rw [List.length_take] at hjl
      rw [List.getElem?_take, if_pos (by omega)] at hj
      have := h.nodup j k p.2 (by rw [hj, ← e]; rfl) (by rw [hp]; rfl)
      omega
    refine ⟨h.small i _ hb, h2, .inr ⟨fun e => ?_, hed, ⟨(b, p.1), ?_, rfl⟩, hdis⟩⟩
    · have := h.nodup 0 k p.2 (by rw [h.first, e]; rfl) (by rw [hp]; rfl)
      omega
    · refine List.mem_of_getElem? (i := i) ?_
      rw [List.getElem?_take, if_pos a1]
      exact hb

/-- The vertices that are connected with one below i. -/
def Under (R : List (List Nat)) (i v : Nat) : Prop := ∃ x, x < i ∧ Con R x v
theorem under_skip {R : List (List Nat)} {i : Nat} (h : Under R i i) (v : Nat) : Under R i v ↔ Under R (i + 1) v := by
  constructor
  · rintro ⟨x, h1, h2⟩; exact ⟨x, by omega, h2⟩
  · rintro ⟨x, h1, h2⟩
    by_cases e : x = i
    · subst e
      obtain ⟨y, k1, k2⟩ := h
      exact ⟨y, k1, k2.trans h2⟩
    · exact ⟨x, by omega, h2⟩
theorem under_root {R : List (List Nat)} {i : Nat} (h : ¬ Under R i i) : Root R i := fun x hx => by
  rcases Nat.lt_or_ge x i with h1 | h1
  · exact absurd ⟨x, h1, hx⟩ h
  · exact h1
theorem under_succ {R : List (List Nat)} {i v : Nat} : Under R (i + 1) v ↔ Under R i v ∨ Con R i v := by
  constructor
  · rintro ⟨x, h1, h2⟩
    by_cases e : x = i
    · subst e; exact .inr h2
    · exact .inl ⟨x, by omega, h2⟩
  · rintro (⟨x, h1, h2⟩ | h)
    · exact ⟨x, by omega, h2⟩
    · exact ⟨i, by omega, h⟩
theorem under_all {R : List (List Nat)} {v : Nat} (hv : v < R.length) : Under R R.length v := ⟨v, hv, Con.refl R v⟩
theorem under_edge {R : List (List Nat)} {i u v : Nat} (h : Under R i u) (hv : v ∈ gr R u) : Under R i v := by
  obtain ⟨x, h1, h2⟩ := h
  exact ⟨x, h1, h2.trans (Con.one hv)⟩
end Go.Proofs.YtefcdclmabdmbaaGreatDoor

namespace Go.Proofs.YtefcdclmabdmbaaGreatDoor

/-- A whole colouring is proper just if no closed walk is odd. -/
theorem proper_iff {R : List (List Nat)} (hR : Sym R) (hE : Valid R) {l : List Int} (h : ColI R (fun _ => True) l) : Proper R l ↔ ∀ a m, a < R.length → Wk R a m a → m % 2 = 0 := by
  have hcol : ∀ v, v < R.length → ∃ m r : Nat, Root R r ∧ Wk R r m v ∧ l.getD v 0 = (m % 2 : Nat) := by
    intro v hv
    rcases h.2 v hv with ⟨_, h2⟩ | ⟨h1, _⟩
    · exact h2
    · exact absurd trivial h1
  constructor
  · intro hp a m ha hw
    have alt : ∀ q u, Wk R a q u → (l.getD u 0 = l.getD a 0 ∧ q % 2 = 0) ∨ (l.getD u 0 = 1 - l.getD a 0 ∧ q % 2 = 1) := by
      intro q
      induction q with
      | zero => intro u hu; have e : u = a := hu; subst e; exact .inl ⟨rfl, rfl⟩
      | succ q ih =>
        intro u hu
        obtain ⟨z, h4, h5⟩ := hu
        have hzl := h4.lt hE ha
        have hul := hE z hzl u h5
        have hne := hp z u hzl h5
        have b1 : 0 ≤ l.getD z 0 := (h.iff hzl).2 trivial
        have b2 : 0 ≤ l.getD u 0 := (h.iff hul).2 trivial
        have b3 := h.small hzl
        have b4 := h.small hul
        have b5 : 0 ≤ l.getD a 0 := (h.iff ha).2 trivial
        have b6 := h.small ha
        rcases ih z h4 with ⟨c1, c2⟩ | ⟨c1, c2⟩
        · right; omega
        · left; omega
    rcases alt m a hw with ⟨_, c⟩ | ⟨c1, _⟩
    · exact c
    · omega
  · intro hc u v hu hv e
    have hvl := hE u hu v hv
    obtain ⟨m, r, h1, h2, h3⟩ := hcol u hu
    obtain ⟨q, s, k1, k2, k3⟩ := hcol v hvl
    have ers := Root.unique hR h1 k1 ((Con.trans ⟨m, h2⟩ (Con.one hv))) ⟨q, k2⟩
    subst ers
    have hrl : r < R.length := (Con.symm hR ⟨m, h2⟩).lt hE hu
    have hw : Wk R r (m + 1) v := ⟨u, h2, hv⟩
    have := hc r (m + 1 + q) hrl (hw.add (k2.back hR))
    omega
/-- Walks of graphs with the same edges are the same. -/
theorem Wk.same {E R : List (List Nat)} (h : ∀ u v, v ∈ gr R u ↔ v ∈ gr E u) {u : Nat} : ∀ {m v}, Wk R u m v ↔ Wk E u m v
  | 0, _ => Iff.rfl
  | m + 1, v => by
    constructor
    · rintro ⟨z, h1, h2⟩; exact ⟨z, (Wk.same h).1 h1, (h z v).1 h2⟩
    · rintro ⟨z, h1, h2⟩; exact ⟨z, (Wk.same h).2 h1, (h z v).2 h2⟩

/-- As many edges lead back. -/
def Und (E : List (List Nat)) : Prop := ∀ u v, u < E.length → v < E.length → (gr E u).count v = (gr E v).count u
theorem Und.sym {E : List (List Nat)} (hE : Valid E) (h : Und E) : Sym E := fun u v => by
  constructor
  · intro hu
    have hv := gr_mem hu
    have hul := hE v hv u hu
    have := h v u hv hul
    exact List.count_pos_iff.1 (by have := List.count_pos_iff.2 hu; omega)
  · intro hv
    have hu := gr_mem hv
    have hvl := hE u hu v hv
    have := h u v hu hvl
    exact List.count_pos_iff.1 (by have := List.count_pos_iff.2 hv; omega)
theorem Und.bth {E : List (List Nat)} (hE : Valid E) (h : Und E) (u v : Nat) : v ∈ gr (Go.Proofs.YtefcdclmabdmbaaGreatDoor.bth E) u ↔ v ∈ gr E u := by
  rw [bth_mem hE]
  constructor
  · rintro (h1 | h1)
    · exact (h.sym hE u v).1 h1
    · exact h1
  · exact .inr
end Go.Proofs.YtefcdclmabdmbaaGreatDoor

namespace Go.Proofs.YtefcdclmabdmbaaGreatDoor
open Go.RowKit Go.Maps

/-- The edges so far. -/
def cnt (E : List (List Nat)) (i t u v : Nat) : Nat := if u < i then (gr E u).count v else if u = i then ((gr E i).take t).count v else 0
def cI (E : List (List Nat)) (i t : Nat) (a b : Int) : Int := if 0 ≤ a ∧ 0 ≤ b then (cnt E i t a.toNat b.toNat : Nat) else 0
theorem cnt_zero (E : List (List Nat)) (u v : Nat) : cnt E 0 0 u v = 0 := by
  unfold cnt
  rw [if_neg (by omega)]
  split <;> first | rfl | simp
theorem cnt_next (E : List (List Nat)) (i u v : Nat) : cnt E i (gr E i).length u v = cnt E (i + 1) 0 u v := by
  unfold cnt
  rcases Nat.lt_trichotomy u i with h | h | h
  · rw [if_pos h, if_pos (by omega)]
  · subst h; rw [if_neg (by omega), if_pos rfl, if_pos (by omega), List.take_length]
  · rw [if_neg (by omega), if_neg (by omega), if_neg (by omega)]; split <;> first | rfl | simp
theorem cnt_all {E : List (List Nat)} (u v : Nat) : cnt E E.length 0 u v = (gr E u).count v := by
  unfold cnt
  by_cases h : u < E.length
  · rw [if_pos h]
  · rw [if_neg h]
    have : (gr E u).count v = 0 := by rw [gr_ge (by omega)]; rfl
    rw [this]
    split <;> first | rfl | simp
theorem cnt_step {E : List (List Nat)} {i t x : Nat} (hx : (gr E i)[t]? = some x) (u v : Nat) : cnt E i (t + 1) u v = if u = i ∧ v = x then cnt E i t u v + 1 else cnt E i t u v := by
  unfold cnt
  rw [List.take_add_one, hx, List.count_append]
  by_cases h : u = i
  · subst h
    by_cases e : v = x
    · subst e; simp
    · have : ([x] : List Nat).count v = 0 := List.count_eq_zero.2 (by simpa using e)
      simp [this, e]
  · simp [h]
theorem cI_small {E : List (List Nat)} (hd : ∀ v, (gr E v).length ≤ 400) (i t : Nat) (a b : Int) : 0 ≤ cI E i t a b ∧ cI E i t a b ≤ 400 := by
  unfold cI
  split
  · unfold cnt
    have h1 := List.count_le_length (a := b.toNat) (l := gr E a.toNat)
    have h2 := List.count_le_length (a := b.toNat) (l := (gr E i).take t)
    rw [List.length_take] at h2
    have := hd a.toNat
    have := hd i
    split
    · omega
    · split <;> omega
  · simp
theorem cI_next (E : List (List Nat)) (i : Nat) (a b : Int) : cI E i (gr E i).length a b = cI E (i + 1) 0 a b := by unfold cI; rw [cnt_next]
theorem cI_step {E : List (List Nat)} {i t x : Nat} (hx : (gr E i)[t]? = some x) (a b : Int) : cI E i (t + 1) a b = if a = i ∧ b = x then cI E i t a b + 1 else cI E i t a b := by
  unfold cI
  by_cases h : 0 ≤ a ∧ 0 ≤ b
  · rw [if_pos h, if_pos h, cnt_step hx]
    by_cases e : a = i ∧ b = x
    · rw [if_pos e, if_pos (by omega)]; simp
    · rw [if_neg e, if_neg (by omega)]
  · rw [if_neg h, if_neg h, if_neg (by omega)]
theorem cI_nat {E : List (List Nat)} (i t u v : Nat) : cI E i t u v = (cnt E i t u v : Nat) := by unfold cI; rw [if_pos (by omega)]; simp

theorem wf_int {a : Int} (h : -9223372036854775808 ≤ a ∧ a ≤ 9223372036854775807) : (Lit.int .i64 a).wf = true := by simp [Lit.wf]; exact h

/-- The map holds the edges so far. -/
def EIn (E : List (List Nat)) (i t : Nat) (D : DataW Unit) : Prop := ∀ a b : Int, (Lit.int .i64 a).wf = true → (Lit.int .i64 b).wf = true → D.atKey (ek a b) (.lit (.int .i64 0)) = .lit (.int .i64 (cI E i t a b))
theorem ek_key (a b : Int) : WideAt.IsKeyLit (ek a b) := trivial
theorem EIn.step {E : List (List Nat)} {i t x : Nat} {D : DataW Unit} (hD : IsMap D) (h : EIn E i t D) (hx : (gr E i)[t]? = some x) (hi : (Lit.int .i64 (i : Int)).wf = true) (hxw : (Lit.int .i64 (x : Int)).wf = true) : EIn E i (t + 1) (D.put (ek i x) (.lit (.int .i64 (cI E i t i x + 1)))) := by
  intro a b ha hb
  rw [cI_step hx]
  by_cases e : a = i ∧ b = x
  · obtain ⟨rfl, rfl⟩ := e
    rw [atKey_put_same hD (ek_key _ _), if_pos ⟨rfl, rfl⟩]
  · rw [atKey_put_other (fun hh => e (ek_inj ha hb hi hxw hh)), if_neg e]
    exact h a b ha hb
theorem EIn.next {E : List (List Nat)} {i : Nat} {D : DataW Unit} (h : EIn E i (gr E i).length D) : EIn E (i + 1) 0 D := fun a b ha hb => by rw [← cI_next]; exact h a b ha hb
theorem EIn.zero (E : List (List Nat)) : EIn E 0 0 (.map []) := fun a b _ _ => by
  have : cI E 0 0 a b = 0 := by unfold cI; rw [cnt_zero]; simp
  rw [this]; simp [DataW.atKey]

theorem edges_under : Tryz.prog.underlying 179 = some (.map 182 3) := by kernel_rfl
theorem zero_intE (w : World) : (zeroValue 3).run Tryz.prog w = .ok (.int .i64 0) w := by kernel_rfl

def EdgR (w : World) (E : List (List Nat)) (e : Ending) (w' : World) : Prop := ∃ M m D, e = .returned (.map (some M)) ∧ w'.ownsMap Tryz.prog 182 (plainElem (H := Unit) Tryz.prog 3) M m D ∧ EIn E E.length 0 D ∧ w.heap.size ≤ M ∧ Below w.heap.size w w'

set_option maxHeartbeats 2000000 in
set_option maxRecDepth 100000 in
theorem edges_any {w : World} {v : Value} {names : List ByteArray} {E : List (List Nat)} (h : GrV w v names (toI E)) (hk : Ok names E) :
    Calls Tryz.prog 146 #[v] w (EdgR w E) := by
  have hsm := hk.small
  obtain ⟨A, c, A', c', rfl, hs, hg⟩ := h
  rw [toI_length] at *
  have hr := hg.room
  unfold maxLen at hr
  obtain ⟨W, G, hW, hG, hbW, c0, c1, hGl, hwG⟩ := gbox w (.slice A names.length c) (.slice A' E.length c')
  replace hg := hg.below hbW
  have HW := Lib.hid hW
  have HG := Lib.hid hG
  have HK := Lib.hid hk
  clear hW hG c0 hs hk
  have hmm := @run_makeMap Tryz.prog
  obtain ⟨M, hM0⟩ : ∃ M, M = G + 1 := ⟨_, rfl⟩
  have hM : M = W.heap.size := by rw [hM0, HW.out, HG.out]; simp
  have HM0 := Lib.hid hM0
  clear hM0
  have hbM : Below W.heap.size W (W.alloc (.map #[] 0)) := (Below.refl _ _).alloc (Nat.le_refl _) _
  have how : (W.alloc (.map #[] 0)).ownsMap Tryz.prog 182 (plainElem (H := Unit) Tryz.prog 3) M 0 (.map []) := by rw [hM]; exact World.ownsMap_made _ _ _ _
  have c1' := ((bcell hbM).1 _ 1 hGl).trans c1
  have HM := Lib.hid hM
  clear hM
  go_enter Tryz.func146, Tryz.ntmps146
  go_wp2_with fail
  rw [← HW.out, ← HG.out, ← HM0.out]
  clear hmm c1
  generalize W.alloc (.map #[] 0) = W1 at *
  go_loopw [12] (fun i wr => ∃ (k m : Nat) (D : DataW Unit), k ≤ E.length ∧ i = .int .i64 (k : Nat) ∧ m ≤ k * 400 ∧ wr.ownsMap Tryz.prog 182 (plainElem (H := Unit) Tryz.prog 3) M m D ∧ Hid (EIn E k 0 D) ∧ Below W.heap.size W wr) (fun i _ => E.length - (intOf i).toNat)
  case atStart => exact ⟨0, 0, _, Nat.zero_le _, rfl, Nat.le_refl _, how, Lib.hid (EIn.zero E), hbM⟩
  case round =>
    clear how hbM c1'
    obtain ⟨k, m, D, hkl, rfl, hmk, hown, hin, hbr⟩ := hrel
    by_cases hlt : k < E.length
    · obtain ⟨b2, off2, A2, c2, rfl, hrow', hr3, hr4, hil⟩ := hg.row hlt
      have hrow := ((bcell hbr).1 _ _ (cell_some_lt hrow')).trans hrow'
      have hki : (k : Int) < (E.length : Int) := by omega
      have hdg := HK.out.deg k
      go_wp2_with fail
      go_loopw [19] (fun i wr => ∃ (t m : Nat) (D : DataW Unit), t ≤ (gr E k).length ∧ i = .int .i64 (t : Nat) ∧ m ≤ k * 400 + t ∧ wr.ownsMap Tryz.prog 182 (plainElem (H := Unit) Tryz.prog 3) M m D ∧ Hid (EIn E k t D) ∧ Below W.heap.size W wr) (fun i _ => (gr E k).length - (intOf i).toNat)
      case atStart => exact ⟨0, m, D, Nat.zero_le _, rfl, by omega, hown, hin, hbr⟩
      case round =>
        clear hown hin hbr hrow
        obtain ⟨t, m, D, htl, rfl, hmt, hown, hin, hbr⟩ := hrel
        by_cases htt : t < (gr E k).length
        · obtain ⟨x, hx⟩ : ∃ x, (gr E k)[t]? = some x := ⟨_, List.getElem?_eq_getElem htt⟩
          have hxl : x < E.length := HK.out.valid k hlt x (List.mem_of_getElem? hx)
          obtain ⟨b3, off3, rfl, hcx'⟩ := hil.num hx
          have hcx := ((bcell hbr).1 _ _ (cell_some_lt hcx')).trans hcx'
          have wk : (Lit.int .i64 (k : Int)).wf = true := wf_int (by omega)
          have wx : (Lit.int .i64 (x : Int)).wf = true := wf_int (by omega)
          have hown2 : wr.drew.ownsMap Tryz.prog 182 (plainElem (H := Unit) Tryz.prog 3) M m D := hown
          have hbr2 : Below W.heap.size W wr.drew := hbr.drew
          obtain ⟨cc, st, w1, hcw, hat, r1, r2, r3, r4⟩ := incr_run edge_law edges_under Tryz.underlying3 zero_intE hown2 (by unfold maxLen; omega) (keyOf_edge wk wx)
          have hcc : cc = cI E k t k x := by
            have := hat.symm.trans (hin.out k x wk wx)
            injection this with this
            injection this
          have hcs := cI_small HK.out.deg k t k x
          rw [← hcc] at hcs
          obtain ⟨w2, r5, r6, r7⟩ := r4 (cc + 1) (wf_int (by omega))
          have hin2 := hin.out.step hown.isMap hx wk wx
          rw [← hcc] at hin2
          have HIN2 := Lib.hid hin2
          have R6 := Lib.hid r6
          have R7 := Lib.hid r7
          have hw : IntKind.i64.wrap (cc + 1) = cc + 1 := IntWalk.i64_in _ (by omega)
          have HCC := Lib.hid hcc
          have HIN := Lib.hid hin2
          clear hin2 r6 r7 r4 hat hx hcw hcc hown hown2 hin
          go_wp2_with fail
          go_region
          all_goals
            go_wp2_with fail
            go_roundw
            case rel => exact ⟨t + 1, m + 1, _, by omega, by go_num, by omega, R6.out, HIN2, hbr2.grown R7.out hbr2.size (fun j hj => by cases hj; rw [HM.out]; exact Nat.le_refl _)⟩
            case measure => simp [intOf]; omega
        · obtain rfl : t = (gr E k).length := by omega
          go_wp2_with fail
          go_roundw
          case rel => exact ⟨k + 1, m, D, by omega, by go_num, by omega, hown, Lib.hid hin.out.next, hbr⟩
          case measure => simp [intOf]; omega
    · obtain rfl : k = E.length := by omega
      go_wp2_with fail
      go_ret
      exact ⟨M, m, D, rfl, hown, hin.out, by rw [HM.out]; exact hbW.size, hbW.trans (hbr.mono hbW.size)⟩

theorem cI_all {E : List (List Nat)} (a b : Int) : cI E E.length 0 a b = if 0 ≤ a ∧ 0 ≤ b then (((gr E a.toNat).count b.toNat : Nat) : Int) else 0 := by unfold cI; rw [cnt_all]
/-- Where two numbers of edges differ, the graph is not undirected. -/
theorem und_no {E : List (List Nat)} (hE : Valid E) {a b : Int} (h : cI E E.length 0 b a ≠ cI E E.length 0 a b) : ¬ Und E := by
  intro hu
  apply h
  rw [cI_all, cI_all]
  by_cases hn : 0 ≤ a ∧ 0 ≤ b
  · rw [if_pos hn, if_pos ⟨hn.2, hn.1⟩]
    obtain ⟨u, rfl⟩ := Int.eq_ofNat_of_zero_le hn.1
    obtain ⟨v, rfl⟩ := Int.eq_ofNat_of_zero_le hn.2
    simp only [Int.toNat_natCast]
    by_cases h1 : u < E.length
    · by_cases h2 : v < E.length
      · rw [hu u v h1 h2]
      · have e1 : (gr E u).count v = 0 := List.count_eq_zero.2 fun hm => h2 (hE u h1 v hm)
        rw [e1, gr_ge (by omega)]; rfl
    · have e1 : (gr E v).count u = 0 := List.count_eq_zero.2 fun hm => by
        have hv := gr_mem hm
        exact h1 (hE v hv u hm)
      rw [e1, gr_ge (by omega)]; rfl
  · rw [if_neg hn, if_neg (fun h => hn ⟨h.2, h.1⟩)]

open Classical in
/-- As many edges lead back. -/
noncomputable def undB (E : List (List Nat)) : Bool := decide (Und E)
theorem undB_true {E : List (List Nat)} : undB E = true ↔ Und E := by unfold undB; exact @decide_eq_true_iff _ (Classical.propDecidable _)
theorem undB_false {E : List (List Nat)} : undB E = false ↔ ¬ Und E := by unfold undB; exact @decide_eq_false_iff_not _ (Classical.propDecidable _)

/-- The keys that have been gone through. -/
def ChkK (E : List (List Nat)) (D : DataW Unit) (left : Lit → Bool) : Prop := ∀ a b : Int, (Lit.int .i64 a).wf = true → (Lit.int .i64 b).wf = true → Maps.has D (ek a b) = true → left (ek a b) = false → cI E E.length 0 b a = cI E E.length 0 a b
theorem ChkK.step {E : List (List Nat)} {D : DataW Unit} {left : Lit → Bool} (h : ChkK E D left) {a b : Int} (ha : (Lit.int .i64 a).wf = true) (hb : (Lit.int .i64 b).wf = true) (he : cI E E.length 0 b a = cI E E.length 0 a b) : ChkK E D fun z => left z && !z.sameKey (ek a b) := by
  intro x y hx hy hh hl
  simp only [Bool.and_eq_false_iff, Bool.not_eq_false'] at hl
  rcases hl with hl | hl
  · exact h x y hx hy hh hl
  · obtain ⟨rfl, rfl⟩ := ek_inj hx hy ha hb (WideAt.sameKey_eq hl)
    exact he
theorem ChkK.done {E : List (List Nat)} {D : DataW Unit} {left : Lit → Bool} (hin : EIn E E.length 0 D) (hn : E.length ≤ 2500) (h : ChkK E D left) (hl : ∀ kl, left kl = false) : Und E := by
  intro u v hu hv
  have wu : (Lit.int .i64 (u : Int)).wf = true := wf_int (by omega)
  have wv : (Lit.int .i64 (v : Int)).wf = true := wf_int (by omega)
  have hz : ∀ x y : Nat, (Lit.int .i64 (x : Int)).wf = true → (Lit.int .i64 (y : Int)).wf = true → Maps.has D (ek x y) = false → (gr E x).count y = 0 := by
    intro x y hx hy hh
    have h1 := hin x y hx hy
    rw [atKey_of_not_has hh, cI_nat, cnt_all] at h1
    injection h1 with h1
    injection h1 with _ h1
    omega
  have hc : ∀ x y : Nat, (Lit.int .i64 (x : Int)).wf = true → (Lit.int .i64 (y : Int)).wf = true → Maps.has D (ek x y) = true → (gr E y).count x = (gr E x).count y := by
    intro x y hx hy hh
    have h1 := h x y hx hy hh (hl _)
    rw [cI_nat, cI_nat, cnt_all, cnt_all] at h1
    omega
  cases h1 : Maps.has D (ek u v)
  · cases h2 : Maps.has D (ek v u)
    · rw [hz u v wu wv h1, hz v u wv wu h2]
    · exact hc v u wv wu h2
  · exact (hc u v wu wv h1).symm

def UndR (w : World) (E : List (List Nat)) (e : Ending) (w' : World) : Prop := e = .returned (.bool (undB E)) ∧ Below w.heap.size w w'
theorem undR_of {w w' : World} {E : List (List Nat)} {b : Bool} (h : undB E = b) (hb : Below w.heap.size w w') : UndR w E (.returned (.bool b)) w' := ⟨by rw [h], hb⟩

set_option maxHeartbeats 2000000 in
set_option maxRecDepth 100000 in
theorem undirected_any {w : World} {v : Value} {names : List ByteArray} {E : List (List Nat)} (h : GrV w v names (toI E)) (hk : Ok names E) :
    Calls Tryz.prog 86 #[v] w (UndR w E) := by
  have hsm := hk.small
  have HED := Lib.hid (fun w' hb => edges_any (h.at w' hb) hk)
  have HVA := Lib.hid hk.valid
  have HDG := Lib.hid hk.deg
  obtain ⟨A, c, A', c', rfl, hs, hg⟩ := h
  obtain ⟨W, G, hW, hG, hbW, c0, c1, hGl, hwG⟩ := gbox w (.slice A names.length c) (.slice A' (toI E).length c')
  have HW := Lib.hid hW
  have HG := Lib.hid hG
  clear hW hG hs hg hk
  go_enter Tryz.func86, Tryz.ntmps86
  go_wp2_with (first
    | (go_at_call 146; rw [← HW.out]; refine (HED.out _ hbW).mono ?_; rintro e w1 ⟨M, m, D, rfl, hown, hin, hM, hb1⟩; have HIN := Lib.hid hin; clear hin)
    | (at_range; (refine wpList_range_own _ rfl _ 179 rfl 182 3 edge_keyed edges_under _ M m D rfl hown ?_); intro w0 hrg0 hg0 hs0))
  go_frame
  obtain ⟨r, hr⟩ : ∃ r, r = w1.heap.size := ⟨_, rfl⟩
  rw [← hr] at hrg0 ⊢
  have hwr : w.heap.size ≤ r := by rw [hr]; exact Nat.le_trans hbW.size hb1.size
  have hb2 : Below w.heap.size w w0 := (hbW.trans (hb1.mono hbW.size)).grown hg0 (Nat.le_trans hbW.size hb1.size) (fun j hj => by cases hj)
  have hD := hown.isMap
  have hMr : M ≠ r := by have := hown.lt; omega
  clear hr hg0 hs0 hown hb1
  go_loopw [4] (fun _ wr => ∃ (left : Lit → Bool) (q : Nat), wr.ranges Tryz.prog 182 (plainElem (H := Unit) Tryz.prog 3) M r m D left q ∧ Hid (ChkK E D left) ∧ Below w.heap.size w wr) (fun _ wr => wr.rangeLeft M r)
  case atStart => exact ⟨_, _, hrg0, Lib.hid (fun a b _ _ h1 h2 => by rw [h1] at h2; cases h2), hb2⟩
  case round =>
    clear hrg0 hb2
    obtain ⟨left, q, hrg, hck, hbr⟩ := hrel
    have HCK := Lib.hid hck.out
    have HRGL := Lib.hid hrg.left_eq
    clear hck
    go_wp2_with (at_next; (refine wpList_next_ranges _ rfl _ (by rfl) 182 edge_keyed (plainElem Tryz.prog 3) (fun x : Int × Int => Value.agg #[.int .i64 x.1, .int .i64 x.2]) (Value.int .i64) (fun key kl hkey => by obtain ⟨a, b, rfl, _⟩ := edge_inv hkey; exact ⟨(a, b), rfl⟩) (fun v y hv => by obtain ⟨c, rfl, _⟩ := plainElem_int_inv Tryz.underlying3 hv; exact ⟨c, rfl⟩) M r m D left q (by rfl) hrg ?_ ?_))
    · intro hq hl
      have hu : undB E = true := undB_true.2 (HCK.out.done HIN.out hsm hl)
      have HU := Lib.hid hu
      clear hu hl hq
      go_wp2_with fail
      go_ret
      exact undR_of HU.out hbr
    · intro a b c kl d ps w3 q3 hkey hlx hRv hat hrg3 hlt hg3 hs3 hen
      obtain ⟨a', b', hab, wa, wb, rfl⟩ := edge_inv hkey
      obtain ⟨rfl, rfl⟩ : a = a' ∧ b = b' := by simpa using hab
      obtain ⟨c', hc1, hc2, wc⟩ := plainElem_int_inv Tryz.underlying3 hRv
      have hcc : c = c' := by injection hc1
      subst hcc
      have hcv : c = cI E E.length 0 a b := by
        have h1 := HIN.out a b wa wb
        rw [hat] at h1
        simp only [Prod.mk.injEq] at hc2
        rw [hc2.1] at h1
        injection h1 with h1
        injection h1
      have HCV := Lib.hid hcv
      have hb4 : Below w.heap.size w w3 := hbr.grown hg3 hbr.size (fun j hj => by cases hj; exact hwr)
      clear hcv hc2 hc1 hab hat hRv hkey hlx hg3 hs3 hrg
      have hrg4 := hrg3.alloc (.cells #[.int .i64 a, .int .i64 b] 182)
      have hb5 : Below w.heap.size w (w3.alloc (.cells #[.int .i64 a, .int .i64 b] 182)) := hb4.alloc hb4.size _
      have how4 := hrg4.owns
      have HRG4 := Lib.hid hrg4
      have hval := HIN.out b a wb wa
      have HVAL := Lib.hid hval
      clear hval hrg4
      by_cases hne : cI E E.length 0 b a = cI E E.length 0 a b
      · have HNE := Lib.hid hne
        clear hne
        go_wp2_with (at_lookup; (refine wpList_lookup_own_int _ rfl _ _ 179 rfl 182 3 .i64 edge_keyed edges_under Tryz.underlying3 (zero_intE _) M m D rfl how4 _ _ rfl (keyOf_edge wb wa) ?_); intro cc hat2 hwc2; obtain rfl : cc = c := (by have h9 := hat2.symm.trans HVAL.out; injection h9 with h9; injection h9 with _ h9; rw [h9, HNE.out, HCV.out]))
        go_roundw
        case rel => exact ⟨_, q3, HRG4.out, Lib.hid (HCK.out.step wa wb HNE.out), hb5⟩
        case measure => rw [HRG4.out.left_eq, HRGL.out]; exact hlt
      · have hu : undB E = false := undB_false.2 (und_no HVA.out hne)
        have HU := Lib.hid hu
        have hcc2 : (cI E E.length 0 b a != c) = true := by rw [HCV.out]; simpa using hne
        have HCC2 := Lib.hid hcc2
        clear hu hne hcc2
        go_wp2_with (at_lookup; (refine wpList_lookup_own_int _ rfl _ _ 179 rfl 182 3 .i64 edge_keyed edges_under Tryz.underlying3 (zero_intE _) M m D rfl how4 _ _ rfl (keyOf_edge wb wa) ?_); intro cc hat2 hwc2; have hcn : (cc != c) = true := (by have h9 := hat2.symm.trans HVAL.out; injection h9 with h9; injection h9 with _ h9; rw [h9]; exact HCC2.out))
        go_ret
        exact undR_of HU.out hb5
end Go.Proofs.YtefcdclmabdmbaaGreatDoor
