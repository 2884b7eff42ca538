/- Cayley graphs at q = 5 (plain): a graph that is evaluated has no error, is undirected and regular, and has two colours if the generators turn squares into non-squares. Cayley graphs at q = 5 (plain): the five graphs as instances of Cay; the reference's filter over the numbers below 625 gives the same classes in the same order. -/
import Derived.Test.YtefcdclmabdmbaaGreatDoorKt
import Derived.Test.YtefcdclmabdmbaaGreatDoorKk
import Derived.Test.YtefcdclmabdmbaaGreatDoorKj
namespace Go.Proofs.YtefcdclmabdmbaaGreatDoor
open Go.RowKit

/-- The name of a class. -/
def nmL5 (m : Nq) : List UInt8 := [UInt8.ofNat (48 + m.1), 44, UInt8.ofNat (48 + m.2.1), 44, UInt8.ofNat (48 + m.2.2.1), 44, UInt8.ofNat (48 + m.2.2.2)]
def nm5 (m : Nq) : ByteArray := ⟨(nmL5 m).toArray⟩
theorem dig48 {d : Nat} (h : d < 5) : (UInt8.ofNat (48 + d)).toNat = 48 + d := by
  rw [UInt8.toNat_ofNat']
  omega
theorem nm5_inj {m n : Nq} (hm : In5 m) (hn : In5 n) (h : nm5 m = nm5 n) : m = n := by
  obtain ⟨a, b, c, d⟩ := m
  obtain ⟨a', b', c', d'⟩ := n
  obtain ⟨h1, h2, h3, h4⟩ := hm
  obtain ⟨k1, k2, k3, k4⟩ := hn
  have h5 : nmL5 (a, b, c, d) = nmL5 (a', b', c', d') := by
    have := congrArg (fun x : ByteArray => x.data.toList) h
    simpa [nm5] using this
  unfold nmL5 at h5
  simp only [List.cons.injEq, and_true, true_and] at h5
  simp only at h1 h2 h3 h4 k1 k2 k3 k4
  obtain ⟨e1, e2, e3, e4⟩ := h5
  have key : ∀ {x y : Nat}, x < 5 → y < 5 → UInt8.ofNat (48 + x) = UInt8.ofNat (48 + y) → x = y := fun hx hy e => by
    have := congrArg UInt8.toNat e
    rw [dig48 hx, dig48 hy] at this
    omega
  rw [key h1 k1 e1, key h2 k2 e2, key h3 k3 e3, key h4 k4 e4]
theorem nm5_size (m : Nq) : (nm5 m).size = 7 := rfl
theorem nm5_ok {m : Nq} (hm : In5 m) : okName (nm5 m) := by
  refine ⟨by rw [nm5_size]; decide, by rw [nm5_size]; decide, fun b hb => ?_⟩
  have hb' : b ∈ nmL5 m := by simpa [nm5] using hb
  obtain ⟨h1, h2, h3, h4⟩ := hm
  have key : ∀ {x : Nat}, x < 5 → UInt8.ofNat (48 + x) ≠ 32 ∧ UInt8.ofNat (48 + x) ≠ 10 := fun hx => by
    refine ⟨fun e => ?_, fun e => ?_⟩ <;>
    · have := congrArg UInt8.toNat e
      rw [dig48 hx] at this
      simp at this
      omega
  unfold nmL5 at hb'
  simp only [List.mem_cons, List.not_mem_nil, or_false] at hb'
  rcases hb' with rfl | rfl | rfl | rfl | rfl | rfl | rfl
  · exact key h1
  · decide
  · exact key h2
  · decide
  · exact key h3
  · decide
  · exact key h4

/-! places -/
theorem posC_lt : ∀ {l : List Nat} {c : Nat}, posC l c < l.length → l[posC l c]? = some c
  | [], c, h => by simp at h
  | x :: l, c, h => by
    unfold posC at h ⊢
    cases e : Nat.beq x c
    · rw [e] at h
      simp only [cond_false, List.length_cons] at h
      simp only [cond_false, List.getElem?_cons_succ]
      exact posC_lt (by omega)
    · simp [Nat.eq_of_beq_eq_true e]
theorem posC_first : ∀ {l : List Nat} {c j : Nat}, j < posC l c → l[j]? ≠ some c
  | [], c, j, h => by simp [posC] at h
  | x :: l, c, j, h => by
    unfold posC at h
    cases e : Nat.beq x c
    · rw [e] at h
      simp only [cond_false] at h
      cases j with
      | zero =>
        intro e2
        simp at e2
        rw [e2, Nat.beq_refl] at e
        cases e
      | succ j =>
        rw [List.getElem?_cons_succ]
        exact posC_first (by omega)
    · rw [e] at h
      simp at h
/-! what the evaluation says -/
theorem ltAll_spec {n : Nat} : ∀ {l : List Nat}, ltAll n l = true → ∀ x ∈ l, x < n
  | [], _, x, hx => by cases hx
  | y :: l, h, x, hx => by
    unfold ltAll at h
    obtain ⟨h1, h2⟩ := Bool.and_eq_true_iff.1 h
    rcases List.mem_cons.1 hx with rfl | hx
    · exact Nat.le_of_ble_eq_true h1
    · exact ltAll_spec h2 x hx
theorem valC_spec {n : Nat} : ∀ {E : List (List Nat)}, valC n E = true → ∀ r ∈ E, ∀ x ∈ r, x < n
  | [], _, r, hr => by cases hr
  | s :: l, h, r, hr => by
    unfold valC at h
    obtain ⟨h1, h2⟩ := Bool.and_eq_true_iff.1 h
    rcases List.mem_cons.1 hr with rfl | hr
    · exact ltAll_spec h1
    · exact valC_spec h2 r hr
theorem cntC_count (x : Nat) : ∀ l : List Nat, cntC x l = l.count x
  | [] => rfl
  | y :: l => by
    unfold cntC
    rw [cntC_count x l, List.count_cons]
    cases e : Nat.beq x y
    · have : (y == x) = false := by
        rw [beq_eq_false_iff_ne]
        intro e2
        rw [e2, Nat.beq_refl] at e
        cases e
      simp [this]
    · have := Nat.eq_of_beq_eq_true e
      subst this
      simp
theorem undRow_spec {u : Nat} {r : List Nat} : ∀ {E : List (List Nat)} {v : Nat}, undRow u r v E = true → ∀ (i : Nat) (s : List Nat), E[i]? = some s → r.count (v + i) = s.count u
  | [], v, _, i, s, hs => by simp at hs
  | t :: l, v, h, i, s, hs => by
    unfold undRow at h
    obtain ⟨h1, h2⟩ := Bool.and_eq_true_iff.1 h
    cases i with
    | zero =>
      simp at hs
      subst hs
      have := Nat.eq_of_beq_eq_true h1
      rw [cntC_count, cntC_count] at this
      exact this
    | succ i =>
      rw [List.getElem?_cons_succ] at hs
      have := undRow_spec h2 i s hs
      rw [← this]
      congr 1
      omega
theorem undC_spec : ∀ {E : List (List Nat)} {u : Nat}, undC u E = true → ∀ (i j : Nat) (r s : List Nat), i ≤ j → E[i]? = some r → E[j]? = some s → r.count (u + j) = s.count (u + i)
  | [], u, _, i, j, r, s, _, hr, _ => by simp at hr
  | t :: l, u, h, i, j, r, s, hij, hr, hs => by
    unfold undC at h
    obtain ⟨h1, h2⟩ := Bool.and_eq_true_iff.1 h
    cases i with
    | zero =>
      simp at hr
      subst hr
      have := undRow_spec h1 j s hs
      rw [this]
      simp
    | succ i =>
      obtain ⟨j, rfl⟩ : ∃ k, j = k + 1 := ⟨j - 1, by omega⟩
      rw [List.getElem?_cons_succ] at hr hs
      have := undC_spec h2 i j r s (by omega) hr hs
      rw [show u + (j + 1) = u + 1 + j by omega, show u + (i + 1) = u + 1 + i by omega]
      exact this
theorem bipR_spec {m : Nq} : ∀ {gs : List Nq}, bipR m gs = true → ∀ g ∈ gs, sq5 (det5 m) ≠ sq5 (det5 (nrm5 (tms5 m g)))
  | [], _, g, hg => by cases hg
  | h :: l, e, g, hg => by
    unfold bipR at e
    obtain ⟨h1, h2⟩ := Bool.and_eq_true_iff.1 e
    rcases List.mem_cons.1 hg with rfl | hg
    · simpa using h1
    · exact bipR_spec h2 g hg
theorem bipC_spec {gs : List Nq} : ∀ {A : List Nq}, bipC gs A = true → ∀ m ∈ A, ∀ g ∈ gs, sq5 (det5 m) ≠ sq5 (det5 (nrm5 (tms5 m g)))
  | [], _, m, hm => by cases hm
  | n :: l, e, m, hm => by
    unfold bipC at e
    obtain ⟨h1, h2⟩ := Bool.and_eq_true_iff.1 e
    rcases List.mem_cons.1 hm with rfl | hm
    · exact bipR_spec h1
    · exact bipC_spec h2 m hm

/-- A Cayley graph, evaluated. -/
structure Cay (A gs : List Nq) (R : List (List Nat)) : Prop where
  rows : rowsC (A.map code5) gs A = R
  val : valC A.length R = true
  und : undC 0 R = true
  in5 : ∀ m ∈ A, In5 m
  nod : (A.map code5).Nodup
  few : A.length ≤ 120
  deg : gs.length ≤ 42
  pos : 0 < A.length
section
variable {A gs : List Nq} {R : List (List Nat)} (h : Cay A gs R)
include h
theorem Cay.len : R.length = A.length := by rw [← h.rows]; simp [rowsC]
theorem Cay.row {i : Nat} {m : Nq} (hi : A[i]? = some m) : gr R i = sortC (rowC5 (A.map code5) m gs) := by
  rw [← h.rows]
  unfold gr rowsC
  simp only [List.getD, List.getElem?_map, hi]
  rfl
theorem Cay.entry {i : Nat} {m : Nq} (hi : A[i]? = some m) {g : Nq} (hg : g ∈ gs) : posC (A.map code5) (code5 (nrm5 (tms5 m g))) < A.length := by
  have hl : i < R.length := by rw [h.len]; exact (List.getElem?_eq_some_iff.1 hi).1
  have hm : gr R i ∈ R := List.mem_of_getElem? (gr_lt hl)
  refine valC_spec h.val _ hm _ ?_
  rw [h.row hi]
  exact (sortC_perm _).mem_iff.2 (List.mem_map.2 ⟨g, hg, rfl⟩)
/-- The neighbour is a vertex. -/
theorem Cay.found {i : Nat} {m : Nq} (hi : A[i]? = some m) {g : Nq} (hg : g ∈ gs) : A[posC (A.map code5) (code5 (nrm5 (tms5 m g)))]? = some (nrm5 (tms5 m g)) := by
  have h1 := h.entry hi hg
  have h2 := posC_lt (l := A.map code5) (c := code5 (nrm5 (tms5 m g))) (by simpa using h1)
  rw [List.getElem?_map] at h2
  generalize posC (A.map code5) (code5 (nrm5 (tms5 m g))) = j at *
  obtain ⟨x, hx⟩ : ∃ x, A[j]? = some x := ⟨_, List.getElem?_eq_getElem h1⟩
  rw [hx] at h2 ⊢
  simp at h2
  rw [code5_inj (h.in5 x (List.mem_of_getElem? hx)) (nrm5_in _) h2]
theorem Cay.valid : Valid R := by
  intro v hv x hx
  rw [h.len]
  exact valC_spec h.val _ (List.mem_of_getElem? (gr_lt hv)) x hx
theorem Cay.row_at {v : Nat} (hv : v < R.length) : ∃ m, A[v]? = some m ∧ gr R v = sortC (rowC5 (A.map code5) m gs) := by
  rw [h.len] at hv
  exact ⟨A[v], List.getElem?_eq_getElem hv, h.row (List.getElem?_eq_getElem hv)⟩
theorem Cay.gr_len {v : Nat} (hv : v < R.length) : (gr R v).length = gs.length := by
  obtain ⟨m, _, e⟩ := h.row_at hv
  rw [e, (sortC_perm _).length_eq]
  simp [rowC5]
theorem Cay.nodA : A.Nodup := (List.pairwise_map.1 h.nod).imp fun hne e => hne (by rw [e])
theorem Cay.ok : Ok (A.map nm5) R := by
  refine ⟨h.valid, by rw [h.len]; simp, by have := h.few; rw [h.len]; omega, fun v => ?_, fun v => ?_, fun s hs => ?_, ?_⟩
  · rcases Nat.lt_or_ge v R.length with hv | hv
    · rw [h.gr_len hv]; have := h.deg; omega
    · rw [gr_ge hv]; simp
  · rcases Nat.lt_or_ge v R.length with hv | hv
    · obtain ⟨m, _, e⟩ := h.row_at hv
      rw [e]
      exact sortC_asc _
    · rw [gr_ge hv]; exact List.Pairwise.nil
  · obtain ⟨m, hm, rfl⟩ := List.mem_map.1 hs
    exact nm5_ok (h.in5 m hm)
  · have hp := h.nodA
    refine List.pairwise_map.2 (List.Pairwise.imp_of_mem (fun {a b} ha hb hne e => hne ?_) hp)
    exact nm5_inj (h.in5 _ ha) (h.in5 _ hb) e
theorem Cay.unds : Und R := by
  intro u v hu hv
  rcases Nat.le_total u v with huv | huv
  · have := undC_spec h.und u v _ _ huv (gr_lt hu) (gr_lt hv)
    rw [Nat.zero_add, Nat.zero_add] at this
    exact this
  · have := undC_spec h.und v u _ _ huv (gr_lt hv) (gr_lt hu)
    rw [Nat.zero_add, Nat.zero_add] at this
    exact this.symm
theorem Cay.degp : degP R = (gs.length, 0) := by
  have h0 : R.length ≠ 0 := by rw [h.len]; have := h.pos; omega
  unfold degP
  rw [if_neg h0, h.gr_len (Nat.pos_of_ne_zero h0), if_neg]
  rw [List.any_eq_true]
  rintro ⟨l, hl, hd⟩
  obtain ⟨i, hi, e⟩ := List.getElem_of_mem hl
  have : l = gr R i := by
    have h2 := gr_lt hi
    rw [List.getElem?_eq_getElem hi, e] at h2
    injection h2
  rw [this, h.gr_len hi] at hd
  simp at hd
/-- Two colours. -/
theorem Cay.proper (hb : bipC gs A = true) {l : List Int} (hc : ColI (bth R) (fun _ => True) l) : Proper (bth R) l := by
  have hE := h.valid
  have hcol : ∀ u v, v ∈ gr R u → sq5 (det5 (A.getD u (0, 0, 0, 0))) ≠ sq5 (det5 (A.getD v (0, 0, 0, 0))) := by
    intro u v hv
    have hu := gr_mem hv
    obtain ⟨m, hm, e⟩ := h.row_at hu
    rw [e] at hv
    obtain ⟨g, hg, rfl⟩ := List.mem_map.1 ((sortC_perm _).mem_iff.1 hv)
    have h1 := h.found hm hg
    have e1 : A.getD u (0, 0, 0, 0) = m := by simp [List.getD, hm]
    have e2 : A.getD (posC (A.map code5) (code5 (nrm5 (tms5 m g)))) (0, 0, 0, 0) = nrm5 (tms5 m g) := by simp [List.getD, h1]
    rw [e1, e2]
    exact bipC_spec hb m (List.mem_of_getElem? hm) g hg
  refine (proper_iff (bth_sym hE) (bth_valid hE) hc).2 fun a m ha hw => ?_
  have key : ∀ (m v : Nat), Wk (bth R) a m v → sq5 (det5 (A.getD v (0, 0, 0, 0))) = (sq5 (det5 (A.getD a (0, 0, 0, 0))) != (m % 2 == 1)) := by
    intro m
    induction m with
    | zero => intro v hv; have e : v = a := hv; subst e; simp
    | succ m ih =>
      intro v hv
      obtain ⟨z, h1, h2⟩ := hv
      have h3 := ih z h1
      have h4 : sq5 (det5 (A.getD z (0, 0, 0, 0))) ≠ sq5 (det5 (A.getD v (0, 0, 0, 0))) := by
        rcases (bth_mem hE v z).1 h2 with h5 | h5
        · exact (hcol v z h5).symm
        · exact hcol z v h5
      have e3 : ((m + 1) % 2 == 1) = !(m % 2 == 1) := by
        rcases Nat.mod_two_eq_zero_or_one m with h5 | h5
        · have : (m + 1) % 2 = 1 := by omega
          rw [h5, this]; rfl
        · have : (m + 1) % 2 = 0 := by omega
          rw [h5, this]; rfl
      rw [e3]
      rw [h3] at h4
      generalize sq5 (det5 (A.getD v (0, 0, 0, 0))) = x at *
      generalize sq5 (det5 (A.getD a (0, 0, 0, 0))) = y at *
      generalize (m % 2 == 1) = z at *
      revert h4
      cases x <;> cases y <;> cases z <;> decide
  have h1 := key m a hw
  rcases Nat.mod_two_eq_zero_or_one m with h2 | h2
  · exact h2
  · rw [h2] at h1
    generalize sq5 (det5 (A.getD a (0, 0, 0, 0))) = y at h1
    exfalso
    revert h1
    cases y <;> decide
end

/-- A graph that is Ok has no error. -/
theorem chk_of_ok {names : List ByteArray} {E : List (List Nat)} (h : Ok names E) : chk names (toI E) = 0 := by
  unfold chk
  rw [if_neg (by rw [toI_length, h.len]; simp), if_neg (by rw [h.len]; have := h.small; omega)]
  refine fnz_none fun i hi => ?_
  have hmem : names.getD i ByteArray.empty ∈ names := by
    rw [List.getD, List.getElem?_eq_getElem hi]
    exact List.getElem_mem hi
  unfold atC
  rw [if_neg (by rw [nameB_true.2 (h.name _ hmem)]; decide), if_neg (fun hm => ?_)]
  · have hiE : i < E.length := by rw [← h.len]; exact hi
    have e : (toI E).getD i [] = (gr E i).map fun x : Nat => (x : Int) := by
      unfold toI
      simp only [List.getD, List.getElem?_map, gr_lt hiE]
      rfl
    rw [e]
    unfold rowC
    rw [if_neg (by rw [List.length_map]; have := h.deg i; omega)]
    refine fnz_none fun k hk => ?_
    rw [List.length_map] at hk
    have gd : ∀ j, j < (gr E i).length → ((gr E i).map fun x : Nat => (x : Int)).getD j 0 = (((gr E i).getD j 0 : Nat) : Int) := fun j hj => by
      simp [List.getD, List.getElem?_eq_getElem hj]
    have gm : ∀ j, j < (gr E i).length → (gr E i).getD j 0 ∈ gr E i := fun j hj => by
      rw [List.getD, List.getElem?_eq_getElem hj]
      exact List.getElem_mem hj
    unfold rowAt
    rw [gd k hk]
    have h1 := h.valid i hiE _ (gm k hk)
    rw [if_neg (fun hn => hn ⟨by omega, by rw [h.len]; omega⟩), if_neg]
    rintro ⟨h2, h3⟩
    rw [gd (k - 1) (by omega)] at h3
    have h4 := List.pairwise_iff_getElem.1 (h.asc i) (k - 1) k (by omega) hk (by omega)
    have e1 : (gr E i).getD k 0 = (gr E i)[k] := by simp [List.getD, List.getElem?_eq_getElem hk]
    have e2 : (gr E i).getD (k - 1) 0 = (gr E i)[k - 1] := by simp [List.getD, List.getElem?_eq_getElem (show k - 1 < (gr E i).length by omega)]
    omega
  · obtain ⟨j, hj, e⟩ := List.getElem_of_mem hm
    rw [List.length_take] at hj
    rw [List.getElem_take] at e
    have e1 : names.getD i ByteArray.empty = names[i] := by simp [List.getD, List.getElem?_eq_getElem hi]
    rw [e1] at e
    have := (List.getElem_inj h.nodup).1 e
    omega
end Go.Proofs.YtefcdclmabdmbaaGreatDoor

namespace Go.Proofs.YtefcdclmabdmbaaGreatDoor
open Go.RowKit

def ascB : List Nat → Bool
  | [] => true
  | [_] => true
  | x :: y :: l => Nat.blt x y && ascB (y :: l)
theorem ascB_spec : ∀ {l : List Nat}, ascB l = true → l.Pairwise (· < ·)
  | [], _ => List.Pairwise.nil
  | [_], _ => List.pairwise_singleton _ _
  | x :: y :: l, h => by
    unfold ascB at h
    obtain ⟨h1, h2⟩ := Bool.and_eq_true_iff.1 h
    have h1' : x < y := by simpa [Nat.blt_eq] using h1
    have ih := ascB_spec h2
    refine List.pairwise_cons.2 ⟨fun z hz => ?_, ih⟩
    rcases List.mem_cons.1 hz with rfl | hz
    · exact h1'
    · exact Nat.lt_trans h1' ((List.pairwise_cons.1 ih).1 z hz)
theorem ascB_nodup {l : List Nat} (h : ascB l = true) : l.Nodup := (ascB_spec h).imp fun hh => Nat.ne_of_lt hh
def inB : List Nq → Bool
  | [] => true
  | m :: l => (Nat.blt m.1 5 && Nat.blt m.2.1 5 && Nat.blt m.2.2.1 5 && Nat.blt m.2.2.2 5) && inB l
theorem inB_spec : ∀ {l : List Nq}, inB l = true → ∀ m ∈ l, In5 m
  | [], _, m, hm => by cases hm
  | x :: l, h, m, hm => by
    unfold inB at h
    obtain ⟨h1, h2⟩ := Bool.and_eq_true_iff.1 h
    rcases List.mem_cons.1 hm with rfl | hm
    · simp only [Bool.and_eq_true, Nat.blt_eq] at h1
      exact ⟨h1.1.1.1, h1.1.1.2, h1.1.2, h1.2⟩
    · exact inB_spec h2 m hm
theorem len_0 : A0.length = 120 := by decide +kernel
theorem len_1 : A1.length = 60 := by decide +kernel
theorem in_0 : ∀ m ∈ A0, In5 m := inB_spec (by decide +kernel)
theorem in_1 : ∀ m ∈ A1, In5 m := inB_spec (by decide +kernel)
theorem nod_0 : C0.Nodup := ascB_nodup (by decide +kernel)
theorem nod_1 : C1.Nodup := ascB_nodup (by decide +kernel)
theorem cay_0 {gs : List Nq} {R : List (List Nat)} (h1 : rowsC C0 gs A0 = R) (h2 : valC 120 R = true) (h3 : undC 0 R = true) (h4 : gs.length ≤ 42) : Cay A0 gs R where
  rows := by rw [codes5_0]; exact h1
  val := by rw [len_0]; exact h2
  und := h3
  in5 := in_0
  nod := by rw [codes5_0]; exact nod_0
  few := by rw [len_0]; exact Nat.le_refl _
  deg := h4
  pos := by rw [len_0]; decide
theorem cay_1 {gs : List Nq} {R : List (List Nat)} (h1 : rowsC C1 gs A1 = R) (h2 : valC 60 R = true) (h3 : undC 0 R = true) (h4 : gs.length ≤ 42) : Cay A1 gs R where
  rows := by rw [codes5_1]; exact h1
  val := by rw [len_1]; exact h2
  und := h3
  in5 := in_1
  nod := by rw [codes5_1]; exact nod_1
  few := by rw [len_1]; decide
  deg := h4
  pos := by rw [len_1]; decide
theorem cay_13 : Cay A0 G13 R13 := cay_0 rows_13 val_13 und_13 (by decide +kernel)
theorem cay_17 : Cay A0 G17 R17 := cay_0 rows_17 val_17 und_17 (by decide +kernel)
theorem cay_37 : Cay A0 G37 R37 := cay_0 rows_37 val_37 und_37 (by decide +kernel)
theorem cay_29 : Cay A1 G29 R29 := cay_1 rows_29 val_29 und_29 (by decide +kernel)
theorem cay_41 : Cay A1 G41 R41 := cay_1 rows_41 val_41 und_41 (by decide +kernel)

/-- The class of the number i, and what the reference keeps of it. -/
def of5 (i : Nat) : Nq := (i / 125, i / 25 % 5, i / 5 % 5, i % 5)
def kp5 (half : Bool) (i : Nat) : Bool := !(Nat.beq (det5 (of5 i)) 0) && (Nat.beq (code5 (nrm5 (of5 i))) i && (!half || sq5 (det5 (of5 i))))
def rl5 (half : Bool) : Nat → List Nq
  | 0 => []
  | n + 1 => rl5 half n ++ bif kp5 half n then [of5 n] else []
theorem rl5_0 : (rl5 false 625).map code5 = C0 := eqL_sound (by decide +kernel)
theorem rl5_1 : (rl5 true 625).map code5 = C1 := eqL_sound (by decide +kernel)
theorem of5_in {i : Nat} (h : i < 625) : In5 (of5 i) := ⟨by unfold of5; simp only; omega, Nat.mod_lt _ (by decide), Nat.mod_lt _ (by decide), Nat.mod_lt _ (by decide)⟩
theorem rl5_in (half : Bool) : ∀ n, n ≤ 625 → ∀ m ∈ rl5 half n, In5 m
  | 0, _, m, hm => by simp [rl5] at hm
  | n + 1, hn, m, hm => by
    unfold rl5 at hm
    rcases List.mem_append.1 hm with hm | hm
    · exact rl5_in half n (by omega) m hm
    · cases hk : kp5 half n
      · rw [hk] at hm; simp at hm
      · rw [hk] at hm
        have e : m = of5 n := by simpa using hm
        rw [e]
        exact of5_in (by omega)
theorem codes_inj : ∀ {l m : List Nq}, (∀ x ∈ l, In5 x) → (∀ x ∈ m, In5 x) → l.map code5 = m.map code5 → l = m
  | [], [], _, _, _ => rfl
  | [], _ :: _, _, _, h => by simp at h
  | _ :: _, [], _, _, h => by simp at h
  | x :: l, y :: m, h1, h2, h => by
    simp only [List.map_cons, List.cons.injEq] at h
    rw [code5_inj (h1 x (List.mem_cons_self)) (h2 y (List.mem_cons_self)) h.1, codes_inj (fun z hz => h1 z (List.mem_cons_of_mem _ hz)) (fun z hz => h2 z (List.mem_cons_of_mem _ hz)) h.2]
theorem rl5_all0 : rl5 false 625 = A0 := codes_inj (rl5_in _ _ (Nat.le_refl _)) in_0 (rl5_0.trans codes5_0.symm)
theorem rl5_all1 : rl5 true 625 = A1 := codes_inj (rl5_in _ _ (Nat.le_refl _)) in_1 (rl5_1.trans codes5_1.symm)

/-! the reference puts a place in from the right -/
theorem put_asc {l : List Nat} (h : l.Pairwise (· ≤ ·)) {at' k : Nat} (hk : k ≤ l.length) (h1 : k = 0 ∨ ∃ y, l[k - 1]? = some y ∧ y ≤ at') (h2 : ∀ j y, k ≤ j → l[j]? = some y → at' < y) : (l.take k ++ [at'] ++ l.drop k).Pairwise (· ≤ ·) ∧ (l.take k ++ [at'] ++ l.drop k).Perm (at' :: l) := by
  have hd : ∀ y ∈ l.drop k, at' < y := fun y hy => by
    obtain ⟨j, hj⟩ := List.getElem?_of_mem hy
    rw [List.getElem?_drop] at hj
    exact h2 _ y (by omega) hj
  have ht : ∀ y ∈ l.take k, y ≤ at' := fun y hy => by
    obtain ⟨j, hj⟩ := List.getElem?_of_mem hy
    rw [List.getElem?_take] at hj
    by_cases hjk : j < k
    · rw [if_pos hjk] at hj
      rcases h1 with rfl | ⟨z, hz, hza⟩
      · omega
      · rcases Nat.lt_or_ge j (k - 1) with hlt | hge
        · obtain ⟨p1, e1⟩ := List.getElem?_eq_some_iff.1 hj
          obtain ⟨p2, e2⟩ := List.getElem?_eq_some_iff.1 hz
          have := List.pairwise_iff_getElem.1 h j (k - 1) p1 p2 hlt
          omega
        · have e : j = k - 1 := by omega
          rw [e, hz] at hj
          cases hj
          exact hza
    · rw [if_neg hjk] at hj
      cases hj
  have hs : (l.take k ++ l.drop k).Pairwise (· ≤ ·) := by rw [List.take_append_drop]; exact h
  obtain ⟨s1, s2, s3⟩ := List.pairwise_append.1 hs
  constructor
  · rw [List.append_assoc]
    refine List.pairwise_append.2 ⟨s1, List.pairwise_cons.2 ⟨fun y hy => Nat.le_of_lt (hd y hy), s2⟩, fun a ha b hb => ?_⟩
    rcases List.mem_cons.1 hb with rfl | hb
    · exact ht a ha
    · exact s3 a ha b hb
  · rw [List.append_assoc]
    have e : (at' :: (l.take k ++ l.drop k)) = at' :: l := by rw [List.take_append_drop]
    exact (List.perm_middle (a := at') (l₁ := l.take k) (l₂ := l.drop k)).trans (List.Perm.of_eq e)
/-- A row that grew so is the sorted row. -/
theorem put_sort {l row : List Nat} {n : Nat} (hl : l = sortC (row.take n)) {at' k : Nat} (ha : row[n]? = some at') (hk : k ≤ l.length) (h1 : k = 0 ∨ ∃ y, l[k - 1]? = some y ∧ y ≤ at') (h2 : ∀ j y, k ≤ j → l[j]? = some y → at' < y) : l.take k ++ [at'] ++ l.drop k = sortC (row.take (n + 1)) := by
  obtain ⟨p1, p2⟩ := put_asc (l := l) (by rw [hl]; exact sortC_asc _) hk h1 h2
  refine sortC_of (p2.trans ?_) p1
  obtain ⟨q1, q2⟩ := List.getElem?_eq_some_iff.1 ha
  rw [List.take_succ_eq_append_getElem q1, q2, hl]
  exact ((sortC_perm _).cons at').trans (List.perm_append_comm (l₁ := [at']))
end Go.Proofs.YtefcdclmabdmbaaGreatDoor
