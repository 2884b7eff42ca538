/- Lists of lists of ints that a function makes and appends to. -/
import Derived.Test.YtpkjdnplmgfbbaaDoorRdm2
namespace Go.Proofs.YtpkjdnplmgfbbaaDoor
open Go.RowKit

/-- The cells of numbers. -/
def nc (l : List Nat) : List Value := l.map fun x : Nat => Value.int .i64 (x : Int)
theorem nc_length (l : List Nat) : (nc l).length = l.length := by simp [nc]
theorem nc_snoc (l : List Nat) (x : Nat) : nc (l ++ [x]) = nc l ++ [.int .i64 (x : Int)] := by simp [nc]
/-- The slice value v is a list of the call's own (memory from base on) that holds l. -/
def OwnN (w : World) (base : Nat) (v : Value) (l : List Nat) : Prop := w.ownsRow base 3 1 v l.length (nc l)
section
variable {w w' : World} {base : Nat} {v : Value} {l : List Nat}
theorem OwnN.nil (w : World) (base : Nat) : OwnN w base (.slice none 0 0) [] := World.ownsRow_nil _ _ _ _
theorem OwnN.slice (h : OwnN w base v l) : ∃ A c, v = .slice A l.length c ∧ l.length ≤ c ∧ c ≤ maxLen := own_slice h
theorem OwnN.below (h : OwnN w base v l) (hb : Below w.heap.size w w') : OwnN w' base v l := by
  refine ⟨h.1, ?_⟩
  rcases h.2 with h3 | ⟨g, cap, cur, e, h4, h5, h6⟩
  · exact .inl h3
  · exact .inr ⟨g, cap, cur, e, h4, (hb.block g (h.lt g (by rw [e]; rfl)).2).trans h5, h6⟩
/-- It stays as long as its own block does. -/
theorem OwnN.keep (h : OwnN w base v l) (hk : ∀ g, v.ownBlock = some g → w'.heap[g]? = w.heap[g]?) : OwnN w' base v l := by
  refine ⟨h.1, ?_⟩
  rcases h.2 with h3 | ⟨g, cap, cur, e, h4, h5, h6⟩
  · exact .inl h3
  · exact .inr ⟨g, cap, cur, e, h4, (hk g (by rw [e]; rfl)).trans h5, h6⟩
theorem OwnN.lt (h : OwnN w base v l) : ∀ k, v.ownBlock = some k → base ≤ k ∧ k < w.heap.size := World.ownsRow.lt h
theorem OwnN.il (h : OwnN w base v l) (hs : ∀ x ∈ l, x ≤ 1000000) : ∃ A c, v = .slice A l.length c ∧ Il w A l.length c (l.map fun x : Nat => (x : Int)) := by
  obtain ⟨A, c, rfl, h1, h2⟩ := h.slice
  have hm : (l.map fun x : Nat => (x : Int)).map (Value.int .i64) = nc l := by simp [nc]
  refine ⟨A, c, rfl, ⟨by simp, h1, h2, fun hn => ?_⟩, fun x hx => ?_⟩
  · obtain ⟨g, cap, e, _, _, _, _, hc⟩ := own_cells h hn
    injection e with e1 e2 e3
    subst e1
    exact ⟨g, 0, rfl, fun j u hu => by rw [hm] at hu; rw [Nat.zero_add]; exact hc j u hu⟩
  · obtain ⟨y, hy, rfl⟩ := List.mem_map.1 hx
    have := hs y hy
    omega
end

section
variable (w0 : World)
theorem info_int : (Tryd.prog.info? 3).map (fun i => (i.zero, i.size, i.bytes)) = some (some (.int .i64 0), 1, 8) := by kernel_rfl
/-- append(own, x) of one number that lies in a block made just before. -/
theorem wpList_pushN {ops : Array Oper} {rest : List Oper} {o : Oper} {a : Act} {Q : Exit → Act → World → Prop} (hgd : o.guard = none) (s x : Operand)
    (ho : o.op = .call { callee := .builtin .append, args := #[s, x], argTypes := #[28, 28] })
    (base : Nat) (v : Value) (l : List Nat) (hs : a.eval s = v) (hown : OwnN w0 base v l)
    (y : Nat) (k : Int) (hk : k = (y : Int)) (hx : a.eval x = .slice (some ⟨w0.heap.size, 0, none⟩) 1 1) (h63 : l.length + 1 ≤ 1000000000) (hbase : base ≤ w0.heap.size)
    (h : ∀ A' c' w', OwnN w' base (.slice A' (l.length + 1) c') (l ++ [y]) → w0.grownBy w' v.ownBlock → (Value.ownBlock (.slice A' (l.length + 1) c') = v.ownBlock ∨ ∃ b, Value.ownBlock (.slice A' (l.length + 1) c') = some b ∧ w0.heap.size ≤ b) → wpList Tryd.prog ops Q rest (a.put o.dst (.slice A' (l.length + 1) c')) w') :
    wpList Tryd.prog ops Q (o :: rest) a (w0.alloc (.cells #[.int .i64 k] 3)) := by
  subst hk
  refine wpList_app _ hgd s x 28 28 ho base 3 3 (.int .i64 0) 1 8 Tryd.underlying28 Tryd.underlying28 info_int rfl (by omega) v l.length (nc l) hs (World.ownsRow.alloc hown _) _ 1 1 [.int .i64 (y : Int)] hx (src_block (heap_alloc_new w0 _) 1 1 rfl) (by simp [Value.oneCell']) (by unfold maxLen; omega) (by omega) (by simp; omega) ?_
  intro v' w' hown' hg hob
  obtain ⟨A', c', rfl, _, _⟩ := own_slice hown'
  refine h A' c' w' ?_ (grownBy_trans (World.grownBy_alloc w0 _ _) hg) ?_
  · unfold OwnN; rw [nc_snoc, List.length_append]; exact hown'
  · rcases hob with h1 | h1
    · exact .inl h1
    · exact .inr ⟨_, h1, by simp⟩
end

/-- Block S is an array of lists: the lists R, each in a block of its own, from base on. -/
structure Rws (w : World) (base S : Nat) (R : List (List Nat)) (vs : List Value) : Prop where
  arr : Arr w S 28 vs
  len : vs.length = R.length
  own : ∀ (i : Nat) v l, vs[i]? = some v → R[i]? = some l → OwnN w base v l
  apart : ∀ (i j : Nat) vi vj b, vs[i]? = some vi → vs[j]? = some vj → vi.ownBlock = some b → vj.ownBlock = some b → i = j
  far : ∀ (i : Nat) v, vs[i]? = some v → v.ownBlock ≠ some S

theorem Rws.made {w : World} {S n base : Nat} (h : Arr w S 28 (madeCells (Value.slice none 0 0).cells (n * 1)).toList) : Rws w base S (List.replicate n []) (List.replicate n (.slice none 0 0)) := by
  have e := toList_madeCells_one (.slice none 0 0) n
  rw [Nat.mul_one] at h
  have hr : ∀ (i : Nat) v, (List.replicate n (Value.slice none 0 0))[i]? = some v → v = .slice none 0 0 := by
    intro i v hv
    rw [List.getElem?_replicate] at hv
    split at hv
    · injection hv with hv; exact hv.symm
    · cases hv
  refine ⟨by rwa [← e], by simp, fun i v l hv hl => ?_, fun i j vi vj b hi hj hb _ => ?_, fun i v hv => ?_⟩
  · rw [hr i v hv]
    rw [List.getElem?_replicate] at hl
    split at hl
    · injection hl with hl; subst hl; exact OwnN.nil _ _
    · cases hl
  · rw [hr i vi hi] at hb; cases hb
  · rw [hr i v hv]; intro h; cases h
theorem Rws.below {w w' : World} {base S : Nat} {R : List (List Nat)} {vs : List Value} (h : Rws w base S R vs) (hb : Below w.heap.size w w') : Rws w' base S R vs :=
  ⟨h.arr.below' hb, h.len, fun i v l hv hl => (h.own i v l hv hl).below hb, h.apart, h.far⟩

/-- One list has grown by one. -/
theorem Rws.push {w w' : World} {base S : Nat} {R : List (List Nat)} {vs : List Value} (h : Rws w base S R vs) {x y : Nat} {v v' : Value} (hv : vs[x]? = some v) (hg : w.grownBy w' v.ownBlock) (hown : OwnN w' base v' (gr R x ++ [y])) (hob : v'.ownBlock = v.ownBlock ∨ ∃ b, v'.ownBlock = some b ∧ w.heap.size ≤ b) :
    Arr w' S 28 vs ∧ Rws (w'.setCell ⟨S, x, none⟩ v') base S (R.set x (gr R x ++ [y])) (vs.set x v') := by
  have hxl := lt_of_some hv
  have ha : Arr w' S 28 vs := (hg.block S h.arr.lt (fun e => h.far x v hv e.symm)).trans h.arr
  have hlt : ∀ (i : Nat) u, vs[i]? = some u → ∀ b, u.ownBlock = some b → b < w.heap.size := by
    intro i u hu b hb
    have hi := lt_of_some hu
    exact ((h.own i u _ hu (List.getElem?_eq_getElem (by rw [← h.len]; exact hi))).lt b hb).2
  have hfar : v'.ownBlock ≠ some S := by
    rcases hob with e | ⟨b, e, hb⟩
    · rw [e]; exact h.far x v hv
    · rw [e]; intro e2; injection e2 with e2; have := h.arr.lt; omega
  have hset : ∀ b, b ≠ S → (w'.setCell ⟨S, x, none⟩ v').heap[b]? = w'.heap[b]? := fun b hb => Below.heap_setCell _ _ _ _ hb
  refine ⟨ha, ha.set_ x v', by simp [h.len], ?_, ?_, ?_⟩
  · intro i u l hu hl
    rw [List.getElem?_set] at hu hl
    by_cases hi : x = i
    · subst hi
      rw [if_pos rfl, if_pos hxl] at hu
      rw [if_pos rfl, if_pos (by rw [← h.len]; exact hxl)] at hl
      injection hu with hu
      injection hl with hl
      subst hu hl
      exact hown.keep fun g hg2 => hset g (fun e => hfar (by rw [hg2, e]))
    · rw [if_neg hi] at hu hl
      refine (h.own i u l hu hl).keep fun g hg2 => ?_
      rw [hset g (fun e => h.far i u hu (by rw [hg2, e]))]
      exact hg.block g (hlt i u hu g hg2) (fun e => hi (h.apart x i v u g hv hu e.symm hg2))
  · intro i j vi vj b hi hj hbi hbj
    rw [List.getElem?_set] at hi hj
    by_cases ei : x = i
    · by_cases ej : x = j
      · omega
      · subst ei
        rw [if_pos rfl, if_pos hxl] at hi
        rw [if_neg ej] at hj
        injection hi with hi
        subst hi
        rcases hob with e | ⟨b2, e, hb2⟩
        · exact h.apart x j v vj b hv hj (by rw [← e]; exact hbi) hbj
        · rw [e] at hbi
          injection hbi with hbi
          have := hlt j vj hj b hbj
          omega
    · rw [if_neg ei] at hi
      by_cases ej : x = j
      · subst ej
        rw [if_pos rfl, if_pos hxl] at hj
        injection hj with hj
        subst hj
        rcases hob with e | ⟨b2, e, hb2⟩
        · exact h.apart i x vi v b hi hv hbi (by rw [← e]; exact hbj)
        · rw [e] at hbj
          injection hbj with hbj
          have := hlt i vi hi b hbi
          omega
      · rw [if_neg ej] at hj
        exact h.apart i j vi vj b hi hj hbi hbj
  · intro i u hu
    rw [List.getElem?_set] at hu
    by_cases hi : x = i
    · subst hi
      rw [if_pos rfl, if_pos hxl] at hu
      injection hu with hu
      subst hu
      exact hfar
    · rw [if_neg hi] at hu
      exact h.far i u hu

/-- As a list of lists. -/
theorem Rws.gl {w : World} {base S : Nat} {R : List (List Nat)} {vs : List Value} (h : Rws w base S R vs) (hs : ∀ l ∈ R, ∀ x ∈ l, x ≤ 1000000) (hn : R.length ≤ 1000000) : Gl w (some ⟨S, 0, none⟩) R.length R.length (toI R) := by
  refine ⟨vs, ⟨h.len, Nat.le_refl _, by unfold maxLen; omega, fun _ => ⟨S, 0, rfl, fun j u hu => by rw [Nat.zero_add, h.arr.cell]; exact hu⟩⟩, by rw [toI_length, h.len], fun i v l hv hl => ?_⟩
  unfold toI at hl
  rw [List.getElem?_map] at hl
  cases hr : R[i]? with
  | none => rw [hr] at hl; cases hl
  | some r =>
    rw [hr] at hl
    injection hl with hl
    subst hl
    obtain ⟨A, c, e, hil⟩ := (h.own i v r hv hr).il (hs r (List.mem_of_getElem? hr))
    exact ⟨A, c, by rw [List.length_map]; exact e, by rw [List.length_map]; exact hil⟩
theorem Rws.at {w : World} {base S : Nat} {R : List (List Nat)} {vs : List Value} (h : Rws w base S R vs) {x : Nat} (hx : x < R.length) : ∃ v A c, vs[x]? = some v ∧ v = .slice A (gr R x).length c ∧ (gr R x).length ≤ c ∧ c ≤ maxLen ∧ OwnN w base v (gr R x) ∧ w.cell? ⟨S, x, none⟩ = some v ∧ w.frozen? ⟨S, x, none⟩ = false := by
  obtain ⟨v, hv⟩ : ∃ v, vs[x]? = some v := ⟨_, List.getElem?_eq_getElem (by rw [h.len]; exact hx)⟩
  have ho := h.own x v _ hv (gr_lt hx)
  obtain ⟨A, c, e, h1, h2⟩ := ho.slice
  exact ⟨v, A, c, hv, e, h1, h2, ho, by rw [h.arr.cell]; exact hv, h.arr.frozen x⟩
end Go.Proofs.YtpkjdnplmgfbbaaDoor
