/- The reference's Distances. The reference's Diameter; the base's Ints. slices.IndexFunc of a list of ints, with whatever function that only makes new memory. Lists of lists of ints that a function makes and appends to. graph.Path. graph.Path, where both ends are there. Lists of integers in memory: slices whose elements are api.Int. Growing lists of integers: append of one integer onto a list of the call's own; package brandt's normal. Arrays of integers of the call's own. graph.stepped: the numbers of walks that are one step longer. graph.walks, graph.small. graph.Closed. -/
import Derived.Test.YtefcdclmabdmbaaGreatDoorKc
import Derived.Test.YtefcdclmabdmbaaGreatDoorKa
namespace Go.Proofs.YtefcdclmabdmbaaGreatDoor
open Go.RowKit

/-- The row of a vertex, in memory. -/
theorem Gl.row {w : World} {A : Option Addr} {n c : Nat} {E : List (List Nat)} (h : Gl w A n c (toI E)) {i : Nat} (hi : i < E.length) :
    ∃ b off A' c', A = some ⟨b, off, none⟩ ∧ w.cell? ⟨b, off + i, none⟩ = some (.slice A' (gr E i).length c') ∧ (gr E i).length ≤ c' ∧ c' ≤ 9223372036854775807 ∧ Il w A' (gr E i).length c' ((gr E i).map fun x : Nat => (x : Int)) := by
  have hn := h.len
  rw [toI_length] at hn
  obtain ⟨b, off, e, hc⟩ := h.cell (by omega)
  obtain ⟨A', c', h1, h2⟩ := hc i _ (toI_get hi)
  rw [List.length_map] at h1 h2
  have h3 := h2.room
  unfold maxLen at h3
  exact ⟨b, off, A', c', e, h1, h3.1, h3.2, h2⟩
theorem Il.num {w : World} {A : Option Addr} {n c : Nat} {l : List Nat} (h : Il w A n c (l.map fun x : Nat => (x : Int))) {k x : Nat} (hx : l[k]? = some x) : ∃ b off, A = some ⟨b, off, none⟩ ∧ w.cell? ⟨b, off + k, none⟩ = some (.int .i64 (x : Nat)) := by
  have hl := h.len
  rw [List.length_map] at hl
  have := lt_of_some hx
  obtain ⟨b, off, e, hc⟩ := h.cell (by omega)
  exact ⟨b, off, e, hc k x (by rw [List.getElem?_map, hx]; rfl)⟩

/-- The edges that are through: those of the first m vertices, and the first k of vertex m. -/
def thru (E : List (List Nat)) (m k z x : Nat) : Prop := (z < m ∧ x ∈ gr E z) ∨ (z = m ∧ x ∈ (gr E m).take k)
theorem Lev.first {E : List (List Nat)} {a d : Nat} {l : List Int} (h : Lev E a d (fun _ _ => False) l) : Lev E a d (thru E 0 0) l := h.mono fun _ _ hz _ _ => by
  rcases hz with h1 | ⟨_, h1⟩
  · omega
  · simp at h1
theorem Lev.all {E : List (List Nat)} (hE : Valid E) {a d : Nat} {l : List Int} (h : Lev E a d (thru E E.length 0) l) (ha : a < E.length) : Lev E a (d + 1) (fun _ _ => False) l := h.next hE ha fun _ _ hx hz => .inl ⟨hz, hx⟩
end Go.Proofs.YtefcdclmabdmbaaGreatDoor

namespace Go.Proofs.YtefcdclmabdmbaaGreatDoor
open Go.RowKit

/-- base.Ints: two lists are equal. -/
def IntsR (w : World) (l m : List Int) (e : Ending) (w' : World) : Prop := e = .returned (.bool (decide (l = m))) ∧ Below w.heap.size w w'
theorem intsR {w w' : World} {l m : List Int} {b : Bool} (h : decide (l = m) = b) (hb : Below w.heap.size w w') : IntsR w l m (.returned (.bool b)) w' := ⟨by rw [h], hb⟩
set_option maxHeartbeats 1000000 in
theorem Ints_any {w : World} {A B : Option Addr} {n c n' c' : Nat} {l m : List Int} (h : Il w A n c l) (h' : Il w B n' c' m) :
    Calls Tryz.prog 30 #[.slice A n c, .slice B n' c'] w (IntsR w l m) := by
  have hl := h.len
  have hl' := h'.len
  have hr := h.room
  have hr' := h'.room
  unfold maxLen at hr hr'
  by_cases hn : n = n'
  · subst hn
    have hb : ((n : Int) != (n : Int)) = false := by simp
    have HL := Lib.hid hl
    have HL' := Lib.hid hl'
    clear hl hl'
    go_enter Tryz.func30, Tryz.ntmps30
    go_wp2_with fail
    go_loopw [5] (fun i wr => ∃ (k q : Nat), k ≤ n ∧ i = .int .i64 (k : Nat) ∧ l.take k = m.take k ∧ wr = w.drewN q) (fun i _ => n - (intOf i).toNat)
    case atStart => exact ⟨0, 0, Nat.zero_le _, rfl, rfl, rfl⟩
    case round =>
      obtain ⟨k, q, hk, rfl, ht, rfl⟩ := hrel
      have HT := Lib.hid ht
      clear ht
      by_cases hlt : k < n
      · obtain ⟨b, off, rfl, hc⟩ := h.cell (by omega)
        obtain ⟨b', off', rfl, hc'⟩ := h'.cell (by omega)
        obtain ⟨x, hx⟩ : ∃ x, l[k]? = some x := ⟨_, List.getElem?_eq_getElem (by rw [HL.out]; exact hlt)⟩
        obtain ⟨y, hy⟩ : ∃ y, m[k]? = some y := ⟨_, List.getElem?_eq_getElem (by rw [HL'.out]; exact hlt)⟩
        have cx := hc k x hx
        have cy := hc' k y hy
        clear hc hc'
        have hki : (k : Int) < (n : Int) := by omega
        have hk0 : (0 : Int) ≤ (k : Int) := by omega
        by_cases hxy : x = y
        · have hbx : (x != y) = false := by simp [hxy]
          have ht2 : l.take (k + 1) = m.take (k + 1) := by rw [List.take_add_one, List.take_add_one, hx, hy, HT.out, hxy]
          have HT2 := Lib.hid ht2
          clear hx hy hxy ht2
          go_wp2_with fail
          go_quiet (fail)
          go_wp2_with fail
          exact ⟨⟨k + 1, q + nq, by omega, by go_num, HT2.out, rfl⟩, by simp [intOf]; omega⟩
        · have hbx : (x != y) = true := by simp [hxy]
          have e : decide (l = m) = false := by
            simp only [decide_eq_false_iff_not]
            intro e
            rw [e, hy] at hx
            injection hx with hx
            exact hxy hx.symm
          have HE := Lib.hid e
          clear hx hy hxy e
          go_wp2_with fail
          go_quiet (fail)
          go_wp2_with fail
          go_ret
          exact intsR HE.out (below_drewN' (below_drewN' (Below.refl _ _) _) _)
      · have e : l = m := by
          have := HT.out
          rwa [List.take_of_length_le (by rw [HL.out]; omega), List.take_of_length_le (by rw [HL'.out]; omega)] at this
        have HE := Lib.hid e
        clear e
        go_wp2_with fail
        go_ret
        exact intsR (by simp [HE.out]) (below_drewN' (Below.refl _ _) _)
  · have hb : ((n : Int) != (n' : Int)) = true := by simp; omega
    have e : decide (l = m) = false := by simp; intro e; rw [e] at hl; omega
    have HE := Lib.hid e
    clear e hl hl' hn
    go_enter Tryz.func30, Tryz.ntmps30
    go_wp2_with fail
    go_ret
    exact intsR HE.out (Below.refl _ _)
end Go.Proofs.YtefcdclmabdmbaaGreatDoor

namespace Go.Proofs.YtefcdclmabdmbaaGreatDoor
open Go.RowKit

/-- Whatever lies in w: the function answers p at each of l. -/
def Asks (w : World) (f : FuncId) (lb : Array Value) (l : List Int) (p : Int → Bool) : Prop :=
  ∀ x, x ∈ l → ∀ W, Below w.heap.size w W → Calls Tryz.prog f (#[.int .i64 x] ++ lb) W fun e W' => e = .returned (.bool (p x)) ∧ Below W.heap.size W W'
def IdxR (w : World) (l : List Int) (p : Int → Bool) (e : Ending) (w' : World) : Prop :=
  ((∃ (i : Nat) (y : Int), l[i]? = some y ∧ l.find? p = some y ∧ e = .returned (.int .i64 (i : Nat))) ∨ (l.find? p = none ∧ e = .returned (.int .i64 (-1)))) ∧ Below w.heap.size w w'

theorem find_at {l : List Int} {p : Int → Bool} {k : Nat} {x : Int} (hn : ∀ y ∈ l.take k, p y = false) (hx : l[k]? = some x) (hp : p x = true) : l.find? p = some x := by
  have e : l = l.take k ++ x :: l.drop (k + 1) := by
    have hk := lt_of_some hx
    rw [List.getElem?_eq_getElem hk] at hx
    injection hx with hx
    rw [← hx, ← List.drop_eq_getElem_cons hk, List.take_append_drop]
  rw [e, List.find?_append, List.find?_eq_none.2 (fun y hy => by rw [hn y hy]; simp)]
  simp [hp]
theorem none_take {l : List Int} {p : Int → Bool} {k : Nat} {x : Int} (hn : ∀ y ∈ l.take k, p y = false) (hx : l[k]? = some x) (hp : p x = false) : ∀ y ∈ l.take (k + 1), p y = false := by
  rw [List.take_add_one, hx]
  intro y hy
  rcases List.mem_append.1 hy with h | h
  · exact hn y h
  · have : y = x := by simpa using h
    subst this; exact hp

set_option maxHeartbeats 1000000 in
theorem IndexFunc_any {w : World} {A : Option Addr} {n c : Nat} {l : List Int} (h : Il w A n c l) {f : FuncId} {lb : Array Value} {p : Int → Bool} (hf : Asks w f lb l p)
    (eg : ∀ args w, (callFunc f args).run Tryz.prog w = .ok (.enter f args) w) :
    Calls Tryz.prog 95 #[.slice A n c, .func (.func f) #[] lb] w (IdxR w l p) := by
  have hl := h.len
  have hr := h.room
  unfold maxLen at hr
  have HL := Lib.hid hl
  have HF := Lib.hid hf
  have EG := Lib.hid eg
  clear hl hf eg
  go_enter Tryz.func95, Tryz.ntmps95
  go_wp2_with fail
  go_loopw [8] (fun i wr => ∃ (k : Nat), k ≤ n ∧ i = .int .i64 (k : Nat) ∧ (∀ y ∈ l.take k, p y = false) ∧ Below w.heap.size w wr) (fun i _ => n - (intOf i).toNat)
  case atStart => exact ⟨0, Nat.zero_le _, rfl, fun y hy => by simp at hy, Below.refl _ _⟩
  case round =>
    obtain ⟨k, hk, rfl, hn, hbr⟩ := hrel
    have HN := Lib.hid hn
    clear hn
    by_cases hlt : k < n
    · obtain ⟨b, off, rfl, hc⟩ := (h.below hbr).cell (by omega)
      obtain ⟨x, hx⟩ : ∃ x, l[k]? = some x := ⟨_, List.getElem?_eq_getElem (by rw [HL.out]; exact hlt)⟩
      have cx := hc k x hx
      have HX := Lib.hid hx
      clear hc hx
      have eg := EG.out
      go_wp2_with fail
      refine (HF.out x (List.mem_of_getElem? HX.out) _ hbr).mono ?_
      rintro e w1 ⟨rfl, hb1⟩
      clear eg
      have hb2 := hbr.trans (hb1.mono hbr.size)
      cases hp : p x
      · have HP := Lib.hid hp
        clear hp
        go_wp2_with fail
        go_roundw
        case rel => exact ⟨k + 1, by omega, by go_num, none_take HN.out HX.out HP.out, hb2⟩
        case measure => simp [intOf]; omega
      · have HP := Lib.hid hp
        clear hp
        go_wp2_with fail
        go_ret
        exact ⟨.inl ⟨k, x, HX.out, find_at HN.out HX.out HP.out, rfl⟩, hb2⟩
    · go_wp2_with fail
      go_ret
      refine ⟨.inr ⟨List.find?_eq_none.2 fun y hy => ?_, rfl⟩, hbr⟩
      have := HN.out y (by rw [List.take_of_length_le (by rw [HL.out]; omega)]; exact hy)
      rw [this]; simp
end Go.Proofs.YtefcdclmabdmbaaGreatDoor

namespace Go.Proofs.YtefcdclmabdmbaaGreatDoor
open Go.RowKit

/-- The cells of numbers. -/
def nc (l : List Nat) : List Value := l.map fun x : Nat => Value.int .i64 (x : Int)
theorem nc_snoc (l : List Nat) (x : Nat) : nc (l ++ [x]) = nc l ++ [.int .i64 (x : Int)] := by simp [nc]
/-- The slice value v is a list of the call's own (memory from base on) that holds l. -/
def OwnN (w : World) (base : Nat) (v : Value) (l : List Nat) : Prop := w.ownsRow base 3 1 v l.length (nc l)
section
variable {w w' : World} {base : Nat} {v : Value} {l : List Nat}
theorem OwnN.nil (w : World) (base : Nat) : OwnN w base (.slice none 0 0) [] := World.ownsRow_nil _ _ _ _
theorem OwnN.slice (h : OwnN w base v l) : ∃ A c, v = .slice A l.length c ∧ l.length ≤ c ∧ c ≤ maxLen := own_slice h
theorem OwnN.below (h : OwnN w base v l) (hb : Below w.heap.size w w') : OwnN w' base v l := by
  refine ⟨h.1, ?_⟩
  rcases h.2 with h3 | ⟨g, cap, cur, e, h4, h5, h6⟩
  · exact .inl h3
  · exact .inr ⟨g, cap, cur, e, h4, (hb.block g (h.lt g (by rw [e]; rfl)).2).trans h5, h6⟩
/-- It stays as long as its own block does. -/
theorem OwnN.keep (h : OwnN w base v l) (hk : ∀ g, v.ownBlock = some g → w'.heap[g]? = w.heap[g]?) : OwnN w' base v l := by
  refine ⟨h.1, ?_⟩
  rcases h.2 with h3 | ⟨g, cap, cur, e, h4, h5, h6⟩
  · exact .inl h3
  · exact .inr ⟨g, cap, cur, e, h4, (hk g (by rw [e]; rfl)).trans h5, h6⟩
theorem OwnN.lt (h : OwnN w base v l) : ∀ k, v.ownBlock = some k → base ≤ k ∧ k < w.heap.size := World.ownsRow.lt h
theorem OwnN.il (h : OwnN w base v l) (hs : ∀ x ∈ l, x ≤ 1000000) : ∃ A c, v = .slice A l.length c ∧ Il w A l.length c (l.map fun x : Nat => (x : Int)) := by
  obtain ⟨A, c, rfl, h1, h2⟩ := h.slice
  have hm : (l.map fun x : Nat => (x : Int)).map (Value.int .i64) = nc l := by simp [nc]
  refine ⟨A, c, rfl, ⟨by simp, h1, h2, fun hn => ?_⟩, fun x hx => ?_⟩
  · obtain ⟨g, cap, e, _, _, _, _, hc⟩ := own_cells h hn
    injection e with e1 e2 e3
    subst e1
    exact ⟨g, 0, rfl, fun j u hu => by rw [hm] at hu; rw [Nat.zero_add]; exact hc j u hu⟩
  · obtain ⟨y, hy, rfl⟩ := List.mem_map.1 hx
    have := hs y hy
    omega
end

section
variable (w0 : World)
theorem info_int : (Tryz.prog.info? 3).map (fun i => (i.zero, i.size, i.bytes)) = some (some (.int .i64 0), 1, 8) := by kernel_rfl
/-- append(own, x) of one number that lies in a block made just before. -/
theorem wpList_pushN {ops : Array Oper} {rest : List Oper} {o : Oper} {a : Act} {Q : Exit → Act → World → Prop} (hgd : o.guard = none) (s x : Operand)
    (ho : o.op = .call { callee := .builtin .append, args := #[s, x], argTypes := #[55, 55] })
    (base : Nat) (v : Value) (l : List Nat) (hs : a.eval s = v) (hown : OwnN w0 base v l)
    (y : Nat) (k : Int) (hk : k = (y : Int)) (hx : a.eval x = .slice (some ⟨w0.heap.size, 0, none⟩) 1 1) (h63 : l.length + 1 ≤ 1000000000) (hbase : base ≤ w0.heap.size)
    (h : ∀ A' c' w', OwnN w' base (.slice A' (l.length + 1) c') (l ++ [y]) → w0.grownBy w' v.ownBlock → (Value.ownBlock (.slice A' (l.length + 1) c') = v.ownBlock ∨ ∃ b, Value.ownBlock (.slice A' (l.length + 1) c') = some b ∧ w0.heap.size ≤ b) → wpList Tryz.prog ops Q rest (a.put o.dst (.slice A' (l.length + 1) c')) w') :
    wpList Tryz.prog ops Q (o :: rest) a (w0.alloc (.cells #[.int .i64 k] 3)) := by
  subst hk
  refine wpList_app _ hgd s x 55 55 ho base 3 3 (.int .i64 0) 1 8 Tryz.underlying55 Tryz.underlying55 info_int rfl (by omega) v l.length (nc l) hs (World.ownsRow.alloc hown _) _ 1 1 [.int .i64 (y : Int)] hx (src_block (heap_alloc_new w0 _) 1 1 rfl) (by simp [Value.oneCell']) (by unfold maxLen; omega) (by omega) (by simp; omega) ?_
  intro v' w' hown' hg hob
  obtain ⟨A', c', rfl, _, _⟩ := own_slice hown'
  refine h A' c' w' ?_ (grownBy_trans (World.grownBy_alloc w0 _ _) hg) ?_
  · unfold OwnN; rw [nc_snoc, List.length_append]; exact hown'
  · rcases hob with h1 | h1
    · exact .inl h1
    · exact .inr ⟨_, h1, by simp⟩
end

/-- Block S is an array of lists: the lists R, each in a block of its own, from base on. -/
structure Rws (w : World) (base S : Nat) (R : List (List Nat)) (vs : List Value) : Prop where
  arr : Arr w S 55 vs
  len : vs.length = R.length
  own : ∀ (i : Nat) v l, vs[i]? = some v → R[i]? = some l → OwnN w base v l
  apart : ∀ (i j : Nat) vi vj b, vs[i]? = some vi → vs[j]? = some vj → vi.ownBlock = some b → vj.ownBlock = some b → i = j
  far : ∀ (i : Nat) v, vs[i]? = some v → v.ownBlock ≠ some S

theorem Rws.made {w : World} {S n base : Nat} (h : Arr w S 55 (madeCells (Value.slice none 0 0).cells (n * 1)).toList) : Rws w base S (List.replicate n []) (List.replicate n (.slice none 0 0)) := by
  have e := toList_madeCells_one (.slice none 0 0) n
  rw [Nat.mul_one] at h
  have hr : ∀ (i : Nat) v, (List.replicate n (Value.slice none 0 0))[i]? = some v → v = .slice none 0 0 := by
    intro i v hv
    rw [List.getElem?_replicate] at hv
    split at hv
    · injection hv with hv; exact hv.symm
    · cases hv
  refine ⟨by rwa [← e], by simp, fun i v l hv hl => ?_, fun i j vi vj b hi hj hb _ => ?_, fun i v hv => ?_⟩
  · rw [hr i v hv]
    rw [List.getElem?_replicate] at hl
    split at hl
    · injection hl with hl; subst hl; exact OwnN.nil _ _
    · cases hl
  · rw [hr i vi hi] at hb; cases hb
  · rw [hr i v hv]; intro h; cases h
theorem Rws.below {w w' : World} {base S : Nat} {R : List (List Nat)} {vs : List Value} (h : Rws w base S R vs) (hb : Below w.heap.size w w') : Rws w' base S R vs :=
  ⟨h.arr.below' hb, h.len, fun i v l hv hl => (h.own i v l hv hl).below hb, h.apart, h.far⟩

/-- One list has grown by one. -/
theorem Rws.push {w w' : World} {base S : Nat} {R : List (List Nat)} {vs : List Value} (h : Rws w base S R vs) {x y : Nat} {v v' : Value} (hv : vs[x]? = some v) (hg : w.grownBy w' v.ownBlock) (hown : OwnN w' base v' (gr R x ++ [y])) (hob : v'.ownBlock = v.ownBlock ∨ ∃ b, v'.ownBlock = some b ∧ w.heap.size ≤ b) :
    Arr w' S 55 vs ∧ Rws (w'.setCell ⟨S, x, none⟩ v') base S (R.set x (gr R x ++ [y])) (vs.set x v') := by
  have hxl := lt_of_some hv
  have ha : Arr w' S 55 vs := (hg.block S h.arr.lt (fun e => h.far x v hv e.symm)).trans h.arr
  have hlt : ∀ (i : Nat) u, vs[i]? = some u → ∀ b, u.ownBlock = some b → b < w.heap.size := by
    intro i u hu b hb
    have hi := lt_of_some hu
    exact ((h.own i u _ hu (List.getElem?_eq_getElem (by rw [← h.len]; exact hi))).lt b hb).2
  have hfar : v'.ownBlock ≠ some S := by
    rcases hob with e | ⟨b, e, hb⟩
    · rw [e]; exact h.far x v hv
    · rw [e]; intro e2; injection e2 with e2; have := h.arr.lt; omega
  have hset : ∀ b, b ≠ S → (w'.setCell ⟨S, x, none⟩ v').heap[b]? = w'.heap[b]? := fun b hb => Below.heap_setCell _ _ _ _ hb
  refine ⟨ha, ha.set_ x v', by simp [h.len], ?_, ?_, ?_⟩
  · intro i u l hu hl
    rw [List.getElem?_set] at hu hl
    by_cases hi : x = i
    · subst hi
      rw [if_pos rfl, if_pos hxl] at hu
      rw [if_pos rfl, if_pos (by rw [← h.len]; exact hxl)] at hl
      injection hu with hu
      injection hl with hl
      subst hu hl
      exact hown.keep fun g hg2 => hset g (fun e => hfar (by rw [hg2, e]))
    · rw [if_neg hi] at hu hl
      refine (h.own i u l hu hl).keep fun g hg2 => ?_
      rw [hset g (fun e => h.far i u hu (by rw [hg2, e]))]
      exact hg.block g (hlt i u hu g hg2) (fun e => hi (h.apart x i v u g hv hu e.symm hg2))
  · intro i j vi vj b hi hj hbi hbj
    rw [List.getElem?_set] at hi hj
    by_cases ei : x = i
    · by_cases ej : x = j
      · omega
      · subst ei
        rw [if_pos rfl, if_pos hxl] at hi
        rw [if_neg ej] at hj
        injection hi with hi
        subst hi
        rcases hob with e | ⟨b2, e, hb2⟩
        · exact h.apart x j v vj b hv hj (by rw [← e]; exact hbi) hbj
        · rw [e] at hbi
          injection hbi with hbi
          have := hlt j vj hj b hbj
          omega
    · rw [if_neg ei] at hi
      by_cases ej : x = j
      · subst ej
        rw [if_pos rfl, if_pos hxl] at hj
        injection hj with hj
        subst hj
        rcases hob with e | ⟨b2, e, hb2⟩
        · exact h.apart i x vi v b hi hv hbi (by rw [← e]; exact hbj)
        · rw [e] at hbj
          injection hbj with hbj
          have := hlt i vi hi b hbi
          omega
      · rw [if_neg ej] at hj
        exact h.apart i j vi vj b hi hj hbi hbj
  · intro i u hu
    rw [List.getElem?_set] at hu
    by_cases hi : x = i
    · subst hi
      rw [if_pos rfl, if_pos hxl] at hu
      injection hu with hu
      subst hu
      exact hfar
    · rw [if_neg hi] at hu
      exact h.far i u hu

/-- As a list of lists. -/
theorem Rws.gl {w : World} {base S : Nat} {R : List (List Nat)} {vs : List Value} (h : Rws w base S R vs) (hs : ∀ l ∈ R, ∀ x ∈ l, x ≤ 1000000) (hn : R.length ≤ 1000000) : Gl w (some ⟨S, 0, none⟩) R.length R.length (toI R) := by
  refine ⟨vs, ⟨h.len, Nat.le_refl _, by unfold maxLen; omega, fun _ => ⟨S, 0, rfl, fun j u hu => by rw [Nat.zero_add, h.arr.cell]; exact hu⟩⟩, by rw [toI_length, h.len], fun i v l hv hl => ?_⟩
  unfold toI at hl
  rw [List.getElem?_map] at hl
  cases hr : R[i]? with
  | none => rw [hr] at hl; cases hl
  | some r =>
    rw [hr] at hl
    injection hl with hl
    subst hl
    obtain ⟨A, c, e, hil⟩ := (h.own i v r hv hr).il (hs r (List.mem_of_getElem? hr))
    exact ⟨A, c, by rw [List.length_map]; exact e, by rw [List.length_map]; exact hil⟩
theorem Rws.at {w : World} {base S : Nat} {R : List (List Nat)} {vs : List Value} (h : Rws w base S R vs) {x : Nat} (hx : x < R.length) : ∃ v A c, vs[x]? = some v ∧ v = .slice A (gr R x).length c ∧ (gr R x).length ≤ c ∧ c ≤ maxLen ∧ OwnN w base v (gr R x) ∧ w.cell? ⟨S, x, none⟩ = some v ∧ w.frozen? ⟨S, x, none⟩ = false := by
  obtain ⟨v, hv⟩ : ∃ v, vs[x]? = some v := ⟨_, List.getElem?_eq_getElem (by rw [h.len]; exact hx)⟩
  have ho := h.own x v _ hv (gr_lt hx)
  obtain ⟨A, c, e, h1, h2⟩ := ho.slice
  exact ⟨v, A, c, hv, e, h1, h2, ho, by rw [h.arr.cell]; exact hv, h.arr.frozen x⟩
end Go.Proofs.YtefcdclmabdmbaaGreatDoor

namespace Go.Proofs.YtefcdclmabdmbaaGreatDoor
open Go.RowKit

set_option maxHeartbeats 1000000 in
set_option maxRecDepth 100000 in
/-- The function that Path hands to IndexFunc. -/
theorem path1_any {W : World} {U B G n x y : Nat} {l : List Int} (hU : W.cell? ⟨U, 0, none⟩ = some (.slice (some ⟨G, 0, none⟩) n n)) (hB : W.cell? ⟨B, 0, none⟩ = some (.int .i64 (y : Nat))) (hG : NArr W G l) (hl : l.length = n)
    (hs : ∀ v, v < n → -1 ≤ l.getD v 0 ∧ l.getD v 0 ≤ 100000) (hx : x < n) (hy : y < n) :
    Calls Tryz.prog 96 #[.int .i64 (x : Nat), .pointer (some ⟨U, 0, none⟩), .pointer (some ⟨B, 0, none⟩)] W fun e W' => e = .returned (.bool (l.getD x 0 == l.getD y 0 - 1)) ∧ Below W.heap.size W W' := by
  have cx := hG.cell (i := x) (by omega)
  have cy := hG.cell (i := y) (by omega)
  have h1 := hs x hx
  have h2 := hs y hy
  have hxi : (x : Int) < (n : Int) := by omega
  have hyi : (y : Int) < (n : Int) := by omega
  generalize l.getD x 0 = u at *
  generalize l.getD y 0 = z at *
  clear hs hl hG
  have hw : IntKind.i64.wrap (z - 1) = z - 1 := IntWalk.i64_in _ (by omega)
  go_enter Tryz.func96, Tryz.ntmps96
  go_wp2_with fail
  go_quiet (fail)
  go_wp2_with fail
  go_ret
  exact ⟨rfl, below_drewN' (Below.refl _ _) _⟩

end Go.Proofs.YtefcdclmabdmbaaGreatDoor

namespace Go.Proofs.YtefcdclmabdmbaaGreatDoor
open Go.RowKit

/-- How far each vertex is from t. -/
noncomputable def far (E : List (List Nat)) (t v : Nat) : Int := (dd (bks E E.length) t).getD v 0
theorem far_to {E : List (List Nat)} (hE : Valid E) {t : Nat} (ht : t < E.length) : To E t (far E t) := by
  intro v hv
  have hT := bks_turned hE
  have hd := dd_is hT.valid (show t < (bks E E.length).length by rw [hT.1]; exact ht)
  exact hT.dist (hd.2 v (by rw [hT.1]; exact hv))
theorem far_small {E : List (List Nat)} (hE : Valid E) {t v : Nat} (ht : t < E.length) (hv : v < E.length) : -1 ≤ far E t v ∧ far E t v < E.length := by
  have hT := bks_turned hE
  have hd := dd_is hT.valid (show t < (bks E E.length).length by rw [hT.1]; exact ht)
  have := (hd.2 v (by rw [hT.1]; exact hv)).small hT.valid (by rw [hT.1]; exact ht)
  rw [hT.1] at this
  exact this
theorem bk_len_le {R : List (List Nat)} {i M : Nat} (l : List Nat) (h : ∀ v, (gr R v).length ≤ M) : ∀ v, (gr (bk R i l) v).length ≤ M + l.length := by
  induction l generalizing R M with
  | nil => intro v; exact h v
  | cons x r ih =>
    intro v
    show (gr (bk (R.set x (gr R x ++ [i])) i r) v).length ≤ _
    have := ih (R := R.set x (gr R x ++ [i])) (M := M + 1) (fun u => by
      rcases Nat.lt_or_ge x R.length with hx | hx
      · rw [gr_set hx]
        split
        · rw [List.length_append]; have := h x; simp; omega
        · have := h u; omega
      · rw [List.set_eq_of_length_le hx]; have := h u; omega) v
    simp only [List.length_cons]
    omega
theorem bks_len_le {E : List (List Nat)} (hd : ∀ v, (gr E v).length ≤ 400) : ∀ k v, (gr (bks E k) v).length ≤ k * 400 := by
  intro k
  induction k with
  | zero => intro v; simp only [bks, gr, List.getD, List.getElem?_replicate]; split <;> simp
  | succ k ih =>
    intro v
    rw [bks]
    have := bk_len_le (i := k) (gr E k) ih v
    have := hd k
    omega
theorem gr_rows {R : List (List Nat)} {l : List Nat} (h : l ∈ R) : ∃ v, v < R.length ∧ l = gr R v := by
  obtain ⟨i, hi, hi2⟩ := mem_getElem h
  refine ⟨i, hi, ?_⟩
  rw [gr_lt hi] at hi2
  injection hi2 with hi2
  exact hi2.symm

def PathR (w : World) (E : List (List Nat)) (a t : Nat) (e : Ending) (w' : World) : Prop :=
  ((far E t a < 0 ∧ e = .returned (.tuple #[.slice none 0 0, .int .i64 12])) ∨
    (0 ≤ far E t a ∧ ∃ A c, e = .returned (.tuple #[.slice A ((far E t a).toNat + 1) c, .int .i64 0]) ∧ Il w' A ((far E t a).toNat + 1) c ((pth E (far E t) a (far E t a).toNat).map fun x : Nat => (x : Int)))) ∧ Below w.heap.size w w'

theorem has_yes {w : World} {v : Value} {names : List ByteArray} {E : List (List Int)} (h : GrV w v names E) {z : Nat} (hz : z < names.length) :
    Calls Tryz.prog 94 #[v, .int .i64 (z : Nat)] w fun e w' => e = .returned (.bool true) ∧ Below w.heap.size w w' := by
  refine (has_any h (z : Nat)).mono ?_
  rintro e w' ⟨rfl, hb⟩
  have e : hasB names.length ((z : Nat) : Int) = true := by unfold hasB; simp; exact hz
  exact ⟨by rw [e], hb⟩

def slLen : Value → Nat | .slice _ n _ => n | _ => 0

/-- The boxes of Path's last loop. -/
theorem pbox (w5 : World) (sv : Value) (a : Nat) : ∃ w6 w8 Bd, w6 = w5.alloc (.cells #[sv] 55) ∧ w8 = ((w5.alloc (.cells #[sv] 55)).alloc (.cells #[.int .i64 (a : Nat)] 3)).alloc (.cells #[.int .i64 (a : Nat)] 3) ∧ Bd = w5.heap.size + 1 ∧
    Below w5.heap.size w5 w6 ∧ w6.cell? ⟨w5.heap.size, 0, none⟩ = some sv ∧ w6.heap.size = Bd ∧ OwnN w8 Bd (.slice (some ⟨Bd, 0, none⟩) 1 1) [a] ∧ Arr w8 (Bd + 1) 3 [.int .i64 (a : Nat)] ∧ Below Bd w6 w8 := by
  have hs6 : (w5.alloc (.cells #[sv] 55)).heap.size = w5.heap.size + 1 := by simp
  have hs7 : ((w5.alloc (.cells #[sv] 55)).alloc (.cells #[.int .i64 (a : Nat)] 3)).heap.size = w5.heap.size + 1 + 1 := by simp
  have h7 := heap_alloc_new (w5.alloc (.cells #[sv] 55)) (.cells #[.int .i64 (a : Nat)] 3)
  have h8 := heap_alloc_new ((w5.alloc (.cells #[sv] 55)).alloc (.cells #[.int .i64 (a : Nat)] 3)) (.cells #[.int .i64 (a : Nat)] 3)
  refine ⟨_, _, _, rfl, rfl, rfl, (Below.refl _ _).alloc (Nat.le_refl _) _, by go_simp, hs6, ?_, ?_, ?_⟩
  · refine ⟨rfl, .inr ⟨_, 1, #[.int .i64 (a : Nat)], rfl, Nat.le_refl _, ?_, Nat.le_refl _, by unfold maxLen; omega, rfl, rfl⟩⟩
    rw [Below.heap_alloc _ _ _ (by rw [hs7]; omega), ← hs6]
    exact h7
  · rw [hs7] at h8
    exact h8
  · exact ((Below.refl _ _).alloc (by rw [hs6]; exact Nat.le_refl _) _).alloc (by rw [hs7]; omega) _
theorem find_cast {l : List Nat} {p : Int → Bool} : (l.map fun x : Nat => (x : Int)).find? p = (l.find? fun x : Nat => p (x : Int)).map fun x : Nat => (x : Int) := by
  rw [List.find?_map]; rfl

set_option maxHeartbeats 4000000 in
set_option maxRecDepth 100000 in
theorem Path_ok {w : World} {v : Value} {names : List ByteArray} {E : List (List Nat)} (h : GrV w v names (toI E)) (hc : chk names (toI E) = 0) (hk : Ok names E) {a t : Nat} (ha : a < E.length) (ht : t < E.length) :
    Calls Tryz.prog 28 #[v, .int .i64 (a : Nat), .int .i64 (t : Nat)] w (PathR w E a t) := by
  have HC := Lib.hid (fun w' hb => Check_any (h.at w' hb))
  rw [hc] at HC
  have HH := Lib.hid (fun w' hb (z : Nat) (hz : z < E.length) => has_yes (h.at w' hb) (show z < names.length by rw [hk.len]; exact hz))
  have hsm := hk.small
  obtain ⟨A, c, A', c', rfl, hs, hg⟩ := h
  rw [toI_length] at *
  obtain ⟨W, G, hW, hG, hbW, c0, c1, hGl, hwG⟩ := gbox w (.slice A names.length c) (.slice A' E.length c')
  replace hg := hg.below hbW
  have hr := hg.room
  unfold maxLen at hr
  have HW := Lib.hid hW
  have HG := Lib.hid hG
  have HK := Lib.hid hk
  clear hW hG hc hk hs
  go_enter Tryz.func28, Tryz.ntmps28
  go_wp2_with (first | (go_at_call 83; rw [← HW.out, ← HG.out]; refine (HC.out _ hbW).mono ?_; rintro e w1 ⟨rfl, hb1⟩; have hb2 := hbW.trans (hb1.mono hbW.size); have d0 := ((bcell hb1).1 _ 0 hGl).trans c0; have d1 := ((bcell hb1).1 _ 1 hGl).trans c1; have hGl2 := Nat.lt_of_lt_of_le hGl hb1.size))
  refine (HH.out _ hb2 a ha).mono ?_
  rintro e w2 ⟨rfl, hb3⟩
  have hb4 := hb2.trans (hb3.mono hb2.size)
  have e0 := ((bcell hb3).1 _ 0 hGl2).trans d0
  have e1 := ((bcell hb3).1 _ 1 hGl2).trans d1
  have hGl3 := Nat.lt_of_lt_of_le hGl2 hb3.size
  go_wp2_with fail
  refine (HH.out _ hb4 t ht).mono ?_
  rintro e w3 ⟨rfl, hb5⟩
  have hb6 := hb4.trans (hb5.mono hb4.size)
  have f1 := ((bcell hb5).1 _ 1 hGl3).trans e1
  have hGl4 := Nat.lt_of_lt_of_le hGl3 hb5.size
  have hbW3 : Below W.heap.size W w3 := (hb1.trans (hb3.mono hb1.size)).trans (hb5.mono (Nat.le_trans hb1.size hb3.size))
  replace hg := hg.below hbW3
  clear hb1 hb2 hb3 hb4 hb5 d0 d1 e0 e1 hGl2 hGl3 c0 c1 HH HC hbW3
  obtain ⟨S, hS⟩ : ∃ S, S = w3.heap.size := ⟨_, rfl⟩
  have HS := Lib.hid hS
  have hSW : w3.heap.size ≤ S := by omega
  have hGS : G < S := by omega
  clear hS
  go_wp2_with (refine wpList_make_arr _ rfl _ _ 23 rfl 55 (.slice none 0 0) 1 24 Tryz.underlying23 (by kernel_rfl) _ _ _ _ E.length rfl rfl rfl rfl (by omega) (by omega) ?_; rw [← HS.out]; intro w4 har hb7 hs4; have hrw := Rws.made (base := S) har; have HRW := Lib.hid hrw; have f2 := (hb7.cell (p := ⟨G, 1, none⟩) hGS).trans f1; clear har hrw hs4)
  go_loopw [40] (fun i wr => ∃ (k : Nat) (vs : List Value), k ≤ E.length ∧ i = .int .i64 (k : Nat) ∧ Rws wr S S (bks E k) vs ∧ Below S w3 wr) (fun i _ => E.length - (intOf i).toNat)
  case atStart => exact ⟨0, _, Nat.zero_le _, rfl, HRW.out, hb7⟩
  case round =>
    clear HRW hb7 f2 w4
    obtain ⟨k, vs, hkl, rfl, hrw, hbr⟩ := hrel
    by_cases hlt : k < E.length
    · have hb3 : ∀ w', Below S w3 w' → Below w3.heap.size w3 w' := fun w' hb => by rw [← HS.out]; exact hb
      obtain ⟨b, off, A2, c2, rfl, hrow3, hr1, hr2, hil3⟩ := hg.row hlt
      have hrow := ((bcell (hb3 _ hbr)).1 _ _ (cell_some_lt hrow3)).trans hrow3
      have HB3 := Lib.hid hb3
      clear hb3 hrow3
      have hki : (k : Int) < (E.length : Int) := by omega
      go_wp2_with fail
      obtain ⟨wo, hwo⟩ : ∃ wo : World, wo = wr := ⟨_, rfl⟩
      rw [← hwo] at hbr hrow hrw ⊢
      clear hwo wr
      go_loopw [47] (fun i wr => ∃ (j : Nat) (vs : List Value), j ≤ (gr E k).length ∧ i = .int .i64 (j : Nat) ∧ Rws wr S S (bk (bks E k) k ((gr E k).take j)) vs ∧ Below S w3 wr) (fun i _ => (gr E k).length - (intOf i).toNat)
      case atStart => exact ⟨0, vs, Nat.zero_le _, rfl, hrw, hbr⟩
      case round =>
        clear hrow hrw hbr
        obtain ⟨j, vs, hjl, rfl, hrw, hbr⟩ := hrel
        by_cases hjt : j < (gr E k).length
        · obtain ⟨x, hx⟩ : ∃ x, (gr E k)[j]? = some x := ⟨_, List.getElem?_eq_getElem hjt⟩
          have hxl : x < E.length := HK.out.valid k hlt x (List.mem_of_getElem? hx)
          obtain ⟨b3, off3, rfl, hcx⟩ := (hil3.below (HB3.out _ hbr)).num hx
          have et : bk (bks E k) k ((gr E k).take (j + 1)) = (bk (bks E k) k ((gr E k).take j)).set x (gr (bk (bks E k) k ((gr E k).take j)) x ++ [k]) := by rw [List.take_add_one, hx]; exact bk_snoc _ _ _ _
          have hRl : (bk (bks E k) k ((gr E k).take j)).length = E.length := by rw [bk_length, bks_length]
          have hll : (gr (bk (bks E k) k ((gr E k).take j)) x).length ≤ 2000000 := by
            have h1 := bk_len_le (i := k) ((gr E k).take j) (bks_len_le HK.out.deg k) x
            have h2 := HK.out.deg k
            rw [List.length_take] at h1
            omega
          have HT := Lib.hid et
          have HRL := Lib.hid hRl
          clear et hx hRl
          generalize bk (bks E k) k ((gr E k).take j) = R at *
          obtain ⟨u, A4, c4, hu, rfl, hu1, hu2, hou, hcu, hfu⟩ := hrw.at (x := x) (by rw [HRL.out]; exact hxl)
          unfold maxLen at hu2
          have hxi : (x : Int) < (E.length : Int) := by omega
          have HU := Lib.hid hu
          clear hu
          go_wp2_with (at_builtin; go_must (refine wpList_pushN wr (by rfl) _ _ (by rfl) S _ (gr R x) (by rfl) hou k _ (by rfl) (by rfl) (by omega) (by have := hbr.size; have := HS.out; omega) ?_); intro A5 c5 w6 hown6 hg6 hob6; obtain ⟨har6, hrw6⟩ := hrw.push HU.out hg6 hown6 hob6; have hc6 := (har6.cell x).trans HU.out; have hf6 := har6.frozen x)
          have hb6' : Below S w3 w6 := hbr.grown hg6 (by rw [HS.out]; exact hbr.size) (fun q hq => (hou.lt q hq).1)
          go_roundw
          case rel => exact ⟨j + 1, _, by omega, by go_num, by rw [HT.out]; exact hrw6, hb6'.setCell (p := ⟨S, x, none⟩) (Nat.le_refl _) _⟩
          case measure => simp [intOf]; omega
        · obtain rfl : j = (gr E k).length := by omega
          rw [List.take_length] at hrw
          go_wp2_with fail
          go_roundw
          case rel => exact ⟨k + 1, vs, by omega, by go_num, hrw, hbr⟩
          case measure => simp [intOf]; omega
    · obtain rfl : k = E.length := by omega
      have hT := bks_turned HK.out.valid
      have hRl := hT.1
      have hgR := hrw.gl (fun l hl x hx => by
        obtain ⟨q, hq, e⟩ := gr_rows hl
        rw [e] at hx
        have := gr_mem ((hT.2 x q).1 hx)
        omega) (by rw [hRl]; omega)
      have hds := distances_any hT.valid (by rw [hRl]; exact hsm) (show t < (bks E E.length).length by rw [hRl]; exact ht) hgR
      rw [hRl] at hds
      have HDS := Lib.hid hds
      have hdl : (dd (bks E E.length) t).length = E.length := (dd_is hT.valid (show t < (bks E E.length).length by rw [hRl]; exact ht)).1.trans hRl
      have HDL := Lib.hid hdl
      clear hT hRl hgR hds hdl
      go_wp2_with fail
      refine HDS.out.mono ?_
      rintro e w5 ⟨v5, rfl, ⟨G5, hg5, rfl, hn5⟩, hb5⟩
      have hb8 : Below S w3 w5 := hbr.trans (hb5.mono (by rw [HS.out]; exact hbr.size))
      have hg5l := Arr.lt hn5
      have e1 : (bks E E.length).length = E.length := bks_length _ _
      rw [e1]
      clear e1
      obtain ⟨U, hU⟩ : ∃ U, U = w5.heap.size := ⟨_, rfl⟩
      have hfa := far_small HK.out.valid ht ha
      have hca := hn5.cell (i := a) (by rw [HDL.out]; exact ha)
      have hfd : (dd (bks E E.length) t).getD a 0 = far E t a := rfl
      rw [hfd] at hca
      have hai : (a : Int) < (E.length : Int) := by omega
      clear hfd
      obtain ⟨d, hd⟩ : ∃ d, d = far E t a := ⟨_, rfl⟩
      rw [← hd] at hca hfa
      have HD := Lib.hid hd
      have HU := Lib.hid hU
      clear hd hU HDS
      by_cases hneg : d < 0
      · go_wp2_with fail
        go_ret2
        refine ⟨.inl ⟨by rw [← HD.out]; exact hneg, rfl⟩, ?_⟩
        exact (hb6.trans (hb8.mono (by rw [HS.out]; exact hb6.size))).alloc (Nat.le_trans hb6.size hb8.size) _
      · obtain ⟨m, rfl⟩ := Int.eq_ofNat_of_zero_le (show 0 ≤ d by omega)
        obtain ⟨w6, w8, Bd, hw6, hw8, hBd, hb9, hU6, hs6, hown8, har8, hb10⟩ := pbox w5 (.slice (some ⟨G5, 0, none⟩) E.length E.length) a
        go_wp2_with fail
        rw [← hw8, ← hBd]
        rw [← HU.out] at hBd hU6 hb9 ⊢
        have hf6 := (hb9.cell (p := ⟨G, 1, none⟩) (show G < U by have := hb8.size; have := HU.out; omega)).trans ((hb8.cell (p := ⟨G, 1, none⟩) hGS).trans f1)
        have hb11 : Below w3.heap.size w3 w6 := by have h1 := hb9; rw [HU.out] at h1; exact (hb8.mono (by rw [HS.out]; exact Nat.le_refl _)).trans (h1.mono (by have := hb8.size; exact this))
        have hn6 : NArr w6 G5 (dd (bks E E.length) t) := Arr.below hn5 hb9 (by rw [HU.out]; exact hg5l)
        have hGB : G < Bd := by rw [← hs6]; exact cell_some_lt hf6
        have hUB : U < Bd := by omega
        have hG5B : G5 < Bd := by rw [← hs6]; exact Arr.lt hn6
        have h3B : w3.heap.size ≤ Bd := by have := hb11.size; omega
        have HB11 := Lib.hid hb11
        have HS6 := Lib.hid hs6
        have hto := far_to HK.out.valid ht
        have hit := hto.it HK.out.valid ha HD.out.symm
        have hend := fun k (hk : k ≤ m) => hto.end_iff HK.out.valid ha HD.out.symm hk
        have hnx := fun v (hv : v < E.length) hp => hto.nx HK.out.valid hv hp
        have HIT := Lib.hid hit
        have HEND := Lib.hid hend
        have HNX := Lib.hid hnx
        have HFS := Lib.hid (fun v (hv : v < E.length) => far_small HK.out.valid ht hv)
        have eg := enters_of Tryz.func96 (by kernel_rfl) rfl
        have EG := Lib.hid eg
        clear hw6 hw8 hBd hs6 hto hit hend hnx eg hca hg5 hrw hbr hb5 hn5 hb8 f1 hb9 hg5l hb11
        go_loopw [15, 16] (fun o p wr => ∃ (k B : Nat), k ≤ m ∧ OwnN wr Bd o (pth E (far E t) a k) ∧ p = .pointer (some ⟨B, 0, none⟩) ∧ Arr wr B 3 [.int .i64 (it E (far E t) a k : Nat)] ∧ o.ownBlock ≠ some B ∧ Bd ≤ B ∧ Below Bd w6 wr) (fun o _ _ => m + 1 - slLen o)
        case atStart => exact ⟨0, Bd + 1, Nat.zero_le _, hown8, rfl, har8, (by simp [Value.ownBlock]), by omega, hb10⟩
        case round =>
          clear hown8 har8 hb10
          obtain ⟨k, B, hkm, hown, rfl, harB, hoB, hBB, hbr⟩ := hrel
          obtain ⟨hyl, hyd⟩ := HIT.out k hkm
          have hye := HEND.out k hkm
          obtain ⟨y, hy⟩ : ∃ y, it E (far E t) a k = y := ⟨_, rfl⟩
          rw [hy] at harB hyl hyd hye
          have hcB := harB.cell 0
          simp only [List.getElem?_cons_zero] at hcB
          have hfB := harB.frozen 0
          have hBl := harB.lt
          have HY := Lib.hid hy
          have HYD := Lib.hid hyd
          have HYE := Lib.hid hye
          clear hy hyd hye
          have hg1 := (hbr.cell (p := ⟨G, 1, none⟩) hGB).trans hf6
          by_cases hkt : k = m
          · have hyt : ((y : Int) != (t : Int)) = false := by rw [HYE.out.2 hkt]; simp
            go_wp2_with fail
            go_ret2
            obtain ⟨A7, c7, e7, hil7⟩ := hown.il (fun x hx => by
              obtain ⟨q, hq, rfl⟩ := List.mem_map.1 hx
              have h1 : q ≤ k := by have := List.mem_range.1 hq; omega
              have := (HIT.out q (by omega)).1
              omega)
            have hpl : (pth E (far E t) a k).length = m + 1 := by rw [pth_length, hkt]
            refine ⟨.inr ⟨by rw [← HD.out]; omega, A7, c7, ?_, ?_⟩, ?_⟩
            · rw [e7, hpl, ← HD.out]; simp
            · rw [hpl] at hil7
              rw [← HD.out, Int.toNat_natCast, ← hkt]
              rw [← hkt] at hil7
              exact hil7
            · exact hb6.trans ((HB11.out.mono hb6.size).trans (hbr.mono (Nat.le_trans hb6.size h3B)))
          · have hyt : ((y : Int) != (t : Int)) = true := by
              rw [bne_iff_ne]
              intro e
              exact hkt (HYE.out.1 (by omega))
            obtain ⟨b2, off2, A2, c2, rfl, hrow3, hr1, hr2, hil3⟩ := hg.row hyl
            have hrow := (hbr.cell (p := ⟨b2, off2 + y, none⟩) (Nat.lt_of_lt_of_le (cell_some_lt hrow3) h3B)).trans ((HB11.out.cell (p := ⟨b2, off2 + y, none⟩) (cell_some_lt hrow3)).trans hrow3)
            have hb3r : Below w3.heap.size w3 wr := HB11.out.trans (hbr.mono h3B)
            have hil := hil3.below hb3r
            have hnr : NArr wr G5 (dd (bks E E.length) t) := Arr.below hn6 hbr hG5B
            have hUr := (hbr.cell (p := ⟨U, 0, none⟩) hUB).trans hU6
            have hask : Asks wr 96 #[.pointer (some ⟨U, 0, none⟩), .pointer (some ⟨B, 0, none⟩)] ((gr E y).map fun x : Nat => (x : Int)) (fun x => far E t x.toNat == far E t y - 1) := by
              intro x hx W' hb
              obtain ⟨x0, hx0, rfl⟩ := List.mem_map.1 hx
              have hx0l : x0 < E.length := HK.out.valid y hyl x0 hx0
              simp only [Int.toNat_natCast]
              exact path1_any ((hb.cell (p := ⟨U, 0, none⟩) (cell_some_lt hUr)).trans hUr) ((hb.cell (p := ⟨B, 0, none⟩) hBl).trans hcB) (hnr.below hb) HDL.out (fun q hq => by have := HFS.out q hq; unfold far at this; omega) hx0l hyl
            obtain ⟨hn1, hn2, hn3, hn4⟩ := HNX.out y hyl (by rw [HYD.out]; omega)
            obtain ⟨z, hz⟩ : ∃ z, nx E (far E t) y = z := ⟨_, rfl⟩
            rw [hz] at hn1 hn2 hn3 hn4
            have hfind : ((gr E y).map fun x : Nat => (x : Int)).find? (fun x => far E t x.toNat == far E t y - 1) = some (z : Int) := by
              rw [find_cast]
              simp only [Int.toNat_natCast]
              rw [hn1]; rfl
            have hitz : it E (far E t) a (k + 1) = z := by rw [← hz, ← HY.out]; rfl
            have HASK := Lib.hid hask
            have HFIND := Lib.hid hfind
            have HITZ := Lib.hid hitz
            clear hask hfind hitz hn1 hn4 hz hil3 hrow3
            have hyi : (y : Int) < (E.length : Int) := by omega
            go_wp2_with fail
            refine (IndexFunc_any hil HASK.out EG.out).mono ?_
            rintro e w7 ⟨⟨i, z', hi1, hi2, rfl⟩ | ⟨hi2, rfl⟩, hb7⟩
            · have hzz : z' = (z : Int) := Option.some.inj (hi2.symm.trans HFIND.out)
              subst hzz
              have hil7 : (gr E y)[i]? = some z := by
                rw [List.getElem?_map] at hi1
                cases hq : (gr E y)[i]? with
                | none => rw [hq] at hi1; cases hi1
                | some q => rw [hq] at hi1; simp at hi1; rw [show q = z by omega]
              have hig := lt_of_some hil7
              obtain ⟨b3, off3, rfl, hcz⟩ := (hil.below hb7).num hil7
              clear hi1 hi2 hil7
              have g1 := (hb7.cell (p := ⟨G, 1, none⟩) (cell_some_lt hg1)).trans hg1
              have gB := (hb7.cell (p := ⟨B, 0, none⟩) hBl).trans hcB
              have fB := (hb7.frozen (p := ⟨B, 0, none⟩) hBl).trans hfB
              have grow := (hb7.cell (p := ⟨b2, off2 + y, none⟩) (cell_some_lt hrow)).trans hrow
              have hB7 : B < w7.heap.size := Nat.lt_of_lt_of_le hBl hb7.size
              have hii : (i : Int) < ((gr E y).length : Int) := by omega
              have hown7 : OwnN ((w7.setCell ⟨B, 0, none⟩ (.int .i64 (z : Nat))).alloc (.cells #[.int .i64 (z : Nat)] 3)) Bd u15 (pth E (far E t) a k) := by
                have h1 := hown.below hb7
                refine h1.keep fun g hg2 => ?_
                have hgl := (h1.lt g hg2).2
                rw [Below.heap_alloc _ _ _ (by simpa [World.setCell] using hgl)]
                exact Below.heap_setCell _ _ _ _ (fun e => hoB (by rw [hg2]; exact congrArg some e))
              have hsz9 : ((w7.setCell ⟨B, 0, none⟩ (.int .i64 (z : Nat))).alloc (.cells #[.int .i64 (z : Nat)] 3)).heap.size = w7.heap.size + 1 := by simp [World.setCell]
              have harN : Arr ((w7.setCell ⟨B, 0, none⟩ (.int .i64 (z : Nat))).alloc (.cells #[.int .i64 (z : Nat)] 3)) w7.heap.size 3 [.int .i64 (z : Nat)] := by
                have h1 := heap_alloc_new (w7.setCell ⟨B, 0, none⟩ (.int .i64 (z : Nat))) (.cells #[.int .i64 (z : Nat)] 3)
                have h2 : (w7.setCell ⟨B, 0, none⟩ (.int .i64 (z : Nat))).heap.size = w7.heap.size := by simp [World.setCell]
                rw [h2] at h1
                exact h1
              have hbr7 : Below Bd w6 w7 := hbr.trans (hb7.mono (by rw [← HS6.out]; exact hbr.size))
              have hB7' : Bd ≤ w7.heap.size := by rw [← HS6.out]; exact hbr7.size
              have hb9 : Below Bd w6 ((w7.setCell ⟨B, 0, none⟩ (.int .i64 (z : Nat))).alloc (.cells #[.int .i64 (z : Nat)] 3)) := (hbr7.setCell (p := ⟨B, 0, none⟩) hBB _).alloc (by simp [World.setCell]; exact hB7') _
              have hplk := pth_length E (far E t) a k
              have HPLK := Lib.hid hplk
              obtain ⟨A15, c15, rfl, hc15, hm15⟩ := hown.slice
              unfold maxLen at hm15
              have HEN := Lib.hid (fun b h => (hown7.lt b h).2)
              have hps := pth_succ E (far E t) a k
              rw [HITZ.out] at hps
              have HPS := Lib.hid hps
              clear hplk hps
              go_wp2_with (at_builtin; go_must (refine wpList_pushN ((w7.setCell ⟨B, 0, none⟩ (.int .i64 (z : Nat))).alloc (.cells #[.int .i64 (z : Nat)] 3)) (by rfl) _ _ (by rfl) Bd _ (pth E (far E t) a k) (by rfl) hown7 z _ (by rfl) (by rw [hsz9]; rfl) (by rw [HPLK.out]; omega) (by rw [hsz9]; omega) ?_); intro A8 c8 w9 hown9 hg9 hob9)
              have harB9 : Arr w9 w7.heap.size 3 [.int .i64 (z : Nat)] := by
                refine (hg9.block w7.heap.size (by rw [hsz9]; omega) (fun e => ?_)).trans harN
                have := (hown.below hb7).lt _ e.symm
                omega
              have hb12 : Below Bd w6 w9 := hb9.grown hg9 (by rw [hsz9]; omega) (fun q hq => (hown7.lt q hq).1)
              have hne9 : Value.ownBlock (.slice A8 ((pth E (far E t) a k).length + 1) c8) ≠ some w7.heap.size := by
                rcases hob9 with e | ⟨b, e, hb⟩
                · rw [e]
                  intro e2
                  have := (hown.below hb7).lt _ e2
                  omega
                · rw [e]
                  intro e2
                  injection e2 with e2
                  rw [hsz9] at hb
                  omega
              go_roundw
              case rel => exact ⟨k + 1, w7.heap.size, by omega, by rw [HPS.out]; exact hown9, rfl, by rw [HITZ.out]; exact harB9, hne9, hB7', hb12⟩
              case measure =>
                have := HPLK.out
                simp only [slLen]
                omega
            · rw [HFIND.out] at hi2; cases hi2
end Go.Proofs.YtefcdclmabdmbaaGreatDoor

namespace Go.Proofs.YtefcdclmabdmbaaGreatDoor
open Go.RowKit

/-- The element of a list of integers, 0 behind its end. -/
def gz (l : List Int) (j : Nat) : Int := l.getD j 0
theorem gz_lt {l : List Int} {j : Nat} (h : j < l.length) : l[j]? = some (gz l j) := by simp [gz, List.getD, List.getElem?_eq_getElem h]
theorem gz_ge {l : List Int} {j : Nat} (h : l.length ≤ j) : gz l j = 0 := by simp [gz, List.getD, List.getElem?_eq_none h]
theorem gz_mem {l : List Int} {j : Nat} (h : j < l.length) : gz l j ∈ l := List.mem_of_getElem? (gz_lt h)
theorem gz_take {l : List Int} {j k : Nat} (h : j < k) : gz (l.take k) j = gz l j := by simp [gz, List.getD, h]
theorem gz_append_left {l m : List Int} {j : Nat} (h : j < l.length) : gz (l ++ m) j = gz l j := by simp [gz, List.getD, List.getElem?_append_left h]
theorem gz_append_at (l : List Int) (x : Int) (m : List Int) : gz (l ++ x :: m) l.length = x := by simp [gz, List.getD]
theorem gz_ext {l m : List Int} (hl : l.length = m.length) (h : ∀ j, j < l.length → gz l j = gz m j) : l = m := by
  apply List.ext_getElem?
  intro j
  rcases Nat.lt_or_ge j l.length with hj | hj
  · rw [gz_lt hj, gz_lt (hl ▸ hj), h j hj]
  · rw [List.getElem?_eq_none hj, List.getElem?_eq_none (hl ▸ hj)]
theorem gz_set {l : List Int} {i j : Nat} {x : Int} (hi : i < l.length) : gz (l.set i x) j = if i = j then x else gz l j := by
  simp only [gz, List.getD, List.getElem?_set]
  by_cases h : i = j
  · subst h; simp [hi]
  · simp [h]
theorem gz_replicate (n j : Nat) : gz (List.replicate n 0) j = 0 := by
  rcases Nat.lt_or_ge j n with h | h
  · simp [gz, List.getD, h]
  · exact gz_ge (by simpa using h)

/-- The slice A, n, c of the program holds the integers l: the array lies in a block of D, each element is one of E. -/
structure Pl (E : World → Value → Int → Prop) (w : World) (D : Nat → Prop) (A : Option Addr) (n c : Nat) (l : List Int) : Prop where
  len : l.length = n
  cap : n ≤ c
  room : c ≤ maxLen
  cells : 0 < n → ∃ b off, A = some ⟨b, off, none⟩ ∧ D b ∧ ∀ j, j < n → ∃ neg B m k, w.cell? ⟨b, off + j * 2, none⟩ = some (.bool neg) ∧ w.cell? ⟨b, off + j * 2 + 1, none⟩ = some (.slice B m k) ∧ E w (.agg #[.bool neg, .slice B m k]) (gz l j)

/-- A kind of element that memory made later leaves as it is. -/
class Stays (E : World → Value → Int → Prop) : Prop where
  below : ∀ {w w' v x}, E w v x → Below w.heap.size w w' → E w' v x

/-- An integer in normal form, wherever it lies. -/
def NI (w : World) (v : Value) (x : Int) : Prop := NIntV w (fun _ => True) v x
instance : Stays NI := ⟨fun h hb => h.below hb⟩
instance : Stays IntB := ⟨fun h hb => h.below hb⟩

section
variable {E E' : World → Value → Int → Prop} {w w' : World} {D D' : Nat → Prop} {A : Option Addr} {n c : Nat} {l : List Int}
theorem Pl.mono (h : Pl E w D A n c l) (hd : ∀ b, D b → b < w.heap.size → D' b) : Pl E w D' A n c l :=
  ⟨h.len, h.cap, h.room, fun hn => by
    obtain ⟨b, off, e, hb, hc⟩ := h.cells hn
    obtain ⟨_, _, _, _, h0, _⟩ := hc 0 hn
    exact ⟨b, off, e, hd b hb (cell_lt h0), hc⟩⟩
theorem Pl.imp (h : Pl E w D A n c l) (he : ∀ v x, x ∈ l → E w v x → E' w v x) : Pl E' w D A n c l :=
  ⟨h.len, h.cap, h.room, fun hn => by
    obtain ⟨b, off, e, hb, hc⟩ := h.cells hn
    refine ⟨b, off, e, hb, fun j hj => ?_⟩
    obtain ⟨neg, B, m, k, h0, h1, h2⟩ := hc j hj
    exact ⟨neg, B, m, k, h0, h1, he _ _ (gz_mem (by rw [h.len]; exact hj)) h2⟩⟩
theorem Pl.below [Stays E] (h : Pl E w D A n c l) (hb : Below w.heap.size w w') : Pl E w' D A n c l :=
  ⟨h.len, h.cap, h.room, fun hn => by
    obtain ⟨b, off, e, hd, hc⟩ := h.cells hn
    refine ⟨b, off, e, hd, fun j hj => ?_⟩
    obtain ⟨neg, B, m, k, h0, h1, h2⟩ := hc j hj
    exact ⟨neg, B, m, k, ((bcell hb).1 _ _ (cell_lt h0)).trans h0, ((bcell hb).1 _ _ (cell_lt h1)).trans h1, Stays.below h2 hb⟩⟩
theorem Pl.nil (c : Nat) (hc : c ≤ maxLen) : Pl E w D A 0 c [] := ⟨rfl, Nat.zero_le _, hc, fun h => absurd h (by omega)⟩
theorem Pl.take (h : Pl E w D A n c l) {k c' : Nat} (hk : k ≤ n) (hc1 : k ≤ c') (hc2 : c' ≤ c) : Pl E w D A k c' (l.take k) :=
  ⟨by rw [List.length_take, h.len]; omega, hc1, by have := h.room; omega, fun hn => by
    obtain ⟨b, off, e, hb, hc⟩ := h.cells (by omega)
    exact ⟨b, off, e, hb, fun j hj => by rw [gz_take hj]; exact hc j (by omega)⟩⟩
end

/-- A slice value that holds integers in normal form. -/
def PV (w : World) (D : Nat → Prop) (v : Value) (l : List Int) : Prop := ∃ A c, v = .slice A l.length c ∧ Pl NI w D A l.length c l

/-- The cells xs are those of the integers l (normal forms, their words in blocks of D). -/
def Cs (w : World) (D : Nat → Prop) (xs : List Value) (l : List Int) : Prop :=
  xs.length = l.length * 2 ∧ ∀ j, j < l.length → ∃ neg B m k, xs[j * 2]? = some (.bool neg) ∧ xs[j * 2 + 1]? = some (.slice B m k) ∧ NIntV w D (.agg #[.bool neg, .slice B m k]) (gz l j)
section
variable {w w' : World} {D D' : Nat → Prop} {xs : List Value} {l : List Int}
theorem Cs.nil : Cs w D [] [] := ⟨rfl, fun j hj => absurd hj (by simp)⟩
theorem Cs.mono (h : Cs w D xs l) (hd : ∀ b, D b → b < w.heap.size → D' b) : Cs w D' xs l :=
  ⟨h.1, fun j hj => by obtain ⟨neg, B, m, k, h0, h1, h2⟩ := h.2 j hj; exact ⟨neg, B, m, k, h0, h1, h2.mono hd⟩⟩
theorem Cs.below (h : Cs w D xs l) (hb : Below w.heap.size w w') : Cs w' D xs l :=
  ⟨h.1, fun j hj => by obtain ⟨neg, B, m, k, h0, h1, h2⟩ := h.2 j hj; exact ⟨neg, B, m, k, h0, h1, h2.below hb⟩⟩
theorem Cs.keep (h : Cs w D xs l) (hk : ∀ b o, D b → b < w.heap.size → w'.cell? ⟨b, o, none⟩ = w.cell? ⟨b, o, none⟩) : Cs w' D xs l :=
  ⟨h.1, fun j hj => by obtain ⟨neg, B, m, k, h0, h1, A, c, e, h2⟩ := h.2 j hj; exact ⟨neg, B, m, k, h0, h1, A, c, e, h2.keep hk⟩⟩
theorem Cs.snoc (h : Cs w D xs l) {neg : Bool} {B : Option Addr} {m k : Nat} {x : Int} (hx : NIntV w D (.agg #[.bool neg, .slice B m k]) x) : Cs w D (xs ++ [.bool neg, .slice B m k]) (l ++ [x]) := by
  refine ⟨by simp [h.1]; omega, fun j hj => ?_⟩
  simp only [List.length_append, List.length_singleton] at hj
  rcases Nat.lt_or_ge j l.length with hlt | hge
  · obtain ⟨neg, B, m, k, h0, h1, h2⟩ := h.2 j hlt
    exact ⟨neg, B, m, k, by rw [List.getElem?_append_left (by rw [h.1]; omega)]; exact h0, by rw [List.getElem?_append_left (by rw [h.1]; omega)]; exact h1, by rw [gz_append_left hlt]; exact h2⟩
  · obtain rfl : j = l.length := by omega
    refine ⟨neg, B, m, k, ?_, ?_, by rw [gz_append_at]; exact hx⟩
    · rw [List.getElem?_append_right (by rw [h.1]; omega), h.1]; simp
    · rw [List.getElem?_append_right (by rw [h.1]; omega), h.1]; simp
theorem Cs.set (h : Cs w D xs l) {i : Nat} (hi : i < l.length) {neg : Bool} {B : Option Addr} {m k : Nat} {x : Int} (hx : NIntV w D (.agg #[.bool neg, .slice B m k]) x) : Cs w D ((xs.set (i * 2) (.bool neg)).set (i * 2 + 1) (.slice B m k)) (l.set i x) := by
  refine ⟨by simp [h.1], fun j hj => ?_⟩
  simp only [List.length_set] at hj
  rw [gz_set hi]
  by_cases he : i = j
  · subst he
    refine ⟨neg, B, m, k, ?_, ?_, by rw [if_pos rfl]; exact hx⟩
    · rw [List.getElem?_set_ne (by omega), List.getElem?_set_self (by rw [h.1]; omega)]
    · rw [List.getElem?_set_self (by rw [List.length_set, h.1]; omega)]
  · rw [if_neg he]
    obtain ⟨neg, B, m, k, h0, h1, h2⟩ := h.2 j hj
    exact ⟨neg, B, m, k, by rw [List.getElem?_set_ne (by omega), List.getElem?_set_ne (by omega)]; exact h0, by rw [List.getElem?_set_ne (by omega), List.getElem?_set_ne (by omega)]; exact h1, h2⟩
theorem Cs.zeros (n : Nat) : Cs w D (List.replicate n [Value.bool false, .slice none 0 0]).flatten (List.replicate n 0) := by
  induction n with
  | zero => exact Cs.nil
  | succ n ih =>
    rw [List.replicate_succ', List.replicate_succ', List.flatten_append]
    simp only [List.flatten_cons, List.flatten_nil, List.append_nil]
    exact ih.snoc (NIntV.zero w D)
end

/-- What an own row of integers holds. -/
theorem pl_of_own {w : World} {base : Nat} {D' : Nat → Prop} {n : Nat} {v : Value} {xs : List Value} {l : List Int} (h : w.ownsRow base 42 2 v n xs) (hc : Cs w D' xs l) (hn : l.length = n) (hm : n ≤ maxLen) :
    ∃ A c, v = .slice A n c ∧ Pl NI w (base ≤ ·) A n c l := by
  rcases Nat.eq_zero_or_pos n with h0 | h0
  · subst h0
    obtain rfl := List.eq_nil_of_length_eq_zero hn
    obtain ⟨A, c, rfl, h1, h2⟩ := own_slice h
    exact ⟨A, c, rfl, Pl.nil c h2⟩
  · obtain ⟨g, cap, rfl, hb, h1, h2, h3, h4⟩ := own_cells h h0
    refine ⟨_, cap, rfl, hn, h1, h2, fun _ => ⟨g, 0, rfl, hb, fun j hj => ?_⟩⟩
    obtain ⟨neg, B, m, k, e0, e1, e2⟩ := hc.2 j (by omega)
    exact ⟨neg, B, m, k, by rw [Nat.zero_add]; exact h4 _ _ e0, by rw [Nat.zero_add]; exact h4 _ _ e1, e2.mono (fun _ _ _ => trivial)⟩
theorem pl_of_arr {w : World} {D D' : Nat → Prop} {n g : Nat} {t : TypeId} {xs : List Value} {l : List Int} (h : Arr w g t xs) (hc : Cs w D' xs l) (hd : D g) (hn : l.length = n) (hm : n ≤ maxLen) :
    Pl NI w D (some ⟨g, 0, none⟩) n n l :=
  ⟨hn, Nat.le_refl _, hm, fun _ => ⟨g, 0, rfl, hd, fun j hj => by
    obtain ⟨neg, B, m, k, e0, e1, e2⟩ := hc.2 j (by omega)
    exact ⟨neg, B, m, k, by rw [Nat.zero_add, Arr.cell h]; exact e0, by rw [Nat.zero_add, Arr.cell h]; exact e1, e2.mono (fun _ _ _ => trivial)⟩⟩⟩
theorem info_Int : (Tryz.prog.info? 42).map (fun i => (i.zero, i.size, i.bytes)) = some (some (.agg #[.bool false, .slice none 0 0]), 2, 32) := by kernel_rfl

end Go.Proofs.YtefcdclmabdmbaaGreatDoor

namespace Go.Proofs.YtefcdclmabdmbaaGreatDoor
open Go.RowKit

/-- The slice value v is a list of the call's own (memory from base on) that holds the integers l, in normal form. -/
def OwnI (w : World) (base : Nat) (v : Value) (l : List Int) : Prop := ∃ xs, w.ownsRow base 42 2 v l.length xs ∧ Cs w (fun b => some b ≠ v.ownBlock) xs l

section
variable {w w' : World} {base : Nat} {v : Value} {l : List Int}
theorem OwnI.nil (w : World) (base : Nat) : OwnI w base (.slice none 0 0) [] := ⟨[], World.ownsRow_nil _ _ _ _, Cs.nil⟩
theorem OwnI.slice (h : OwnI w base v l) : ∃ A c, v = .slice A l.length c := by
  obtain ⟨xs, h1, _⟩ := h
  obtain ⟨A, c, e, _⟩ := own_slice h1
  exact ⟨A, c, e⟩
theorem OwnI.pl (h : OwnI w base v l) (hm : l.length ≤ maxLen) : ∃ A c, v = .slice A l.length c ∧ Pl NI w (base ≤ ·) A l.length c l := by
  obtain ⟨xs, h1, h2⟩ := h
  exact pl_of_own h1 h2 rfl hm
theorem OwnI.below (h : OwnI w base v l) (hb : Below w.heap.size w w') : OwnI w' base v l := by
  obtain ⟨xs, h1, h2⟩ := h
  refine ⟨xs, ⟨h1.1, ?_⟩, h2.below hb⟩
  rcases h1.2 with h3 | ⟨g, cap, cur, e, h4, h5, h6⟩
  · exact .inl h3
  · exact .inr ⟨g, cap, cur, e, h4, (hb.block g (h1.lt g (by rw [e]; rfl)).2).trans h5, h6⟩
end

section
variable (w0 : World)
end

theorem Pl.v {w : World} {D : Nat → Prop} {A : Option Addr} {n c : Nat} {l : List Int} (h : Pl NI w D A n c l) : PV w D (.slice A n c) l := by
  have := h.len
  subst this
  exact ⟨A, c, rfl, h⟩

theorem OwnI.fresh {w : World} {base : Nat} {v : Value} {l : List Int} (h : OwnI w base v l) {b : Nat} (hb : w.heap.size ≤ b) : some b ≠ v.ownBlock := by
  obtain ⟨xs, h1, _⟩ := h
  intro e
  have := (h1.lt b e.symm).2
  omega

end Go.Proofs.YtefcdclmabdmbaaGreatDoor

namespace Go.Proofs.YtefcdclmabdmbaaGreatDoor
open Go.RowKit

theorem NI.below {w w' : World} {v : Value} {x : Int} (h : NI w v x) (hb : Below w.heap.size w w') : NI w' v x := NIntV.below h hb

/-- Block g is an array of the call's own that holds the integers l, in normal form. -/
def IArr (w : World) (g : Nat) (l : List Int) : Prop := ∃ xs, Arr w g 42 xs ∧ Cs w (· ≠ g) xs l
section
variable {w w' : World} {g : Nat} {l : List Int}
theorem IArr.lt (h : IArr w g l) : g < w.heap.size := by obtain ⟨xs, h1, _⟩ := h; exact h1.lt
theorem IArr.below (h : IArr w g l) (hb : Below w.heap.size w w') : IArr w' g l := by obtain ⟨xs, h1, h2⟩ := h; exact ⟨xs, h1.below' hb, h2.below hb⟩
theorem IArr.frozen (h : IArr w g l) (i : Nat) : w.frozen? ⟨g, i, none⟩ = false := by obtain ⟨xs, h1, _⟩ := h; exact h1.frozen i
theorem IArr.cells (h : IArr w g l) {j : Nat} (hj : j < l.length) : ∃ neg B m k, w.cell? ⟨g, j * 2, none⟩ = some (.bool neg) ∧ w.cell? ⟨g, j * 2 + 1, none⟩ = some (.slice B m k) ∧ NIntV w (· ≠ g) (.agg #[.bool neg, .slice B m k]) (gz l j) := by
  obtain ⟨xs, h1, h2⟩ := h
  obtain ⟨neg, B, m, k, e0, e1, e2⟩ := h2.2 j hj
  exact ⟨neg, B, m, k, (h1.cell _).trans e0, (h1.cell _).trans e1, e2⟩
theorem IArr.pl (h : IArr w g l) {D : Nat → Prop} (hd : D g) (hm : l.length ≤ maxLen) : Pl NI w D (some ⟨g, 0, none⟩) l.length l.length l := by
  obtain ⟨xs, h1, h2⟩ := h
  exact pl_of_arr h1 h2 hd rfl hm
theorem Cs.setCell {D : Nat → Prop} {xs : List Value} (h : Cs w D xs l) {p : Addr} (hp : ¬ D p.block) (u : Value) : Cs (w.setCell p u) D xs l :=
  h.keep fun b o hd _ => World.cell?_setCell_other w p ⟨b, o, none⟩ u (fun e => hp (by subst e; exact hd))
theorem IArr.set (h : IArr w g l) {i : Nat} (hi : i < l.length) {neg : Bool} {B : Option Addr} {m k : Nat} {x : Int} (hx : NIntV w (· ≠ g) (.agg #[.bool neg, .slice B m k]) x) :
    IArr ((w.setCell ⟨g, i * 2, none⟩ (.bool neg)).setCell ⟨g, i * 2 + 1, none⟩ (.slice B m k)) g (l.set i x) := by
  obtain ⟨xs, h1, h2⟩ := h
  exact ⟨_, (h1.set_ _ _).set_ _ _, ((h2.set hi hx).setCell (by simp) _).setCell (by simp) _⟩
theorem toList_madeCells_two (z z' : Value) (n : Nat) : (madeCells #[z, z'] (n * 2)).toList = (List.replicate n [z, z']).flatten := by
  apply List.ext_getElem?
  intro i
  have hsz := size_madeCells #[z, z'] (n * 2)
  have hfl : (List.replicate n [z, z']).flatten.length = n * 2 := by simp
  rcases Nat.lt_or_ge i (n * 2) with hi | hi
  · have h1 : (madeCells #[z, z'] (n * 2)).toList[i]? = some (#[z, z'][i % 2]!) := by
      simp [madeCells, hi]
    rw [h1]
    clear h1 hsz hfl
    induction n generalizing i with
    | zero => omega
    | succ n ih =>
      rw [List.replicate_succ, List.flatten_cons]
      rcases Nat.lt_or_ge i 2 with h2 | h2
      · rw [List.getElem?_append_left (by simpa using h2)]
        rcases i with _ | _ | i
        · rfl
        · rfl
        · omega
      · rw [List.getElem?_append_right (by simpa using h2)]
        have e : i % 2 = (i - 2) % 2 := by omega
        rw [e]
        exact ih (i - 2) (by omega)
  · rw [List.getElem?_eq_none (by rw [Array.length_toList, hsz]; exact hi), List.getElem?_eq_none (by rw [hfl]; exact hi)]
theorem IArr.made {n : Nat} (h : Arr w g 42 (madeCells (Value.agg #[.bool false, .slice none 0 0]).cells (n * 2)).toList) : IArr w g (List.replicate n 0) := by
  rw [show (Value.agg #[.bool false, .slice none 0 0]).cells = #[.bool false, .slice none 0 0] from rfl, toList_madeCells_two] at h
  exact ⟨_, h, Cs.zeros n⟩
end

end Go.Proofs.YtefcdclmabdmbaaGreatDoor

namespace Go.Proofs.YtefcdclmabdmbaaGreatDoor
open Go.RowKit

/-- The first n values of f. -/
def lf (f : Nat → Nat) (n : Nat) : List Int := (List.range n).map fun i => (f i : Int)
theorem lf_length (f : Nat → Nat) (n : Nat) : (lf f n).length = n := by simp [lf]
theorem lf_get {f : Nat → Nat} {n i : Nat} (h : i < n) : gz (lf f n) i = (f i : Int) := by simp [gz, lf, List.getD, h]
theorem lf_ext {f g : Nat → Nat} {n : Nat} (h : ∀ i, i < n → f i = g i) : lf f n = lf g n := by
  unfold lf
  refine List.map_congr_left fun i hi => ?_
  rw [h i (List.mem_range.1 hi)]
theorem lf_set {f : Nat → Nat} {n i x : Nat} (hi : i < n) : (lf f n).set i (x : Int) = lf (fun j => if j = i then x else f j) n := by
  refine gz_ext (by simp [lf_length]) fun j hj => ?_
  rw [List.length_set, lf_length] at hj
  rw [gz_set (by rw [lf_length]; exact hi), lf_get hj, lf_get hj]
  by_cases h : i = j
  · subst h; simp
  · rw [if_neg h, if_neg (fun e => h e.symm)]
/-- The sums in the midst of row i. -/
def po (E : List (List Nat)) (f : Nat → Nat) (i t v : Nat) : Nat := ps E f v i + f i * ((gr E i).take t).count v
theorem po_zero (E : List (List Nat)) (f : Nat → Nat) (i v : Nat) : po E f i 0 v = ps E f v i := by simp [po]
theorem po_full (E : List (List Nat)) (f : Nat → Nat) (i v : Nat) : po E f i (gr E i).length v = ps E f v (i + 1) := by simp [po, ps]
theorem po_succ {E : List (List Nat)} {f : Nat → Nat} {i t x : Nat} (hx : (gr E i)[t]? = some x) (v : Nat) : po E f i (t + 1) v = if v = x then po E f i t v + f i else po E f i t v := by
  unfold po
  rw [List.take_add_one, hx, List.count_append]
  by_cases h : v = x
  · subst h; simp [Nat.mul_add]; omega
  · rw [if_neg h]
    have : ([x] : List Nat).count v = 0 := List.count_eq_zero.2 (by simpa using h)
    simp [this]
theorem po_le {E : List (List Nat)} {f : Nat → Nat} {i t v B K : Nat} (hf : ∀ i, f i ≤ B) (hK : ∀ i, (gr E i).length ≤ K) : po E f i t v ≤ (i + 1) * (B * K) := by
  have h1 := ps_le (v := v) hf hK (i + 1)
  refine Nat.le_trans ?_ h1
  unfold po
  rw [ps]
  have h2 : ((gr E i).take t).count v ≤ (gr E i).count v := (List.take_sublist t (gr E i)).count_le v
  exact Nat.add_le_add_left (Nat.mul_le_mul_left _ h2) _
theorem wl_pow {x M : Nat} (h : x ≤ 2 ^ M) : wl x ≤ M + 1 := by
  refine dig_length_le (by omega) ?_
  have h1 : 2 ^ M ≤ 4294967296 ^ M := Nat.pow_le_pow_left (by omega) M
  have h2 : 4294967296 ^ M < 4294967296 ^ (M + 1) := Nat.pow_lt_pow_right (by omega) (by omega)
  omega

/-- What stepped leaves: an array of its own. -/
def IntsAt (w : World) (l : List Int) (w' : World) (v : Value) : Prop := ∃ S, w.heap.size ≤ S ∧ v = .slice (some ⟨S, 0, none⟩) l.length l.length ∧ IArr w' S l
theorem IArr.cast {w : World} {g : Nat} {l m : List Int} (h : IArr w g l) (e : l = m) : IArr w g m := e ▸ h

set_option maxHeartbeats 4000000 in
set_option maxRecDepth 100000 in
theorem stepped_any {w : World} {v : Value} {names : List ByteArray} {E : List (List Nat)} (h : GrV w v names (toI E)) (hk : Ok names E) {A : Option Addr} {c : Nat} {f : Nat → Nat} {M : Nat} (hl : Pl NI w (fun _ => True) A E.length c (lf f E.length)) (hf : ∀ i, f i ≤ 2 ^ M) (hM : M ≤ 1000000) :
    Calls Tryz.prog 129 #[v, .slice A E.length c] w (Gives w (IntsAt w (lf (fun v => ps E f v E.length) E.length))) := by
  have hsm := hk.small
  obtain ⟨A1, c1, A', c', rfl, hs, hg⟩ := h
  rw [toI_length] at *
  have hr := hg.room
  have hr1 := hl.room
  unfold maxLen at hr hr1
  have hr2 := hl.cap
  obtain ⟨W, G, hW, hG, hbW, c0, c1', hGl, hwG⟩ := gbox w (.slice A1 names.length c1) (.slice A' E.length c')
  replace hg := hg.below hbW
  replace hl := hl.below hbW
  have HW := Lib.hid hW
  have HG := Lib.hid hG
  have HK := Lib.hid hk
  have HF := Lib.hid hf
  clear hW hG c0 hs hk hf
  obtain ⟨S, hS⟩ : ∃ S, S = W.heap.size := ⟨_, rfl⟩
  have HS := Lib.hid hS
  have hSW : W.heap.size ≤ S := by omega
  have hGS : G < S := by omega
  clear hS
  go_enter Tryz.func129, Tryz.ntmps129
  go_wp2_with (refine wpList_make_arr _ rfl _ _ 28 rfl 42 (.agg #[.bool false, .slice none 0 0]) 2 32 Tryz.underlying28 info_Int _ _ _ _ E.length rfl rfl rfl rfl (by omega) (by omega) ?_; rw [← HW.out, ← HS.out]; intro w1 har hb1 hs1; have hna := IArr.made har; have HNA := Lib.hid hna; clear har hna hs1)
  rw [← HG.out]
  go_loopw [15] (fun i wr => ∃ k : Nat, k ≤ E.length ∧ i = .int .i64 (k : Nat) ∧ IArr wr S (lf (po E f k 0) E.length) ∧ Below S W wr) (fun i _ => E.length - (intOf i).toNat)
  case atStart => exact ⟨0, Nat.zero_le _, rfl, HNA.out.cast (by unfold lf; refine List.ext_getElem (by simp) fun i h1 h2 => by simp [po, ps]), hb1⟩
  case round =>
    clear HNA hb1 w1
    obtain ⟨k, hkl, rfl, hia, hbr⟩ := hrel
    have hbr' : Below W.heap.size W wr := by rw [← HS.out]; exact hbr
    by_cases hlt : k < E.length
    · obtain ⟨b, off, rfl, _, hcell⟩ := hl.cells (by omega)
      obtain ⟨neg, B, m, q, e0', e1', e2⟩ := hcell k hlt
      rw [lf_get hlt] at e2
      have e0 := ((bcell hbr').1 _ _ (cell_some_lt e0')).trans e0'
      have e1 := ((bcell hbr').1 _ _ (cell_some_lt e1')).trans e1'
      obtain ⟨b2, off2, A2, c2, rfl, hrow', hr3, hr4, hil⟩ := hg.row hlt
      have hrow := ((bcell hbr').1 _ _ (cell_some_lt hrow')).trans hrow'
      have d1 := ((bcell hbr').1 _ 1 hGl).trans c1'
      have hki : (k : Int) < (E.length : Int) := by omega
      have hbl := cell_some_lt e0
      have hGr : G < wr.heap.size := Nat.lt_of_lt_of_le hGl hbr'.size
      have hrl := cell_some_lt hrow
      have E2 := Lib.hid e2
      have HIL := Lib.hid hil
      clear hcell e0' e1' hrow' e2 hil
      go_wp2_with fail
      obtain ⟨W2, N, hW2, hN⟩ : ∃ W2 N, W2 = wr.alloc (.cells #[.bool neg, .slice B m q] 42) ∧ N = wr.heap.size := ⟨_, _, rfl, rfl⟩
      have x0 : W2.cell? ⟨N, 0, none⟩ = some (.bool neg) := by rw [hW2, hN]; go_simp
      have x1 : W2.cell? ⟨N, 1, none⟩ = some (.slice B m q) := by rw [hW2, hN]; go_simp
      have hia2 : IArr W2 S (lf (po E f k 0) E.length) := by rw [hW2]; exact hia.below ((Below.refl _ _).alloc (Nat.le_refl _) _)
      have hb2 : Below S W W2 := by rw [hW2]; exact hbr.alloc (by rw [HS.out]; exact hbr.size) _
      have hSN : S < N := by rw [hN]; exact hia.lt
      rw [← hW2, ← hN]
      clear hW2 hN hia hbr hbr' e0 e1 hrow d1 hbl hGr hrl
      go_loopw [26] (fun i wr => ∃ t : Nat, t ≤ (gr E k).length ∧ i = .int .i64 (t : Nat) ∧ IArr wr S (lf (po E f k t) E.length) ∧ Fr (· = S) W2 wr) (fun i _ => (gr E k).length - (intOf i).toNat)
      case atStart => exact ⟨0, Nat.zero_le _, rfl, hia2, Fr.refl _ _⟩
      case round =>
        clear hia2
        obtain ⟨t, htl, rfl, hia, hfr⟩ := hrel
        have hbr : Below S W wr := hb2.trans (hfr.below (by rw [HS.out]; exact hb2.size) (fun b hb => by rw [hb]; exact Nat.le_refl _))
        have hbr' : Below W.heap.size W wr := by rw [← HS.out]; exact hbr
        by_cases htt : t < (gr E k).length
        · obtain ⟨x, hx⟩ : ∃ x, (gr E k)[t]? = some x := ⟨_, List.getElem?_eq_getElem htt⟩
          have hxl : x < E.length := HK.out.valid k hlt x (List.mem_of_getElem? hx)
          obtain ⟨b3, off3, rfl, hcx⟩ := (HIL.out.below hbr').num hx
          obtain ⟨neg3, B3, m3, q3, o0, o1, o2⟩ := hia.cells (j := x) (by rw [lf_length]; exact hxl)
          rw [lf_get hxl] at o2
          have z0 := hia.frozen (x * 2)
          have z1 := hia.frozen (x * 2 + 1)
          have y0 := (hfr.cell (cell_some_lt x0) (show ¬ N = S by omega)).trans x0
          have y1 := (hfr.cell (cell_some_lt x1) (show ¬ N = S by omega)).trans x1
          have hwl : wl (po E f k t x) ≤ 2000000 := by
            have h1 := po_le (i := k) (t := t) (v := x) HF.out HK.out.deg
            have h2 : (k + 1) * (2 ^ M * 400) ≤ 2 ^ (M + 20) := by
              have h3 : (k + 1) * (2 ^ M * 400) = (k + 1) * 400 * 2 ^ M := by rw [Nat.mul_comm (2 ^ M) 400, Nat.mul_assoc]
              rw [h3, Nat.pow_add, Nat.mul_comm (2 ^ M)]
              exact Nat.mul_le_mul_right _ (by omega)
            have := wl_pow (Nat.le_trans h1 h2)
            omega
          have hwf : wl (f k) ≤ 2000000 := by have := wl_pow (HF.out k); omega
          have HA := Lib.hid (fun w' (hb : Below wr.heap.size wr w') => Add_any (o2.below hb).int ((NI.below E2.out (hbr'.trans (hb.mono hbr'.size)))).int (by rw [Int.natAbs_natCast]; omega) (by rw [Int.natAbs_natCast]; omega))
          have hSr : S < wr.heap.size := hia.lt
          have hxi : (x : Int) < (E.length : Int) := by omega
          have hx0 : (0 : Int) ≤ (x : Int) := by omega
          have et := po_succ (f := f) hx
          have ET := Lib.hid et
          have HIA := Lib.hid hia
          clear hx et hwl hwf hia o2
          have hdr : Below wr.heap.size wr wr.drew := (Below.refl _ _).drew
          go_wp2_with fail
          go_region_with (first
            | (go_at_call 16; ((with_reducible refine (HA.out _ hdr).mono ?_)); rintro e w4 ⟨v4, rfl, ⟨A4, c4, rfl, hv4⟩, hb4⟩; have hB4 := hdr.trans (hb4.mono hdr.size); have t0 := (hB4.cell (p := ⟨S, x * 2, none⟩) hSr).trans o0; have t1 := (hB4.cell (p := ⟨S, x * 2 + 1, none⟩) hSr).trans o1; have zz0 := (hB4.frozen (p := ⟨S, x * 2, none⟩) hSr).trans z0; have zz1 := (hB4.frozen (p := ⟨S, x * 2 + 1, none⟩) hSr).trans z1))
          all_goals
            go_wp2_with fail
            go_roundw
            case rel =>
              have hn4 : NIntV w4 (· ≠ S) (.agg #[.bool _, .slice A4 _ c4]) ((po E f k t x : Int) + (f k : Int)) := ⟨A4, c4, rfl, hv4.mono fun b hb _ => by have h1 : wr.heap.size ≤ b := hb; omega⟩
              have hset := (HIA.out.below hB4).set (i := x) (by rw [lf_length]; exact hxl) hn4
              refine ⟨t + 1, by omega, by go_num, hset.cast ?_, ?_⟩
              · rw [show (po E f k t x : Int) + (f k : Int) = ((po E f k t x + f k : Nat) : Int) by omega, lf_set hxl]
                refine lf_ext fun j _ => ?_
                rw [ET.out j]
                by_cases hj : j = x
                · subst hj; simp
                · simp [hj]
              · exact ((hfr.trans (Fr.of_below' hB4)).trans (Fr.setCell (O := (· = S)) (p := ⟨S, x * 2, none⟩) (fun _ => rfl) _)).trans (Fr.setCell (O := (· = S)) (p := ⟨S, x * 2 + 1, none⟩) (fun _ => rfl) _)
            case measure => simp [intOf]; omega
        · obtain rfl : t = (gr E k).length := by omega
          have hia3 : IArr wr S (lf (po E f (k + 1) 0) E.length) := hia.cast (lf_ext fun j _ => by rw [po_full, po_zero])
          clear hia
          go_wp2_with fail
          go_roundw
          case rel => exact ⟨k + 1, by omega, by go_num, hia3, hbr⟩
          case measure => simp [intOf]; omega
    · obtain rfl : k = E.length := by omega
      have hia3 : IArr wr S (lf (fun v => ps E f v E.length) E.length) := hia.cast (lf_ext fun j _ => by rw [po_zero])
      clear hia
      go_wp2_with fail
      go_ret
      exact ⟨_, rfl, ⟨S, Nat.le_trans hbW.size hSW, by rw [lf_length]; rfl, hia3⟩, hbW.trans (hbr.mono (by have := hbW.size; omega))⟩
end Go.Proofs.YtefcdclmabdmbaaGreatDoor

namespace Go.Proofs.YtefcdclmabdmbaaGreatDoor
open Go.RowKit

theorem wn_small {names : List ByteArray} {E : List (List Nat)} (hk : Ok names E) (u m v : Nat) : wn E u m v ≤ 2 ^ (20 * m) := wn_le hk.deg (by have := hk.small; omega) m v

set_option maxHeartbeats 4000000 in
set_option maxRecDepth 100000 in
theorem walks_any {w : World} {v : Value} {names : List ByteArray} {E : List (List Nat)} (h : GrV w v names (toI E)) (hk : Ok names E) {u n : Nat} (hu : u < E.length) (hn : n ≤ 100) :
    Calls Tryz.prog 53 #[v, .int .i64 (u : Nat), .int .i64 (n : Nat)] w (Gives w (IntsAt w (lf (wn E u n) E.length))) := by
  have hsm := hk.small
  have HST := Lib.hid (fun w' (hb : Below w.heap.size w w') A c k (hk2 : k ≤ 100) (hl : Pl NI w' (fun _ => True) A E.length c (lf (wn E u k) E.length)) => stepped_any (h.below hb) hk hl (M := 20 * k) (fun i => wn_small hk u k i) (by omega))
  obtain ⟨A1, c1, A', c', rfl, hs, hg⟩ := h
  rw [toI_length] at *
  obtain ⟨W, G, hW, hG, hbW, c0, c1', hGl, hwG⟩ := gbox w (.slice A1 names.length c1) (.slice A' E.length c')
  have HW := Lib.hid hW
  have HG := Lib.hid hG
  have HK := Lib.hid hk
  clear hW hG hs hk hg
  obtain ⟨S, hS⟩ : ∃ S, S = W.heap.size := ⟨_, rfl⟩
  have HS := Lib.hid hS
  have hSW : W.heap.size ≤ S := by omega
  have hGS : G < S := by omega
  have hui : (u : Int) < (E.length : Int) := by omega
  clear hS
  go_enter Tryz.func53, Tryz.ntmps53
  go_wp2_with (first
    | (refine wpList_make_arr _ rfl _ _ 28 rfl 42 (.agg #[.bool false, .slice none 0 0]) 2 32 Tryz.underlying28 info_Int _ _ _ _ E.length rfl rfl rfl rfl (by omega) (by omega) ?_; rw [← HW.out, ← HS.out]; intro w1 har hb1 hs1; have hna := IArr.made har; have HNA := Lib.hid hna; clear har hna hs1)
    | (go_at_call 15; rw [← HG.out]; refine (Of_any 1 _ (by omega) (by omega)).mono ?_; rintro e w4 ⟨v4, rfl, ⟨A4, c4, rfl, hv4⟩, hb4⟩; have hia4 := HNA.out.below hb4; obtain ⟨neg3, B3, m3, q3, o0, o1, o2⟩ := hia4.cells (j := u) (by simpa using hu); have z0 := hia4.frozen (u * 2); have z1 := hia4.frozen (u * 2 + 1)))
  have hn4 : NIntV w4 (· ≠ S) (.agg #[.bool _, .slice A4 _ c4]) 1 := ⟨A4, c4, rfl, hv4.mono fun b hb _ => by have h1 : w1.heap.size ≤ b := hb; have := HNA.out.lt; omega⟩
  have hset := hia4.set (i := u) (by simpa using hu) hn4
  have hset2 := hset.cast (show (List.replicate E.length (0 : Int)).set u 1 = lf (wn E u 0) E.length by
    refine gz_ext (by simp [lf_length]) fun j hj => ?_
    rw [List.length_set, List.length_replicate] at hj
    rw [gz_set (by simpa using hu), lf_get hj, gz_replicate, wn]
    by_cases e : u = j
    · rw [if_pos e, if_pos e.symm]; rfl
    · rw [if_neg e, if_neg (fun e2 => e e2.symm)]; rfl)
  have hb5 : Below S W w4 := hb1.trans (hb4.mono (by have := HNA.out.lt; omega))
  have hb6 := (hb5.setCell (p := ⟨S, u * 2, none⟩) (Nat.le_refl _) (.bool (decide ((1 : Int) < 0)))).setCell (p := ⟨S, u * 2 + 1, none⟩) (Nat.le_refl _) (.slice A4 (wl (1 : Int).natAbs) c4)
  go_loopw [7, 17] (fun o i wr => ∃ k S' : Nat, k ≤ n ∧ i = .int .i64 (k : Nat) ∧ o = .slice (some ⟨S', 0, none⟩) E.length E.length ∧ IArr wr S' (lf (wn E u k) E.length) ∧ S ≤ S' ∧ Below S W wr) (fun _ i _ => n - (intOf i).toNat)
  case atStart => exact ⟨0, S, Nat.zero_le _, rfl, rfl, hset2, Nat.le_refl _, hb6⟩
  case round =>
    clear hset2 hb6 hset hn4 o0 o1 o2 z0 z1 hia4 hb5 hb4 hv4 HNA hb1
    obtain ⟨k, S', hkl, rfl, rfl, hia, hSS, hbr⟩ := hrel
    have hb7 : Below w.heap.size w wr := hbW.trans (hbr.mono (by have := hbW.size; omega))
    have d0 := (hbr.cell (p := ⟨G, 0, none⟩) hGS).trans c0
    have d1 := (hbr.cell (p := ⟨G, 1, none⟩) hGS).trans c1'
    by_cases hlt : k < n
    · have hpl := hia.pl (D := fun _ => True) trivial (by rw [lf_length]; unfold maxLen; omega)
      rw [lf_length] at hpl
      go_wp2_with (go_at_call 129; refine (HST.out _ hb7 _ _ k (by omega) hpl).mono ?_; rintro e w8 ⟨v8, rfl, ⟨S8, hS8, rfl, hia8⟩, hb8⟩; rw [lf_length])
      go_roundw
      case rel => exact ⟨k + 1, S8, by omega, by go_num, rfl, hia8, by have := hbr.size; have := HS.out; omega, hbr.trans (hb8.mono (by have := hbr.size; have := HS.out; omega))⟩
      case measure => simp [intOf]; omega
    · obtain rfl : k = n := by omega
      go_wp2_with fail
      go_ret
      exact ⟨_, rfl, ⟨S', by have := hbW.size; omega, by rw [lf_length]; rfl, hia⟩, hb7⟩

/-- The error of a graph whose matrix is asked for. -/
noncomputable def sml (names : List ByteArray) (E : List (List Int)) : Nat := if chk names E ≠ 0 then chk names E else if 60 < names.length then 8 else 0
set_option maxHeartbeats 1000000 in
theorem small_any {w : World} {v : Value} {names : List ByteArray} {E : List (List Int)} (h : GrV w v names E) :
    Calls Tryz.prog 33 #[v] w (ChkR w (sml names E)) := by
  have HC := Lib.hid (fun w' hb => Check_any (h.at w' hb))
  obtain ⟨A, c, A', c', rfl, hs, hg⟩ := h
  have hr := hs.room
  unfold maxLen at hr
  obtain ⟨W, G, hW, hG, hbW, c0, c1, hGl, hwG⟩ := gbox w (.slice A names.length c) (.slice A' E.length c')
  have HW := Lib.hid hW
  have HG := Lib.hid hG
  clear hW hG hs hg
  by_cases hc : chk names E = 0
  · rw [hc] at HC
    by_cases h60 : 60 < names.length
    · have e : 8 = sml names E := by unfold sml; rw [if_neg (by simp [hc]), if_pos h60]
      have HE := Lib.hid e
      clear e hc
      go_enter Tryz.func33, Tryz.ntmps33
      go_wp2_with (go_at_call 83; rw [← HW.out, ← HG.out]; refine (HC.out _ hbW).mono ?_; rintro e w1 ⟨rfl, hb1⟩; have d0 := ((bcell hb1).1 _ 0 hGl).trans c0)
      go_ret
      exact chkR_of HE.out (hbW.trans (hb1.mono hbW.size))
    · have e : 0 = sml names E := by unfold sml; rw [if_neg (by simp [hc]), if_neg h60]
      have HE := Lib.hid e
      clear e hc
      go_enter Tryz.func33, Tryz.ntmps33
      go_wp2_with (go_at_call 83; rw [← HW.out, ← HG.out]; refine (HC.out _ hbW).mono ?_; rintro e w1 ⟨rfl, hb1⟩; have d0 := ((bcell hb1).1 _ 0 hGl).trans c0)
      go_ret
      exact chkR_of HE.out (hbW.trans (hb1.mono hbW.size))
  · have e : chk names E = sml names E := by unfold sml; rw [if_pos hc]
    have HE := Lib.hid e
    clear e
    generalize chk names E = q at *
    have hz : (((q : Nat) : Int) != 0) = true := by simp [hc]
    clear hc
    go_enter Tryz.func33, Tryz.ntmps33
    go_wp2_with (go_at_call 83; rw [← HW.out, ← HG.out]; refine (HC.out _ hbW).mono ?_; rintro e w1 ⟨rfl, hb1⟩)
    go_ret
    exact chkR_of HE.out (hbW.trans (hb1.mono hbW.size))
end Go.Proofs.YtefcdclmabdmbaaGreatDoor

namespace Go.Proofs.YtefcdclmabdmbaaGreatDoor
open Go.RowKit

/-- The box of a graph argument, and the variable of an integer that is returned. -/
theorem cbox (w : World) (s t : Value) : ∃ W G R, W = (w.alloc (.cells #[s, t] 25)).alloc (.cells #[.bool false, .slice none 0 0] 42) ∧ G = w.heap.size ∧ R = w.heap.size + 1 ∧ Below w.heap.size w W ∧ W.cell? ⟨G, 0, none⟩ = some s ∧ W.cell? ⟨G, 1, none⟩ = some t ∧ Arr W R 42 [.bool false, .slice none 0 0] ∧ G < R ∧ W.heap.size = R + 1 ∧ w.heap.size ≤ G := by
  have hs : (w.alloc (.cells #[s, t] 25)).heap.size = w.heap.size + 1 := by simp
  have h8 := heap_alloc_new (w.alloc (.cells #[s, t] 25)) (.cells #[.bool false, .slice none 0 0] 42)
  rw [hs] at h8
  exact ⟨_, _, _, rfl, rfl, rfl, ((Below.refl _ _).alloc (Nat.le_refl _) _).alloc (by simp) _, by go_simp, by go_simp, h8, by omega, by simp, Nat.le_refl _⟩

theorem Arr.two {w : World} {g : Nat} {t : TypeId} {a b : Value} (h : Arr w g t [a, b]) : w.cell? ⟨g, 0, none⟩ = some a ∧ w.cell? ⟨g, 1, none⟩ = some b ∧ w.frozen? ⟨g, 0, none⟩ = false ∧ w.frozen? ⟨g, 1, none⟩ = false :=
  ⟨h.cell 0, h.cell 1, h.frozen 0, h.frozen 1⟩

/-- Block P is a variable that holds the integer x, in normal form; its words lie behind it. -/
def IVar (w : World) (P : Nat) (x : Int) : Prop := ∃ neg B m q, Arr w P 42 [.bool neg, .slice B m q] ∧ NIntV w (P < ·) (.agg #[.bool neg, .slice B m q]) x
theorem IVar.lt {w : World} {P : Nat} {x : Int} (h : IVar w P x) : P < w.heap.size := by obtain ⟨_, _, _, _, h, _⟩ := h; exact h.lt
theorem IVar.put {w : World} {P : Nat} {a b : Value} (h : Arr w P 42 [a, b]) {neg : Bool} {B : Option Addr} {m q : Nat} {x : Int} (hx : NIntV w (P < ·) (.agg #[.bool neg, .slice B m q]) x) : IVar ((w.setCell ⟨P, 0, none⟩ (.bool neg)).setCell ⟨P, 1, none⟩ (.slice B m q)) P x :=
  ⟨neg, B, m, q, (h.set_ 0 _).set_ 1 _, (hx.setCell (p := ⟨P, 0, none⟩) (by simp) _).setCell (p := ⟨P, 1, none⟩) (by simp) _⟩

def CloR (w : World) (E : List (List Nat)) (n : Nat) (e : Ending) (w' : World) : Prop := ∃ v, e = .returned (.tuple #[v, .int .i64 0]) ∧ NIntV w' (w.heap.size ≤ ·) v (tr E n E.length : Nat) ∧ Below w.heap.size w w'

set_option maxHeartbeats 4000000 in
set_option maxRecDepth 100000 in
theorem Closed_ok {w : World} {v : Value} {names : List ByteArray} {E : List (List Nat)} (h : GrV w v names (toI E)) (hc : sml names (toI E) = 0) (hk : Ok names E) {n : Nat} (hn : n ≤ 100) :
    Calls Tryz.prog 13 #[v, .int .i64 (n : Nat)] w (CloR w E n) := by
  have hsm := hk.small
  have HC := Lib.hid (fun w' hb => small_any (h.at w' hb))
  rw [hc] at HC
  clear hc
  have HWK := Lib.hid (fun w' (hb : Below w.heap.size w w') u (hu : u < E.length) => walks_any (h.below hb) hk hu hn)
  have HWL := Lib.hid (fun (x : Nat) (hx : x ≤ 2500 * 2 ^ (20 * n)) => show wl (x : Int).natAbs ≤ 1000000000000 by
    rw [Int.natAbs_natCast]
    have h1 : x ≤ 2 ^ (20 * n + 12) := Nat.le_trans hx (by rw [Nat.pow_add, Nat.mul_comm]; exact Nat.mul_le_mul_left _ (by omega))
    have := wl_pow h1
    omega)
  have HTR := Lib.hid (fun i (hi : i ≤ E.length) => show tr E n i ≤ 2500 * 2 ^ (20 * n) from Nat.le_trans (tr_le hk.deg (by omega) n i) (Nat.mul_le_mul_right _ (by omega)))
  have HWN := Lib.hid (fun u v => show wn E u n v ≤ 2500 * 2 ^ (20 * n) from Nat.le_trans (wn_small hk u n v) (Nat.le_mul_of_pos_left _ (by omega)))
  obtain ⟨A, c, A', c', rfl, hs, hg⟩ := h
  rw [toI_length] at *
  have hr := hg.room
  unfold maxLen at hr
  obtain ⟨W, G, R, hW, hG, hR, hbW, c0, c1, har, hGR, hRW, hwG⟩ := cbox w (.slice A names.length c) (.slice A' E.length c')
  have HW := Lib.hid hW
  have HG := Lib.hid hG
  have HR := Lib.hid hR
  have HRW := Lib.hid hRW
  clear hW hG hR hk hs hg
  have hGW : G < W.heap.size := by omega
  clear hRW
  go_enter Tryz.func13, Tryz.ntmps13
  go_wp2_with (go_at_call 33; rw [← HW.out, ← HR.out, ← HG.out]; refine (HC.out _ hbW).mono ?_; rintro e w1 ⟨rfl, hb1⟩; have har1 := har.below' hb1; have d0 := ((bcell hb1).1 _ 0 hGW).trans c0; have d1 := ((bcell hb1).1 _ 1 hGW).trans c1; have hb2 := hbW.trans (hb1.mono hbW.size); have hG1 := Nat.lt_of_lt_of_le hGW hb1.size)
  obtain ⟨w2, P, hw2, hP⟩ : ∃ w2 P, w2 = w1.alloc (.cells #[.bool false, .slice none 0 0] 42) ∧ P = w1.heap.size := ⟨_, _, rfl, rfl⟩
  have hiv : IVar w2 P (tr E n 0 : Nat) := by
    rw [hw2, hP]
    exact ⟨false, none, 0, 0, heap_alloc_new w1 _, NIntV.zero _ _⟩
  have har2 : Arr w2 R 42 [.bool false, .slice none 0 0] := by rw [hw2]; exact har1.alloc _
  have hb3 : Below w1.heap.size w1 w2 := by rw [hw2]; exact (Below.refl _ _).alloc (Nat.le_refl _) _
  have e0 := (hb3.cell (p := ⟨G, 0, none⟩) hG1).trans d0
  have e1 := (hb3.cell (p := ⟨G, 1, none⟩) hG1).trans d1
  have hGP : G < P := by rw [hP]; exact hG1
  have hRP : R < P := by rw [hP]; exact har1.lt
  have hPw : w.heap.size ≤ P := by rw [hP]; exact hb2.size
  have hb4 := hb2.trans (hb3.mono hb2.size)
  rw [← hw2, ← hP]
  clear hw2 hP har1 d0 d1 hb1 hb2 hb3 har c0 c1
  go_loopw [26] (fun i wr => ∃ k : Nat, k ≤ E.length ∧ i = .int .i64 (k : Nat) ∧ IVar wr P (tr E n k : Nat) ∧ Fr (· = P) w2 wr) (fun i _ => E.length - (intOf i).toNat)
  case atStart => exact ⟨0, Nat.zero_le _, rfl, hiv, Fr.refl _ _⟩
  case round =>
    clear hiv
    obtain ⟨k, hkl, rfl, hiv, hfr⟩ := hrel
    have hPr := hiv.lt
    obtain ⟨neg, B, m, q, harP, hnv⟩ := hiv
    obtain ⟨p0, p1, z0, z1⟩ := harP.two
    have g0 := (hfr.cell (cell_some_lt e0) (show ¬ G = P by omega)).trans e0
    have g1 := (hfr.cell (cell_some_lt e1) (show ¬ G = P by omega)).trans e1
    have hb5 : Below w.heap.size w wr := hb4.trans (hfr.below hb4.size (fun b hb => by rw [hb]; exact hPw))
    by_cases hlt : k < E.length
    · have hki : (k : Int) < (E.length : Int) := by omega
      have hk0 : (0 : Int) ≤ (k : Int) := by omega
      have hdr : Below wr.heap.size wr wr.drew := (Below.refl _ _).drew
      have HK2 := Lib.hid (HWK.out _ (hb5.trans (hdr.mono hb5.size)) k hlt)
      have HA := Lib.hid (fun w' v' D (hb : Below wr.heap.size wr w') (hv : NIntV w' D v' (wn E k n k : Nat)) => Add_any (hnv.below hb).int hv.int (HWL.out _ (HTR.out k hkl)) (HWL.out _ (HWN.out k k)))
      have hGr : G < wr.heap.size := Nat.lt_trans hGP hPr
      have HPP := Lib.hid harP
      clear hnv harP
      go_wp2_with fail
      go_region_with (first
        | (go_at_call 53; ((with_reducible refine HK2.out.mono ?_)); rintro e w5 ⟨v5, rfl, ⟨S5, hS5, rfl, hia5⟩, hb6⟩; rw [lf_length]; have hB6 := hdr.trans (hb6.mono hdr.size); have s0 := (hB6.cell (p := ⟨P, 0, none⟩) hPr).trans p0; have s1 := (hB6.cell (p := ⟨P, 1, none⟩) hPr).trans p1; obtain ⟨neg3, B3, m3, q3, o0, o1, o2⟩ := hia5.cells (j := k) (by rw [lf_length]; exact hlt); rw [lf_get hlt] at o2; have O2 := Lib.hid o2; clear o2)
        | (go_at_call 16; ((with_reducible refine (HA.out _ _ _ hB6 O2.out).mono ?_)); rintro e w4 ⟨v4, rfl, ⟨A4, c4, rfl, hv4⟩, hb7⟩; have hB4 := hB6.trans (hb7.mono hB6.size); have t0 := (hB4.cell (p := ⟨P, 0, none⟩) hPr).trans p0; have t1 := (hB4.cell (p := ⟨P, 1, none⟩) hPr).trans p1; have zz0 := (hB4.frozen (p := ⟨P, 0, none⟩) hPr).trans z0; have zz1 := (hB4.frozen (p := ⟨P, 1, none⟩) hPr).trans z1))
      all_goals
        go_wp2_with fail
        go_roundw
        case rel =>
          have hn4 : NIntV w4 (P < ·) (.agg #[.bool _, .slice A4 _ c4]) ((tr E n k : Nat) + (wn E k n k : Nat) : Int) := ⟨A4, c4, rfl, hv4.mono fun b hb _ => by have h1 : w5.heap.size ≤ b := hb; have := hB6.size; omega⟩
          have hset := IVar.put (HPP.out.below' hB4) hn4
          refine ⟨k + 1, by omega, by go_num, ?_, ?_⟩
          · have e : ((tr E n (k + 1) : Nat) : Int) = (tr E n k : Nat) + (wn E k n k : Nat) := by rw [tr]; omega
            rw [e]
            exact hset
          · exact ((hfr.trans (Fr.of_below' hB4)).trans (Fr.setCell (O := (· = P)) (p := ⟨P, 0, none⟩) (fun _ => rfl) _)).trans (Fr.setCell (O := (· = P)) (p := ⟨P, 1, none⟩) (fun _ => rfl) _)
        case measure => simp [intOf]; omega
    · obtain rfl : k = E.length := by omega
      obtain ⟨r0, r1, f0, f1⟩ := (hfr.arr har2 (show ¬ R = P by omega)).two
      go_wp2_with fail
      refine bodyPost_ret (v := .tuple #[.agg #[.bool neg, .slice B m q], .int .i64 0]) (by simp [results, Tryz.results13, go_sem, r0, r1]) rfl ⟨_, rfl, ?_, ?_⟩
      · exact ((hnv.setCell (p := ⟨R, 0, none⟩) (by simp; omega) _).setCell (p := ⟨R, 1, none⟩) (by simp; omega) _).mono (fun b hb _ => by have h1 : P < b := hb; show w.heap.size ≤ b; omega)
      · exact (hb5.setCell (p := ⟨R, 0, none⟩) (by simp; omega) _).setCell (p := ⟨R, 1, none⟩) (by simp; omega) _
end Go.Proofs.YtefcdclmabdmbaaGreatDoor
