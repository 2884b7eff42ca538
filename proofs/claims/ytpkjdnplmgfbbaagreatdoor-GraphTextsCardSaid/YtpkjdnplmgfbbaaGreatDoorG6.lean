/- The reference's Distances. The reference's Diameter; the base's Ints. slices.IndexFunc of a list of ints, with whatever function that only makes new memory. Lists of lists of ints that a function makes and appends to. -/
import Derived.Test.YtpkjdnplmgfbbaaGreatDoorG5
namespace Go.Proofs.YtpkjdnplmgfbbaaGreatDoor
open Go.RowKit

/-- The first k of n numbers are x, the others 0. -/
def fl (n k : Nat) (x : Int) : List Int := List.replicate k x ++ List.replicate (n - k) 0
theorem fl_zero (n : Nat) (x : Int) : fl n 0 x = List.replicate n 0 := by simp [fl]
theorem fl_full (n : Nat) (x : Int) : fl n n x = List.replicate n x := by simp [fl]
theorem fl_length {n k : Nat} {x : Int} (h : k ≤ n) : (fl n k x).length = n := by simp [fl]; omega
theorem fl_set {n k : Nat} {x : Int} (h : k < n) : (fl n k x).set k x = fl n (k + 1) x := by
  unfold fl
  rw [List.set_append_right _ _ (by simp), List.length_replicate, Nat.sub_self]
  obtain ⟨m, hm⟩ : ∃ m, n - k = m + 1 := ⟨n - k - 1, by omega⟩
  rw [hm, show n - (k + 1) = m by omega, List.replicate_succ, List.set_cons_zero, List.replicate_succ']
  simp

/-- The row of a vertex, in memory. -/
theorem Gl.row {w : World} {A : Option Addr} {n c : Nat} {E : List (List Nat)} (h : Gl w A n c (toI E)) {i : Nat} (hi : i < E.length) :
    ∃ b off A' c', A = some ⟨b, off, none⟩ ∧ w.cell? ⟨b, off + i, none⟩ = some (.slice A' (gr E i).length c') ∧ (gr E i).length ≤ c' ∧ c' ≤ 9223372036854775807 ∧ Il w A' (gr E i).length c' ((gr E i).map fun x : Nat => (x : Int)) := by
  have hn := h.len
  rw [toI_length] at hn
  obtain ⟨b, off, e, hc⟩ := h.cell (by omega)
  obtain ⟨A', c', h1, h2⟩ := hc i _ (toI_get hi)
  rw [List.length_map] at h1 h2
  have h3 := h2.room
  unfold maxLen at h3
  exact ⟨b, off, A', c', e, h1, h3.1, h3.2, h2⟩
theorem Il.num {w : World} {A : Option Addr} {n c : Nat} {l : List Nat} (h : Il w A n c (l.map fun x : Nat => (x : Int))) {k x : Nat} (hx : l[k]? = some x) : ∃ b off, A = some ⟨b, off, none⟩ ∧ w.cell? ⟨b, off + k, none⟩ = some (.int .i64 (x : Nat)) := by
  have hl := h.len
  rw [List.length_map] at hl
  have := lt_of_some hx
  obtain ⟨b, off, e, hc⟩ := h.cell (by omega)
  exact ⟨b, off, e, hc k x (by rw [List.getElem?_map, hx]; rfl)⟩

/-- The edges that are through: those of the first m vertices, and the first k of vertex m. -/
def thru (E : List (List Nat)) (m k z x : Nat) : Prop := (z < m ∧ x ∈ gr E z) ∨ (z = m ∧ x ∈ (gr E m).take k)
theorem Lev.first {E : List (List Nat)} {a d : Nat} {l : List Int} (h : Lev E a d (fun _ _ => False) l) : Lev E a d (thru E 0 0) l := h.mono fun _ _ hz _ _ => by
  rcases hz with h1 | ⟨_, h1⟩
  · omega
  · simp at h1
theorem Lev.rowEnd {E : List (List Nat)} {a d m k : Nat} {l : List Int} (h : Lev E a d (thru E m k) l) (hk : (gr E m).length ≤ k ∨ l.getD m 0 ≠ d) : Lev E a d (thru E (m + 1) 0) l := h.mono fun z x hz _ hd => by
  rcases hz with ⟨h1, h2⟩ | ⟨_, h1⟩
  · by_cases e : z = m
    · subst e
      rcases hk with hk | hk
      · exact .inr ⟨rfl, by rw [List.take_of_length_le hk]; exact h2⟩
      · exact absurd hd hk
    · exact .inl ⟨by omega, h2⟩
  · simp at h1
theorem Lev.all {E : List (List Nat)} (hE : Valid E) {a d : Nat} {l : List Int} (h : Lev E a d (thru E E.length 0) l) (ha : a < E.length) : Lev E a (d + 1) (fun _ _ => False) l := h.next hE ha fun _ _ hx hz => .inl ⟨hz, hx⟩
theorem Lev.rowOne {E : List (List Nat)} (hE : Valid E) {a d m k x : Nat} {l : List Int} (h : Lev E a d (thru E m k) l) (hm : m < E.length) (hd : l.getD m 0 = d) (hx : (gr E m)[k]? = some x) : Lev E a d (thru E m (k + 1)) (if l.getD x 0 < 0 then l.set x (d + 1) else l) := by
  have hxm : x ∈ gr E m := List.mem_of_getElem? hx
  refine (h.one hm hd hxm (hE m hm x hxm)).mono fun z y hz _ _ => ?_
  rcases hz with h1 | ⟨h1, h2⟩
  · exact .inl (.inl h1)
  · rw [List.take_add_one, hx] at h2
    rcases List.mem_append.1 h2 with h3 | h3
    · exact .inl (.inr ⟨h1, h3⟩)
    · exact .inr ⟨h1, by simpa using h3⟩

end Go.Proofs.YtpkjdnplmgfbbaaGreatDoor

namespace Go.Proofs.YtpkjdnplmgfbbaaGreatDoor
open Go.RowKit

/-- base.Ints: two lists are equal. -/
def IntsR (w : World) (l m : List Int) (e : Ending) (w' : World) : Prop := e = .returned (.bool (decide (l = m))) ∧ Below w.heap.size w w'
theorem intsR {w w' : World} {l m : List Int} {b : Bool} (h : decide (l = m) = b) (hb : Below w.heap.size w w') : IntsR w l m (.returned (.bool b)) w' := ⟨by rw [h], hb⟩
set_option maxHeartbeats 1000000 in
theorem Ints_any {w : World} {A B : Option Addr} {n c n' c' : Nat} {l m : List Int} (h : Il w A n c l) (h' : Il w B n' c' m) :
    Calls Tryz.prog 26 #[.slice A n c, .slice B n' c'] w (IntsR w l m) := by
  have hl := h.len
  have hl' := h'.len
  have hr := h.room
  have hr' := h'.room
  unfold maxLen at hr hr'
  by_cases hn : n = n'
  · subst hn
    have hb : ((n : Int) != (n : Int)) = false := by simp
    have HL := Lib.hid hl
    have HL' := Lib.hid hl'
    clear hl hl'
    go_enter Tryz.func26, Tryz.ntmps26
    go_wp2_with fail
    go_loopw [5] (fun i wr => ∃ (k q : Nat), k ≤ n ∧ i = .int .i64 (k : Nat) ∧ l.take k = m.take k ∧ wr = w.drewN q) (fun i _ => n - (intOf i).toNat)
    case atStart => exact ⟨0, 0, Nat.zero_le _, rfl, rfl, rfl⟩
    case round =>
      obtain ⟨k, q, hk, rfl, ht, rfl⟩ := hrel
      have HT := Lib.hid ht
      clear ht
      by_cases hlt : k < n
      · obtain ⟨b, off, rfl, hc⟩ := h.cell (by omega)
        obtain ⟨b', off', rfl, hc'⟩ := h'.cell (by omega)
        obtain ⟨x, hx⟩ : ∃ x, l[k]? = some x := ⟨_, List.getElem?_eq_getElem (by rw [HL.out]; exact hlt)⟩
        obtain ⟨y, hy⟩ : ∃ y, m[k]? = some y := ⟨_, List.getElem?_eq_getElem (by rw [HL'.out]; exact hlt)⟩
        have cx := hc k x hx
        have cy := hc' k y hy
        clear hc hc'
        have hki : (k : Int) < (n : Int) := by omega
        have hk0 : (0 : Int) ≤ (k : Int) := by omega
        by_cases hxy : x = y
        · have hbx : (x != y) = false := by simp [hxy]
          have ht2 : l.take (k + 1) = m.take (k + 1) := by rw [List.take_add_one, List.take_add_one, hx, hy, HT.out, hxy]
          have HT2 := Lib.hid ht2
          clear hx hy hxy ht2
          go_wp2_with fail
          go_quiet (fail)
          go_wp2_with fail
          exact ⟨⟨k + 1, q + nq, by omega, by go_num, HT2.out, rfl⟩, by simp [intOf]; omega⟩
        · have hbx : (x != y) = true := by simp [hxy]
          have e : decide (l = m) = false := by
            simp only [decide_eq_false_iff_not]
            intro e
            rw [e, hy] at hx
            injection hx with hx
            exact hxy hx.symm
          have HE := Lib.hid e
          clear hx hy hxy e
          go_wp2_with fail
          go_quiet (fail)
          go_wp2_with fail
          go_ret
          exact intsR HE.out (below_drewN' (below_drewN' (Below.refl _ _) _) _)
      · have e : l = m := by
          have := HT.out
          rwa [List.take_of_length_le (by rw [HL.out]; omega), List.take_of_length_le (by rw [HL'.out]; omega)] at this
        have HE := Lib.hid e
        clear e
        go_wp2_with fail
        go_ret
        exact intsR (by simp [HE.out]) (below_drewN' (Below.refl _ _) _)
  · have hb : ((n : Int) != (n' : Int)) = true := by simp; omega
    have e : decide (l = m) = false := by simp; intro e; rw [e] at hl; omega
    have HE := Lib.hid e
    clear e hl hl' hn
    go_enter Tryz.func26, Tryz.ntmps26
    go_wp2_with fail
    go_ret
    exact intsR HE.out (Below.refl _ _)
end Go.Proofs.YtpkjdnplmgfbbaaGreatDoor

namespace Go.Proofs.YtpkjdnplmgfbbaaGreatDoor
open Go.RowKit

/-- Whatever lies in w: the function answers p at each of l. -/
def Asks (w : World) (f : FuncId) (lb : Array Value) (l : List Int) (p : Int → Bool) : Prop :=
  ∀ x, x ∈ l → ∀ W, Below w.heap.size w W → Calls Tryz.prog f (#[.int .i64 x] ++ lb) W fun e W' => e = .returned (.bool (p x)) ∧ Below W.heap.size W W'
def IdxR (w : World) (l : List Int) (p : Int → Bool) (e : Ending) (w' : World) : Prop :=
  ((∃ (i : Nat) (y : Int), l[i]? = some y ∧ l.find? p = some y ∧ e = .returned (.int .i64 (i : Nat))) ∨ (l.find? p = none ∧ e = .returned (.int .i64 (-1)))) ∧ Below w.heap.size w w'

theorem find_at {l : List Int} {p : Int → Bool} {k : Nat} {x : Int} (hn : ∀ y ∈ l.take k, p y = false) (hx : l[k]? = some x) (hp : p x = true) : l.find? p = some x := by
  have e : l = l.take k ++ x :: l.drop (k + 1) := by
    have hk := lt_of_some hx
    rw [List.getElem?_eq_getElem hk] at hx
    injection hx with hx
    rw [← hx, ← List.drop_eq_getElem_cons hk, List.take_append_drop]
  rw [e, List.find?_append, List.find?_eq_none.2 (fun y hy => by rw [hn y hy]; simp)]
  simp [hp]
theorem none_take {l : List Int} {p : Int → Bool} {k : Nat} {x : Int} (hn : ∀ y ∈ l.take k, p y = false) (hx : l[k]? = some x) (hp : p x = false) : ∀ y ∈ l.take (k + 1), p y = false := by
  rw [List.take_add_one, hx]
  intro y hy
  rcases List.mem_append.1 hy with h | h
  · exact hn y h
  · have : y = x := by simpa using h
    subst this; exact hp

set_option maxHeartbeats 1000000 in
theorem IndexFunc_any {w : World} {A : Option Addr} {n c : Nat} {l : List Int} (h : Il w A n c l) {f : FuncId} {lb : Array Value} {p : Int → Bool} (hf : Asks w f lb l p)
    (eg : ∀ args w, (callFunc f args).run Tryz.prog w = .ok (.enter f args) w) :
    Calls Tryz.prog 63 #[.slice A n c, .func (.func f) #[] lb] w (IdxR w l p) := by
  have hl := h.len
  have hr := h.room
  unfold maxLen at hr
  have HL := Lib.hid hl
  have HF := Lib.hid hf
  have EG := Lib.hid eg
  clear hl hf eg
  go_enter Tryz.func63, Tryz.ntmps63
  go_wp2_with fail
  go_loopw [8] (fun i wr => ∃ (k : Nat), k ≤ n ∧ i = .int .i64 (k : Nat) ∧ (∀ y ∈ l.take k, p y = false) ∧ Below w.heap.size w wr) (fun i _ => n - (intOf i).toNat)
  case atStart => exact ⟨0, Nat.zero_le _, rfl, fun y hy => by simp at hy, Below.refl _ _⟩
  case round =>
    obtain ⟨k, hk, rfl, hn, hbr⟩ := hrel
    have HN := Lib.hid hn
    clear hn
    by_cases hlt : k < n
    · obtain ⟨b, off, rfl, hc⟩ := (h.below hbr).cell (by omega)
      obtain ⟨x, hx⟩ : ∃ x, l[k]? = some x := ⟨_, List.getElem?_eq_getElem (by rw [HL.out]; exact hlt)⟩
      have cx := hc k x hx
      have HX := Lib.hid hx
      clear hc hx
      have eg := EG.out
      go_wp2_with fail
      refine (HF.out x (List.mem_of_getElem? HX.out) _ hbr).mono ?_
      rintro e w1 ⟨rfl, hb1⟩
      clear eg
      have hb2 := hbr.trans (hb1.mono hbr.size)
      cases hp : p x
      · have HP := Lib.hid hp
        clear hp
        go_wp2_with fail
        go_roundw
        case rel => exact ⟨k + 1, by omega, by go_num, none_take HN.out HX.out HP.out, hb2⟩
        case measure => simp [intOf]; omega
      · have HP := Lib.hid hp
        clear hp
        go_wp2_with fail
        go_ret
        exact ⟨.inl ⟨k, x, HX.out, find_at HN.out HX.out HP.out, rfl⟩, hb2⟩
    · go_wp2_with fail
      go_ret
      refine ⟨.inr ⟨List.find?_eq_none.2 fun y hy => ?_, rfl⟩, hbr⟩
      have := HN.out y (by rw [List.take_of_length_le (by rw [HL.out]; omega)]; exact hy)
      rw [this]; simp
end Go.Proofs.YtpkjdnplmgfbbaaGreatDoor

namespace Go.Proofs.YtpkjdnplmgfbbaaGreatDoor
open Go.RowKit

/-- The cells of numbers. -/
def nc (l : List Nat) : List Value := l.map fun x : Nat => Value.int .i64 (x : Int)
theorem nc_length (l : List Nat) : (nc l).length = l.length := by simp [nc]
theorem nc_snoc (l : List Nat) (x : Nat) : nc (l ++ [x]) = nc l ++ [.int .i64 (x : Int)] := by simp [nc]
/-- The slice value v is a list of the call's own (memory from base on) that holds l. -/
def OwnN (w : World) (base : Nat) (v : Value) (l : List Nat) : Prop := w.ownsRow base 3 1 v l.length (nc l)
section
variable {w w' : World} {base : Nat} {v : Value} {l : List Nat}
theorem OwnN.nil (w : World) (base : Nat) : OwnN w base (.slice none 0 0) [] := World.ownsRow_nil _ _ _ _
theorem OwnN.slice (h : OwnN w base v l) : ∃ A c, v = .slice A l.length c ∧ l.length ≤ c ∧ c ≤ maxLen := own_slice h
theorem OwnN.below (h : OwnN w base v l) (hb : Below w.heap.size w w') : OwnN w' base v l := by
  refine ⟨h.1, ?_⟩
  rcases h.2 with h3 | ⟨g, cap, cur, e, h4, h5, h6⟩
  · exact .inl h3
  · exact .inr ⟨g, cap, cur, e, h4, (hb.block g (h.lt g (by rw [e]; rfl)).2).trans h5, h6⟩
/-- It stays as long as its own block does. -/
theorem OwnN.keep (h : OwnN w base v l) (hk : ∀ g, v.ownBlock = some g → w'.heap[g]? = w.heap[g]?) : OwnN w' base v l := by
  refine ⟨h.1, ?_⟩
  rcases h.2 with h3 | ⟨g, cap, cur, e, h4, h5, h6⟩
  · exact .inl h3
  · exact .inr ⟨g, cap, cur, e, h4, (hk g (by rw [e]; rfl)).trans h5, h6⟩
theorem OwnN.lt (h : OwnN w base v l) : ∀ k, v.ownBlock = some k → base ≤ k ∧ k < w.heap.size := World.ownsRow.lt h
theorem OwnN.il (h : OwnN w base v l) (hs : ∀ x ∈ l, x ≤ 1000000) : ∃ A c, v = .slice A l.length c ∧ Il w A l.length c (l.map fun x : Nat => (x : Int)) := by
  obtain ⟨A, c, rfl, h1, h2⟩ := h.slice
  have hm : (l.map fun x : Nat => (x : Int)).map (Value.int .i64) = nc l := by simp [nc]
  refine ⟨A, c, rfl, ⟨by simp, h1, h2, fun hn => ?_⟩, fun x hx => ?_⟩
  · obtain ⟨g, cap, e, _, _, _, _, hc⟩ := own_cells h hn
    injection e with e1 e2 e3
    subst e1
    exact ⟨g, 0, rfl, fun j u hu => by rw [hm] at hu; rw [Nat.zero_add]; exact hc j u hu⟩
  · obtain ⟨y, hy, rfl⟩ := List.mem_map.1 hx
    have := hs y hy
    omega
end

section
variable (w0 : World)
theorem info_int : (Tryz.prog.info? 3).map (fun i => (i.zero, i.size, i.bytes)) = some (some (.int .i64 0), 1, 8) := by kernel_rfl
/-- append(own, x) of one number that lies in a block made just before. -/
theorem wpList_pushN {ops : Array Oper} {rest : List Oper} {o : Oper} {a : Act} {Q : Exit → Act → World → Prop} (hgd : o.guard = none) (s x : Operand)
    (ho : o.op = .call { callee := .builtin .append, args := #[s, x], argTypes := #[55, 55] })
    (base : Nat) (v : Value) (l : List Nat) (hs : a.eval s = v) (hown : OwnN w0 base v l)
    (y : Nat) (k : Int) (hk : k = (y : Int)) (hx : a.eval x = .slice (some ⟨w0.heap.size, 0, none⟩) 1 1) (h63 : l.length + 1 ≤ 1000000000) (hbase : base ≤ w0.heap.size)
    (h : ∀ A' c' w', OwnN w' base (.slice A' (l.length + 1) c') (l ++ [y]) → w0.grownBy w' v.ownBlock → (Value.ownBlock (.slice A' (l.length + 1) c') = v.ownBlock ∨ ∃ b, Value.ownBlock (.slice A' (l.length + 1) c') = some b ∧ w0.heap.size ≤ b) → wpList Tryz.prog ops Q rest (a.put o.dst (.slice A' (l.length + 1) c')) w') :
    wpList Tryz.prog ops Q (o :: rest) a (w0.alloc (.cells #[.int .i64 k] 3)) := by
  subst hk
  refine wpList_app _ hgd s x 55 55 ho base 3 3 (.int .i64 0) 1 8 Tryz.underlying55 Tryz.underlying55 info_int rfl (by omega) v l.length (nc l) hs (World.ownsRow.alloc hown _) _ 1 1 [.int .i64 (y : Int)] hx (src_block (heap_alloc_new w0 _) 1 1 rfl) (by simp [Value.oneCell']) (by unfold maxLen; omega) (by omega) (by simp; omega) ?_
  intro v' w' hown' hg hob
  obtain ⟨A', c', rfl, _, _⟩ := own_slice hown'
  refine h A' c' w' ?_ (grownBy_trans (World.grownBy_alloc w0 _ _) hg) ?_
  · unfold OwnN; rw [nc_snoc, List.length_append]; exact hown'
  · rcases hob with h1 | h1
    · exact .inl h1
    · exact .inr ⟨_, h1, by simp⟩
end

/-- Block S is an array of lists: the lists R, each in a block of its own, from base on. -/
structure Rws (w : World) (base S : Nat) (R : List (List Nat)) (vs : List Value) : Prop where
  arr : Arr w S 55 vs
  len : vs.length = R.length
  own : ∀ (i : Nat) v l, vs[i]? = some v → R[i]? = some l → OwnN w base v l
  apart : ∀ (i j : Nat) vi vj b, vs[i]? = some vi → vs[j]? = some vj → vi.ownBlock = some b → vj.ownBlock = some b → i = j
  far : ∀ (i : Nat) v, vs[i]? = some v → v.ownBlock ≠ some S

theorem Rws.made {w : World} {S n base : Nat} (h : Arr w S 55 (madeCells (Value.slice none 0 0).cells (n * 1)).toList) : Rws w base S (List.replicate n []) (List.replicate n (.slice none 0 0)) := by
  have e := toList_madeCells_one (.slice none 0 0) n
  rw [Nat.mul_one] at h
  have hr : ∀ (i : Nat) v, (List.replicate n (Value.slice none 0 0))[i]? = some v → v = .slice none 0 0 := by
    intro i v hv
    rw [List.getElem?_replicate] at hv
    split at hv
    · injection hv with hv; exact hv.symm
    · cases hv
  refine ⟨by rwa [← e], by simp, fun i v l hv hl => ?_, fun i j vi vj b hi hj hb _ => ?_, fun i v hv => ?_⟩
  · rw [hr i v hv]
    rw [List.getElem?_replicate] at hl
    split at hl
    · injection hl with hl; subst hl; exact OwnN.nil _ _
    · cases hl
  · rw [hr i vi hi] at hb; cases hb
  · rw [hr i v hv]; intro h; cases h
theorem Rws.below {w w' : World} {base S : Nat} {R : List (List Nat)} {vs : List Value} (h : Rws w base S R vs) (hb : Below w.heap.size w w') : Rws w' base S R vs :=
  ⟨h.arr.below' hb, h.len, fun i v l hv hl => (h.own i v l hv hl).below hb, h.apart, h.far⟩

/-- One list has grown by one. -/
theorem Rws.push {w w' : World} {base S : Nat} {R : List (List Nat)} {vs : List Value} (h : Rws w base S R vs) {x y : Nat} {v v' : Value} (hv : vs[x]? = some v) (hg : w.grownBy w' v.ownBlock) (hown : OwnN w' base v' (gr R x ++ [y])) (hob : v'.ownBlock = v.ownBlock ∨ ∃ b, v'.ownBlock = some b ∧ w.heap.size ≤ b) :
    Arr w' S 55 vs ∧ Rws (w'.setCell ⟨S, x, none⟩ v') base S (R.set x (gr R x ++ [y])) (vs.set x v') := by
  have hxl := lt_of_some hv
  have ha : Arr w' S 55 vs := (hg.block S h.arr.lt (fun e => h.far x v hv e.symm)).trans h.arr
  have hlt : ∀ (i : Nat) u, vs[i]? = some u → ∀ b, u.ownBlock = some b → b < w.heap.size := by
    intro i u hu b hb
    have hi := lt_of_some hu
    exact ((h.own i u _ hu (List.getElem?_eq_getElem (by rw [← h.len]; exact hi))).lt b hb).2
  have hfar : v'.ownBlock ≠ some S := by
    rcases hob with e | ⟨b, e, hb⟩
    · rw [e]; exact h.far x v hv
    · rw [e]; intro e2; injection e2 with e2; have := h.arr.lt; omega
  have hset : ∀ b, b ≠ S → (w'.setCell ⟨S, x, none⟩ v').heap[b]? = w'.heap[b]? := fun b hb => Below.heap_setCell _ _ _ _ hb
  refine ⟨ha, ha.set_ x v', by simp [h.len], ?_, ?_, ?_⟩
  · intro i u l hu hl
    rw [List.getElem?_set] at hu hl
    by_cases hi : x = i
    · subst hi
      rw [if_pos rfl, if_pos hxl] at hu
      rw [if_pos rfl, if_pos (by rw [← h.len]; exact hxl)] at hl
      injection hu with hu
      injection hl with hl
      subst hu hl
      exact hown.keep fun g hg2 => hset g (fun e => hfar (by rw [hg2, e]))
    · rw [if_neg hi] at hu hl
      refine (h.own i u l hu hl).keep fun g hg2 => ?_
      rw [hset g (fun e => h.far i u hu (by rw [hg2, e]))]
      exact hg.block g (hlt i u hu g hg2) (fun e => hi (h.apart x i v u g hv hu e.symm hg2))
  · intro i j vi vj b hi hj hbi hbj
    rw [List.getElem?_set] at hi hj
    by_cases ei : x = i
    · by_cases ej : x = j
      · omega
      · subst ei
        rw [if_pos rfl, if_pos hxl] at hi
        rw [if_neg ej] at hj
        injection hi with hi
        subst hi
        rcases hob with e | ⟨b2, e, hb2⟩
        · exact h.apart x j v vj b hv hj (by rw [← e]; exact hbi) hbj
        · rw [e] at hbi
          injection hbi with hbi
          have := hlt j vj hj b hbj
          omega
    · rw [if_neg ei] at hi
      by_cases ej : x = j
      · subst ej
        rw [if_pos rfl, if_pos hxl] at hj
        injection hj with hj
        subst hj
        rcases hob with e | ⟨b2, e, hb2⟩
        · exact h.apart i x vi v b hi hv hbi (by rw [← e]; exact hbj)
        · rw [e] at hbj
          injection hbj with hbj
          have := hlt i vi hi b hbi
          omega
      · rw [if_neg ej] at hj
        exact h.apart i j vi vj b hi hj hbi hbj
  · intro i u hu
    rw [List.getElem?_set] at hu
    by_cases hi : x = i
    · subst hi
      rw [if_pos rfl, if_pos hxl] at hu
      injection hu with hu
      subst hu
      exact hfar
    · rw [if_neg hi] at hu
      exact h.far i u hu

/-- As a list of lists. -/
theorem Rws.gl {w : World} {base S : Nat} {R : List (List Nat)} {vs : List Value} (h : Rws w base S R vs) (hs : ∀ l ∈ R, ∀ x ∈ l, x ≤ 1000000) (hn : R.length ≤ 1000000) : Gl w (some ⟨S, 0, none⟩) R.length R.length (toI R) := by
  refine ⟨vs, ⟨h.len, Nat.le_refl _, by unfold maxLen; omega, fun _ => ⟨S, 0, rfl, fun j u hu => by rw [Nat.zero_add, h.arr.cell]; exact hu⟩⟩, by rw [toI_length, h.len], fun i v l hv hl => ?_⟩
  unfold toI at hl
  rw [List.getElem?_map] at hl
  cases hr : R[i]? with
  | none => rw [hr] at hl; cases hl
  | some r =>
    rw [hr] at hl
    injection hl with hl
    subst hl
    obtain ⟨A, c, e, hil⟩ := (h.own i v r hv hr).il (hs r (List.mem_of_getElem? hr))
    exact ⟨A, c, by rw [List.length_map]; exact e, by rw [List.length_map]; exact hil⟩
theorem Rws.at {w : World} {base S : Nat} {R : List (List Nat)} {vs : List Value} (h : Rws w base S R vs) {x : Nat} (hx : x < R.length) : ∃ v A c, vs[x]? = some v ∧ v = .slice A (gr R x).length c ∧ (gr R x).length ≤ c ∧ c ≤ maxLen ∧ OwnN w base v (gr R x) ∧ w.cell? ⟨S, x, none⟩ = some v ∧ w.frozen? ⟨S, x, none⟩ = false := by
  obtain ⟨v, hv⟩ : ∃ v, vs[x]? = some v := ⟨_, List.getElem?_eq_getElem (by rw [h.len]; exact hx)⟩
  have ho := h.own x v _ hv (gr_lt hx)
  obtain ⟨A, c, e, h1, h2⟩ := ho.slice
  exact ⟨v, A, c, hv, e, h1, h2, ho, by rw [h.arr.cell]; exact hv, h.arr.frozen x⟩
end Go.Proofs.YtpkjdnplmgfbbaaGreatDoor
