/- A graph that a call makes: names and rows that are appended to. What a line, and a list of lines, spells. -/
import Derived.Test.YtpkjdnplmgfbbaaGreatDoorTxc
import Derived.Test.YtpkjdnplmgfbbaaGreatDoorMx
namespace Go.Proofs.YtpkjdnplmgfbbaaGreatDoor
open Go.RowKit

theorem own_keep {w w' : World} {base : Nat} {e : TypeId} {size n : Nat} {v : Value} {xs : List Value} (h : w.ownsRow base e size v n xs) (hk : ∀ g, v.ownBlock = some g → w'.heap[g]? = w.heap[g]?) : w'.ownsRow base e size v n xs := by
  refine ⟨h.1, ?_⟩
  rcases h.2 with h3 | ⟨g, cap, cur, e, h4, h5, h6⟩
  · exact .inl h3
  · exact .inr ⟨g, cap, cur, e, h4, (hk g (by rw [e]; rfl)).trans h5, h6⟩
theorem own_below {w w' : World} {base : Nat} {e : TypeId} {size n : Nat} {v : Value} {xs : List Value} (h : w.ownsRow base e size v n xs) (hb : Below w.heap.size w w') : w'.ownsRow base e size v n xs :=
  own_keep h fun g hg => hb.block g (World.ownsRow.lt h g hg).2

/-- A list of ints of the call's own. -/
def OwnZ (w : World) (base : Nat) (v : Value) (l : List Int) : Prop := w.ownsRow base 3 1 v l.length (l.map (Value.int .i64)) ∧ ∀ x ∈ l, -9223372036854775808 ≤ x ∧ x ≤ 9223372036854775807
theorem OwnZ.nil (w : World) (base : Nat) : OwnZ w base (.slice none 0 0) [] := ⟨World.ownsRow_nil _ _ _ _, fun x hx => by cases hx⟩
theorem OwnZ.below {w w' : World} {base : Nat} {v : Value} {l : List Int} (h : OwnZ w base v l) (hb : Below w.heap.size w w') : OwnZ w' base v l := ⟨own_below h.1 hb, h.2⟩
theorem OwnZ.len {w : World} {base : Nat} {A : Option Addr} {n c : Nat} {l : List Int} (h : OwnZ w base (.slice A n c) l) : n = l.length := by
  obtain ⟨A', c', e, _⟩ := own_slice h.1
  injection e
theorem OwnZ.row {w : World} {base : Nat} {v : Value} {l : List Int} (h : OwnZ w base v l) {D : Nat → Prop} (hD : ∀ b, base ≤ b → b < w.heap.size → D b) : IlD w D v l := by
  obtain ⟨A, c, rfl, h1, h2⟩ := own_slice h.1
  refine ⟨A, c, rfl, ⟨⟨by simp, h1, h2, fun hn => ?_⟩, h.2⟩, fun hn => ?_⟩
  · obtain ⟨g, cap, e, hb, _, _, _, hc⟩ := own_cells h.1 hn
    injection e with e1 e2 e3
    subst e1
    exact ⟨g, 0, rfl, fun j u hu => by rw [Nat.zero_add]; exact hc j u hu⟩
  · obtain ⟨g, cap, e, hb, _, _, _, hc⟩ := own_cells h.1 hn
    injection e with e1 e2 e3
    subst e1
    exact ⟨g, 0, rfl, hD g hb (World.ownsRow.lt h.1 g rfl).2⟩
theorem info_intZ : (Tryz.prog.info? 3).map (fun i => (i.zero, i.size, i.bytes)) = some (some (.int .i64 0), 1, 8) := by kernel_rfl
theorem info_str : (Tryz.prog.info? 9).map (fun i => (i.zero, i.size, i.bytes)) = some (some (.string ⟨#[]⟩), 1, 16) := by kernel_rfl
theorem info_intsZ : (Tryz.prog.info? 55).map (fun i => (i.zero, i.size, i.bytes)) = some (some (.slice none 0 0), 1, 24) := by kernel_rfl

section
variable (w0 : World)
/-- append(own, x), as a plain operation. -/
theorem wp_pushZ {o : Oper} {a : Act} {K : Act → World → Prop} {Q : Exit → Act → World → Prop} (s x : Operand)
    (ho : o.op = .call { callee := .builtin .append, args := #[s, x], argTypes := #[55, 55] })
    (base : Nat) (A : Option Addr) (n c : Nat) (l : List Int) (hs : a.eval s = .slice A n c) (hown : OwnZ w0 base (.slice A n c) l)
    (y : Int) (hy : -9223372036854775808 ≤ y ∧ y ≤ 9223372036854775807) (hx : a.eval x = .slice (some ⟨w0.heap.size, 0, none⟩) 1 1) (h63 : n + 1 ≤ 1000000000) (hbase : base ≤ w0.heap.size)
    (h : ∀ A' c' w', OwnZ w' base (.slice A' (n + 1) c') (l ++ [y]) → Below base w0 w' → K (a.put o.dst (.slice A' (n + 1) c')) w') :
    o.wp Tryz.prog a (w0.alloc (.cells #[.int .i64 y] 3)) K Q := by
  obtain rfl := hown.len
  refine wp_app _ s x 55 55 ho base 3 3 (.int .i64 0) 1 8 Tryz.underlying55 Tryz.underlying55 info_intZ rfl (by omega) _ l.length (l.map (Value.int .i64)) hs (World.ownsRow.alloc hown.1 _) _ 1 1 [.int .i64 y] hx (src_block (heap_alloc_new w0 _) 1 1 rfl) (by simp [Value.oneCell']) (by unfold maxLen; omega) (by omega) (by simp; omega) ?_
  intro v' w' hown' hg hob
  obtain ⟨A', c', rfl, _, _⟩ := own_slice hown'
  have hg0 : w0.grownBy w' (Value.slice A l.length c).ownBlock := grownBy_trans (World.grownBy_alloc w0 _ _) hg
  refine h A' c' w' ⟨?_, fun z hz => ?_⟩ ((Below.refl _ _).grown hg0 hbase (fun k hk => (World.ownsRow.lt hown.1 k hk).1))
  · rw [List.length_append, List.map_append]; exact hown'
  · rcases List.mem_append.1 hz with h1 | h1
    · exact hown.2 z h1
    · rw [List.mem_singleton] at h1; rw [h1]; exact hy
end

/-- The names and the rows of a graph that the call makes. -/
structure GB (w : World) (base : Nat) (vN vE : Value) (names : List ByteArray) (E : List (List Int)) : Prop where
  nm : w.ownsRow base 9 1 vN names.length (names.map Value.string)
  ed : ∃ vs, w.ownsRow base 55 1 vE E.length vs ∧ vs.length = E.length ∧ ∀ (i : Nat) u x, vs[i]? = some u → E[i]? = some x → IlD w (fun b => base ≤ b ∧ some b ≠ vE.ownBlock ∧ some b ≠ vN.ownBlock) u x
  ne : ∀ b, vN.ownBlock = some b → vE.ownBlock ≠ some b
  sz : ∀ s ∈ names, s.size ≤ maxLen
theorem GB.nil (w : World) (base : Nat) : GB w base (.slice none 0 0) (.slice none 0 0) [] [] :=
  ⟨World.ownsRow_nil _ _ _ _, ⟨[], World.ownsRow_nil _ _ _ _, rfl, fun i u x hu => by simp at hu⟩, fun b hb => by simp [Value.ownBlock] at hb, fun s hs => by cases hs⟩
theorem GB.below {w w' : World} {base : Nat} {vN vE : Value} {names : List ByteArray} {E : List (List Int)} (h : GB w base vN vE names E) (hb : Below w.heap.size w w') : GB w' base vN vE names E := by
  obtain ⟨h1, ⟨vs, h2, h3, h4⟩, h5, h6⟩ := h
  exact ⟨own_below h1 hb, ⟨vs, own_below h2 hb, h3, fun i u x hu hx => Foot.below (h4 i u x hu hx) hb⟩, h5, h6⟩
/-- Blocks that belong to none of it may change. -/
theorem GB.upd {w w' : World} {base : Nat} {vN vE : Value} {names : List ByteArray} {E : List (List Int)} (h : GB w base vN vE names E) {S : Nat → Prop} (hb : Upd S w w') (hS : ∀ k, S k → k < base) : GB w' base vN vE names E := by
  obtain ⟨h1, ⟨vs, h2, h3, h4⟩, h5, h6⟩ := h
  have hk : ∀ b, base ≤ b → b < w.heap.size → w'.heap[b]? = w.heap[b]? := fun b h1 h2 => hb.block b h2 (fun hs => by have := hS b hs; omega)
  have k1 := fun g hg => hk g (World.ownsRow.lt h1 g hg).1 (World.ownsRow.lt h1 g hg).2
  have k2 := fun g hg => hk g (World.ownsRow.lt h2 g hg).1 (World.ownsRow.lt h2 g hg).2
  exact ⟨own_keep h1 k1, ⟨vs, own_keep h2 k2, h3, fun i u x hu hx => Foot.keep (h4 i u x hu hx) fun b hd hl => hk b hd.1 hl⟩, h5, h6⟩
theorem GB.slices {w : World} {base : Nat} {vN vE : Value} {names : List ByteArray} {E : List (List Int)} (h : GB w base vN vE names E) : ∃ A c A' c', vN = .slice A names.length c ∧ vE = .slice A' E.length c' := by
  obtain ⟨A, c, e, _⟩ := own_slice h.nm
  obtain ⟨vs, h2, _⟩ := h.ed
  obtain ⟨A', c', e', _⟩ := own_slice h2
  exact ⟨A, c, A', c', e, e'⟩
/-- It is a graph. -/
theorem GB.gr {w : World} {base : Nat} {vN vE : Value} {names : List ByteArray} {E : List (List Int)} (h : GB w base vN vE names E) : GrV w (.agg #[vN, vE]) names E := by
  obtain ⟨h1, ⟨vs, h2, h3, h4⟩, h5, h6⟩ := h
  obtain ⟨A, c, rfl, hc1, hc2⟩ := own_slice h1
  obtain ⟨A', c', rfl, hc3, hc4⟩ := own_slice h2
  refine ⟨A, c, A', c', rfl, ⟨⟨by simp, hc1, hc2, fun hn => ?_⟩, h6⟩, vs, ⟨h3, hc3, hc4, fun hn => ?_⟩, h3, fun i u x hu hx => ?_⟩
  · obtain ⟨g, cap, e, _, _, _, _, hc⟩ := own_cells h1 hn
    injection e with e1 e2 e3
    subst e1
    exact ⟨g, 0, rfl, fun j u hu => by rw [Nat.zero_add]; exact hc j u hu⟩
  · obtain ⟨g, cap, e, _, _, _, _, hc⟩ := own_cells h2 hn
    injection e with e1 e2 e3
    subst e1
    exact ⟨g, 0, rfl, fun j u hu => by rw [Nat.zero_add]; exact hc j u hu⟩
  · exact (h4 i u x hu hx).il

section
variable (w0 : World)
/-- append(names, y): y lies in block B. -/
theorem wpList_pushNm {ops : Array Oper} {rest : List Oper} {o : Oper} {a : Act} {Q : Exit → Act → World → Prop} (hgd : o.guard = none) (s x : Operand)
    (ho : o.op = .call { callee := .builtin .append, args := #[s, x], argTypes := #[22, 22] })
    (base : Nat) (A : Option Addr) (n c : Nat) (vE : Value) (names : List ByteArray) (E : List (List Int)) (hs : a.eval s = .slice A n c) (h0 : GB w0 base (.slice A n c) vE names E)
    (y : ByteArray) (hy : y.size ≤ maxLen) (B : Nat) (hB : w0.heap[B]? = some (.cells #[.string y] 9 (0, 0))) (hx : a.eval x = .slice (some ⟨B, 0, none⟩) 1 1) (h63 : n + 1 ≤ 1000000000) (hbase : base ≤ w0.heap.size)
    (h : ∀ A' c' w', GB w' base (.slice A' (n + 1) c') vE (names ++ [y]) E → w0.grownBy w' (Value.slice A n c).ownBlock → ((Value.slice A' (n + 1) c').ownBlock = (Value.slice A n c).ownBlock ∨ (Value.slice A' (n + 1) c').ownBlock = some w0.heap.size) → Below base w0 w' → wpList Tryz.prog ops Q rest (a.put o.dst (.slice A' (n + 1) c')) w') :
    wpList Tryz.prog ops Q (o :: rest) a w0 := by
  obtain ⟨h1, ⟨vs, h2, h3, h4⟩, h5, h6⟩ := h0
  obtain rfl : n = names.length := by
    obtain ⟨A', c', e, _⟩ := own_slice h1
    injection e
  refine wpList_app _ hgd s x 22 22 ho base 9 9 (.string ⟨#[]⟩) 1 16 Tryz.underlying22 Tryz.underlying22 info_str rfl (by omega) _ names.length (names.map Value.string) hs h1 _ 1 1 [.string y] hx (src_block hB 1 1 rfl) (by simp [Value.oneCell']) (by unfold maxLen; omega) (by omega) hbase ?_
  intro v' w' hown' hg hob
  obtain ⟨A', c', rfl, _, _⟩ := own_slice hown'
  have k2 : ∀ g, vE.ownBlock = some g → w'.heap[g]? = w0.heap[g]? := fun g hgE => hg.block g (World.ownsRow.lt h2 g hgE).2 (fun e => h5 g e.symm hgE)
  refine h A' c' w' ⟨?_, ⟨vs, own_keep h2 k2, h3, fun i u x hu hx => ?_⟩, fun b hb => ?_, fun s hs => ?_⟩ hg hob ((Below.refl _ _).grown hg hbase (fun k hk => (World.ownsRow.lt h1 k hk).1))
  · rw [List.length_append, List.map_append]; exact hown'
  · have hr : IlD w0 (fun b => (base ≤ b ∧ some b ≠ vE.ownBlock ∧ some b ≠ (Value.slice A names.length c).ownBlock) ∧ b < w0.heap.size) u x := Foot.mono (h4 i u x hu hx) fun b h1 h2 => ⟨h1, h2⟩
    refine Foot.mono (Foot.keep hr fun b hd hb => hg.block b hb hd.1.2.2) fun b hd _ => ⟨hd.1.1, hd.1.2.1, ?_⟩
    rcases hob with e | e
    · rw [e]; exact hd.1.2.2
    · rw [e]
      intro e2
      injection e2 with e2
      have := hd.2
      omega
  · rcases hob with e | e
    · rw [e] at hb; exact h5 b hb
    · rw [e] at hb
      injection hb with hb
      intro e2
      have := (World.ownsRow.lt h2 b e2).2
      omega
  · rcases List.mem_append.1 hs with h1 | h1
    · exact h6 s h1
    · rw [List.mem_singleton] at h1; rw [h1]; exact hy
/-- append(rows, u): u lies in block B. -/
theorem wpList_pushEd {ops : Array Oper} {rest : List Oper} {o : Oper} {a : Act} {Q : Exit → Act → World → Prop} (hgd : o.guard = none) (s x : Operand)
    (ho : o.op = .call { callee := .builtin .append, args := #[s, x], argTypes := #[23, 23] })
    (base : Nat) (vN : Value) (A : Option Addr) (n c : Nat) (names : List ByteArray) (E : List (List Int)) (hs : a.eval s = .slice A n c) (h0 : GB w0 base vN (.slice A n c) names E)
    (u0 : Value) (y : List Int) (hy : IlD w0 (fun b => base ≤ b ∧ some b ≠ (Value.slice A n c).ownBlock ∧ some b ≠ vN.ownBlock) u0 y) (B : Nat) (hB : w0.heap[B]? = some (.cells #[u0] 55 (0, 0))) (hx : a.eval x = .slice (some ⟨B, 0, none⟩) 1 1) (h63 : n + 1 ≤ 1000000000) (hbase : base ≤ w0.heap.size)
    (h : ∀ A' c' w', GB w' base vN (.slice A' (n + 1) c') names (E ++ [y]) → w0.grownBy w' (Value.slice A n c).ownBlock → Below base w0 w' → wpList Tryz.prog ops Q rest (a.put o.dst (.slice A' (n + 1) c')) w') :
    wpList Tryz.prog ops Q (o :: rest) a w0 := by
  obtain ⟨h1, ⟨vs, h2, h3, h4⟩, h5, h6⟩ := h0
  obtain rfl : n = E.length := by
    obtain ⟨A', c', e, _⟩ := own_slice h2
    injection e
  have hone : u0.oneCell' = true := Foot.one hy
  refine wpList_app _ hgd s x 23 23 ho base 55 55 (.slice none 0 0) 1 24 Tryz.underlying23 Tryz.underlying23 info_intsZ rfl (by omega) _ E.length vs hs h2 _ 1 1 [u0] hx (src_block hB 1 1 rfl) (by intro u' hu'; rw [List.mem_singleton] at hu'; rw [hu']; exact hone) (by unfold maxLen; omega) (by omega) hbase ?_
  intro v' w' hown' hg hob
  obtain ⟨A', c', rfl, _, _⟩ := own_slice hown'
  have k1 : ∀ g, vN.ownBlock = some g → w'.heap[g]? = w0.heap[g]? := fun g hgN => hg.block g (World.ownsRow.lt h1 g hgN).2 (fun e => h5 g hgN e.symm)
  refine h A' c' w' ⟨own_keep h1 k1, ⟨vs ++ [u0], by rw [List.length_append]; exact hown', by simp [h3], fun i u x hu hx => ?_⟩, fun b hb => ?_, h6⟩ hg ((Below.refl _ _).grown hg hbase (fun k hk => (World.ownsRow.lt h2 k hk).1))
  · have hr0 : IlD w0 (fun b => base ≤ b ∧ some b ≠ (Value.slice A E.length c).ownBlock ∧ some b ≠ vN.ownBlock) u x := by
      rcases getElem?_snoc_cases hx with ⟨e1, e2⟩ | ⟨e1, e2⟩
      · rw [List.getElem?_append_left (by omega)] at hu
        exact h4 i u x hu e2
      · rw [List.getElem?_append_right (by omega)] at hu
        have : i - vs.length = 0 := by omega
        rw [this] at hu
        simp at hu
        subst hu e2
        exact hy
    have hr : IlD w0 (fun b => (base ≤ b ∧ some b ≠ (Value.slice A E.length c).ownBlock ∧ some b ≠ vN.ownBlock) ∧ b < w0.heap.size) u x := Foot.mono hr0 fun b h1 h2 => ⟨h1, h2⟩
    refine Foot.mono (Foot.keep hr fun b hd hb => hg.block b hb hd.1.2.1) fun b hd _ => ⟨hd.1.1, ?_, hd.1.2.2⟩
    rcases hob with e | e
    · rw [e]; exact hd.1.2.1
    · rw [e]
      intro e2
      injection e2 with e2
      have := hd.2
      omega
  · rcases hob with e | e
    · rw [e]; exact h5 b hb
    · rw [e]
      intro e2
      injection e2 with e2
      have := (World.ownsRow.lt h1 b hb).2
      omega
end

/-- What words spell. -/
def atos : List ByteArray → Option (List Int)
  | [] => some []
  | w :: ws => match ato w with
    | none => none
    | some v => (atos ws).map (v :: ·)
theorem atos_snoc : ∀ {ws : List ByteArray} {l : List Int} {x : ByteArray} {v : Int}, atos ws = some l → ato x = some v → atos (ws ++ [x]) = some (l ++ [v])
  | [], l, x, v, h, hx => by
    simp [atos] at h
    subst h
    simp [atos, hx]
  | w :: ws, l, x, v, h, hx => by
    unfold atos at h
    cases hw : ato w with
    | none => rw [hw] at h; cases h
    | some y =>
      rw [hw] at h
      cases ht : atos ws with
      | none => rw [ht] at h; cases h
      | some t =>
        rw [ht] at h
        simp at h
        subst h
        have ih := atos_snoc ht hx
        simp [atos, hw, ih]
theorem atos_bad : ∀ {ws : List ByteArray} {x : ByteArray}, x ∈ ws → ato x = none → atos ws = none
  | w :: ws, x, h, hx => by
    rcases List.mem_cons.1 h with rfl | h
    · simp [atos, hx]
    · unfold atos
      rw [atos_bad h hx]
      cases ato w <;> rfl
/-- What a line spells. -/
def lnp (x : ByteArray) : Option (ByteArray × List Int) := match spl (trn x) with
  | [] => none
  | w :: ws => (atos ws).map fun l => (w, l)
/-- What lines spell. -/
def lnps : List ByteArray → Option (List ByteArray × List (List Int))
  | [] => some ([], [])
  | x :: xs => match lnp x with
    | none => none
    | some (n, l) => (lnps xs).map fun (N, E) => (n :: N, l :: E)
theorem lnps_snoc : ∀ {xs : List ByteArray} {N : List ByteArray} {E : List (List Int)} {x n : ByteArray} {l : List Int}, lnps xs = some (N, E) → lnp x = some (n, l) → lnps (xs ++ [x]) = some (N ++ [n], E ++ [l])
  | [], N, E, x, n, l, h, hx => by
    simp [lnps] at h
    obtain ⟨rfl, rfl⟩ := h
    simp [lnps, hx]
  | y :: ys, N, E, x, n, l, h, hx => by
    unfold lnps at h
    cases hy : lnp y with
    | none => rw [hy] at h; cases h
    | some p =>
      obtain ⟨m, k⟩ := p
      rw [hy] at h
      cases ht : lnps ys with
      | none => rw [ht] at h; cases h
      | some t =>
        obtain ⟨N', E'⟩ := t
        rw [ht] at h
        simp at h
        obtain ⟨rfl, rfl⟩ := h
        have ih := lnps_snoc ht hx
        simp [lnps, hy, ih]
theorem lnps_bad : ∀ {xs : List ByteArray} {x : ByteArray}, x ∈ xs → lnp x = none → lnps xs = none
  | y :: ys, x, h, hx => by
    rcases List.mem_cons.1 h with rfl | h
    · simp [lnps, hx]
    · unfold lnps
      rw [lnps_bad h hx]
      cases lnp y <;> rfl
theorem prefix_mem {pre : List ByteArray} {x : ByteArray} {xs : List ByteArray} (h : pre ++ [x] <+: xs) : x ∈ xs := by
  obtain ⟨t, rfl⟩ := h
  simp
end Go.Proofs.YtpkjdnplmgfbbaaGreatDoor
