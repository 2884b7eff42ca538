/- Matrices of integers that a call has made: rows that are written in place. -/
import Derived.Test.YtpkjdnplmgfbbaaDoorWkt
namespace Go.Proofs.YtpkjdnplmgfbbaaDoor
open Go.RowKit

/-- A row in a block of its own, the numbers' words in blocks of D. -/
def RwX (w : World) (D : Nat → Prop) (g : Nat) (l : List Int) : Prop := ∃ xs, Arr w g 46 xs ∧ Cs w D xs l
section
variable {w w' : World} {D D' : Nat → Prop} {g : Nat} {l : List Int}
theorem RwX.lt (h : RwX w D g l) : g < w.heap.size := by obtain ⟨xs, h1, _⟩ := h; exact h1.lt
theorem RwX.below (h : RwX w D g l) (hb : Below w.heap.size w w') : RwX w' D g l := by obtain ⟨xs, h1, h2⟩ := h; exact ⟨xs, h1.below' hb, h2.below hb⟩
theorem RwX.mono (h : RwX w D g l) (hd : ∀ b, D b → b < w.heap.size → D' b) : RwX w D' g l := by obtain ⟨xs, h1, h2⟩ := h; exact ⟨xs, h1, h2.mono hd⟩
theorem RwX.frozen (h : RwX w D g l) (i : Nat) : w.frozen? ⟨g, i, none⟩ = false := by obtain ⟨xs, h1, _⟩ := h; exact h1.frozen i
theorem RwX.cast {m : List Int} (h : RwX w D g l) (e : l = m) : RwX w D g m := e ▸ h
theorem RwX.cells (h : RwX w D g l) {j : Nat} (hj : j < l.length) : ∃ neg B m k, w.cell? ⟨g, j * 2, none⟩ = some (.bool neg) ∧ w.cell? ⟨g, j * 2 + 1, none⟩ = some (.slice B m k) ∧ NIntV w D (.agg #[.bool neg, .slice B m k]) (gz l j) := by
  obtain ⟨xs, h1, h2⟩ := h
  obtain ⟨neg, B, m, k, e0, e1, e2⟩ := h2.2 j hj
  exact ⟨neg, B, m, k, (h1.cell _).trans e0, (h1.cell _).trans e1, e2⟩
theorem RwX.set (h : RwX w D g l) (hD : ¬ D g) {i : Nat} (hi : i < l.length) {neg : Bool} {B : Option Addr} {m k : Nat} {x : Int} (hx : NIntV w D (.agg #[.bool neg, .slice B m k]) x) :
    RwX ((w.setCell ⟨g, i * 2, none⟩ (.bool neg)).setCell ⟨g, i * 2 + 1, none⟩ (.slice B m k)) D g (l.set i x) := by
  obtain ⟨xs, h1, h2⟩ := h
  exact ⟨_, (h1.set_ _ _).set_ _ _, ((h2.set hi hx).setCell hD _).setCell hD _⟩
theorem RwX.far (h : RwX w D g l) {p : Addr} (hp : g ≠ p.block) (hD : ¬ D p.block) (u : Value) : RwX (w.setCell p u) D g l := by
  obtain ⟨xs, h1, h2⟩ := h
  exact ⟨xs, h1.far hp u, h2.setCell hD u⟩
theorem RwX.made {n : Nat} (h : Arr w g 46 (madeCells (Value.agg #[.bool false, .slice none 0 0]).cells (n * 2)).toList) : RwX w D g (List.replicate n 0) := by
  rw [show (Value.agg #[.bool false, .slice none 0 0]).cells = #[.bool false, .slice none 0 0] from rfl, toList_madeCells_two] at h
  exact ⟨_, h, Cs.zeros n⟩
theorem RwX.pv (h : RwX w D g l) {n : Nat} (hn : l.length = n) (hm : n ≤ maxLen) (hg : D' g) (hd : ∀ b, D b → D' b) : PvD w D' (.slice (some ⟨g, 0, none⟩) n n) l := by
  obtain ⟨xs, h1, h2⟩ := h
  subst hn
  refine ⟨some ⟨g, 0, none⟩, l.length, rfl, rfl, Nat.le_refl _, hm, fun hn => ⟨g, 0, rfl, hg, fun j hj => ?_⟩⟩
  obtain ⟨neg, B, m, k, e0, e1, e2⟩ := h2.2 j hj
  exact ⟨neg, B, m, k, by rw [Nat.zero_add]; exact (h1.cell _).trans e0, by rw [Nat.zero_add]; exact (h1.cell _).trans e1, e2.mono fun b hb _ => hd b hb⟩
end

/-- Where the words of its numbers lie. -/
def DgM (base : Nat) (X : Nat → Prop) (v : Value) (b : Nat) : Prop := base ≤ b ∧ ¬ X b ∧ some b ≠ v.ownBlock
def slM (n g : Nat) : Value := .slice (some ⟨g, 0, none⟩) n n
/-- A matrix of the call's own: X holds of the blocks of rows. -/
def MtO (w : World) (base : Nat) (X : Nat → Prop) (v : Value) (n : Nat) (gs : List Nat) (L : List (List Int)) : Prop :=
  w.ownsRow base 41 1 v L.length (gs.map (slM n)) ∧ gs.length = L.length ∧ (∀ (i j : Nat) g, gs[i]? = some g → gs[j]? = some g → i = j) ∧
    ∀ (i : Nat) g l, gs[i]? = some g → L[i]? = some l → base ≤ g ∧ X g ∧ some g ≠ v.ownBlock ∧ l.length = n ∧ RwX w (DgM base X v) g l
section
variable {w w' : World} {base n : Nat} {X X' : Nat → Prop} {v : Value} {gs : List Nat} {L : List (List Int)}
theorem MtO.nil (w : World) (base n : Nat) (X : Nat → Prop) : MtO w base X (.slice none 0 0) n [] [] := ⟨World.ownsRow_nil _ _ _ _, rfl, fun i j g h => by simp at h, fun i g l h => by simp at h⟩
theorem own_below {w w' : World} {base : Nat} {e : TypeId} {size : Nat} {v : Value} {n : Nat} {xs : List Value} (h : w.ownsRow base e size v n xs) (hb : ∀ g, v.ownBlock = some g → w'.heap[g]? = w.heap[g]?) : w'.ownsRow base e size v n xs := by
  refine ⟨h.1, ?_⟩
  rcases h.2 with h3 | ⟨g, cap, cur, e, h4, h5, h6⟩
  · exact .inl h3
  · exact .inr ⟨g, cap, cur, e, h4, (hb g (by rw [e]; rfl)).trans h5, h6⟩
theorem MtO.below (h : MtO w base X v n gs L) (hb : Below w.heap.size w w') : MtO w' base X v n gs L :=
  ⟨own_below h.1 fun g hg => hb.block g (h.1.lt g hg).2, h.2.1, h.2.2.1, fun i g l hg hl => by
    obtain ⟨h1, h2, h3, h4, h5⟩ := h.2.2.2 i g l hg hl
    exact ⟨h1, h2, h3, h4, h5.below hb⟩⟩
theorem MtO.more (h : MtO w base X v n gs L) (h1 : ∀ b, X' b → X b ∨ w.heap.size ≤ b) (h2 : ∀ g ∈ gs, X' g) : MtO w base X' v n gs L :=
  ⟨h.1, h.2.1, h.2.2.1, fun i g l hg hl => by
    obtain ⟨k1, k2, k3, k4, k5⟩ := h.2.2.2 i g l hg hl
    refine ⟨k1, h2 g (List.mem_of_getElem? hg), k3, k4, k5.mono fun b hb hlt => ⟨hb.1, fun hx => ?_, hb.2.2⟩⟩
    rcases h1 b hx with h | h
    · exact hb.2.1 h
    · omega⟩
/-- Another block of X changes. -/
theorem MtO.fr {S : Nat} (h : MtO w base X v n gs L) (hf : Fr (· = S) w w') (h1 : some S ≠ v.ownBlock) (h2 : S ∉ gs) (h3 : X S) : MtO w' base X v n gs L :=
  ⟨own_below h.1 fun g hg => hf.block g (h.1.lt g hg).2 (fun e => h1 (by rw [← e]; exact hg.symm)), h.2.1, h.2.2.1, fun i g l hg hl => by
    obtain ⟨k1, k2, k3, k4, xs, k5, k6⟩ := h.2.2.2 i g l hg hl
    exact ⟨k1, k2, k3, k4, xs, hf.arr k5 (fun e => h2 (by rw [← e]; exact List.mem_of_getElem? hg)), k6.keep fun b o hd hl => hf.cell hl (fun e => hd.2.1 (by rw [e]; exact h3))⟩⟩
theorem MtO.slice (h : MtO w base X v n gs L) {q : Nat} (hq : L.length = q) : ∃ A c, v = .slice A q c ∧ q ≤ c ∧ c ≤ maxLen := by
  subst hq
  exact own_slice h.1
theorem MtO.cast {M : List (List Int)} (h : MtO w base X v n gs L) (e : L = M) : MtO w base X v n gs M := e ▸ h
/-- A row's place. -/
theorem MtO.at (h : MtO w base X v n gs L) {i : Nat} {l : List Int} (hl : L[i]? = some l) : ∃ B g cap, v = .slice (some ⟨B, 0, none⟩) L.length cap ∧ base ≤ B ∧ B < w.heap.size ∧ w.cell? ⟨B, i, none⟩ = some (slM n g) ∧ gs[i]? = some g ∧ base ≤ g ∧ X g ∧ g ≠ B ∧ l.length = n ∧ RwX w (DgM base X v) g l := by
  have hil := lt_of_some hl
  obtain ⟨g, hg⟩ : ∃ g, gs[i]? = some g := ⟨_, List.getElem?_eq_getElem (by rw [h.2.1]; exact hil)⟩
  obtain ⟨k1, k2, k3, k4, k5⟩ := h.2.2.2 i g l hg hl
  obtain ⟨B, cap, e, hB, _, _, _, hc⟩ := own_cells h.1 (by omega)
  have hBl := (h.1.lt B (by rw [e]; rfl)).2
  refine ⟨B, g, cap, e, hB, hBl, hc i _ (by rw [List.getElem?_map, hg]; rfl), hg, k1, k2, fun e2 => k3 ?_, k4, k5⟩
  rw [e, e2]; rfl
theorem MtO.rows (h : MtO w base X v n gs L) (hm : n ≤ maxLen) : RowsD PvD w (base ≤ ·) v L := by
  obtain ⟨A, c, rfl, hc1, hc2⟩ := own_slice h.1
  refine ⟨A, c, gs.map (slM n), rfl, hc1, hc2, by rw [List.length_map, h.2.1], fun hn => ?_, fun i u x hu hx => ?_⟩
  · obtain ⟨g, cap, e, hb, _, _, _, hc⟩ := own_cells h.1 hn
    injection e with e1 e2 e3
    subst e1
    exact ⟨g, 0, rfl, hb, fun j u hu => by rw [Nat.zero_add]; exact hc j u hu⟩
  · rw [List.getElem?_map] at hu
    cases hg : gs[i]? with
    | none => rw [hg] at hu; cases hu
    | some g =>
      rw [hg] at hu
      injection hu with hu
      subst hu
      obtain ⟨k1, k2, k3, k4, k5⟩ := h.2.2.2 i g x hg hx
      exact k5.pv k4 hm k1 fun b hb => hb.1
/-- One number of a row is written. -/
theorem MtO.set (h : MtO w base X v n gs L) {i k g : Nat} {l : List Int} (hg : gs[i]? = some g) (hl : L[i]? = some l) (hk : k < n) {neg : Bool} {B : Option Addr} {m q : Nat} {x : Int} (hx : NIntV w (DgM base X v) (.agg #[.bool neg, .slice B m q]) x) :
    MtO ((w.setCell ⟨g, k * 2, none⟩ (.bool neg)).setCell ⟨g, k * 2 + 1, none⟩ (.slice B m q)) base X v n gs (L.set i (l.set k x)) := by
  obtain ⟨k1, k2, k3, k4, k5⟩ := h.2.2.2 i g l hg hl
  have hD : ¬ DgM base X v g := fun hd => hd.2.1 k2
  refine ⟨?_, by rw [List.length_set]; exact h.2.1, h.2.2.1, fun j g' l' hg' hl' => ?_⟩
  · rw [List.length_set]
    refine own_below h.1 fun b hb => ?_
    have hbg : b ≠ g := fun e => k3 (by rw [← e]; exact hb.symm)
    exact (Below.heap_setCell _ _ _ _ (fun e => hbg e)).trans (Below.heap_setCell _ _ _ _ (fun e => hbg e))
  · by_cases e : i = j
    · subst e
      rw [hg] at hg'
      injection hg' with hg'
      subst hg'
      rw [List.getElem?_set_self (lt_of_some hl)] at hl'
      injection hl' with hl'
      subst hl'
      exact ⟨k1, k2, k3, by rw [List.length_set]; exact k4, k5.set hD (by rw [k4]; exact hk) hx⟩
    · rw [List.getElem?_set_ne e] at hl'
      obtain ⟨m1, m2, m3, m4, m5⟩ := h.2.2.2 j g' l' hg' hl'
      have hgg : g' ≠ g := fun e2 => e (h.2.2.1 i j g hg (by rw [← e2]; exact hg'))
      exact ⟨m1, m2, m3, m4, (m5.far (p := ⟨g, k * 2, none⟩) hgg hD _).far (p := ⟨g, k * 2 + 1, none⟩) hgg hD _⟩

variable (w0 : World)
/-- append(own, row) of a row that the call has made. -/
theorem wpList_pushM {ops : Array Oper} {rest : List Oper} {o : Oper} {a : Act} {Q : Exit → Act → World → Prop} (hgd : o.guard = none) (s x : Operand) (t t' : TypeId)
    (ho : o.op = .call { callee := .builtin .append, args := #[s, x], argTypes := #[t, t'] })
    (ht : Tryd.prog.underlying t = some (.slice 41)) (ht' : Tryd.prog.underlying t' = some (.slice 41))
    (base : Nat) (v : Value) (q : Nat) (hq : L.length = q) (hs : a.eval s = v) (hown : MtO w0 base X v n gs L) (g : Nat) (l : List Int) (hgn : ∀ g' ∈ gs, g' ≠ g) (hbg : base ≤ g) (hXg : X g) (hgv : some g ≠ v.ownBlock) (hln : l.length = n) (hrow : RwX w0 (DgM base X v) g l)
    (hx : a.eval x = .slice (some ⟨w0.heap.size, 0, none⟩) 1 1) (h63 : q + 1 ≤ 1000000000) (hbase : base ≤ w0.heap.size)
    (h : ∀ A' c' w', MtO w' base X (.slice A' (q + 1) c') n (gs ++ [g]) (L ++ [l]) → w0.grownBy w' v.ownBlock → Below base w0 w' → wpList Tryd.prog ops Q rest (a.put o.dst (.slice A' (q + 1) c')) w') :
    wpList Tryd.prog ops Q (o :: rest) a (w0.alloc (.cells #[slM n g] 41)) := by
  subst hq
  refine wpList_app _ hgd s x t t' ho base 41 41 (.slice none 0 0) 1 24 ht ht' info_Ints rfl (by omega) v L.length _ hs (hown.1.alloc _) _ 1 1 [slM n g] hx (src_block (heap_alloc_new w0 _) 1 1 rfl) (by simp [Value.oneCell', slM]) (by unfold maxLen; omega) (by omega) (by simp; omega) ?_
  intro v' w' hown' hg hob
  obtain ⟨A', c', rfl, _, _⟩ := own_slice hown'
  have hg0 : w0.grownBy w' v.ownBlock := grownBy_trans (World.grownBy_alloc w0 _ _) hg
  have hk : ∀ b, some b ≠ v.ownBlock → b < w0.heap.size → w'.heap[b]? = w0.heap[b]? := fun b hd hb => hg0.block b hb hd
  have hv' : ∀ b, b < w0.heap.size → some b ≠ v.ownBlock → some b ≠ Value.ownBlock (.slice A' (L.length + 1) c') := fun b hb hd e => by
    rcases hob with h1 | h1
    · exact hd (e.trans h1)
    · rw [h1] at e
      injection e with e
      simp at e
      omega
  have hkeep : ∀ g' l', RwX w0 (DgM base X v) g' l' → some g' ≠ v.ownBlock → RwX w' (DgM base X (.slice A' (L.length + 1) c')) g' l' := fun g' l' ⟨xs, h1, h2⟩ hne => by
    have hc3 : Cs w0 (fun b => DgM base X v b ∧ b < w0.heap.size) xs l' := h2.mono fun b h1 h2 => ⟨h1, h2⟩
    exact ⟨xs, (hk g' hne h1.lt).trans h1, (hc3.keep (w' := w') fun b o hd hb => World.cell?_of_block (hk b hd.1.2.2 hb)).mono fun b hd _ => ⟨hd.1.1, hd.1.2.1, hv' b hd.2 hd.1.2.2⟩⟩
  refine h A' c' w' ⟨by rw [List.length_append, List.map_append]; exact hown', by simp [hown.2.1], fun i j y hi hj => ?_, fun i y l' hi hl' => ?_⟩ hg0 ((Below.refl _ _).grown hg0 hbase (fun k hk => (hown.1.lt k hk).1))
  · rcases getElem?_snoc_cases hi with ⟨a1, a2⟩ | ⟨a1, a2⟩
    · rcases getElem?_snoc_cases hj with ⟨b1, b2⟩ | ⟨b1, b2⟩
      · exact hown.2.2.1 i j y a2 b2
      · exact absurd b2 (hgn y (List.mem_of_getElem? a2))
    · rcases getElem?_snoc_cases hj with ⟨b1, b2⟩ | ⟨b1, b2⟩
      · exact absurd a2 (hgn y (List.mem_of_getElem? b2))
      · omega
  · rcases getElem?_snoc_cases hi with ⟨a1, a2⟩ | ⟨a1, a2⟩
    · rcases getElem?_snoc_cases hl' with ⟨b1, b2⟩ | ⟨b1, b2⟩
      · obtain ⟨k1, k2, k3, k4, k5⟩ := hown.2.2.2 i y l' a2 b2
        exact ⟨k1, k2, hv' y k5.lt k3, k4, hkeep y l' k5 k3⟩
      · have := hown.2.1; omega
    · rcases getElem?_snoc_cases hl' with ⟨b1, b2⟩ | ⟨b1, b2⟩
      · have := hown.2.1; omega
      · subst a2 b2
        exact ⟨hbg, hXg, hv' y hrow.lt hgv, hln, hkeep y l' hrow hgv⟩
end
end Go.Proofs.YtpkjdnplmgfbbaaDoor
