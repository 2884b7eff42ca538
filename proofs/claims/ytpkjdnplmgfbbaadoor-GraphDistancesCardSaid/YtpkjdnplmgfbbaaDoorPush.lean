/- Growing lists of integers: append of one integer onto a list of the call's own; package brandt's normal. -/
import Derived.Test.YtpkjdnplmgfbbaaDoorPl
namespace Go.Proofs.YtpkjdnplmgfbbaaDoor
open Go.RowKit

/-- The slice value v is a list of the call's own (memory from base on) that holds the integers l, in normal form. -/
def OwnI (w : World) (base : Nat) (v : Value) (l : List Int) : Prop := ∃ xs, w.ownsRow base 46 2 v l.length xs ∧ Cs w (fun b => some b ≠ v.ownBlock) xs l

section
variable {w w' : World} {base : Nat} {v : Value} {l : List Int}
theorem OwnI.nil (w : World) (base : Nat) : OwnI w base (.slice none 0 0) [] := ⟨[], World.ownsRow_nil _ _ _ _, Cs.nil⟩
theorem OwnI.slice (h : OwnI w base v l) : ∃ A c, v = .slice A l.length c := by
  obtain ⟨xs, h1, _⟩ := h
  obtain ⟨A, c, e, _⟩ := own_slice h1
  exact ⟨A, c, e⟩
theorem OwnI.pl (h : OwnI w base v l) (hm : l.length ≤ maxLen) : ∃ A c, v = .slice A l.length c ∧ Pl NI w (base ≤ ·) A l.length c l := by
  obtain ⟨xs, h1, h2⟩ := h
  exact pl_of_own h1 h2 rfl hm
theorem OwnI.below (h : OwnI w base v l) (hb : Below w.heap.size w w') : OwnI w' base v l := by
  obtain ⟨xs, h1, h2⟩ := h
  refine ⟨xs, ⟨h1.1, ?_⟩, h2.below hb⟩
  rcases h1.2 with h3 | ⟨g, cap, cur, e, h4, h5, h6⟩
  · exact .inl h3
  · exact .inr ⟨g, cap, cur, e, h4, (hb.block g (h1.lt g (by rw [e]; rfl)).2).trans h5, h6⟩
end

section
variable (w0 : World)
/-- append(own, x) of one integer that lies in a block made just before. -/
theorem wpList_pushI {ops : Array Oper} {rest : List Oper} {o : Oper} {a : Act} {Q : Exit → Act → World → Prop} (hgd : o.guard = none) (s x : Operand) (t t' : TypeId)
    (ho : o.op = .call { callee := .builtin .append, args := #[s, x], argTypes := #[t, t'] })
    (base : Nat) (ht : Tryd.prog.underlying t = some (.slice 46)) (ht' : Tryd.prog.underlying t' = some (.slice 46))
    (v : Value) (l : List Int) (n : Nat) (hln : l.length = n) (hs : a.eval s = v) (hown : OwnI w0 base v l)
    (neg : Bool) (B : Option Addr) (m k : Nat) (y : Int) (hx : a.eval x = .slice (some ⟨w0.heap.size, 0, none⟩) 1 1) (hy : NIntV w0 (fun b => some b ≠ v.ownBlock) (.agg #[.bool neg, .slice B m k]) y)
    (h63 : n + 1 ≤ 1000000000) (hbase : base ≤ w0.heap.size)
    (h : ∀ A' c' w', OwnI w' base (.slice A' (n + 1) c') (l ++ [y]) → w0.grownBy w' v.ownBlock → Below base w0 w' → wpList Tryd.prog ops Q rest (a.put o.dst (.slice A' (n + 1) c')) w') :
    wpList Tryd.prog ops Q (o :: rest) a (w0.alloc (.cells #[.bool neg, .slice B m k] 46)) := by
  subst hln
  obtain ⟨xs, hrow, hcs⟩ := hown
  refine wpList_app _ hgd s x t t' ho base 46 46 (.agg #[.bool false, .slice none 0 0]) 2 32 ht ht' info_Int rfl (by omega) v l.length xs hs (hrow.alloc _) _ 1 1 [.bool neg, .slice B m k] hx (src_block (heap_alloc_new w0 _) 1 2 rfl) (by simp [Value.oneCell']) (by unfold maxLen; omega) (by omega) (by simp; omega) ?_
  intro v' w' hown' hg hob
  obtain ⟨A', c', rfl, _, _⟩ := own_slice hown'
  have hg0 : w0.grownBy w' v.ownBlock := grownBy_trans (World.grownBy_alloc w0 _ _) hg
  refine h A' c' w' ⟨_, by rw [List.length_append]; exact hown', ?_⟩ hg0 ((Below.refl _ _).grown hg0 hbase (fun k hk => (hrow.lt k hk).1))
  have hk : ∀ b o, some b ≠ v.ownBlock → b < w0.heap.size → w'.cell? ⟨b, o, none⟩ = w0.cell? ⟨b, o, none⟩ := fun b o hd hb => World.cell?_of_block (hg0.block b hb hd)
  have hb2 : Below w0.heap.size w0 w0 := Below.refl _ _
  have hc2 : Cs w0 (fun b => some b ≠ v.ownBlock) (xs ++ [.bool neg, .slice B m k]) (l ++ [y]) := hcs.snoc hy
  have hc3 : Cs w0 (fun b => some b ≠ v.ownBlock ∧ b < w0.heap.size) (xs ++ [.bool neg, .slice B m k]) (l ++ [y]) := hc2.mono fun b h1 h2 => ⟨h1, h2⟩
  refine (hc3.keep (w' := w') fun b o hd hb => hk b o hd.1 hb).mono fun b hd _ => ?_
  rcases hob with e | e
  · rw [e]; exact hd.1
  · rw [e]
    intro e2
    have := hd.2
    simp at e2
    omega
end

theorem Pl.v {w : World} {D : Nat → Prop} {A : Option Addr} {n c : Nat} {l : List Int} (h : Pl NI w D A n c l) : PV w D (.slice A n c) l := by
  have := h.len
  subst this
  exact ⟨A, c, rfl, h⟩

def slN : Value → Nat | .slice _ n _ => n | _ => 0

theorem OwnI.fresh {w : World} {base : Nat} {v : Value} {l : List Int} (h : OwnI w base v l) {b : Nat} (hb : w.heap.size ≤ b) : some b ≠ v.ownBlock := by
  obtain ⟨xs, h1, _⟩ := h
  intro e
  have := (h1.lt b e.symm).2
  omega

end Go.Proofs.YtpkjdnplmgfbbaaDoor
