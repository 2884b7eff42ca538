/- A region that draws its order, in a round. What the loop over classes keeps. Package graph: the name of a class. slices.SortFunc with cmp.Compare[int], over a list of the call's own. -/
import Derived.Test.YtefcdclmabdmbaaGreatDoorKn
import Derived.Test.YtefcdclmabdmbaaGreatDoorKo
import Derived.Test.YtefcdclmabdmbaaGreatDoorKm
import Derived.Test.YtefcdclmabdmbaaGreatDoorKe
import Derived.Lib.SmallJoins
import Derived.Maps.OwnSet
import Derived.Test.YtefcdclmabdmbaaGreatDoorKl
import Derived.Test.YtefcdclmabdmbaaGreatDoorShelg
import Derived.Test.YtefcdclmabdmbaaGreatDoorKi
import Derived.Sort.OwnSortedInts
namespace Go.Proofs.YtefcdclmabdmbaaGreatDoor
open Go.RowKit Go.Shelf

theorem op_round {P : Program} {o : Oper} {a : Act} {w : World} {K : Act → World → Prop} {Q : Exit → Act → World → Prop} {l n : Nat} (hd : ∀ c, o.op ≠ .defer c) (h : o.wp P a w K Q) : o.wpIn (Fence.wide.inRound l) n P a w K Q := by
  refine ⟨fun _ _ => trivial, ?_⟩
  show o.uponIn (Fence.wide.inRound l) n P a K Q ((o.semAt (some l) a.eval).run P w)
  rw [Oper.semAt_some l _ o hd]
  have h2 : o.upon P a K Q ((execOp a.eval o).run P w) := h
  generalize (execOp a.eval o).run P w = r at h2
  cases r with
  | ok x w' =>
    cases x with
    | value v => exact h2
    | skip => exact h2
    | defer d => exact h2
    | enter f args =>
      refine ⟨fun h => (by cases h), CallsIn.inRound l (callsIn_wide.2 ?_)⟩
      exact Calls.mono h2 fun e w'' he => (by cases e <;> exact he)
    | row row args =>
      exact ⟨fun h => (by cases h), fun c cs _ => let ⟨v, w'', r, st⟩ := h2 c cs; ⟨v, w'', r, stepsIn_wide.2 st⟩⟩
    | _ => exact h2.elim
  | halt x w' => cases x <;> first | exact h2 | exact h2.elim
def noDef (o : Oper) : Bool := match o.op with | .defer _ => false | _ => true
theorem noDef_spec {o : Oper} (h : noDef o = true) : ∀ c, o.op ≠ .defer c := fun c e => by unfold noDef at h; rw [e] at h; cases h
section
variable {P : Program} {ops : Array Oper} {Q : Exit → Act → World → Prop} {l n : Nat}
theorem opsIn_round (hd : ops.all noDef = true) (hQ : ¬ LetsOut Q) : ∀ (is : List Nat) (a : Act) (w : World), wpOps P ops Q is a w → wpOpsIn (Fence.wide.inRound l) n P ops Q is a w
  | [], _, _, h => h
  | i :: rest, a, w, h => by
    simp only [wpOps] at h
    simp only [wpOpsIn]
    cases ho : ops[i]? with
    | none =>
      rw [ho] at h
      exact opsIn_round hd hQ rest a w h
    | some o =>
      rw [ho] at h
      have hnd : noDef o = true := by
        obtain ⟨hi, rfl⟩ := Array.getElem?_eq_some_iff.1 ho
        exact Array.all_eq_true.1 hd i hi
      dsimp only at h ⊢
      by_cases hw : Region.wanted o (yielded ops a.tmps) = true
      · rw [if_pos hw] at h ⊢
        rcases h with h | h
        · refine Oper.wpIn_mono (fun a' w' h' => opsIn_round hd hQ rest a' w' h') (op_round (noDef_spec hnd) h)
        · exact absurd h.2 hQ
      · rw [if_neg hw] at h ⊢
        exact ⟨fun _ _ => trivial, opsIn_round hd hQ rest _ w h⟩
theorem region_round_draw {id : Nat} {a : Act} {w : World} (hm : P.follows .mixedOrders = true) (hd : ops.all noDef = true) (hQ : ¬ LetsOut Q)
    (h : wpAny P .any ops Q ops.size (Array.replicate ops.size false) a w.drew) : (Code.region id ops true).wpIn (Fence.wide.inRound l) n P Q a w := by
  refine wpIn_region_draw fun t => ?_
  refine opsIn_round hd hQ _ a _ ?_
  simp only [Region.schedule, hm, Bool.true_or, if_true]
  exact wpAny_sound ops.size t _ a _ h
theorem listIn_op {o : Oper} {rest : List Oper} {a : Act} {w : World} (hgd : o.guard = none) (hd : ∀ c, o.op ≠ .defer c) (h : o.wp P a w (wpListIn (Fence.wide.inRound l) n P ops Q rest) Q) : wpListIn (Fence.wide.inRound l) n P ops Q (o :: rest) a w := by
  unfold wpListIn
  have hw : Region.wanted o (yielded ops a.tmps) = true := by simp [Region.wanted, hgd]
  rw [if_pos hw]
  exact op_round hd h
end

variable {md : Region.Mode} {S : World → Prop} {Z : List Nat}
section
variable {P : Program} {Q : Exit → Act → World → Prop}
/-- A region that draws its order, in a round. -/
theorem wpIn_region_trg {id l n : Nat} {a : Act} {w : World} {L : List Oper} (t : Trg) (Z : List Nat) (hm : P.follows .mixedOrders = true) (hl : t.deep = L.length) (hs : Region.noSelect L.toArray = true) (hd : L.toArray.all noDef = true) (hB : planG .any L.toArray Z t (Array.replicate L.length false) = true)
    (hQ : ∀ c a t v w, Q (.panic c) (Act.put a (some t) v) w → Q (.panic c) a w) (hQ2 : ¬ LetsOut Q) (S : World → Prop) (h : goG P L.toArray Q S Z t a w.drew) : (Code.region id L.toArray true).wpIn (Fence.wide.inRound l) n P Q a w := by
  refine region_round_draw hm hd hQ2 (wpAny_of_G (S := S) (Z := Z) _ _ _ _ ?_)
  have hsz : L.toArray.size = L.length := by simp
  rw [hsz, ← hl]
  rw [← hl] at hB
  exact wpAnyG_tre hs hQ t _ a w.drew hB h
end

section
variable {P : Program} {ops : Array Oper} {Q : Exit → Act → World → Prop} {md : Region.Mode} {S : World → Prop} {Z : List Nat}
theorem goG_skip (d : Nat) {i : Nat} {o : Oper} {r : Trg} {a : Act} {w : World} (hS : S w) (ho : ops[i]? = some o) (hd : o.dst = some d) (hw : Region.wanted o (yielded ops a.tmps) = false) (h : goG P ops Q S Z r { a with tmps := a.tmps.setIfInBounds d undef } w) : goG P ops Q S Z (.read i r) a w :=
  ⟨hS, o, undef, ho, .inr ⟨hw, rfl⟩, by rw [put_some hd]; exact h⟩
theorem goG_stepSkip (d : Nat) {i : Nat} {o : Oper} {r : Trg} {a : Act} {w : World} (hS : S w) (ho : ops[i]? = some o) (hd : o.dst = some d) (hw : Region.wanted o (yielded ops a.tmps) = false) (h : goG P ops Q S Z r { a with tmps := a.tmps.setIfInBounds d undef } w) : goG P ops Q S Z (.step i r) a w := by
  refine ⟨o, ho, ?_⟩
  unfold wpList
  rw [if_neg (by rw [hw]; simp)]
  unfold wpList
  refine ⟨fun _ => hS, ?_⟩
  rw [put_some hd]
  exact h
/-- A call of a region that draws its order; it may be guarded. -/
theorem goG_call (d : Nat) {i : Nat} {o : Oper} {r : Trg} {a : Act} {w : World} {f : FuncId} {args : Array Value} (ho : ops[i]? = some o) (hd : o.dst = some d) (hw : Region.wanted o (yielded ops a.tmps) = true) (hrun : (execOp a.eval o).run P w = .ok (.enter f args) w)
    {post : Ending → World → Prop} (hc : Calls P f args w post) (h : ∀ e w', post e w' → ∃ v, e = .returned v ∧ (Z.contains i = false → S w') ∧ goG P ops Q S Z r { a with tmps := a.tmps.setIfInBounds d v } w') : goG P ops Q S Z (.step i r) a w := by
  refine ⟨o, ho, ?_⟩
  unfold wpList
  rw [if_pos hw]
  left
  unfold Oper.wp
  rw [hrun]
  refine Calls.mono hc ?_
  intro e w' hp
  obtain ⟨v, rfl, h1, h2⟩ := h e w' hp
  show wpList P ops _ [] (a.put o.dst v) w'
  unfold wpList
  rw [put_some hd]
  exact ⟨h1, h2⟩
end
/-- No way out by a panic. -/
def noPanic (Q : Exit → Act → World → Prop) : Exit → Act → World → Prop
  | .panic _, _, _ => False
  | e, a, w => Q e a w
/-- A region that draws its order, whatever a panic would ask. -/
theorem wp_region_trq {P : Program} {Q : Exit → Act → World → Prop} {id : Nat} {a : Act} {w : World} {L : List Oper} (t : Trg) (Z : List Nat) (hm : P.follows .mixedOrders = true) (hl : t.deep = L.length) (hs : Region.noSelect L.toArray = true) (hB : planG .any L.toArray Z t (Array.replicate L.length false) = true)
    (S : World → Prop) (h : goG P L.toArray (noPanic Q) S Z t a w.drew) : (Code.region id L.toArray true).wp P Q a w :=
  wp_mono (wp_region_trg t Z hm hl hs hB (fun _ _ _ _ _ h => h) S h) (fun e a w h => by cases e <;> first | exact h | exact h.elim)
theorem owns_heap {W W' : World} {P : Program} {k : TypeId} {R : Value → Option (DataW Unit × List MemPlace)} {b n : Nat} {D : DataW Unit} (h : W.ownsMap P k R b n D) (hb : W'.heap[b]? = W.heap[b]?) : W'.ownsMap P k R b n D := by
  obtain ⟨es, clock, h1, h2⟩ := h
  exact ⟨es, clock, hb.trans h1, h2⟩
/-- Between two rounds of the loop over classes: half, the map, all. -/
structure CSt (W : World) (N : Nat) (hfb : Bool) (L : List Nq) (A2 : Option Addr) (c2 nm : Nat) (D : DataW Unit) : Prop where
  b0 : W.heap[N]? = some (.cells #[.bool hfb] 4 (0, 0))
  mp : W.ownsMap Tryz.prog 105 (plainElem Tryz.prog 3) (N + 1) nm D
  ci : CIn L D
  b2 : W.heap[N + 2]? = some (.cells #[.map (some (N + 1))] 107 (0, 0))
  b3 : W.heap[N + 3]? = some (.cells #[.slice A2 L.length c2] 98 (0, 0))
  own : OwnC 105 W (N + 6) (.slice A2 L.length c2) L
  nml : nm ≤ L.length
theorem CSt.upd {W W' : World} {N : Nat} {hfb : Bool} {L : List Nq} {A2 : Option Addr} {c2 nm : Nat} {D : DataW Unit} (h : CSt W N hfb L A2 c2 nm D) {S : Nat → Prop} (hu : Upd S W W') (hS : ∀ k, S k → k = N + 4 ∨ k = N + 5) : CSt W' N hfb L A2 c2 nm D := by
  have hk : ∀ {b : Nat} {o : Obj}, W.heap[b]? = some o → b ≠ N + 4 → b ≠ N + 5 → W'.heap[b]? = W.heap[b]? := fun hb h1 h2 => hu.block _ (Array.getElem?_eq_some_iff.1 hb).1 (fun hs => by rcases hS _ hs with e | e <;> omega)
  obtain ⟨es, clock, h1, h2⟩ := h.mp
  exact ⟨(hk h.b0 (by omega) (by omega)).trans h.b0, owns_heap h.mp (hk h1 (by omega) (by omega)), h.ci, (hk h.b2 (by omega) (by omega)).trans h.b2, (hk h.b3 (by omega) (by omega)).trans h.b3,
    h.own.keep fun g hg hl _ => hu.block g hl (fun hs => by rcases hS g hs with e | e <;> omega), h.nml⟩
theorem CSt.below {W W' : World} {N : Nat} {hfb : Bool} {L : List Nq} {A2 : Option Addr} {c2 nm : Nat} {D : DataW Unit} (h : CSt W N hfb L A2 c2 nm D) (hb : Below W.heap.size W W') : CSt W' N hfb L A2 c2 nm D :=
  h.upd (S := fun _ => False) (Upd.of_below hb) (fun _ hk => hk.elim)
/-- The classes that are taken. -/
def ftk (hfb : Bool) (l : List Nq) : List Nq := l.filter fun m => !hfb || sq5 (det5 m)
theorem ftk_yes {hfb : Bool} {pre : List Nq} {x : Nq} (h : (!hfb || sq5 (det5 x)) = true) : ftk hfb (pre ++ [x]) = ftk hfb pre ++ [x] := by
  unfold ftk
  rw [List.filter_append]
  simp [h]
theorem ftk_no {hfb : Bool} {pre : List Nq} {x : Nq} (h : (!hfb || sq5 (det5 x)) = false) : ftk hfb (pre ++ [x]) = ftk hfb pre := by
  unfold ftk
  rw [List.filter_append]
  simp [h]
theorem cls5_nodup : cls5.Nodup := by decide +kernel
theorem cls5_in : ∀ m ∈ cls5, In5 m := by
  have : cls5.all (fun m => Nat.blt m.1 5 && Nat.blt m.2.1 5 && Nat.blt m.2.2.1 5 && Nat.blt m.2.2.2 5) = true := by decide +kernel
  intro m hm
  have h := List.all_eq_true.1 this m hm
  simp only [Bool.and_eq_true] at h
  exact ⟨Nat.le_of_ble_eq_true h.1.1.1, Nat.le_of_ble_eq_true h.1.1.2, Nat.le_of_ble_eq_true h.1.2, Nat.le_of_ble_eq_true h.2⟩
theorem pre_fresh {pre : List Nq} {x : Nq} (h : pre ++ [x] <+: cls5) : x ∉ pre ∧ In5 x ∧ (∀ m ∈ pre, In5 m) ∧ pre.length < 120 := by
  have hsub := h.sublist
  have hnd := hsub.nodup cls5_nodup
  obtain ⟨_, _, h3⟩ := List.nodup_append.1 hnd
  refine ⟨fun hx => h3 x hx x (by simp) rfl, cls5_in x (h.mem (by simp)), fun m hm => cls5_in m (h.mem (by simp [hm])), ?_⟩
  have h5 := hsub.length_le
  have h6 : cls5.length = 120 := by decide +kernel
  rw [List.length_append, h6] at h5
  simp at h5
  omega
/-- Blocks that belong to none of it may change. -/
theorem GB.updG {w w' : World} {base : Nat} {vN vE : Value} {names : List ByteArray} {E : List (List Int)} (h : GB w base vN vE names E) {S : Nat → Prop} (hb : Upd S w w') (hS : ∀ k, S k → k < base) : GB w' base vN vE names E := by
  obtain ⟨h1, ⟨vs, h2, h3, h4⟩, h5, h6⟩ := h
  have hk : ∀ b, base ≤ b → b < w.heap.size → w'.heap[b]? = w.heap[b]? := fun b h1 h2 => hb.block b h2 (fun hs => by have := hS b hs; omega)
  have k1 := fun g hg => hk g (World.ownsRow.lt h1 g hg).1 (World.ownsRow.lt h1 g hg).2
  have k2 := fun g hg => hk g (World.ownsRow.lt h2 g hg).1 (World.ownsRow.lt h2 g hg).2
  exact ⟨own_keep h1 k1, ⟨vs, own_keep h2 k2, h3, fun i u x hu hx => Foot.keep (h4 i u x hu hx) fun b hd hl => hk b hd.1 hl⟩, h5, h6⟩
theorem zero_intC (w : World) : (zeroValue 3).run Tryz.prog w = .ok (.int .i64 0) w := by kernel_rfl
set_option maxRecDepth 100000 in
/-- The place of a class, looked up. -/
theorem look_row {V W : World} {N : Nat} {hfb : Bool} {L : List Nq} {A2 : Option Addr} {c2 nm : Nat} {D : DataW Unit} (hst : CSt W N hfb L A2 c2 nm D) (hV : V.heap[N + 1]? = W.heap[N + 1]?) {y : Nq} (hy5 : In5 y) (hyA : y ∈ L) :
    (Instr.lookup 107 (.map (some (N + 1))) (clV y) false).run Tryz.prog V = .ok (.int .i64 ((posC (L.map code5) (code5 y) : Nat) : Int)) V := by
  have hown : V.ownsMap Tryz.prog 105 (plainElem Tryz.prog 3) (N + 1) nm D := owns_heap hst.mp hV
  obtain ⟨cc, hrun, hat, _⟩ := hown.lookup_int class_keyed Tryz.underlying107 Tryz.underlying3 (zero_intC V) (keyOf_class hy5)
  have h2 := hst.ci y hy5
  rw [if_pos hyA, hat] at h2
  injection h2 with h2
  injection h2 with _ h2
  rw [← h2]
  exact hrun
/-- Behind a round that takes the class. -/
theorem cls_taken {WM W W5 w6 w7 : World} {N : Nat} {hfb : Bool} {pre : List Nq} {x : Nq} {A2 A7 : Option Addr} {c2 c7 nm Lk : Nat} {D : DataW Unit} (hs5 : Below W.heap.size W W5) (hst5 : CSt W5 N hfb (ftk hfb pre) A2 c2 nm D)
    (hown6 : w6.ownsMap Tryz.prog 105 (plainElem Tryz.prog 3) (N + 1) (nm + 1) (D.put (ckL x) (.lit (.int .i64 (Lk : Nat))))) (hg6 : W5.grownBy w6 (some (N + 1)))
    (hown7 : OwnC 105 w7 (N + 6) (.slice A7 (Lk + 1) c7) (ftk hfb pre ++ [x])) (hb7 : Below (N + 6) w6 w7) (hLk : Lk = (ftk hfb pre).length)
    (hx5 : In5 x) (hpre : x ∉ pre ∧ (∀ m ∈ pre, In5 m) ∧ pre.length < 120) (htk : (!hfb || sq5 (det5 x)) = true) (hN5 : N + 5 < W.heap.size) (hbW : Below N WM W) :
    KpC N (N + 4) W (w7.setCell ⟨N + 3, 0, none⟩ (.slice A7 (Lk + 1) c7)) ∧ ((∃ (A2 : Option Addr) (c2 nm : Nat) (D : DataW Unit), CSt (w7.setCell ⟨N + 3, 0, none⟩ (.slice A7 (Lk + 1) c7)) N hfb (ftk hfb (pre ++ [x])) A2 c2 nm D) ∧ Below N WM (w7.setCell ⟨N + 3, 0, none⟩ (.slice A7 (Lk + 1) c7))) := by
  have h5 := hs5.size
  have h6 := hg6.size
  have h7 := hb7.size
  have hk : ∀ b, b < N + 6 → b ≠ N + 1 → b ≠ N + 3 → b < W5.heap.size → (w7.setCell ⟨N + 3, 0, none⟩ (.slice A7 (Lk + 1) c7)).heap[b]? = W5.heap[b]? := fun b h1 h2 h3 h4 =>
    (Below.heap_setCell _ ⟨N + 3, 0, none⟩ _ b (by show b ≠ N + 3; omega)).trans ((hb7.block b h1).trans (hg6.block b h4 (by intro e; injection e with e; omega)))
  have hlow : Below N W (w7.setCell ⟨N + 3, 0, none⟩ (.slice A7 (Lk + 1) c7)) := by
    have e1 : Below N W W5 := hs5.mono (by omega)
    have e2 : Below N W5 w6 := (Below.refl _ _).grown hg6 (by omega) (fun k hk => by injection hk with hk; omega)
    have e3 : Below N w6 w7 := hb7.mono (by omega)
    exact ((e1.trans e2).trans e3).setCell (p := ⟨N + 3, 0, none⟩) (by show N ≤ N + 3; omega) _
  have hl : ∀ {b : Nat} {o : Obj}, W5.heap[b]? = some o → b < W5.heap.size := fun h => (Array.getElem?_eq_some_iff.1 h).1
  have hA : ∀ m ∈ ftk hfb pre, In5 m := fun m hm => hpre.2.1 m ((List.mem_filter.1 hm).1)
  have hn : x ∉ ftk hfb pre := fun hm => hpre.1 ((List.mem_filter.1 hm).1)
  have hb3 : w7.heap[N + 3]? = some (.cells #[.slice A2 Lk c2] 98 (0, 0)) := by
    rw [hLk]
    exact ((hb7.block (N + 3) (by omega)).trans (hg6.block (N + 3) (hl hst5.b3) (by intro e; injection e with e; omega))).trans hst5.b3
  refine ⟨⟨hlow, (hk (N + 4) (by omega) (by omega) (by omega) (by omega)).trans (hs5.block _ (by omega)), (hk (N + 5) (by omega) (by omega) (by omega) (by omega)).trans (hs5.block _ (by omega))⟩, ⟨A7, c7, nm + 1, D.put (ckL x) (.lit (.int .i64 (Lk : Nat))), ?_⟩, hbW.trans hlow⟩
  rw [ftk_yes htk]
  have hlen : (ftk hfb pre ++ [x]).length = Lk + 1 := by rw [List.length_append, ← hLk]; rfl
  obtain ⟨es, clock, hm1, hm2⟩ := hown6
  have hci := hst5.ci.put hst5.mp.isMap hA hx5 hn
  rw [← hLk] at hci
  refine ⟨(hk N (by omega) (by omega) (by omega) (hl hst5.b0)).trans hst5.b0, ⟨es, clock, ?_, hm2⟩, hci, (hk (N + 2) (by omega) (by omega) (by omega) (hl hst5.b2)).trans hst5.b2, ?_, ?_, ?_⟩
  · exact (Below.heap_setCell _ ⟨N + 3, 0, none⟩ _ (N + 1) (by show N + 1 ≠ N + 3; omega)).trans ((hb7.block (N + 1) (by omega)).trans hm1)
  · rw [hlen]
    exact Go.Joins.block_setCell (i := 0) hb3 (.slice A7 (Lk + 1) c7)
  · rw [hlen]
    exact hown7.keep fun g hg hgl _ => Below.heap_setCell _ ⟨N + 3, 0, none⟩ _ g (by show g ≠ N + 3; omega)
  · rw [hlen]
    have := hst5.nml
    omega
/-- .. that does not take it. -/
theorem cls_not {WM W W5 : World} {N : Nat} {hfb : Bool} {pre : List Nq} {x : Nq} {A2 : Option Addr} {c2 nm : Nat} {D : DataW Unit} (hs5 : Below W.heap.size W W5) (hst5 : CSt W5 N hfb (ftk hfb pre) A2 c2 nm D)
    (htk : (!hfb || sq5 (det5 x)) = false) (hN5 : N + 5 < W.heap.size) (hbW : Below N WM W) :
    KpC N (N + 4) W W5 ∧ ((∃ (A2 : Option Addr) (c2 nm : Nat) (D : DataW Unit), CSt W5 N hfb (ftk hfb (pre ++ [x])) A2 c2 nm D) ∧ Below N WM W5) := by
  have hlow : Below N W W5 := hs5.mono (by omega)
  refine ⟨⟨hlow, hs5.block _ (by omega), hs5.block _ (by omega)⟩, ⟨A2, c2, nm, D, ?_⟩, hbW.trans hlow⟩
  rw [ftk_no htk]
  exact hst5

/-- A graph under way, and the row that comes next. -/
structure RSt (V : World) (base : Nat) (vN vE row : Value) (names : List ByteArray) (E : List (List Int)) (l : List Int) : Prop where
  gb : GB V base vN vE names E
  rw_ : IlD V (fun b => base ≤ b ∧ some b ≠ vE.ownBlock ∧ some b ≠ vN.ownBlock) row l
theorem RSt.below {V V' : World} {base : Nat} {vN vE row : Value} {names : List ByteArray} {E : List (List Int)} {l : List Int} (h : RSt V base vN vE row names E l) (hb : Below V.heap.size V V') : RSt V' base vN vE row names E l :=
  ⟨h.gb.below hb, Foot.below h.rw_ hb⟩
theorem RSt.named {V V' : World} {base : Nat} {vN vN' vE row : Value} {names names' : List ByteArray} {E : List (List Int)} {l : List Int} (h : RSt V base vN vE row names E l) (hgb : GB V' base vN' vE names' E) (hg : V.grownBy V' vN.ownBlock) (hob : vN'.ownBlock = vN.ownBlock ∨ vN'.ownBlock = some V.heap.size) : RSt V' base vN' vE row names' E l := by
  refine ⟨hgb, ?_⟩
  have hr : IlD V (fun b => (base ≤ b ∧ some b ≠ vE.ownBlock ∧ some b ≠ vN.ownBlock) ∧ b < V.heap.size) row l := Foot.mono h.rw_ fun b h1 h2 => ⟨h1, h2⟩
  refine Foot.mono (Foot.keep hr fun b hd hb => hg.block b hb hd.1.2.2) fun b hd _ => ⟨hd.1.1, hd.1.2.1, ?_⟩
  rcases hob with e | e
  · rw [e]; exact hd.1.2.2
  · rw [e]
    intro e2
    injection e2 with e2
    have := hd.2
    omega
theorem wpList_pushNmD (w0 : World) (d : Nat) {ops : Array Oper} {rest : List Oper} {o : Oper} {a : Act} {Q : Exit → Act → World → Prop} (hgd : o.guard = none) (hd : o.dst = some d) (s x : Operand)
    (ho : o.op = .call { callee := .builtin .append, args := #[s, x], argTypes := #[22, 22] })
    (base : Nat) (A : Option Addr) (n c : Nat) (vE row : Value) (names : List ByteArray) (E : List (List Int)) (l : List Int) (hs : a.eval s = .slice A n c) (h0 : RSt w0 base (.slice A n c) vE row names E l)
    (y : ByteArray) (hy : y.size ≤ maxLen) (B : Nat) (hB : w0.heap[B]? = some (.cells #[.string y] 9 (0, 0))) (hx : a.eval x = .slice (some ⟨B, 0, none⟩) 1 1) (h63 : n + 1 ≤ 1000000000) (hbase : base ≤ w0.heap.size)
    (h : ∀ A' c' w', RSt w' base (.slice A' (n + 1) c') vE row (names ++ [y]) E l → w0.grownBy w' (Value.slice A n c).ownBlock → Below base w0 w' → wpList Tryz.prog ops Q rest { a with tmps := a.tmps.setIfInBounds d (.slice A' (n + 1) c') } w') :
    wpList Tryz.prog ops Q (o :: rest) a w0 :=
  wpList_pushNm w0 hgd s x ho base A n c vE names E hs h0.gb y hy B hB hx h63 hbase fun A' c' w' h1 h2 h3 h4 => by rw [put_some hd]; exact h A' c' w' (h0.named h1 h2 h3) h2 h4
theorem wpList_pushEdD (w0 : World) (d : Nat) {ops : Array Oper} {rest : List Oper} {o : Oper} {a : Act} {Q : Exit → Act → World → Prop} (hgd : o.guard = none) (hd : o.dst = some d) (s x : Operand)
    (ho : o.op = .call { callee := .builtin .append, args := #[s, x], argTypes := #[23, 23] })
    (base : Nat) (vN : Value) (A : Option Addr) (n c : Nat) (names : List ByteArray) (E : List (List Int)) (hs : a.eval s = .slice A n c)
    (u0 : Value) (y : List Int) (h0 : RSt w0 base vN (.slice A n c) u0 names E y) (B : Nat) (hB : w0.heap[B]? = some (.cells #[u0] 55 (0, 0))) (hx : a.eval x = .slice (some ⟨B, 0, none⟩) 1 1) (h63 : n + 1 ≤ 1000000000) (hbase : base ≤ w0.heap.size)
    (h : ∀ A' c' w', GB w' base vN (.slice A' (n + 1) c') names (E ++ [y]) → w0.grownBy w' (Value.slice A n c).ownBlock → Below base w0 w' → wpList Tryz.prog ops Q rest { a with tmps := a.tmps.setIfInBounds d (.slice A' (n + 1) c') } w') :
    wpList Tryz.prog ops Q (o :: rest) a w0 :=
  wpList_pushEd w0 hgd s x ho base vN A n c names E hs h0.gb u0 y h0.rw_ B hB hx h63 hbase fun A' c' w' h1 h2 h3 => by rw [put_some hd]; exact h A' c' w' h1 h2 h3
end Go.Proofs.YtefcdclmabdmbaaGreatDoor

namespace Go.Proofs.YtefcdclmabdmbaaGreatDoor
open Go.RowKit

/-- A list of texts of the call's own. -/
def OwnS (w : World) (base : Nat) (v : Value) (l : List ByteArray) : Prop := w.ownsRow base 9 1 v l.length (l.map Value.string)
theorem OwnS.nil (w : World) (base : Nat) : OwnS w base (.slice none 0 0) [] := World.ownsRow_nil _ _ _ _
theorem OwnS.below {w w' : World} {base : Nat} {v : Value} {l : List ByteArray} (h : OwnS w base v l) (hb : Below w.heap.size w w') : OwnS w' base v l := own_below h hb
theorem OwnS.len {w : World} {base : Nat} {A : Option Addr} {n c : Nat} {l : List ByteArray} (h : OwnS w base (.slice A n c) l) : n = l.length := by
  obtain ⟨A', c', e, _⟩ := own_slice h
  injection e
section
variable (w0 : World)
/-- append(texts, y): y lies in block B. -/
theorem wpList_pushS {ops : Array Oper} {rest : List Oper} {o : Oper} {a : Act} {Q : Exit → Act → World → Prop} (hgd : o.guard = none) (s x : Operand)
    (ho : o.op = .call { callee := .builtin .append, args := #[s, x], argTypes := #[22, 22] })
    (base : Nat) (A : Option Addr) (n c : Nat) (l : List ByteArray) (hs : a.eval s = .slice A n c) (h0 : OwnS w0 base (.slice A n c) l)
    (y : ByteArray) (hx : a.eval x = .slice (some ⟨w0.heap.size, 0, none⟩) 1 1) (h63 : n + 1 ≤ 1000000000) (hbase : base ≤ w0.heap.size)
    (h : ∀ A' c' w', OwnS w' base (.slice A' (n + 1) c') (l ++ [y]) → Below base w0 w' → wpList Tryz.prog ops Q rest (a.put o.dst (.slice A' (n + 1) c')) w') :
    wpList Tryz.prog ops Q (o :: rest) a (w0.alloc (.cells #[.string y] 9)) := by
  obtain rfl := h0.len
  refine wpList_app _ hgd s x 22 22 ho base 9 9 (.string ⟨#[]⟩) 1 16 Tryz.underlying22 Tryz.underlying22 info_str rfl (by omega) _ l.length (l.map Value.string) hs (World.ownsRow.alloc h0 _) _ 1 1 [.string y] hx (src_block (heap_alloc_new w0 _) 1 1 rfl) (by simp [Value.oneCell']) (by unfold maxLen; omega) (by omega) (by simp; omega) ?_
  intro v' w' hown' hg hob
  obtain ⟨A', c', rfl, _, _⟩ := own_slice hown'
  have hg0 : w0.grownBy w' (Value.slice A l.length c).ownBlock := grownBy_trans (World.grownBy_alloc w0 _ _) hg
  refine h A' c' w' ?_ ((Below.refl _ _).grown hg0 hbase (fun k hk => (World.ownsRow.lt h0 k hk).1))
  unfold OwnS
  rw [List.length_append, List.map_append]; exact hown'
end

/-- The text of a number. -/
def itB (n : Nat) : ByteArray := ⟨(Lib.decDigits n).toArray⟩
theorem join_name {m : Nq} (hm : In5 m) : (⟨(Lib.join ([itB m.1, itB m.2.1, itB m.2.2.1, itB m.2.2.2].map (·.data.toList)) (⟨#[44]⟩ : ByteArray).data.toList).toArray⟩ : ByteArray) = nm5 m := by
  obtain ⟨a, b, c, d⟩ := m
  obtain ⟨h1, h2, h3, h4⟩ := hm
  simp only at h1 h2 h3 h4
  have key : ∀ {x : Nat}, x < 5 → (itB x).data.toList = [UInt8.ofNat (48 + x)] := fun hx => by
    unfold itB
    rw [Lib.decDigits_one (by omega)]
  unfold nm5 nmL5
  congr 1
  congr 1
  simp only [List.map_cons, List.map_nil, key h1, key h2, key h3, key h4]
  rfl
/-- The first k digits. -/
def nmS (m : Nq) (k : Nat) : List ByteArray := [itB m.1, itB m.2.1, itB m.2.2.1, itB m.2.2.2].take k
theorem OwnS.cells {w : World} {base : Nat} {A : Option Addr} {n c : Nat} {l : List ByteArray} (h : OwnS w base (.slice A n c) l) (hn : 0 < n) : ∃ g, A = some ⟨g, 0, none⟩ ∧ g < w.heap.size ∧ n ≤ c ∧ ∀ j u, l[j]? = some u → w.cell? ⟨g, j, none⟩ = some (.string u) := by
  obtain rfl := h.len
  obtain ⟨g, cap, e, hb, h1, h2, _, h4⟩ := own_cells h hn
  injection e with e1 e2 e3
  subst e1 e3
  exact ⟨g, rfl, (World.ownsRow.lt h g rfl).2, h1, fun j u hu => h4 j _ (by rw [List.getElem?_map, hu]; rfl)⟩
set_option maxRecDepth 100000 in
set_option maxHeartbeats 4000000 in
theorem name_any {w : World} {a b c d : Nat} (hm : In5 (a, b, c, d)) :
    Calls Tryz.prog 77 #[.agg #[.int .i64 (a : Nat), .int .i64 (b : Nat), .int .i64 (c : Nat), .int .i64 (d : Nat)]] w fun e w' => e = .returned (.string (nm5 (a, b, c, d))) ∧ Below w.heap.size w w' := by
  have HJN := Lib.hid (join_name hm)
  obtain ⟨ha, hb, hc, hd⟩ := hm
  simp only at ha hb hc hd
  have HI := Lib.hid (fun (x : Nat) (hx : x < 5) (w : World) => Tryz.strconv_Itoa_small x (by omega) w)
  obtain ⟨N, hN⟩ : ∃ N, N = w.heap.size := ⟨_, rfl⟩
  obtain ⟨W, hW⟩ : ∃ W, W = w.alloc (.cells #[.int .i64 (a : Nat), .int .i64 (b : Nat), .int .i64 (c : Nat), .int .i64 (d : Nat)] 105) := ⟨_, rfl⟩
  have hbW : Below w.heap.size w W := by rw [hW]; exact below_alP (Below.refl _ _) _
  have c0 : W.heap[N]? = some (.cells #[.int .i64 (a : Nat), .int .i64 (b : Nat), .int .i64 (c : Nat), .int .i64 (d : Nat)] 105 (0, 0)) := by
    rw [hW, hN]
    exact heap_alloc_new w _
  have x0 : W.cell? ⟨N, 0, none⟩ = some (.int .i64 (a : Nat)) := by rw [Lib.cell_of_heap c0]; rfl
  have x1 : W.cell? ⟨N, 1, none⟩ = some (.int .i64 (b : Nat)) := by rw [Lib.cell_of_heap c0]; rfl
  have x2 : W.cell? ⟨N, 2, none⟩ = some (.int .i64 (c : Nat)) := by rw [Lib.cell_of_heap c0]; rfl
  have x3 : W.cell? ⟨N, 3, none⟩ = some (.int .i64 (d : Nat)) := by rw [Lib.cell_of_heap c0]; rfl
  have hWs : w.heap.size ≤ W.heap.size := hbW.size
  have HW := Lib.hid hW
  have HN := Lib.hid hN
  have hl0 := OwnS.nil W W.heap.size
  clear hW hN c0
  go_enter Tryz.func77, Tryz.ntmps77
  go_upto_block 0 with (fail)
  rw [← HW.out]
  rw [← HN.out]
  go_wp2_with fail
  go_loopw [3, 7] (fun lv kv wr => ∃ (k cap : Nat) (A : Option Addr), kv = .int .i64 (k : Nat) ∧ k ≤ 4 ∧ lv = .slice A k cap ∧ OwnS wr W.heap.size (.slice A k cap) (nmS (a, b, c, d) k) ∧ Below W.heap.size W wr) (fun _ kv _ => 4 - (intOf kv).toNat)
  case atStart => exact ⟨0, 0, none, rfl, by omega, rfl, hl0, Below.refl _ _⟩
  case round =>
    clear hl0 x0 x1 x2 x3
    obtain ⟨k, cap, A, rfl, hk, rfl, hown, hbr⟩ := hrel
    have hbs := hbr.size
    have hc4 : k = 0 ∨ k = 1 ∨ k = 2 ∨ k = 3 ∨ k = 4 := by omega
    rcases hc4 with rfl | rfl | rfl | rfl | rfl
    · have g := cix0 (.int .i64 (a : Nat)) (.int .i64 (b : Nat)) (.int .i64 (c : Nat)) (.int .i64 (d : Nat)) wr
      go_wp2_with (first
        | (go_at_call 98; go_must (refine (HI.out a ha _).mono ?_); rintro e w5 ⟨rfl, rfl⟩)
        | (at_builtin; go_must (refine wpList_pushS _ (by rfl) _ _ (by rfl) W.heap.size A 0 cap _ (by rfl) hown (itB a) (by rfl) (by omega) hbs ?_); intro A2 c2 w2 hown2 hb2))
      go_roundw
      case rel => exact ⟨1, c2, A2, rfl, by omega, rfl, hown2, hbr.trans hb2⟩
      case measure => simp [intOf]
    · have g := cix1 (.int .i64 (a : Nat)) (.int .i64 (b : Nat)) (.int .i64 (c : Nat)) (.int .i64 (d : Nat)) wr
      go_wp2_with (first
        | (go_at_call 98; go_must (refine (HI.out b hb _).mono ?_); rintro e w5 ⟨rfl, rfl⟩)
        | (at_builtin; go_must (refine wpList_pushS _ (by rfl) _ _ (by rfl) W.heap.size A 1 cap _ (by rfl) hown (itB b) (by rfl) (by omega) hbs ?_); intro A2 c2 w2 hown2 hb2))
      go_roundw
      case rel => exact ⟨2, c2, A2, rfl, by omega, rfl, hown2, hbr.trans hb2⟩
      case measure => simp [intOf]
    · have g := cix2 (.int .i64 (a : Nat)) (.int .i64 (b : Nat)) (.int .i64 (c : Nat)) (.int .i64 (d : Nat)) wr
      go_wp2_with (first
        | (go_at_call 98; go_must (refine (HI.out c hc _).mono ?_); rintro e w5 ⟨rfl, rfl⟩)
        | (at_builtin; go_must (refine wpList_pushS _ (by rfl) _ _ (by rfl) W.heap.size A 2 cap _ (by rfl) hown (itB c) (by rfl) (by omega) hbs ?_); intro A2 c2 w2 hown2 hb2))
      go_roundw
      case rel => exact ⟨3, c2, A2, rfl, by omega, rfl, hown2, hbr.trans hb2⟩
      case measure => simp [intOf]
    · have g := cix3 (.int .i64 (a : Nat)) (.int .i64 (b : Nat)) (.int .i64 (c : Nat)) (.int .i64 (d : Nat)) wr
      go_wp2_with (first
        | (go_at_call 98; go_must (refine (HI.out d hd _).mono ?_); rintro e w5 ⟨rfl, rfl⟩)
        | (at_builtin; go_must (refine wpList_pushS _ (by rfl) _ _ (by rfl) W.heap.size A 3 cap _ (by rfl) hown (itB d) (by rfl) (by omega) hbs ?_); intro A2 c2 w2 hown2 hb2))
      go_roundw
      case rel => exact ⟨4, c2, A2, rfl, by omega, rfl, hown2, hbr.trans hb2⟩
      case measure => simp [intOf]
    · obtain ⟨g, rfl, hgl, hcap, hcl⟩ := OwnS.cells hown (by omega)
      have hjl : (Lib.join ((nmS (a, b, c, d) 4).map (·.data.toList)) (⟨#[44]⟩ : ByteArray).data.toList).length = 7 := congrArg ByteArray.size HJN.out
      have HJ := Lib.hid (Tryz.strings_Join g 0 cap (nmS (a, b, c, d) 4) ⟨#[44]⟩ wr (fun j x hx => by rw [Nat.zero_add]; exact hcl j x hx) hgl (show (4 : Nat) ≤ 140737488355328 by omega) hcap (by rw [hjl]; omega))
      have HJ2 : Calls Tryz.prog 140 #[.slice (some ⟨g, 0, none⟩) 4 cap, .string ⟨#[44]⟩] wr fun e w' => e = .returned (.string (nm5 (a, b, c, d))) ∧ Below wr.heap.size wr w' := by
        rw [← HJN.out]
        exact HJ.out
      have HJ3 := Lib.hid HJ2
      clear HJ HJ2 hjl
      go_wp2_with (go_at_call 140; go_must (refine HJ3.out.mono ?_); rintro e w3 ⟨rfl, hb3⟩)
      go_ret
      exact ⟨rfl, hbW.trans ((hbr.trans (hb3.mono hbs)).mono hWs)⟩
end Go.Proofs.YtefcdclmabdmbaaGreatDoor

namespace Go.Proofs.YtefcdclmabdmbaaGreatDoor
open Go.RowKit Go.Shelf Go.Lib Go.Sort

theorem ltKI (x y : Int) : ltOf Lib.compareInt x y = decide (x < y) := by
  unfold ltOf Lib.compareInt
  by_cases h1 : x < y
  · simp [h1]
  · by_cases h2 : y < x <;> simp [h1, h2]
theorem swoKI : SWO (ltOf Lib.compareInt) where
  irrefl x := by rw [ltKI]; simp
  trans x y z h1 h2 := by rw [ltKI] at *; simp at *; omega
  ntrans x y z h1 h2 := by rw [ltKI] at *; simp at *; omega
/-- Numbers as ints. -/
theorem sorted_is {l : List Nat} {ts : List Int} (hp : ts.Perm (toZ l)) (hs : ts.Pairwise (· ≤ ·)) : ts = toZ (sortC l) := by
  have hpos : ∀ t ∈ ts, 0 ≤ t := fun t ht => by
    obtain ⟨x, _, rfl⟩ := List.mem_map.1 (hp.mem_iff.1 ht)
    omega
  have h1 : ts = toZ (ts.map Int.toNat) := by
    unfold toZ
    rw [List.map_map]
    refine (List.map_id' _).symm.trans (List.map_congr_left fun t ht => ?_)
    have := hpos t ht
    show t = ((t.toNat : Nat) : Int)
    omega
  have h2 : (ts.map Int.toNat).Perm l := by
    have := hp.map Int.toNat
    unfold toZ at this
    rw [List.map_map] at this
    have e : (Int.toNat ∘ fun x : Nat => (x : Int)) = id := by funext x; simp
    rw [e, List.map_id] at this
    exact this
  have h3 : (ts.map Int.toNat).Pairwise (· ≤ ·) := by
    refine List.pairwise_map.2 (hs.imp fun h => ?_)
    omega
  exact h1.trans (congrArg toZ (sortC_of h2 h3))
set_option maxHeartbeats 1000000 in
theorem sort_any {w : World} {base : Nat} {A : Option Addr} {n c : Nat} {l : List Nat} (h : OwnZ w base (.slice A n c) (toZ l)) (hn : 0 < n) (hsm : n ≤ 1000000) :
    Calls Tryz.prog 75 #[.slice A n c, .func (.func 76) #[] #[]] w fun e w' => e = .returned (.tuple #[]) ∧ OwnZ w' base (.slice A n c) (toZ (sortC l)) ∧ Below base w w' := by
  have hln := h.len
  have hlt := fun g hg => World.ownsRow.lt h.1 g hg
  obtain ⟨h1, h2⟩ := h
  obtain ⟨h0, hc⟩ := h1
  rcases hc with ⟨e1, _⟩ | ⟨g, cap, cur, e, hbase, hb, hcl, hcm, hsz, htk⟩
  · injection e1 with e1 e2 e3
    omega
  · injection e with e1 e2 e3
    subst e1 e3
    obtain ⟨hg0, hgl⟩ := hlt g rfl
    have eg : ∀ args w, (callFunc 76 args).run Tryz.prog w = .ok (.enter 76 args) w := enters_of Tryz.func76 (by kernel_rfl) rfl
    have hH : Holds (Value.int .i64) w g 0 (toZ l).toArray := holds_of_blockI hb (by rw [Nat.mul_one] at htk; exact htk)
    have hsize : (toZ l).toArray.size = n := by simp [hln]
    have hl42 : n < 4611686018427387904 := by omega
    have hcon := Tryz.slices_SortFunc (Value.int .i64) (fun _ => rfl) Lib.compareInt swoKI 76 #[] g 0 c (toZ l).toArray w eg
      (CmpReads.lays (fun m os dk hs x y => (Tryz.cmp_Compare_int x y _).mono fun e w' ⟨he, hw⟩ => ⟨he, 0, hw⟩)) hH hgl (by rw [hsize]; exact hl42)
    rw [hsize] at hcon
    refine hcon.mono ?_
    rintro e w' ⟨rfl, d', n', os, hp, hs, rfl⟩
    have hds : d'.size = n := hp.1.trans hsize
    have hperm : d'.toList.Perm (toZ l) := by
      have := hp.2.2
      rw [Array.extract_eq_self_of_le (by omega), Array.extract_eq_self_of_le (by omega)] at this
      simpa using this
    have hsort : d'.toList.Pairwise (· ≤ ·) := by
      refine List.pairwise_iff_getElem.2 fun i j hi hj hij => ?_
      have := hs i j (Nat.zero_le _) hij (by simpa [hds] using hj)
      rw [ltKI] at this
      have e1 : d'[i]! = d'.toList[i] := by simp at hi; simp [hi]
      have e2 : d'[j]! = d'.toList[j] := by simp at hj; simp [hj]
      rw [e1, e2] at this
      simp only [decide_eq_false_iff_not] at this
      omega
    have hts := sorted_is hperm hsort
    have hlen2 : (toZ (sortC l)).length = (toZ l).length := by rw [← hts]; exact hperm.length_eq
    have hda : d' = (toZ (sortC l)).toArray := by rw [← hts]
    have hown := ownsRow_sortedI (w := w) (base := base) (g := g) (cap := c) (n := n') (e := 3) (os := os) (cur := cur) (ss := toZ l) (ts := toZ (sortC l)) hlen2 hbase hb hcl hcm hsz
    have hgb : w.grownBy (sortWorld (Value.int .i64) w g 0 n' d' os) (some g) := grownBy_sortedI d'
    refine ⟨rfl, ⟨?_, fun x hx => ?_⟩, (RowKit.Below.refl _ _).grown hgb (by omega) (fun k hk => by injection hk with hk; omega)⟩
    · rw [hlen2, hda, hln]
      exact hown
    · obtain ⟨y, hy, rfl⟩ := List.mem_map.1 hx
      exact h2 _ (List.mem_map.2 ⟨y, (sortC_perm l).mem_iff.1 hy, rfl⟩)
section
variable (w0 : World)
end
end Go.Proofs.YtefcdclmabdmbaaGreatDoor
