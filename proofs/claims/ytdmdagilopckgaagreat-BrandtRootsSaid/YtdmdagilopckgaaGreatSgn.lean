/- Package brandt: the sign of a polynomial at a fraction. -/
import Derived.Test.YtdmdagilopckgaaGreatRead
import Derived.Test.YtdmdagilopckgaaGreatBkr
import Derived.Test.YtdmdagilopckgaaGreatRgi
namespace Go.Proofs.YtdmdagilopckgaaGreat
open Go.RowKit Go.Shelf

/-- The value at num/den, times a power of den. -/
def hv (num den : Int) : List Int → Int
  | [] => 0
  | c :: r => hv num den r * num + c * den ^ r.length
theorem hv_drop {num den : Int} {l : List Int} {j : Nat} (h : j < l.length) : hv num den (l.drop j) = hv num den (l.drop (j + 1)) * num + gz l j * den ^ (l.length - (j + 1)) := by
  have e : l.drop j = gz l j :: l.drop (j + 1) := by
    rw [List.drop_eq_getElem_cons h]
    congr 1
    have := gz_lt h
    rw [List.getElem?_eq_getElem h] at this
    injection this
  rw [e, hv, List.length_drop]
theorem wl_iadd (a b : Int) : wl (a + b).natAbs ≤ max (wl a.natAbs) (wl b.natAbs) + 1 := by
  have := wl_sub a (-b)
  rw [Int.natAbs_neg, Int.sub_neg] at this
  exact this
theorem wl_imul (a b : Int) : wl (a * b).natAbs ≤ wl a.natAbs + wl b.natAbs := by
  rw [Int.natAbs_mul]
  exact wl_mul _ _
theorem wl_pow {d : Int} (h : wl d.natAbs ≤ 1) (k : Nat) : wl (d ^ k).natAbs ≤ k + 1 := by
  induction k with
  | zero => exact wl_small (by simp)
  | succ k ih =>
    rw [Int.pow_succ]
    have := wl_imul (d ^ k) d
    omega
theorem wl_1 {x : Int} (h : x.natAbs ≤ 1000000000) : wl x.natAbs ≤ 1 := dig_length_le (by omega) (by omega)
theorem wl_hv {num den : Int} {B : Nat} (hn : wl num.natAbs ≤ 1) (hd : wl den.natAbs ≤ 1) : ∀ (l : List Int), Bd B l → wl (hv num den l).natAbs ≤ B + 2 * l.length
  | [], _ => by rw [hv]; exact Nat.zero_le _
  | c :: r, h => by
    rw [hv]
    have h1 := wl_hv hn hd r (fun x hx => h x (List.mem_cons_of_mem _ hx))
    have h2 := h c (List.mem_cons_self ..)
    have h3 := wl_iadd (hv num den r * num) (c * den ^ r.length)
    have h4 := wl_imul (hv num den r) num
    have h5 := wl_imul c (den ^ r.length)
    have h6 := wl_pow hd r.length
    rw [List.length_cons]
    omega

theorem NIntV.both {w : World} {D D' : Nat → Prop} {v : Value} {x : Int} (h : NIntV w D v x) (h' : NIntV w D' v x) : NIntV w (fun b => D b ∧ D' b) v x := by
  obtain ⟨A, c, rfl, h⟩ := h
  obtain ⟨A', c', e, h'⟩ := h'
  injection e with e
  have e := congrArg (·[1]?) e
  simp at e
  obtain ⟨rfl, rfl⟩ := e
  refine ⟨A, c, rfl, h.len, h.cap, h.room, h.small, fun hn => ?_⟩
  obtain ⟨b, off, e1, h1, h2⟩ := h.cells hn
  obtain ⟨b', off', e2, h3, _⟩ := h'.cells hn
  rw [e1] at e2
  injection e2 with e2
  injection e2 with e3 e4
  subst e3
  exact ⟨b, off, e1, ⟨h1, h3⟩, h2⟩
/-- A variable of the type api.Int in block P that holds x. -/
abbrev Vi (w : World) (P : Nat) (x : Int) : Prop := IArr w P [x]
theorem Vi.cells {w : World} {P : Nat} {x : Int} (h : Vi w P x) : ∃ neg B m k, w.cell? ⟨P, 0, none⟩ = some (.bool neg) ∧ w.cell? ⟨P, 1, none⟩ = some (.slice B m k) ∧ NI w (.agg #[.bool neg, .slice B m k]) x ∧ w.frozen? ⟨P, 0, none⟩ = false ∧ w.frozen? ⟨P, 1, none⟩ = false := by
  obtain ⟨neg, B, m, k, e0, e1, e2⟩ := IArr.cells h (j := 0) (by simp)
  exact ⟨neg, B, m, k, by simpa using e0, by simpa using e1, e2.mono fun _ _ _ => trivial, IArr.frozen h 0, IArr.frozen h 1⟩
theorem Vi.new {w : World} {neg : Bool} {B : Option Addr} {m k : Nat} {x : Int} (h : NI w (.agg #[.bool neg, .slice B m k]) x) : Vi (w.alloc (.cells #[.bool neg, .slice B m k] 63)) w.heap.size x := by
  have h1 : NIntV w (· < w.heap.size) (.agg #[.bool neg, .slice B m k]) x := NIntV.mono h fun b _ hb => hb
  refine ⟨[.bool neg, .slice B m k], Arr.new w _ _, rfl, fun j hj => ?_⟩
  obtain rfl : j = 0 := by simp at hj; omega
  exact ⟨neg, B, m, k, rfl, rfl, (h1.below (below_al (Below.refl _ _) _)).mono fun b (hb : b < w.heap.size) _ => by omega⟩
theorem Vi.store {w : World} {P : Nat} {x y : Int} {neg : Bool} {B : Option Addr} {m k : Nat} (h : Vi w P x) (hy : NI w (.agg #[.bool neg, .slice B m k]) y) : Vi ((w.setCell ⟨P, 0, none⟩ (.bool neg)).setCell ⟨P, 1, none⟩ (.slice B m k)) P y :=
  IArr.set h (i := 0) (by simp) (hy.off h)
theorem Vi.far {w : World} {P R : Nat} {x : Int} {l : List Int} (hR : IArr w R l) (h : Vi w P x) (hne : R ≠ P) (u u' : Value) : IArr ((w.setCell ⟨P, 0, none⟩ u).setCell ⟨P, 1, none⟩ u') R l := by
  obtain ⟨xs, h1, h2⟩ := hR
  refine ⟨xs, (Arr.far (Arr.far h1 (by exact hne) _) (by exact hne) _), h2.1, fun j hj => ?_⟩
  obtain ⟨neg, B, m, k, e0, e1, e2⟩ := h2.2 j hj
  have e3 : NIntV w (· ≠ P) (.agg #[.bool neg, .slice B m k]) (gz l j) := NI.off (NIntV.mono e2 fun _ _ _ => trivial) h
  exact ⟨neg, B, m, k, e0, e1, (((e2.both e3).setCell (by simp) _).setCell (by simp) _).mono fun b hb _ => hb.1⟩
theorem Pl.far {w : World} {P : Nat} {x : Int} {l : List Int} {A : Option Addr} {n c : Nat} {D : Nat → Prop} (h : Pl NI w D A n c l) (hv : Vi w P x) (hD : ¬ D P) (u u' : Value) : Pl NI ((w.setCell ⟨P, 0, none⟩ u).setCell ⟨P, 1, none⟩ u') D A n c l :=
  ⟨h.len, h.cap, h.room, fun hn => by
    obtain ⟨b, off, e, hb, hc⟩ := h.cells hn
    have hbP : b ≠ P := fun e => hD (e ▸ hb)
    have hk : ∀ o, ((w.setCell ⟨P, 0, none⟩ u).setCell ⟨P, 1, none⟩ u').cell? ⟨b, o, none⟩ = w.cell? ⟨b, o, none⟩ := fun o => by
      rw [World.cell?_setCell_other _ _ _ _ (fun e => hbP (by injection e with e; exact e.symm)), World.cell?_setCell_other _ _ _ _ (fun e => hbP (by injection e with e; exact e.symm))]
    refine ⟨b, off, e, hb, fun j hj => ?_⟩
    obtain ⟨neg, B, m, k, e0, e1, e2⟩ := hc j hj
    exact ⟨neg, B, m, k, (hk _).trans e0, (hk _).trans e1, (((e2.off hv).setCell (by simp) _).setCell (by simp) _).mono fun _ _ _ => trivial⟩⟩

/-- The call's slots while the first operations are done. -/
def sgA (A : Option Addr) (n c F : Nat) (num den : Int) (x5 x6 x11 x12 x13 x14 x15 x16 : Value) : Act :=
  { tmps := #[.slice A n c, .agg #[.int .i64 num, .int .i64 den], undef, .pointer (some ⟨F, 0, none⟩), .int .i64 0, x5, x6, undef, undef, undef, undef, x11, x12, x13, x14, x15, x16, undef, undef, undef, undef, undef, undef, undef, undef, undef, undef, undef, undef, undef, undef, undef, undef, undef, undef], defers := [] }
/-- A number's value that has been made. -/
def Nv (w : World) (v : Value) (x : Int) : Prop := ∃ neg B k q, v = .agg #[.bool neg, .slice B k q] ∧ NI w v x
theorem Nv.below {w w' : World} {v : Value} {x : Int} (h : Nv w v x) (hb : Below w.heap.size w w') : Nv w' v x := by
  obtain ⟨neg, B, k, q, e, h⟩ := h
  exact ⟨neg, B, k, q, e, NI.below h hb⟩
theorem Nv.of {w : World} {v : Value} {x : Int} (h : NI w v x) : Nv w v x := by
  obtain ⟨neg, B, k, q, e, h1⟩ := NI.shape h
  exact ⟨neg, B, k, q, e, h⟩
theorem Nv.far {w : World} {P : Nat} {x y : Int} {v : Value} (h : Nv w v x) (hv : Vi w P y) {u u' : Value} : Nv ((w.setCell ⟨P, 0, none⟩ u).setCell ⟨P, 1, none⟩ u') v x := by
  obtain ⟨neg, B, k, q, e, h⟩ := h
  exact ⟨neg, B, k, q, e, (((h.off hv).setCell (by simp) _).setCell (by simp) _).mono fun _ _ _ => trivial⟩
/-- What holds while the first operations are done, in whatever order. -/
def SgI (W0 : World) (A : Option Addr) (n c F : Nat) (num den : Int) (b0 b1 b2 b3 b4 b5 b6 b7 : Bool) (listed : Array Bool) (a : Act) (wx : World) : Prop :=
  ∃ x5 x6 x11 x12 x13 x14 x15 x16 P5 P6, listed = #[b0, b1, b2, b3, b4, b5, b6, b7, false, false] ∧ a = sgA A n c F num den x5 x6 x11 x12 x13 x14 x15 x16 ∧ Below W0.heap.size W0 wx ∧
    (b0 = true → x11 = .pointer (some ⟨F, 0, none⟩)) ∧ (b1 = true → x12 = .int .i64 num) ∧ (b2 = true → Nv wx x13 num) ∧ (b3 = true → x14 = .pointer (some ⟨F, 1, none⟩)) ∧ (b4 = true → x15 = .int .i64 den) ∧ (b5 = true → Nv wx x16 den) ∧
    (b6 = true → x5 = .pointer (some ⟨P5, 0, none⟩) ∧ W0.heap.size ≤ P5 ∧ Vi wx P5 0) ∧ (b7 = true → x6 = .pointer (some ⟨P6, 0, none⟩) ∧ W0.heap.size ≤ P6 ∧ Vi wx P6 0) ∧ (b6 = true → b7 = true → P5 ≠ P6) ∧ (b4 = true → b3 = true) ∧ (b5 = true → b4 = true)
def SgE (W0 : World) (A : Option Addr) (n c F : Nat) (num den : Int) (num' den' : Int) (b8 b9 : Bool) (listed : Array Bool) (a : Act) (wx : World) : Prop :=
  ∃ x11 x12 x13 x14 x15 x16 P5 P6, listed = #[true, true, true, true, true, true, true, true, b8, b9] ∧ a = sgA A n c F num den (.pointer (some ⟨P5, 0, none⟩)) (.pointer (some ⟨P6, 0, none⟩)) x11 x12 x13 x14 x15 x16 ∧ Below W0.heap.size W0 wx ∧
    Nv wx x16 den ∧ Vi wx P5 num' ∧ Vi wx P6 den' ∧ P5 ≠ P6 ∧ W0.heap.size ≤ P5 ∧ W0.heap.size ≤ P6
inductive SgJ (W0 : World) (A : Option Addr) (n c F : Nat) (num den : Int) (listed : Array Bool) (a : Act) (wx : World) : Prop
  | one (b0 b1 b2 b3 b4 b5 b6 b7 : Bool) (h : SgI W0 A n c F num den b0 b1 b2 b3 b4 b5 b6 b7 listed a wx)
  | two (h : SgE W0 A n c F num den num 0 true false listed a wx)
  | three (h : SgE W0 A n c F num den num den true true listed a wx)

attribute [local go_sem] Oper.semAt_some
/-- What holds where the elements from j on have been gone through. -/
def SgL (w : World) (N Bn P5 P6 P7 : Nat) (A : Option Addr) (n c : Nat) (l : List Int) (num den : Int) (j : Nat) (W : World) : Prop :=
  W.cell? ⟨Bn, 0, none⟩ = some (.slice A n c) ∧ Pl NI W (· < N) A n c l ∧ Vi W P5 num ∧ Vi W P6 den ∧ Vi W P7 (hv num den (l.drop j)) ∧ Vi W (P7 + 1) (den ^ (n - j)) ∧ Below N w W

set_option maxRecDepth 100000 in
set_option maxHeartbeats 8000000 in
theorem sign_any {A : Option Addr} {n c B : Nat} {l : List Int} {num den : Int} {w : World} (h : Pl NI w (fun _ => True) A n c l) (hn : n ≤ 1000) (hB : Bd B l) (hB2 : B ≤ 500000000000) (hnum : num.natAbs ≤ 1000000000) (hden : den.natAbs ≤ 1000000000) :
    Calls Tryz.prog 36 #[.slice A n c, .agg #[.int .i64 num, .int .i64 den]] w fun e w' => e = .returned (.int .i64 (cmpI (hv num den l) 0)) ∧ Below w.heap.size w w' := by
  have hr := h.room
  unfold maxLen at hr
  have hc := h.cap
  have hl := Lib.hid h.len
  have HP := Lib.hid (show Pl NI w (· < w.heap.size) A n c l from h.mono fun b _ hb => hb)
  clear h
  refine (callsIn_wide (n := 3)).1 (callsIn_of_wp_marks Tryz.func36 rfl trivial ?_ rfl)
  simp only [Tryz.ntmps36, List.size_toArray, List.length_cons, List.length_nil, Nat.reduceAdd, Nat.reduceSub, Array.replicate_succ, Array.replicate_zero, List.push_toArray, List.append_toArray, List.nil_append, List.cons_append]
  gi_wp2
  obtain ⟨W0, hW0⟩ : ∃ W0, W0 = w.alloc (.cells #[.int .i64 num, .int .i64 den] 24) := ⟨_, rfl⟩
  obtain ⟨F, hF⟩ : ∃ F, F = w.heap.size := ⟨_, rfl⟩
  have q0 : W0.cell? ⟨F, 0, none⟩ = some (.int .i64 num) := by rw [hW0, hF]; go_simp
  have q1 : W0.cell? ⟨F, 1, none⟩ = some (.int .i64 den) := by rw [hW0, hF]; go_simp
  have hbW : Below w.heap.size w W0 := by rw [hW0]; exact below_al (Below.refl _ _) _
  rw [← hW0, ← hF]
  have HF := Lib.hid hF
  clear hW0 hF
  refine wpIn_wide.2 ?_
  refine wp_region_inv (SgJ W0 A n c F num den) (by kernel_rfl) (by kernel_rfl) ?_ ?_ ?_
  · rintro listed a wx (⟨b0, b1, b2, b3, b4, b5, b6, b7, ⟨x5, x6, x11, x12, x13, x14, x15, x16, P5, P6, rfl, rfl, hb, f0, f1, f2, f3, f4, f5, f6, f7, f8, f9, f10⟩⟩ | ⟨⟨x11, x12, x13, x14, x15, x16, P5, P6, rfl, rfl, hb, h16, v5, v6, hne, hn5, hn6⟩⟩ | ⟨⟨x11, x12, x13, x14, x15, x16, P5, P6, rfl, rfl, hb, h16, v5, v6, hne, hn5, hn6⟩⟩) i o ho hl hall
    · have hi : i < 10 := by
        rcases Nat.lt_or_ge i 10 with h | h
        · exact h
        · rw [Array.getElem?_eq_none (by simpa using h)] at ho; cases ho
      have hc0 := keepB hb q0
      have hc1 := keepB hb q1
      obtain rfl | rfl | rfl | rfl | rfl | rfl | rfl | rfl | rfl | rfl : i = 0 ∨ i = 1 ∨ i = 2 ∨ i = 3 ∨ i = 4 ∨ i = 5 ∨ i = 6 ∨ i = 7 ∨ i = 8 ∨ i = 9 := by omega
      · obtain rfl := Option.some.inj ho
        simp at hl
        subst hl
        refine wpOp_of_list (rest := []) ho ?_
        clear ho
        unfold sgA
        go_wp2_with fail
        exact .one true b1 b2 b3 b4 b5 b6 b7 ⟨_, _, _, _, _, _, _, _, P5, P6, rfl, rfl, hb, fun _ => rfl, f1, f2, f3, f4, f5, f6, f7, f8, f9, f10⟩
      · obtain rfl := Option.some.inj ho
        simp [Region.binds] at hall
        simp at hl
        subst hl
        obtain rfl := hall
        obtain rfl := f0 rfl
        refine wpOp_of_list (rest := []) ho ?_
        clear ho
        unfold sgA
        go_wp2_with fail
        exact .one true true b2 b3 b4 b5 b6 b7 ⟨_, _, _, _, _, _, _, _, P5, P6, rfl, rfl, hb, fun _ => rfl, fun _ => rfl, f2, f3, f4, f5, f6, f7, f8, f9, f10⟩
      · obtain rfl := Option.some.inj ho
        simp [Region.binds] at hall
        simp at hl
        subst hl
        obtain rfl := hall
        obtain rfl := f1 rfl
        refine wpOp_of_list (rest := []) ho ?_
        clear ho
        unfold sgA
        go_wp2_with (go_at_call 76; go_must (refine (Of_any num wx (by omega) (by omega)).mono ?_); rintro e w2 ⟨v2, rfl, hv2, hb2⟩)
        exact .one b0 true true b3 b4 b5 b6 b7 ⟨_, _, _, _, _, _, _, _, P5, P6, rfl, rfl, btr hb hb2, f0, fun _ => rfl, fun _ => Nv.of (nint_ni hv2), f3, f4, fun h => (f5 h).below hb2, fun h => ⟨(f6 h).1, (f6 h).2.1, (f6 h).2.2.below hb2⟩, fun h => ⟨(f7 h).1, (f7 h).2.1, (f7 h).2.2.below hb2⟩, f8, f9, f10⟩
      · obtain rfl := Option.some.inj ho
        simp at hl
        subst hl
        refine wpOp_of_list (rest := []) ho ?_
        clear ho
        unfold sgA
        go_wp2_with fail
        exact .one b0 b1 b2 true b4 b5 b6 b7 ⟨_, _, _, _, _, _, _, _, P5, P6, rfl, rfl, hb, f0, f1, f2, fun _ => rfl, f4, f5, f6, f7, f8, fun _ => rfl, f10⟩
      · obtain rfl := Option.some.inj ho
        simp [Region.binds] at hall
        simp at hl
        subst hl
        obtain rfl := hall
        obtain rfl := f3 rfl
        refine wpOp_of_list (rest := []) ho ?_
        clear ho
        unfold sgA
        go_wp2_with fail
        exact .one b0 b1 b2 true true b5 b6 b7 ⟨_, _, _, _, _, _, _, _, P5, P6, rfl, rfl, hb, f0, f1, f2, fun _ => rfl, fun _ => rfl, f5, f6, f7, f8, fun _ => rfl, fun _ => rfl⟩
      · obtain rfl := Option.some.inj ho
        simp [Region.binds] at hall
        simp at hl
        subst hl
        obtain ⟨rfl, rfl⟩ := hall
        obtain rfl := f4 rfl
        refine wpOp_of_list (rest := []) ho ?_
        clear ho
        unfold sgA
        go_wp2_with (go_at_call 76; go_must (refine (Of_any den wx (by omega) (by omega)).mono ?_); rintro e w2 ⟨v2, rfl, hv2, hb2⟩)
        exact .one b0 b1 true b3 true true b6 b7 ⟨_, _, _, _, _, _, _, _, P5, P6, rfl, rfl, btr hb hb2, f0, f1, fun _ => (f2 trivial).below hb2, fun _ => rfl, fun _ => rfl, fun _ => Nv.of (nint_ni hv2), fun h => ⟨(f6 h).1, (f6 h).2.1, (f6 h).2.2.below hb2⟩, fun h => ⟨(f7 h).1, (f7 h).2.1, (f7 h).2.2.below hb2⟩, f8, fun _ => f9 trivial, fun _ => rfl⟩
      · obtain rfl := Option.some.inj ho
        simp at hl
        subst hl
        have hal := below_al (Below.refl wx.heap.size wx) (.cells #[.bool false, .slice none 0 0] 63)
        have hsz := hb.size
        refine wpOp_of_list (rest := []) ho ?_
        clear ho
        unfold sgA
        go_wp2_with fail
        exact .one b0 b1 b2 b3 b4 b5 true b7 ⟨_, _, _, _, _, _, _, _, wx.heap.size, P6, rfl, rfl, btr hb hal, f0, f1, fun h => (f2 h).below hal, f3, f4, fun h => (f5 h).below hal, fun _ => ⟨rfl, hsz, Vi.new (NIntV.zero _ _)⟩, fun h => ⟨(f7 h).1, (f7 h).2.1, (f7 h).2.2.below hal⟩, fun _ h => Nat.ne_of_gt (f7 h).2.2.lt, f9, f10⟩
      · obtain rfl := Option.some.inj ho
        simp at hl
        subst hl
        have hal := below_al (Below.refl wx.heap.size wx) (.cells #[.bool false, .slice none 0 0] 63)
        have hsz := hb.size
        refine wpOp_of_list (rest := []) ho ?_
        clear ho
        unfold sgA
        go_wp2_with fail
        exact .one b0 b1 b2 b3 b4 b5 b6 true ⟨_, _, _, _, _, _, _, _, P5, wx.heap.size, rfl, rfl, btr hb hal, f0, f1, fun h => (f2 h).below hal, f3, f4, fun h => (f5 h).below hal, fun h => ⟨(f6 h).1, (f6 h).2.1, (f6 h).2.2.below hal⟩, fun _ => ⟨rfl, hsz, Vi.new (NIntV.zero _ _)⟩, fun h _ => Nat.ne_of_lt (f6 h).2.2.lt, f9, f10⟩
      · obtain rfl := Option.some.inj ho
        simp [Region.binds] at hall
        obtain ⟨rfl, rfl, rfl, rfl, rfl, _, _, rfl⟩ := hall
        obtain rfl := f10 rfl
        obtain rfl := f9 rfl
        obtain ⟨rfl, hn5, v5⟩ := f6 rfl
        obtain ⟨rfl, hn6, v6⟩ := f7 rfl
        obtain ⟨neg, B, k, q, rfl, h13⟩ := f2 rfl
        have h16 := f5 rfl
        have hne := f8 rfl rfl
        obtain ⟨ng, Bg, kg, qg, y0, y1, _, z0, z1⟩ := v5.cells
        have hl5 := v5.lt
        refine wpOp_of_list (rest := []) ho ?_
        clear ho f0 f1 f2 f3 f4 f5 f6 f7 f8 f9 f10
        unfold sgA
        go_wp2_with fail
        exact .two (⟨_, _, _, _, _, _, P5, P6, rfl, rfl, (hb.setCell hn5 _).setCell hn5 _, h16.far v5, v5.store h13, Vi.far v6 v5 hne.symm _ _, hne, hn5, hn6⟩)
      · obtain rfl := Option.some.inj ho
        simp [Region.binds] at hall
    · have hi : i < 10 := by
        rcases Nat.lt_or_ge i 10 with h | h
        · exact h
        · rw [Array.getElem?_eq_none (by simpa using h)] at ho; cases ho
      obtain rfl | rfl | rfl | rfl | rfl | rfl | rfl | rfl | rfl | rfl : i = 0 ∨ i = 1 ∨ i = 2 ∨ i = 3 ∨ i = 4 ∨ i = 5 ∨ i = 6 ∨ i = 7 ∨ i = 8 ∨ i = 9 := by omega
      all_goals first | (simp at hl; done) | skip
      obtain rfl := Option.some.inj ho
      obtain ⟨neg, B, k, q, rfl, h13⟩ := h16
      obtain ⟨ng, Bg, kg, qg, y0, y1, _, z0, z1⟩ := v6.cells
      have hl6 := v6.lt
      refine wpOp_of_list (rest := []) ho ?_
      clear ho hall
      unfold sgA
      go_wp2_with fail
      exact .three (⟨_, _, _, _, _, _, P5, P6, rfl, rfl, (hb.setCell hn6 _).setCell hn6 _, (Nv.of h13).far v6, Vi.far v5 v6 hne _ _, v6.store h13, hne, hn5, hn6⟩)
    · have hi : i < 10 := by
        rcases Nat.lt_or_ge i 10 with h | h
        · exact h
        · rw [Array.getElem?_eq_none (by simpa using h)] at ho; cases ho
      obtain rfl | rfl | rfl | rfl | rfl | rfl | rfl | rfl | rfl | rfl : i = 0 ∨ i = 1 ∨ i = 2 ∨ i = 3 ∨ i = 4 ∨ i = 5 ∨ i = 6 ∨ i = 7 ∨ i = 8 ∨ i = 9 := by omega
      all_goals (simp at hl)
  rotate_left
  · exact .one false false false false false false false false ⟨undef, undef, undef, undef, undef, undef, undef, undef, 0, 0, rfl, rfl, (Below.refl _ _).drew, fun h => (by cases h), fun h => (by cases h), fun h => (by cases h), fun h => (by cases h), fun h => (by cases h), fun h => (by cases h), fun h => (by cases h), fun h => (by cases h), fun h => (by cases h), fun h => (by cases h), fun h => (by cases h)⟩
  rintro listed a wx (⟨b0, b1, b2, b3, b4, b5, b6, b7, ⟨x5, x6, x11, x12, x13, x14, x15, x16, P5, P6, rfl, rfl, _⟩⟩ | ⟨⟨x11, x12, x13, x14, x15, x16, P5, P6, rfl, rfl, _⟩⟩ | ⟨⟨x11, x12, x13, x14, x15, x16, P5, P6, rfl, rfl, hb, h16, v5, v6, hne, hn5, hn6⟩⟩) hall
  · have := hall 8 (by simp)
    simp at this
  · have := hall 9 (by simp)
    simp at this
  have hbx := btr hbW hb
  have hN := hbW.size
  clear hall q0 q1 hb hbW h16
  unfold sgA
  rename_i hK
  refine hK _ _ ?_
  clear hK
  gi_wp2
  refine ⟨trivial, (callsIn_wide.2 (Of_any 1 wx (by omega) (by omega))).mono ?_⟩
  rintro e w2 ⟨v2, rfl, hv2, hb2⟩
  obtain ⟨ng2, B2, m2, q2, rfl, hn2⟩ := (nint_ni hv2).shape
  clear hv2
  gi_wp2
  obtain ⟨W3, hW3⟩ : ∃ W3, W3 = (w2.alloc (.cells #[.bool false, .slice none 0 0] 63)).alloc (.cells #[.bool ng2, .slice B2 m2 q2] 63) := ⟨_, rfl⟩
  obtain ⟨P7, hP7⟩ : ∃ P7, P7 = w2.heap.size := ⟨_, rfl⟩
  have s1 := below_al (Below.refl w2.heap.size w2) (.cells #[.bool false, .slice none 0 0] 63)
  have s2 := below_al (Below.refl (w2.alloc (.cells #[.bool false, .slice none 0 0] 63)).heap.size (w2.alloc (.cells #[.bool false, .slice none 0 0] 63))) (.cells #[.bool ng2, .slice B2 m2 q2] 63)
  have v7 : Vi W3 P7 0 := by rw [hW3, hP7]; exact IArr.below (Vi.new (NIntV.zero _ _)) s2
  have v8 : Vi W3 (P7 + 1) 1 := by
    rw [hW3, hP7]
    have := Vi.new (NI.below hn2 s1)
    simpa using this
  have hb23 : Below w2.heap.size w2 W3 := by rw [hW3]; exact btr s1 s2
  rw [← hW3, ← hP7]
  have v5' := IArr.below v5 (btr hb2 hb23)
  have v6' := IArr.below v6 (btr hb2 hb23)
  have hbx3 := btr hbx (btr hb2 hb23)
  have h57 : P5 < P7 := by have := v5.lt; have := hb2.size; omega
  have h67 : P6 < P7 := by have := v6.lt; have := hb2.size; omega
  clear hW3 hP7 s1 s2 hn2 hb23 hb2 v5 v6 hbx
  refine ⟨trivial, (callsIn_wide.2 Backward_any).mono ?_⟩
  rintro e W4 ⟨rfl, hW4⟩
  obtain ⟨Bn, hBn⟩ : ∃ Bn, Bn = W3.heap.size := ⟨_, rfl⟩
  have hb4 : Below W3.heap.size W3 W4 := by rw [hW4]; exact below_al (Below.refl _ _) _
  have hcB : W4.cell? ⟨Bn, 0, none⟩ = some (.slice A n c) := by rw [hW4, hBn]; go_simp
  have u5 := IArr.below v5' hb4
  have u6 := IArr.below v6' hb4
  have u7 := IArr.below v7 hb4
  have u8 := IArr.below v8 hb4
  have hbx4 := btr hbx3 hb4
  have h8B : P7 + 1 < Bn := by rw [hBn]; exact v8.lt
  have HP4 := HP.out.below hbx4
  have hbxs := hbx4.size
  rw [← hBn]
  clear hW4 hBn v5' v6' v7 v8 hbx3 hb4
  gi_wp2
  have HL0 := Lib.hid (show SgL w w.heap.size Bn P5 P6 P7 A n c l num den n W4 from ⟨hcB, HP4, u5, u6, by rw [List.drop_of_length_le (by rw [hl.out]; exact Nat.le_refl _)]; exact u7, by rw [Nat.sub_self, Int.pow_zero]; exact u8, hbx4⟩)
  have hD4 : Bn < W4.heap.size := cell_lt hcB
  clear hcB HP4 u5 u6 u7 u8 hbx4
  refine wp_rangeBack Bn A n c l rfl (SgL w w.heap.size Bn P5 P6 P7 A n c l num den) ?hIc ?hI HL0.out (fun j v P => { tmps := #[.slice A n c, .agg #[.int .i64 num, .int .i64 den], undef, .pointer (some ⟨F, 0, none⟩), .int .i64 0, .pointer (some ⟨P5, 0, none⟩), .pointer (some ⟨P6, 0, none⟩), .pointer (some ⟨P7, 0, none⟩), .pointer (some ⟨P7 + 1, 0, none⟩), undef, .pointer (some ⟨P, 0, none⟩), x11, x12, x13, x14, x15, x16, .agg #[.bool false, .slice none 0 0], .agg #[.bool ng2, .slice B2 m2 q2], .slice A n c, .func (.func 110) #[] #[.pointer (some ⟨Bn, 0, none⟩)], .int .i64 (j : Nat), v, undef, undef, undef, undef, undef, undef, undef, undef, undef, undef, undef, undef], defers := [] }) ?hassign ?hbody ?hdone
  case hIc =>
    rintro j W ⟨h1, h2, _⟩
    exact ⟨h1, h2.mono fun _ _ _ => trivial⟩
  case hI =>
    rintro j X Y ⟨h1, h2, h3, h4, h5, h6, h7⟩ hk
    exact ⟨hk.cell h1, hk.pl h2, hk.iarr h3, hk.iarr h4, hk.iarr h5, hk.iarr h6, h7.trans (hk.below.mono (by have := hbxs; omega))⟩
  case hassign =>
    intro j neg B k q W K _ hK
    gi_wp2
    exact hK
  case hdone =>
    rintro W ⟨h1, h2, h3, h4, h5, h6, h7⟩ hD
    have hv0 := h5.cells
    rw [List.drop_zero] at hv0
    obtain ⟨ng, Bg, kg, qg, y0, y1, y2, _, _⟩ := hv0
    have hbd := wl_hv (num := num) (den := den) (wl_1 hnum) (wl_1 hden) l hB
    rw [hl.out] at hbd
    have HBD := Lib.hid hbd
    have HY := Lib.hid y2
    clear y2 h2 h3 h4 h5 h6 hbd
    gi_wp2
    refine ⟨trivial, (callsIn_wide.2 (Sign_any HY.out.int (by have := HBD.out; omega))).mono ?_⟩
    rintro e w5 ⟨rfl, hb5⟩
    have mD := (hb5.block _ (Array.getElem?_eq_some_iff.1 hD).1).trans hD
    gi_wp2
    refine ⟨by simp, .inl ⟨_, _, rfl, run_takeDeferred mD, ?_⟩⟩
    refine ⟨.int .i64 (cmpI (hv num den l) 0), by simp [results, Tryz.results36, go_sem], rfl, ?_⟩
    have hD' := (Array.getElem?_eq_some_iff.1 mD).1
    exact ⟨(h7.trans (hb5.mono h7.size)).os, (h7.trans (hb5.mono h7.size)).tape, (h7.trans (hb5.mono h7.size)).output, by have := (h7.trans (hb5.mono h7.size)).size; simpa [World.putObj] using this, fun k hk => (World.putObj_heap_other (by omega)).trans ((h7.trans (hb5.mono h7.size)).block k hk)⟩
  case hbody =>
    rintro j neg B k q P W hj ⟨h1, h2, h3, h4, h5, h6, h7⟩ hel hbx hP
    obtain ⟨ng5, Bg5, kg5, qg5, a0, a1, a2, _, _⟩ := h3.cells
    obtain ⟨ng7, Bg7, kg7, qg7, c0, c1, c2, d0, d1⟩ := h5.cells
    obtain ⟨ng8, Bg8, kg8, qg8, e0, e1, e2, f0, f1⟩ := h6.cells
    have h7l := h5.lt
    have h8l := h6.lt
    have hbc := wl_hv (num := num) (den := den) (wl_1 hnum) (wl_1 hden) (l.drop (j + 1)) (fun x hx => hB x (List.mem_of_mem_drop hx))
    have hpc := wl_pow (wl_1 hden) (n - (j + 1))
    have hcc := hB (gz l j) (gz_mem (by rw [hl.out]; exact hj))
    have hst := hv_drop (num := num) (den := den) (l := l) (j := j) (by rw [hl.out]; exact hj)
    have hps : den ^ (n - (j + 1)) * den = den ^ (n - j) := by rw [← Int.pow_succ]; congr 1; omega
    rw [hl.out] at hst
    rw [List.length_drop, hl.out] at hbc
    have HNB := Lib.hid (wl_1 hnum)
    have HDB := Lib.hid (wl_1 hden)
    have m1 := wl_imul (hv num den (l.drop (j + 1))) num
    have m2 := wl_imul (gz l j) (den ^ (n - (j + 1)))
    generalize hv num den (l.drop (j + 1)) = sm at *
    generalize hpw : den ^ (n - (j + 1)) = pw at *
    clear hpw
    have HBC := Lib.hid hbc
    have HPC := Lib.hid hpc
    have HCC := Lib.hid hcc
    have HST := Lib.hid hst
    have HPS := Lib.hid hps
    have HM1 := Lib.hid m1
    have HM2 := Lib.hid m2
    have HV := Lib.hid hel
    have A0 := Lib.hid a0
    have A1 := Lib.hid a1
    have A2 := Lib.hid a2
    have C0 := Lib.hid c0
    have C1 := Lib.hid c1
    have C2 := Lib.hid c2
    have E0 := Lib.hid e0
    have E1 := Lib.hid e1
    have E2 := Lib.hid e2
    have hPl := hbx.lt
    have X0 := Lib.hid hbx
    have H5 := Lib.hid h5
    have H6 := Lib.hid h6
    clear hbc hpc hcc hst hps m1 m2 hel a0 a1 a2 c0 c1 c2 e0 e1 e2 hbx h5 h6 d0 d1 f0 f1
    gi_wp2
    have hs0 : Below W.heap.size W W.drew := (Below.refl _ _).drew
    refine wpIn_region_trg (.read 0 (.read 1 (.read 3 (.read 4 (.step 2 (.step 5 (.step 6 (.step 7 .nil)))))))) [7] (by kernel_rfl) (by rfl) (by kernel_rfl) (by kernel_rfl) (by kernel_rfl) (fun _ _ _ _ _ h => h) (fun ⟨_, _, h⟩ => h) (fun V => Below W.heap.size W V) ?_
    change goG _ _ _ _ _ _ _ W.drew
    refine goG_read 23 hs0 (by rfl) (by rfl) ?_ (by rfl) (fun wz hSw => ?_) ?_
    rotate_left
    · (have x0 := keepB hSw C0.out); (have x1 := keepB hSw C1.out); go_simp
      try with_reducible rfl
    simp only [List.setIfInBounds_toArray, List.set]
    refine goG_read 24 hs0 (by rfl) (by rfl) ?_ (by rfl) (fun wz hSw => ?_) ?_
    rotate_left
    · (have x0 := keepB hSw A0.out); (have x1 := keepB hSw A1.out); go_simp
      try with_reducible rfl
    simp only [List.setIfInBounds_toArray, List.set]
    refine goG_read 26 hs0 (by rfl) (by rfl) ?_ (by rfl) (fun wz hSw => ?_) ?_
    rotate_left
    · obtain ⟨x0, x1, _, _⟩ := X0.out.below hSw; go_simp
      try with_reducible rfl
    simp only [List.setIfInBounds_toArray, List.set]
    refine goG_read 27 hs0 (by rfl) (by rfl) ?_ (by rfl) (fun wz hSw => ?_) ?_
    rotate_left
    · (have x0 := keepB hSw E0.out); (have x1 := keepB hSw E1.out); go_simp
      try with_reducible rfl
    simp only [List.setIfInBounds_toArray, List.set]
    refine goG_step (by rfl) ?_
    go_wp2_with (go_at_call 79; refine (Mul_any (NI.below C2.out hs0).int (NI.below A2.out hs0).int (by have := HBC.out; omega) (by have := HNB.out; omega)).mono ?_; rintro e w5 ⟨v5, rfl, hv5, hb5⟩)
    have hs1 := btr hs0 hb5
    refine ⟨fun _ => hs1, ?_⟩
    refine goG_step (by rfl) ?_
    go_wp2_with (go_at_call 79; refine (Mul_any (NI.below HV.out hs1).int (NI.below E2.out hs1).int (by have := HCC.out; omega) (by have := HPC.out; omega)).mono ?_; rintro e w6 ⟨v6, rfl, hv6, hb6⟩)
    have hs2 := btr hs1 hb6
    refine ⟨fun _ => hs2, ?_⟩
    refine goG_step (by rfl) ?_
    go_wp2_with (go_at_call 78; refine (Add_any (hv5.below hb6).int hv6.int (by have := HBC.out; have := HNB.out; have := HM1.out; omega) (by have := HCC.out; have := HPC.out; have := HM2.out; omega)).mono ?_; rintro e w7 ⟨v7, rfl, hv7, hb7⟩)
    have hs3 := btr hs2 hb7
    refine ⟨fun _ => hs3, ?_⟩
    obtain ⟨ng9, B9, k9, q9, rfl, hn9⟩ := (nint_ni hv7).shape
    clear hv7 hv6 hv5 hb5 hb6 hb7 hs0 hs1 hs2
    have i7 := IArr.below H5.out hs3
    obtain ⟨ng10, B10, k10, q10, y0, y1, _, z0, z1⟩ := Vi.cells i7
    have hl7 := i7.lt
    refine goG_step (by rfl) ?_
    go_wp2_with fail
    refine ⟨fun h => by simp at h, ?_⟩
    obtain ⟨W8, hW8⟩ : ∃ W8, W8 = (w7.setCell ⟨P7, 0, none⟩ (.bool ng9)).setCell ⟨P7, 1, none⟩ (.slice B9 k9 q9) := ⟨_, rfl⟩
    rw [← hW8]
    have j7 : Vi W8 P7 (hv num den (l.drop j)) := by rw [hW8, HST.out]; exact Vi.store i7 hn9
    have j8 : Vi W8 (P7 + 1) pw := by rw [hW8]; exact Vi.far (IArr.below H6.out hs3) i7 (by omega) _ _
    have j5 : Vi W8 P5 num := by rw [hW8]; exact Vi.far (IArr.below h3 hs3) i7 (by omega) _ _
    have j6 : Vi W8 P6 den := by rw [hW8]; exact Vi.far (IArr.below h4 hs3) i7 (by omega) _ _
    have jp : Pl NI W8 (· < w.heap.size) A n c l := by rw [hW8]; exact (h2.below hs3).far i7 (by omega) _ _
    have jb : W8.cell? ⟨Bn, 0, none⟩ = some (.slice A n c) := by
      rw [hW8, World.cell?_setCell_other _ _ _ _ (fun e => by injection e with e; omega), World.cell?_setCell_other _ _ _ _ (fun e => by injection e with e; omega)]
      exact keepB hs3 h1
    have jN : Below w.heap.size w W8 := by rw [hW8]; exact ((h7.trans (hs3.mono h7.size)).setCell (by show _ ≤ P7; omega) _).setCell (by show _ ≤ P7; omega) _
    have jD : ∀ k, k < W.heap.size → k ≠ P7 → W8.heap[k]? = W.heap[k]? := fun k hk hk7 => by
      rw [hW8, Below.heap_setCell _ _ _ _ (by exact hk7), Below.heap_setCell _ _ _ _ (by exact hk7)]
      exact hs3.block k hk
    have jS : W.heap.size ≤ W8.heap.size := by rw [hW8]; simpa [World.setCell] using hs3.size
    clear hW8 i7 y0 y1 z0 z1 hn9 hs3
    obtain ⟨ngp, Bp, kp, qp, a0, a1, a2, z0, z1⟩ := j8.cells
    obtain ⟨ngd, Bd', kd, qd, b0, b1, b2, _, _⟩ := j6.cells
    have AA := Lib.hid a2
    have BB := Lib.hid b2
    clear a2 b2
    refine (show Exit.then _ _ .normal _ _ from ?_)
    gi_wp2
    refine ⟨trivial, (CallsIn.inRound _ (callsIn_wide.2 (Mul_any AA.out.int BB.out.int (by have := HPC.out; omega) (by have := HDB.out; omega)))).mono ?_⟩
    rintro e w9 ⟨v9, rfl, hv9, hb9⟩
    obtain ⟨ng9, B9, k9, q9, rfl, hn9⟩ := (nint_ni hv9).shape
    have i8 := IArr.below j8 hb9
    obtain ⟨ng10, B10, k10, q10, y0, y1, _, y2, y3⟩ := Vi.cells i8
    clear z0 z1 a0 a1 b0 b1
    gi_wp2
    have hW : ∀ D, D < W.heap.size → Bn < D → ((w9.setCell ⟨P7 + 1, 0, none⟩ (.bool ng9)).setCell ⟨P7 + 1, 1, none⟩ (.slice B9 k9 q9)).heap[D]? = W.heap[D]? := fun D h1 h2 => by
      rw [Below.heap_setCell _ _ _ _ (by show D ≠ P7 + 1; omega), Below.heap_setCell _ _ _ _ (by show D ≠ P7 + 1; omega), hb9.block D (by omega)]
      exact jD D h1 (by omega)
    refine ⟨⟨hW _ (by omega) (by omega), hW _ (by omega) (by omega), by have := hb9.size; simp [World.setCell]; omega⟩, ?_⟩
    refine ⟨?_, (jp.below hb9).far i8 (by omega) _ _, Vi.far (IArr.below j5 hb9) i8 (by omega) _ _, Vi.far (IArr.below j6 hb9) i8 (by omega) _ _, Vi.far (IArr.below j7 hb9) i8 (by omega) _ _, ?_, ((jN.trans (hb9.mono jN.size)).setCell (by show _ ≤ P7 + 1; omega) _).setCell (by show _ ≤ P7 + 1; omega) _⟩
    · rw [World.cell?_setCell_other _ _ _ _ (fun e => by injection e with e; omega), World.cell?_setCell_other _ _ _ _ (fun e => by injection e with e; omega)]
      exact keepB hb9 jb
    · rw [← HPS.out]
      exact Vi.store i8 hn9
end Go.Proofs.YtdmdagilopckgaaGreat
