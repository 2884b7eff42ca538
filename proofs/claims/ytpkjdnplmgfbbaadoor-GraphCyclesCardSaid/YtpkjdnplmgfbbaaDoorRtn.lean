/- returns: walks that never go back at once, counted. -/
import Derived.Test.YtpkjdnplmgfbbaaDoorIrr
import Derived.Test.YtpkjdnplmgfbbaaDoorZu
namespace Go.Proofs.YtpkjdnplmgfbbaaDoor
open Go.RowKit

def lastN (l : List Nat) : Nat := l.getD (l.length - 1) 0
def prevO (l : List Nat) : Option Nat := if l.length < 2 then none else some (l.getD (l.length - 2) 0)
theorem lastN_snoc (l : List Nat) (x : Nat) : lastN (l ++ [x]) = x := by simp [lastN, List.getD]
theorem prevO_snoc {l : List Nat} (h : l ≠ []) (x : Nat) : prevO (l ++ [x]) = some (lastN l) := by
  have h1 : 0 < l.length := List.length_pos_iff.2 h
  unfold prevO lastN
  rw [if_neg (by simp; omega), List.length_append]
  have e : l.length + [x].length - 2 = l.length - 1 := by simp
  rw [e]
  congr 1
  simp only [List.getD]
  rw [List.getElem?_append_left (by omega)]
/-- What one neighbour adds. -/
def rtv (E : List (List Nat)) (tg n : Nat) (p : Option Nat) (i v : Nat) : Int := if p = some v then 0 else rt E tg n (some i) v
theorem ls_take {f : Nat → Int} {l : List Nat} {t x : Nat} (hx : l[t]? = some x) : ls f (l.take (t + 1)) = ls f (l.take t) + f x := by
  rw [List.take_add_one, hx]
  exact ls_snoc _ _ _
theorem rtv_le {E : List (List Nat)} (h : ∀ v, (gr E v).length ≤ 4) (tg n : Nat) (p : Option Nat) (i v : Nat) : 0 ≤ rtv E tg n p i v ∧ rtv E tg n p i v ≤ 4 ^ n := by
  unfold rtv
  have hp : (0 : Int) < 4 ^ n := Int.pow_pos (by omega)
  split
  · omega
  · exact rt_le h tg n (some i) v
theorem lsrtv_le {E : List (List Nat)} (h : ∀ v, (gr E v).length ≤ 4) (tg n : Nat) (p : Option Nat) (i : Nat) : ∀ l : List Nat, 0 ≤ ls (rtv E tg n p i) l ∧ ls (rtv E tg n p i) l ≤ l.length * 4 ^ n
  | [] => by simp [ls]
  | v :: r => by
    have h1 := lsrtv_le h tg n p i r
    have h2 := rtv_le h tg n p i v
    have e : (((r.length + 1 : Nat) : Int)) * 4 ^ n = r.length * 4 ^ n + 4 ^ n := by rw [Int.natCast_add, Int.add_mul]; simp
    simp only [ls, List.length_cons]
    rw [e]
    omega
theorem rt_succ (E : List (List Nat)) (tg n : Nat) (p : Option Nat) (i : Nat) : rt E tg (n + 1) p i = ls (rtv E tg n p i) (gr E i) := rfl
def wlkI (l : List Nat) : List Int := l.map fun x : Nat => (x : Int)

theorem below_allocR {w X : World} (h : Below w.heap.size w X) (o : Obj) : Below w.heap.size w (X.alloc o) := h.alloc h.size o
theorem heap_ltR {w : World} {k : Nat} {o : Obj} (h : w.heap[k]? = some o) : k < w.heap.size := by
  rcases Nat.lt_or_ge k w.heap.size with h1 | h1
  · exact h1
  · rw [Array.getElem?_eq_none h1] at h; cases h
theorem src_il {w : World} {A : Option Addr} {n c : Nat} {l : List Nat} (h : Il w A n c (wlkI l)) : Src w 1 A n (nc l) := by
  have hl := h.len
  unfold wlkI at hl
  rw [List.length_map] at hl
  refine ⟨by rw [nc_length]; omega, fun hn => ?_⟩
  obtain ⟨b, off, rfl, hc⟩ := h.cell hn
  refine ⟨_, rfl, fun j u hu => ?_⟩
  unfold nc at hu
  rw [List.getElem?_map] at hu
  cases hj : l[j]? with
  | none => rw [hj] at hu; cases hu
  | some x =>
    rw [hj] at hu
    injection hu with hu
    subst hu
    have h1 := hc j x (by unfold wlkI; rw [List.getElem?_map, hj]; rfl)
    by_cases hj0 : j = 0
    · subst hj0; simpa [Addr.add] using h1
    · simpa [Addr.add, hj0] using h1
theorem mk_empty (X : World) : (X.alloc (.cells #[] 3)).ownsRow X.heap.size 3 1 (.slice (some ⟨X.heap.size, 0, none⟩) 0 0) 0 [] :=
  ⟨rfl, .inr ⟨_, 0, #[], rfl, Nat.le_refl _, heap_alloc_new X _, Nat.le_refl _, Nat.zero_le _, rfl, rfl⟩⟩
theorem own_base {w : World} {base base' : Nat} {e : TypeId} {size : Nat} {v : Value} {n : Nat} {xs : List Value} (h : w.ownsRow base e size v n xs) (hb : base' ≤ base) : w.ownsRow base' e size v n xs := by
  refine ⟨h.1, ?_⟩
  rcases h.2 with h3 | ⟨g, cap, cur, e, h4, h5, h6⟩
  · exact .inl h3
  · exact .inr ⟨g, cap, cur, e, Nat.le_trans hb h4, h5, h6⟩
theorem wpList_appN {w0 : World} {ops : Array Oper} {rest : List Oper} {o : Oper} {a : Act} {Q : Exit → Act → World → Prop} (hgd : o.guard = none) (s x : Operand)
    (ho : o.op = .call { callee := .builtin .append, args := #[s, x], argTypes := #[28, 28] }) (base : Nat) (v : Value) (l m : List Nat) (n k : Nat) (hln : l.length = n) (hlm : m.length = k) (hs : a.eval s = v) (hown : OwnN w0 base v l) (A : Option Addr) (c : Nat) (hx : a.eval x = .slice A k c) (hr : Src w0 1 A k (nc m))
    (h63 : n + k ≤ 1000000000) (hbase : base ≤ w0.heap.size) (r : Nat) (hnk : n + k = r)
    (h : ∀ A' c' w', OwnN w' base (.slice A' r c') (l ++ m) → w0.grownBy w' v.ownBlock → Below base w0 w' → wpList Tryd.prog ops Q rest (a.put o.dst (.slice A' r c')) w') :
    wpList Tryd.prog ops Q (o :: rest) a w0 := by
  subst hln hlm hnk
  refine wpList_app _ hgd s x 28 28 ho base 3 3 (.int .i64 0) 1 8 Tryd.underlying28 Tryd.underlying28 info_int rfl (by omega) v l.length (nc l) hs hown A m.length c (nc m) hx hr (fun u hu => by unfold nc at hu; obtain ⟨y, _, rfl⟩ := List.mem_map.1 hu; rfl) (by unfold maxLen; omega) (by omega) hbase ?_
  intro v' w' hown' hg hob
  obtain ⟨A', c', rfl, _, _⟩ := own_slice hown'
  refine h A' c' w' ?_ hg ((Below.refl _ _).grown hg hbase (fun k hk => (World.ownsRow.lt hown k hk).1))
  unfold OwnN
  rw [List.length_append]
  have e : nc (l ++ m) = nc l ++ nc m := by simp [nc]
  rw [e]
  exact hown'
/-- One number in a block of its own. -/
theorem src_one {w : World} {Y : Nat} {y : Nat} (h : w.heap[Y]? = some (.cells #[.int .i64 (y : Nat)] 3 (0, 0))) : Src w 1 (some ⟨Y, 0, none⟩) 1 (nc [y]) := src_block (cs := [.int .i64 (y : Nat)]) h 1 1 rfl

def RtnR (w : World) (E : List (List Nat)) (tg n : Nat) (l : List Nat) (e : Ending) (w' : World) : Prop := e = .returned (.int .i64 (rt E tg n (prevO l) (lastN l))) ∧ Below w.heap.size w w'
theorem rtnR_use {w w' : World} {E : List (List Nat)} {tg n : Nat} {l : List Nat} {x : Int} {e : Ending} (h : rt E tg n (prevO l) (lastN l) = x) (hr : RtnR w E tg n l e w') : e = .returned (.int .i64 x) ∧ Below w.heap.size w w' := by rw [← h]; exact hr
theorem rtnR_of {w w' : World} {E : List (List Nat)} {tg n : Nat} {l : List Nat} {x : Int} (h : x = rt E tg n (prevO l) (lastN l)) (hb : Below w.heap.size w w') : RtnR w E tg n l (.returned (.int .i64 x)) w' := ⟨by rw [h], hb⟩

set_option maxHeartbeats 4000000 in
set_option maxRecDepth 100000 in
theorem returns_any {names : List ByteArray} {E : List (List Nat)} (hk : Ok names E) (hd : ∀ v, (gr E v).length ≤ 4) (tg : Nat) : ∀ (n : Nat) (l : List Nat) (w : World) (v : Value) (A : Option Addr) (c q : Nat), n ≤ 5 → l.length = q + 1 → q + n ≤ 1000 → (∀ x ∈ l, x < E.length) → GrV w v names (toI E) → Il w A (q + 1) c (wlkI l) →
    Calls Tryd.prog 46 #[v, .slice A (q + 1) c, .int .i64 (tg : Nat), .int .i64 (n : Nat)] w (RtnR w E tg n l) := by
  have hsm := hk.small
  intro n
  induction n with
  | zero =>
    intro l w v A c q hn hl hq hv h hil
    obtain ⟨x, hx⟩ : ∃ x, l[q]? = some x := ⟨_, List.getElem?_eq_getElem (by omega)⟩
    have hla : lastN l = x := by unfold lastN; rw [hl]; exact getD_some hx
    have hr := hil.room
    unfold maxLen at hr
    obtain ⟨A1, c1, A', c', rfl, hs, hg⟩ := h
    obtain ⟨W, G, hW, hG, hbW, c0, c1', hGl, hwG⟩ := gbox w (.slice A1 names.length c1) (.slice A' (toI E).length c')
    obtain ⟨b, off, rfl, hcx⟩ := (hil.below hbW).num hx
    have hq0 : (0 : Int) ≤ (q : Int) := by omega
    have HW := Lib.hid hW
    have HG := Lib.hid hG
    have HLA := Lib.hid hla
    clear hW hG hs hg hil hx hla hl
    by_cases he : x = tg
    · have hb : ((x : Int) == (tg : Int)) = true := by simp [he]
      have hr0 : (1 : Int) = rt E tg 0 (prevO l) (lastN l) := by rw [HLA.out, he]; exact (if_pos rfl).symm
      have HR0 := Lib.hid hr0
      clear hr0 he
      go_enter Tryd.func46, Tryd.ntmps46
      go_upto_region 1 with (fail)
      rw [← HW.out]
      go_wp2_with fail
      go_ret
      exact rtnR_of HR0.out hbW
    · have hb : ((x : Int) == (tg : Int)) = false := beq_eq_false_iff_ne.2 (by omega)
      have hr0 : (0 : Int) = rt E tg 0 (prevO l) (lastN l) := by rw [HLA.out]; exact (if_neg he).symm
      have HR0 := Lib.hid hr0
      clear hr0 he
      go_enter Tryd.func46, Tryd.ntmps46
      go_upto_region 1 with (fail)
      rw [← HW.out]
      go_wp2_with fail
      go_ret
      exact rtnR_of HR0.out hbW
  | succ n ih =>
    intro l w v A c q hn hl hq hv h hil
    obtain ⟨x, hx⟩ : ∃ x, l[q]? = some x := ⟨_, List.getElem?_eq_getElem (by omega)⟩
    have hla : lastN l = x := by unfold lastN; rw [hl]; exact getD_some hx
    have hxE : x < E.length := hv x (List.mem_of_getElem? hx)
    have hr := hil.room
    unfold maxLen at hr
    have HIH := Lib.hid (fun (l : List Nat) (w' : World) (hb : Below w.heap.size w w') (A : Option Addr) (c q : Nat) (hl : l.length = q + 1) (hq : q + n ≤ 1000) (hv : ∀ x ∈ l, x < E.length) (hil : Il w' A (q + 1) c (wlkI l)) => ih l w' v A c q (by omega) hl hq hv (h.below hb) hil)
    obtain ⟨A1, c1, A', c', hvv, hs, hg⟩ := h
    rw [toI_length] at hvv hg
    subst hvv
    have hrg := hg.room
    unfold maxLen at hrg
    obtain ⟨W, G, hW, hG, hbW, c0, c1', hGl, hwG⟩ := gbox w (.slice A1 names.length c1) (.slice A' E.length c')
    obtain ⟨bg, offg, A2, c2, rfl, hrow, hr1, hr2, hilx⟩ := (hg.below hbW).row hxE
    obtain ⟨b, off, rfl, hcx⟩ := (hil.below hbW).num hx
    have hxi : (x : Int) < (E.length : Int) := by omega
    have hx0 : (0 : Int) ≤ (x : Int) := by omega
    have hq0 : (0 : Int) ≤ (q : Int) := by omega
    have hn1 : ((((n + 1 : Nat) : Int)) == 0) = false := beq_eq_false_iff_ne.2 (by omega)
    have hn2 : (((n : Int) + 1) == 0) = false := beq_eq_false_iff_ne.2 (by omega)
    have HW := Lib.hid hW
    have HG := Lib.hid hG
    have HLA := Lib.hid hla
    have HIL := Lib.hid hil
    have HILX := Lib.hid hilx
    have HLN := Lib.hid hl
    have HX := Lib.hid hx
    have HDX := Lib.hid (hd x)
    have HLS := Lib.hid (fun l' => lsrtv_le hd tg n (prevO l) x l')
    clear hW hG hs hg hil hx hla hl ih hilx
    rw [Int.natCast_succ]
    go_enter Tryd.func46, Tryd.ntmps46
    go_upto_region 1 with (fail)
    rw [← HW.out, ← HG.out]
    go_wp2_with fail
    go_loopw [10, 11] (fun sv iv wr => ∃ t : Nat, t ≤ (gr E x).length ∧ iv = .int .i64 (t : Nat) ∧ sv = .int .i64 (ls (rtv E tg n (prevO l) x) ((gr E x).take t)) ∧ Below W.heap.size W wr) (fun _ iv _ => (gr E x).length - (intOf iv).toNat)
    case atStart => exact ⟨0, Nat.zero_le _, rfl, rfl, Below.refl _ _⟩
    case round =>
      obtain ⟨t, htl, rfl, rfl, hbr⟩ := hrel
      obtain ⟨d0, d1⟩ := keep2 hbr c0 c1'
      have hrow2 := (hbr.cell (cell_some_lt hrow)).trans hrow
      have hcx2 := (hbr.cell (cell_some_lt hcx)).trans hcx
      by_cases htt : t < (gr E x).length
      · obtain ⟨y, hy⟩ : ∃ y, (gr E x)[t]? = some y := ⟨_, List.getElem?_eq_getElem htt⟩
        have hyE : y < E.length := hk.valid x hxE y (List.mem_of_getElem? hy)
        obtain ⟨b4, off4, rfl, hcy⟩ := HILX.out.num hy
        have hcy2 := (hbr.cell (cell_some_lt hcy)).trans hcy
        have hti : (t : Int) < ((gr E x).length : Int) := by omega
        have ht0 : (0 : Int) ≤ (t : Int) := by omega
        have hstep := ls_take (f := rtv E tg n (prevO l) x) hy
        have HST := Lib.hid hstep
        have hsb := HLS.out ((gr E x).take t)
        have hsb2 : (((gr E x).take t).length : Int) * 4 ^ n ≤ 4096 := by
          have h1 : ((gr E x).take t).length ≤ 4 := by rw [List.length_take]; have := HDX.out; omega
          have h2 : (4 : Int) ^ n ≤ 4 ^ 5 := by
            have := Nat.pow_le_pow_right (n := 4) (by omega) (show n ≤ 5 by omega)
            exact_mod_cast this
          have h3 : (((gr E x).take t).length : Int) * 4 ^ n ≤ 4 * 4 ^ 5 := Int.mul_le_mul (by omega) h2 (Int.le_of_lt (Int.pow_pos (by omega))) (by omega)
          omega
        have hrb := rt_le hd tg n (some x) y
        have hrb2 : (4 : Int) ^ n ≤ 1024 := by
          have := Nat.pow_le_pow_right (n := 4) (by omega) (show n ≤ 5 by omega)
          have h3 : (4 : Int) ^ n ≤ 4 ^ 5 := by exact_mod_cast this
          omega
        have HRT : Hid (prevO l ≠ some y → rtv E tg n (prevO l) x y = rt E tg n (some x) y) := Lib.hid (fun h => by unfold rtv; rw [if_neg h])
        obtain ⟨sm0, hsm0⟩ : ∃ s, s = ls (rtv E tg n (prevO l) x) ((gr E x).take t) := ⟨_, rfl⟩
        rw [← hsm0] at hsb HST ⊢
        have HS0 := Lib.hid hsm0
        clear hsm0 hstep hy hcy
        have hGr : G < wr.heap.size := Nat.lt_of_lt_of_le hGl hbr.size
        have hbw := hbW.trans (hbr.mono hbW.size)
        have HPV := Lib.hid (show rt E tg n (prevO (l ++ [y])) (lastN (l ++ [y])) = rt E tg n (some x) y by rw [prevO_snoc (fun e => by have := HLN.out; rw [e] at this; simp at this), lastN_snoc, HLA.out])
        have HV9 := Lib.hid (show ∀ z ∈ l ++ [y], z < E.length from fun z hz => by
          rcases List.mem_append.1 hz with h1 | h1
          · exact hv z h1
          · rw [List.mem_singleton] at h1; rw [h1]; exact hyE)
        have HB6 := Lib.hid (show ∀ z ∈ l ++ [y], z ≤ 1000000 from fun z hz => by have := HV9.out z hz; omega)
        obtain ⟨rv, hrv⟩ : ∃ rv, rv = rt E tg n (some x) y := ⟨_, rfl⟩
        rw [← hrv] at HPV HRT hrb
        clear hrv
        rcases Nat.eq_zero_or_pos q with h0 | h0
        · have hne : prevO l ≠ some y := by unfold prevO; rw [if_pos (by rw [HLN.out]; omega)]; simp
          have HNE := Lib.hid hne
          have hq2 : decide ((q : Int) + 1 < 2) = true := decide_eq_true (by omega)
          clear hne h0
          go_upto_region 12 with (fail)
          refine wp_region_tre 13 (.read 0 (.read 1 (.read 3 (.read 5 (.read 8 (.read 9 (.read 10 (.two 2 6 (.two 4 6 (.step 6 (.step 7 (.step 11 (.step 12 (.step 13 .nil))))) (.step 4 (.step 7 (.step 11 (.step 12 (.step 13 .nil)))))) (.step 2 (.step 4 (.step 7 (.step 11 (.step 12 (.step 13 .nil)))))))))))))) (by kernel_rfl) (by rfl) (by kernel_rfl) (by kernel_rfl) (by kernel_rfl) (fun _ _ _ _ _ h => h) (Same wr) ?_
          change goT _ _ _ _ _ _ wr.drew
          have hs0 := same_drew wr
          iterate 7
            refine goT_read hs0 (by rfl) ?_ (by rfl) (fun wz hSw => ?_) ?_
            rotate_left
            · (try obtain ⟨hs1, hs2⟩ := hSw)
              go_simp
              try with_reducible rfl
            simp only [Act.put, List.setIfInBounds_toArray]
          refine goT_two hs0 (by rfl) (by rfl) ?_ ?_
          · go_wp2_with fail
            obtain ⟨w3, hw3⟩ : ∃ w3, w3 = (wr.alloc (.cells #[] 3)).drew := ⟨_, rfl⟩
            rw [← hw3]
            have hb3 : Below wr.heap.size wr w3 := by rw [hw3]; exact (below_allocR (Below.refl _ _) _).drew
            have own3 : OwnN w3 wr.heap.size (.slice (some ⟨wr.heap.size, 0, none⟩) 0 0) [] := by rw [hw3]; exact mk_empty wr
            have hil3 := HIL.out.below (hbw.trans (hb3.mono hbw.size))
            have hsz3 : wr.heap.size < w3.heap.size := by rw [hw3]; show _ < (wr.alloc _).heap.size; simp
            clear hw3
            refine goT_two (same_below hb3) (by rfl) (by rfl) ?_ ?_
            · refine wpList_appN (w0 := w3) (by rfl) _ _ (by rfl) wr.heap.size _ [] l 0 (q + 1) rfl HLN.out (by rfl) own3 _ _ (by rfl) (src_il hil3) (by omega) (by have := hb3.size; omega) (q + 1) (by omega) ?_
              intro A6 c6 w6 own6 hg6 hb6
              go_wp2_with fail
              have hbx6 := hb3.trans hb6
              refine goT_step (same_below hbx6) (by rfl) ?_
              go_wp2_with fail
              obtain ⟨wx, hwx⟩ : ∃ wx, wx = w6.alloc (.cells #[.int .i64 (y : Nat)] 3) := ⟨_, rfl⟩
              rw [← hwx]
              have hb7 : Below w6.heap.size w6 wx := by rw [hwx]; exact below_allocR (Below.refl _ _) _
              have hbx := hbx6.trans (hb7.mono hbx6.size)
              have own7 : OwnN wx wr.heap.size (.slice A6 (q + 1) c6) l := own6.below hb7
              have hY : wx.heap[w6.heap.size]? = some (.cells #[.int .i64 (y : Nat)] 3 (0, 0)) := by rw [hwx]; exact heap_alloc_new w6 _
              clear hwx own6 hb7 hg6
              refine goT_step (same_below hbx) (by rfl) ?_
              refine wpList_appN (w0 := wx) (by rfl) _ _ (by rfl) wr.heap.size _ l [y] (q + 1) 1 HLN.out rfl (by rfl) own7 _ _ (by rfl) (src_one hY) (by omega) hbx.size (q + 1 + 1) rfl ?_
              intro A9 c9 w9 own9 hg9 hb9
              go_wp2_with fail
              have hbx9 := hbx.trans (hb9.mono (Nat.le_refl _))
              refine goT_step (same_below hbx9) (by rfl) ?_
              obtain ⟨A10, c10, e10, hil9⟩ := own9.il HB6.out
              injection e10 with e10 e11 e12
              subst e10 e12
              rw [← e11] at hil9
              clear e11
              go_wp2_with (go_at_call 46; refine (HIH.out (l ++ [y]) w9 (hbw.trans (hbx9.mono hbw.size)) _ _ (q + 1) (by rw [List.length_append, HLN.out]; rfl) (by omega) HV9.out hil9).mono ?_; intro e w10 hr10; obtain ⟨rfl, hb10⟩ := rtnR_use HPV.out hr10)
              have hbx10 := hbx9.trans (hb10.mono hbx9.size)
              refine goT_step (same_below hbx10) (by rfl) ?_
              go_wp2_with fail
              refine goT_step (same_below hbx10) (by rfl) ?_
              go_wp2_with fail
              refine goT_nil ?_
              go_wp2_with fail
              go_roundw
              case rel => exact ⟨t + 1, by omega, by go_num, by rw [HST.out, HRT.out HNE.out], hbr.trans (hbx10.mono hbr.size)⟩
              case measure => simp [intOf]; omega
            · go_wp2_with fail
              obtain ⟨w5, hw5⟩ : ∃ w5, w5 = w3.alloc (.cells #[.int .i64 (y : Nat)] 3) := ⟨_, rfl⟩
              rw [← hw5]
              have hb5 : Below w3.heap.size w3 w5 := by rw [hw5]; exact below_allocR (Below.refl _ _) _
              have hY5 : w5.heap[w3.heap.size]? = some (.cells #[.int .i64 (y : Nat)] 3 (0, 0)) := by rw [hw5]; exact heap_alloc_new w3 _
              have hbx5 := hb3.trans (hb5.mono hb3.size)
              have own5 := own3.below hb5
              have hil5 := hil3.below hb5
              clear hw5
              refine goT_step (same_below hbx5) (by rfl) ?_
              refine wpList_appN (w0 := w5) (by rfl) _ _ (by rfl) wr.heap.size _ [] l 0 (q + 1) rfl HLN.out (by rfl) own5 _ _ (by rfl) (src_il hil5) (by omega) hbx5.size (q + 1) (by omega) ?_
              intro A6 c6 wx own6 hg6 hb6
              go_wp2_with fail
              have hbx := hbx5.trans hb6
              have own7 : OwnN wx wr.heap.size (.slice A6 (q + 1) c6) l := own6
              have hY : wx.heap[w3.heap.size]? = some (.cells #[.int .i64 (y : Nat)] 3 (0, 0)) := (hg6.block w3.heap.size (by have := hb5.size; have := heap_ltR hY5; omega) (fun e => absurd (Option.some.inj e) (by first | (show ¬ w3.heap.size = wr.heap.size; omega) | (show ¬ wr.heap.size = w3.heap.size; omega)))).trans hY5
              clear own6 hg6
              refine goT_step (same_below hbx) (by rfl) ?_
              refine wpList_appN (w0 := wx) (by rfl) _ _ (by rfl) wr.heap.size _ l [y] (q + 1) 1 HLN.out rfl (by rfl) own7 _ _ (by rfl) (src_one hY) (by omega) hbx.size (q + 1 + 1) rfl ?_
              intro A9 c9 w9 own9 hg9 hb9
              go_wp2_with fail
              have hbx9 := hbx.trans (hb9.mono (Nat.le_refl _))
              refine goT_step (same_below hbx9) (by rfl) ?_
              obtain ⟨A10, c10, e10, hil9⟩ := own9.il HB6.out
              injection e10 with e10 e11 e12
              subst e10 e12
              rw [← e11] at hil9
              clear e11
              go_wp2_with (go_at_call 46; refine (HIH.out (l ++ [y]) w9 (hbw.trans (hbx9.mono hbw.size)) _ _ (q + 1) (by rw [List.length_append, HLN.out]; rfl) (by omega) HV9.out hil9).mono ?_; intro e w10 hr10; obtain ⟨rfl, hb10⟩ := rtnR_use HPV.out hr10)
              have hbx10 := hbx9.trans (hb10.mono hbx9.size)
              refine goT_step (same_below hbx10) (by rfl) ?_
              go_wp2_with fail
              refine goT_step (same_below hbx10) (by rfl) ?_
              go_wp2_with fail
              refine goT_nil ?_
              go_wp2_with fail
              go_roundw
              case rel => exact ⟨t + 1, by omega, by go_num, by rw [HST.out, HRT.out HNE.out], hbr.trans (hbx10.mono hbr.size)⟩
              case measure => simp [intOf]; omega
          · go_wp2_with fail
            obtain ⟨w3, hw3⟩ : ∃ w3, w3 = (wr.alloc (.cells #[.int .i64 (y : Nat)] 3)).drew := ⟨_, rfl⟩
            rw [← hw3]
            have hb3 : Below wr.heap.size wr w3 := by rw [hw3]; exact (below_allocR (Below.refl _ _) _).drew
            have hY3 : w3.heap[wr.heap.size]? = some (.cells #[.int .i64 (y : Nat)] 3 (0, 0)) := by rw [hw3]; exact heap_alloc_new wr _
            have hil3 := HIL.out.below (hbw.trans (hb3.mono hbw.size))
            have hsz3 : wr.heap.size < w3.heap.size := by rw [hw3]; show _ < (wr.alloc _).heap.size; simp
            clear hw3
            refine goT_step (same_below hb3) (by rfl) ?_
            go_wp2_with fail
            obtain ⟨w5, hw5⟩ : ∃ w5, w5 = w3.alloc (.cells #[] 3) := ⟨_, rfl⟩
            rw [← hw5]
            have hb5 : Below w3.heap.size w3 w5 := by rw [hw5]; exact below_allocR (Below.refl _ _) _
            have own5 : OwnN w5 wr.heap.size (.slice (some ⟨w3.heap.size, 0, none⟩) 0 0) [] := by rw [hw5]; exact own_base (mk_empty w3) hb3.size
            have hbx5 := hb3.trans (hb5.mono hb3.size)
            have hY5 := (hb5.block wr.heap.size (by omega)).trans hY3
            have hil5 := hil3.below hb5
            clear hw5
            refine goT_step (same_below hbx5) (by rfl) ?_
            refine wpList_appN (w0 := w5) (by rfl) _ _ (by rfl) wr.heap.size _ [] l 0 (q + 1) rfl HLN.out (by rfl) own5 _ _ (by rfl) (src_il hil5) (by omega) hbx5.size (q + 1) (by omega) ?_
            intro A6 c6 wx own6 hg6 hb6
            go_wp2_with fail
            have hbx := hbx5.trans hb6
            have own7 : OwnN wx wr.heap.size (.slice A6 (q + 1) c6) l := own6
            have hY : wx.heap[wr.heap.size]? = some (.cells #[.int .i64 (y : Nat)] 3 (0, 0)) := (hg6.block wr.heap.size (by have := hb5.size; omega) (fun e => absurd (Option.some.inj e) (by first | (show ¬ w3.heap.size = wr.heap.size; omega) | (show ¬ wr.heap.size = w3.heap.size; omega)))).trans hY5
            clear own6 hg6
            refine goT_step (same_below hbx) (by rfl) ?_
            refine wpList_appN (w0 := wx) (by rfl) _ _ (by rfl) wr.heap.size _ l [y] (q + 1) 1 HLN.out rfl (by rfl) own7 _ _ (by rfl) (src_one hY) (by omega) hbx.size (q + 1 + 1) rfl ?_
            intro A9 c9 w9 own9 hg9 hb9
            go_wp2_with fail
            have hbx9 := hbx.trans (hb9.mono (Nat.le_refl _))
            refine goT_step (same_below hbx9) (by rfl) ?_
            obtain ⟨A10, c10, e10, hil9⟩ := own9.il HB6.out
            injection e10 with e10 e11 e12
            subst e10 e12
            rw [← e11] at hil9
            clear e11
            go_wp2_with (go_at_call 46; refine (HIH.out (l ++ [y]) w9 (hbw.trans (hbx9.mono hbw.size)) _ _ (q + 1) (by rw [List.length_append, HLN.out]; rfl) (by omega) HV9.out hil9).mono ?_; intro e w10 hr10; obtain ⟨rfl, hb10⟩ := rtnR_use HPV.out hr10)
            have hbx10 := hbx9.trans (hb10.mono hbx9.size)
            refine goT_step (same_below hbx10) (by rfl) ?_
            go_wp2_with fail
            refine goT_step (same_below hbx10) (by rfl) ?_
            go_wp2_with fail
            refine goT_nil ?_
            go_wp2_with fail
            go_roundw
            case rel => exact ⟨t + 1, by omega, by go_num, by rw [HST.out, HRT.out HNE.out], hbr.trans (hbx10.mono hbr.size)⟩
            case measure => simp [intOf]; omega
        · obtain ⟨p, hp⟩ : ∃ p, p = q - 1 := ⟨_, rfl⟩
          have hpq : p < q := by omega
          obtain ⟨z, hz⟩ : ∃ z, l[p]? = some z := ⟨_, List.getElem?_eq_getElem (by rw [HLN.out]; omega)⟩
          have hpo : prevO l = some z := by
            unfold prevO
            rw [if_neg (by rw [HLN.out]; omega), HLN.out]
            have e : q + 1 - 2 = p := by omega
            rw [e, getD_some hz]
          obtain ⟨b5, off5, eb, hcz⟩ := (HIL.out.below hbw).num hz
          injection eb with eb
          injection eb with eb1 eb2
          subst eb1 eb2
          have hq2 : decide ((q : Int) + 1 < 2) = false := decide_eq_false (by omega)
          have hix : (q : Int) + 1 - 2 = (p : Int) := by omega
          have hpi : (p : Int) < (q : Int) + 1 := by omega
          have hp0 : (0 : Int) ≤ (p : Int) := by omega
          have HPO := Lib.hid hpo
          clear hp hz hpo h0
          by_cases hyz : y = z
          · have hb : ((y : Int) != (z : Int)) = false := by simp [hyz]
            have hz0 : rtv E tg n (prevO l) x y = 0 := by unfold rtv; rw [if_pos (by rw [HPO.out, hyz])]
            have HZ0 := Lib.hid hz0
            clear hyz hz0
            go_wp2_with fail
            go_roundw
            case rel => exact ⟨t + 1, by omega, by go_num, by rw [HST.out, HZ0.out, Int.add_zero], hbr⟩
            case measure => simp [intOf]; omega
          · have hb : ((y : Int) != (z : Int)) = true := bne_iff_ne.2 (by omega)
            have hne : prevO l ≠ some y := by rw [HPO.out]; intro e; injection e with e; exact hyz e.symm
            have HNE := Lib.hid hne
            clear hne hyz
            go_upto_region 12 with (fail)
            clear hix
            refine wp_region_tre 13 (.read 0 (.read 1 (.read 3 (.read 5 (.read 8 (.read 9 (.read 10 (.two 2 6 (.two 4 6 (.step 6 (.step 7 (.step 11 (.step 12 (.step 13 .nil))))) (.step 4 (.step 7 (.step 11 (.step 12 (.step 13 .nil)))))) (.step 2 (.step 4 (.step 7 (.step 11 (.step 12 (.step 13 .nil)))))))))))))) (by kernel_rfl) (by rfl) (by kernel_rfl) (by kernel_rfl) (by kernel_rfl) (fun _ _ _ _ _ h => h) (Same wr) ?_
            change goT _ _ _ _ _ _ wr.drew
            have hs0 := same_drew wr
            iterate 7
              refine goT_read hs0 (by rfl) ?_ (by rfl) (fun wz hSw => ?_) ?_
              rotate_left
              · (try obtain ⟨hs1, hs2⟩ := hSw)
                go_simp
                try with_reducible rfl
              simp only [Act.put, List.setIfInBounds_toArray]
            refine goT_two hs0 (by rfl) (by rfl) ?_ ?_
            · go_wp2_with fail
              obtain ⟨w3, hw3⟩ : ∃ w3, w3 = (wr.alloc (.cells #[] 3)).drew := ⟨_, rfl⟩
              rw [← hw3]
              have hb3 : Below wr.heap.size wr w3 := by rw [hw3]; exact (below_allocR (Below.refl _ _) _).drew
              have own3 : OwnN w3 wr.heap.size (.slice (some ⟨wr.heap.size, 0, none⟩) 0 0) [] := by rw [hw3]; exact mk_empty wr
              have hil3 := HIL.out.below (hbw.trans (hb3.mono hbw.size))
              have hsz3 : wr.heap.size < w3.heap.size := by rw [hw3]; show _ < (wr.alloc _).heap.size; simp
              clear hw3
              refine goT_two (same_below hb3) (by rfl) (by rfl) ?_ ?_
              · refine wpList_appN (w0 := w3) (by rfl) _ _ (by rfl) wr.heap.size _ [] l 0 (q + 1) rfl HLN.out (by rfl) own3 _ _ (by rfl) (src_il hil3) (by omega) (by have := hb3.size; omega) (q + 1) (by omega) ?_
                intro A6 c6 w6 own6 hg6 hb6
                go_wp2_with fail
                have hbx6 := hb3.trans hb6
                refine goT_step (same_below hbx6) (by rfl) ?_
                go_wp2_with fail
                obtain ⟨wx, hwx⟩ : ∃ wx, wx = w6.alloc (.cells #[.int .i64 (y : Nat)] 3) := ⟨_, rfl⟩
                rw [← hwx]
                have hb7 : Below w6.heap.size w6 wx := by rw [hwx]; exact below_allocR (Below.refl _ _) _
                have hbx := hbx6.trans (hb7.mono hbx6.size)
                have own7 : OwnN wx wr.heap.size (.slice A6 (q + 1) c6) l := own6.below hb7
                have hY : wx.heap[w6.heap.size]? = some (.cells #[.int .i64 (y : Nat)] 3 (0, 0)) := by rw [hwx]; exact heap_alloc_new w6 _
                clear hwx own6 hb7 hg6
                refine goT_step (same_below hbx) (by rfl) ?_
                refine wpList_appN (w0 := wx) (by rfl) _ _ (by rfl) wr.heap.size _ l [y] (q + 1) 1 HLN.out rfl (by rfl) own7 _ _ (by rfl) (src_one hY) (by omega) hbx.size (q + 1 + 1) rfl ?_
                intro A9 c9 w9 own9 hg9 hb9
                go_wp2_with fail
                have hbx9 := hbx.trans (hb9.mono (Nat.le_refl _))
                refine goT_step (same_below hbx9) (by rfl) ?_
                obtain ⟨A10, c10, e10, hil9⟩ := own9.il HB6.out
                injection e10 with e10 e11 e12
                subst e10 e12
                rw [← e11] at hil9
                clear e11
                go_wp2_with (go_at_call 46; refine (HIH.out (l ++ [y]) w9 (hbw.trans (hbx9.mono hbw.size)) _ _ (q + 1) (by rw [List.length_append, HLN.out]; rfl) (by omega) HV9.out hil9).mono ?_; intro e w10 hr10; obtain ⟨rfl, hb10⟩ := rtnR_use HPV.out hr10)
                have hbx10 := hbx9.trans (hb10.mono hbx9.size)
                refine goT_step (same_below hbx10) (by rfl) ?_
                go_wp2_with fail
                refine goT_step (same_below hbx10) (by rfl) ?_
                go_wp2_with fail
                refine goT_nil ?_
                go_wp2_with fail
                go_roundw
                case rel => exact ⟨t + 1, by omega, by go_num, by rw [HST.out, HRT.out HNE.out], hbr.trans (hbx10.mono hbr.size)⟩
                case measure => simp [intOf]; omega
              · go_wp2_with fail
                obtain ⟨w5, hw5⟩ : ∃ w5, w5 = w3.alloc (.cells #[.int .i64 (y : Nat)] 3) := ⟨_, rfl⟩
                rw [← hw5]
                have hb5 : Below w3.heap.size w3 w5 := by rw [hw5]; exact below_allocR (Below.refl _ _) _
                have hY5 : w5.heap[w3.heap.size]? = some (.cells #[.int .i64 (y : Nat)] 3 (0, 0)) := by rw [hw5]; exact heap_alloc_new w3 _
                have hbx5 := hb3.trans (hb5.mono hb3.size)
                have own5 := own3.below hb5
                have hil5 := hil3.below hb5
                clear hw5
                refine goT_step (same_below hbx5) (by rfl) ?_
                refine wpList_appN (w0 := w5) (by rfl) _ _ (by rfl) wr.heap.size _ [] l 0 (q + 1) rfl HLN.out (by rfl) own5 _ _ (by rfl) (src_il hil5) (by omega) hbx5.size (q + 1) (by omega) ?_
                intro A6 c6 wx own6 hg6 hb6
                go_wp2_with fail
                have hbx := hbx5.trans hb6
                have own7 : OwnN wx wr.heap.size (.slice A6 (q + 1) c6) l := own6
                have hY : wx.heap[w3.heap.size]? = some (.cells #[.int .i64 (y : Nat)] 3 (0, 0)) := (hg6.block w3.heap.size (by have := hb5.size; have := heap_ltR hY5; omega) (fun e => absurd (Option.some.inj e) (by first | (show ¬ w3.heap.size = wr.heap.size; omega) | (show ¬ wr.heap.size = w3.heap.size; omega)))).trans hY5
                clear own6 hg6
                refine goT_step (same_below hbx) (by rfl) ?_
                refine wpList_appN (w0 := wx) (by rfl) _ _ (by rfl) wr.heap.size _ l [y] (q + 1) 1 HLN.out rfl (by rfl) own7 _ _ (by rfl) (src_one hY) (by omega) hbx.size (q + 1 + 1) rfl ?_
                intro A9 c9 w9 own9 hg9 hb9
                go_wp2_with fail
                have hbx9 := hbx.trans (hb9.mono (Nat.le_refl _))
                refine goT_step (same_below hbx9) (by rfl) ?_
                obtain ⟨A10, c10, e10, hil9⟩ := own9.il HB6.out
                injection e10 with e10 e11 e12
                subst e10 e12
                rw [← e11] at hil9
                clear e11
                go_wp2_with (go_at_call 46; refine (HIH.out (l ++ [y]) w9 (hbw.trans (hbx9.mono hbw.size)) _ _ (q + 1) (by rw [List.length_append, HLN.out]; rfl) (by omega) HV9.out hil9).mono ?_; intro e w10 hr10; obtain ⟨rfl, hb10⟩ := rtnR_use HPV.out hr10)
                have hbx10 := hbx9.trans (hb10.mono hbx9.size)
                refine goT_step (same_below hbx10) (by rfl) ?_
                go_wp2_with fail
                refine goT_step (same_below hbx10) (by rfl) ?_
                go_wp2_with fail
                refine goT_nil ?_
                go_wp2_with fail
                go_roundw
                case rel => exact ⟨t + 1, by omega, by go_num, by rw [HST.out, HRT.out HNE.out], hbr.trans (hbx10.mono hbr.size)⟩
                case measure => simp [intOf]; omega
            · go_wp2_with fail
              obtain ⟨w3, hw3⟩ : ∃ w3, w3 = (wr.alloc (.cells #[.int .i64 (y : Nat)] 3)).drew := ⟨_, rfl⟩
              rw [← hw3]
              have hb3 : Below wr.heap.size wr w3 := by rw [hw3]; exact (below_allocR (Below.refl _ _) _).drew
              have hY3 : w3.heap[wr.heap.size]? = some (.cells #[.int .i64 (y : Nat)] 3 (0, 0)) := by rw [hw3]; exact heap_alloc_new wr _
              have hil3 := HIL.out.below (hbw.trans (hb3.mono hbw.size))
              have hsz3 : wr.heap.size < w3.heap.size := by rw [hw3]; show _ < (wr.alloc _).heap.size; simp
              clear hw3
              refine goT_step (same_below hb3) (by rfl) ?_
              go_wp2_with fail
              obtain ⟨w5, hw5⟩ : ∃ w5, w5 = w3.alloc (.cells #[] 3) := ⟨_, rfl⟩
              rw [← hw5]
              have hb5 : Below w3.heap.size w3 w5 := by rw [hw5]; exact below_allocR (Below.refl _ _) _
              have own5 : OwnN w5 wr.heap.size (.slice (some ⟨w3.heap.size, 0, none⟩) 0 0) [] := by rw [hw5]; exact own_base (mk_empty w3) hb3.size
              have hbx5 := hb3.trans (hb5.mono hb3.size)
              have hY5 := (hb5.block wr.heap.size (by omega)).trans hY3
              have hil5 := hil3.below hb5
              clear hw5
              refine goT_step (same_below hbx5) (by rfl) ?_
              refine wpList_appN (w0 := w5) (by rfl) _ _ (by rfl) wr.heap.size _ [] l 0 (q + 1) rfl HLN.out (by rfl) own5 _ _ (by rfl) (src_il hil5) (by omega) hbx5.size (q + 1) (by omega) ?_
              intro A6 c6 wx own6 hg6 hb6
              go_wp2_with fail
              have hbx := hbx5.trans hb6
              have own7 : OwnN wx wr.heap.size (.slice A6 (q + 1) c6) l := own6
              have hY : wx.heap[wr.heap.size]? = some (.cells #[.int .i64 (y : Nat)] 3 (0, 0)) := (hg6.block wr.heap.size (by have := hb5.size; omega) (fun e => absurd (Option.some.inj e) (by first | (show ¬ w3.heap.size = wr.heap.size; omega) | (show ¬ wr.heap.size = w3.heap.size; omega)))).trans hY5
              clear own6 hg6
              refine goT_step (same_below hbx) (by rfl) ?_
              refine wpList_appN (w0 := wx) (by rfl) _ _ (by rfl) wr.heap.size _ l [y] (q + 1) 1 HLN.out rfl (by rfl) own7 _ _ (by rfl) (src_one hY) (by omega) hbx.size (q + 1 + 1) rfl ?_
              intro A9 c9 w9 own9 hg9 hb9
              go_wp2_with fail
              have hbx9 := hbx.trans (hb9.mono (Nat.le_refl _))
              refine goT_step (same_below hbx9) (by rfl) ?_
              obtain ⟨A10, c10, e10, hil9⟩ := own9.il HB6.out
              injection e10 with e10 e11 e12
              subst e10 e12
              rw [← e11] at hil9
              clear e11
              go_wp2_with (go_at_call 46; refine (HIH.out (l ++ [y]) w9 (hbw.trans (hbx9.mono hbw.size)) _ _ (q + 1) (by rw [List.length_append, HLN.out]; rfl) (by omega) HV9.out hil9).mono ?_; intro e w10 hr10; obtain ⟨rfl, hb10⟩ := rtnR_use HPV.out hr10)
              have hbx10 := hbx9.trans (hb10.mono hbx9.size)
              refine goT_step (same_below hbx10) (by rfl) ?_
              go_wp2_with fail
              refine goT_step (same_below hbx10) (by rfl) ?_
              go_wp2_with fail
              refine goT_nil ?_
              go_wp2_with fail
              go_roundw
              case rel => exact ⟨t + 1, by omega, by go_num, by rw [HST.out, HRT.out HNE.out], hbr.trans (hbx10.mono hbr.size)⟩
              case measure => simp [intOf]; omega
      · obtain rfl : t = (gr E x).length := by omega
        have hfin : ls (rtv E tg n (prevO l) x) ((gr E x).take (gr E x).length) = rt E tg (n + 1) (prevO l) (lastN l) := by rw [List.take_length, HLA.out, rt_succ]
        have HFIN := Lib.hid hfin
        clear hfin
        go_wp2_with fail
        go_ret
        exact rtnR_of HFIN.out (hbW.trans (hbr.mono hbW.size))
end Go.Proofs.YtpkjdnplmgfbbaaDoor
