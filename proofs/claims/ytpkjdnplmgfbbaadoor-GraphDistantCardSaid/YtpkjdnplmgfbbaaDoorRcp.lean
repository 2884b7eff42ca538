/- The reference's Joined and Components. -/
import Derived.Test.YtpkjdnplmgfbbaaDoorLawC
import Derived.Test.YtpkjdnplmgfbbaaDoorZs
namespace Go.Proofs.YtpkjdnplmgfbbaaDoor
open Go.RowKit

/-- An edge in any direction. -/
def jnd (E : List (List Nat)) (a b : Nat) : Bool := decide (b ∈ gr (bth E) a)
theorem jnd_count {E : List (List Nat)} (hE : Valid E) (a b : Nat) : decide ((0 : Int) < ((gr E a).count b : Nat) + ((gr E b).count a : Nat)) = jnd E a b := by
  unfold jnd
  rw [decide_eq_decide, bth_mem hE]
  have h1 : 0 < (gr E a).count b ↔ b ∈ gr E a := List.count_pos_iff
  have h2 : 0 < (gr E b).count a ↔ a ∈ gr E b := List.count_pos_iff
  rw [← h1, ← h2]
  omega

set_option maxHeartbeats 1000000 in
set_option maxRecDepth 100000 in
theorem rJoined_any {w : World} {v : Value} {names : List ByteArray} {E : List (List Nat)} (h : GrV w v names (toI E)) (hk : Ok names E) {a b : Nat} (ha : a < E.length) (hb : b < E.length) :
    Calls Tryd.prog 84 #[v, .int .i64 (a : Nat), .int .i64 (b : Nat)] w fun e w' => e = .returned (.bool (jnd E a b)) ∧ Below w.heap.size w w' := by
  have hsm := hk.small
  have HC1 := Lib.hid (fun w' (hb' : Below w.heap.size w w') => rcount_any (h.at w' hb') ha (b : Int))
  have HC2 := Lib.hid (fun w' (hb' : Below w.heap.size w w') => rcount_any (h.at w' hb') hb (a : Int))
  rw [gi_count] at HC1 HC2
  have hj := jnd_count hk.valid a b
  have k1 : (gr E a).count b ≤ 400 := Nat.le_trans List.count_le_length (hk.deg a)
  have k2 : (gr E b).count a ≤ 400 := Nat.le_trans List.count_le_length (hk.deg b)
  generalize (gr E a).count b = c1 at *
  generalize (gr E b).count a = c2 at *
  generalize jnd E a b = q at *
  have hw : IntKind.i64.wrap ((c1 : Int) + (c2 : Int)) = (c1 : Int) + (c2 : Int) := IntWalk.i64_in _ (by omega)
  clear k1 k2
  obtain ⟨A1, d1, A', c', rfl, hs, hg⟩ := h
  obtain ⟨W, G, hW, hG, hbW, c0, c1', hGl, hwG⟩ := gbox w (.slice A1 names.length d1) (.slice A' (toI E).length c')
  have HW := Lib.hid hW
  have HG := Lib.hid hG
  have hdr : Below W.heap.size W W.drew := (Below.refl _ _).drew
  have HD1 := Lib.hid (fun w' (hb' : Below W.heap.size W w') => HC1.out w' (hbW.trans (hb'.mono hbW.size)))
  have HD2 := Lib.hid (fun w' (hb' : Below W.heap.size W w') => HC2.out w' (hbW.trans (hb'.mono hbW.size)))
  clear hW hG hs hg hk HC1 HC2
  go_enter Tryd.func84, Tryd.ntmps84
  go_wp2_with fail
  rw [← HW.out, ← HG.out]
  go_region_held3 (fun w' => (∀ b o, b < W.heap.size → w'.cell? ⟨b, o, none⟩ = W.cell? ⟨b, o, none⟩) ∧ W.heap.size ≤ w'.heap.size)
    (first | exact ⟨fun _ _ _ => rfl, Nat.le_refl _⟩ | (go_split_ands; exact same_step (by assumption) (by assumption) (by assumption)))
    (first
      | (go_at_call 71; ((with_reducible refine (HD1.out _ hdr).mono ?_)); rintro e w5 ⟨rfl, hb6⟩; have hB6 := hdr.trans (hb6.mono hdr.size))
      | (go_at_call 71; ((with_reducible refine (HD2.out _ hB6).mono ?_)); rintro e w6 ⟨rfl, hb7⟩; have hB7 := hB6.trans (hb7.mono hB6.size)))
  go_wp2_with fail
  go_ret
  exact ⟨rfl, hbW.trans (hB7.mono hbW.size)⟩

/-- The first k of n numbers are 0, 1, .., the others 0. -/
def up (n k : Nat) : List Int := (List.range k).map (fun i : Nat => (i : Int)) ++ List.replicate (n - k) 0
theorem up_zero (n : Nat) : up n 0 = List.replicate n 0 := by simp [up]
theorem up_length {n k : Nat} (h : k ≤ n) : (up n k).length = n := by simp [up]; omega
theorem up_set {n k : Nat} (h : k < n) : (up n k).set k (k : Int) = up n (k + 1) := by
  unfold up
  rw [List.set_append_right _ _ (by simp), List.length_map, List.length_range, Nat.sub_self]
  obtain ⟨m, hm⟩ : ∃ m, n - k = m + 1 := ⟨n - k - 1, by omega⟩
  rw [hm, show n - (k + 1) = m by omega, List.replicate_succ, List.set_cons_zero, List.range_succ]
  simp
theorem up_full (n : Nat) {v : Nat} (h : v < n) : (up n n).getD v 0 = v := by
  simp [up, List.getD, h]

/-- One round of the labels: m at its start, c: something was changed, T: the pairs that are through. -/
def RndI (R : List (List Nat)) (m : Nat) (c : Bool) (l : List Int) (T : Nat → Nat → Prop) : Prop :=
  LabI R l ∧ lsum l R.length ≤ m ∧ (c = true → lsum l R.length + 1 ≤ m) ∧ (c = false → ∀ i k, i < R.length → k < R.length → T i k → k ∈ gr R i → ¬ l.getD i 0 < l.getD k 0)
theorem RndI.start {R : List (List Nat)} {l : List Int} (h : LabI R l) : RndI R (lsum l R.length) false l (fun _ _ => False) :=
  ⟨h, Nat.le_refl _, fun h => (by cases h), fun _ _ _ _ _ h => h.elim⟩
theorem RndI.skip {R : List (List Nat)} {m : Nat} {c : Bool} {l : List Int} {T T' : Nat → Nat → Prop} (h : RndI R m c l T) {i k : Nat} (hn : ¬ (k ∈ gr R i ∧ l.getD i 0 < l.getD k 0)) (hT : ∀ i' k', k' < R.length → T' i' k' → T i' k' ∨ (i' = i ∧ k' = k)) : RndI R m c l T' :=
  ⟨h.1, h.2.1, h.2.2.1, fun hc i' k' h1 h2 h3 h4 h5 => by
    rcases hT i' k' h2 h3 with h6 | ⟨rfl, rfl⟩
    · exact h.2.2.2 hc i' k' h1 h2 h6 h4 h5
    · exact hn ⟨h4, h5⟩⟩
theorem RndI.weak {R : List (List Nat)} {m : Nat} {c : Bool} {l : List Int} {T T' : Nat → Nat → Prop} (h : RndI R m c l T) (hT : ∀ i k, k < R.length → T' i k → T i k) : RndI R m c l T' :=
  ⟨h.1, h.2.1, h.2.2.1, fun hc i' k' h1 h2 h3 => h.2.2.2 hc i' k' h1 h2 (hT _ _ h2 h3)⟩
theorem RndI.hit {R : List (List Nat)} {m : Nat} {c : Bool} {l : List Int} {T T' : Nat → Nat → Prop} (h : RndI R m c l T) {i k : Nat} (hi : i < R.length) (hk : k < R.length) (hj : k ∈ gr R i) (hlt : l.getD i 0 < l.getD k 0) : RndI R m true (l.set k (l.getD i 0)) T' := by
  obtain ⟨h1, h2, _, _⟩ := h
  obtain ⟨x, e1, e2, _⟩ := h1.2 i hi
  have h5 := lsum_set (l := l) (k := k) (x := l.getD i 0) (by rw [h1.1]; exact hk) (by omega) R.length
  rw [if_pos hk] at h5
  exact ⟨h1.step hi hk hj hlt, by omega, fun _ => by omega, fun h => by cases h⟩

/-- The labels at the head of a round. -/
def Stb (R : List (List Nat)) (c : Bool) (l : List Int) : Prop := LabI R l ∧ (c = false → ∀ i k, i < R.length → k < R.length → k ∈ gr R i → ¬ l.getD i 0 < l.getD k 0)
/-- The labels are those of the roots. -/
def RootL (R : List (List Nat)) (l : List Int) : Prop := l.length = R.length ∧ ∀ v r, v < R.length → Root R r → Con R r v → l.getD v 0 = r
theorem RootL.iff {R : List (List Nat)} {l : List Int} (h : RootL R l) {v : Nat} (hv : v < R.length) : l.getD v 0 = v ↔ Root R v := by
  obtain ⟨r, h1, h2, h3⟩ := root_of (R := R) v
  have h4 := h.2 v r hv h2 h3
  constructor
  · intro e
    have : r = v := by omega
    rw [← this]; exact h2
  · intro hr
    exact h.2 v v hv hr (Con.refl R v)

/-- The first i labels are turned into numbers. -/
def NumI (R : List (List Nat)) (i : Nat) (l : List Int) : Prop :=
  l.length = R.length ∧ (∀ v r, v < R.length → i ≤ v → Root R r → Con R r v → l.getD v 0 = r) ∧ ∀ v, v < i → ∃ k r : Nat, (rts R R.length)[k]? = some r ∧ Con R r v ∧ l.getD v 0 = k
theorem NumI.start {R : List (List Nat)} {l : List Int} (h : RootL R l) : NumI R 0 l := ⟨h.1, fun v r hv _ => h.2 v r hv, fun v hv => by omega⟩
theorem NumI.done {R : List (List Nat)} {l : List Int} (h : NumI R R.length l) : IsComp R l := ⟨h.1, h.2.2⟩
theorem NumI.step {R : List (List Nat)} {i : Nat} {l : List Int} (h : NumI R i l) (hi : i < R.length) {k r : Nat} (hk : (rts R R.length)[k]? = some r) (hc : Con R r i) : NumI R (i + 1) (l.set i k) := by
  refine ⟨by simp [h.1], fun v s hv hiv hs hcs => ?_, fun v hv => ?_⟩
  · rw [getD_set, if_neg (fun hh => by have := hh.1; omega)]
    exact h.2.1 v s hv (by omega) hs hcs
  · rw [getD_set]
    by_cases e : i = v
    · subst e
      rw [if_pos ⟨rfl, by rw [h.1]; exact hi⟩]
      exact ⟨k, r, hk, hc, rfl⟩
    · rw [if_neg (fun hh => e hh.1)]
      exact h.2.2 v (by omega)
/-- A label's place among the first vertices. -/
theorem NumI.place {R : List (List Nat)} {i : Nat} {l : List Int} (h : NumI R i l) (hi : i < R.length) : ∃ (k r : Nat), (rts R R.length)[k]? = some r ∧ Con R r i ∧ l.getD i 0 = r ∧ ∀ j x : Nat, (rts R R.length)[j]? = some x → l.getD i 0 = x → j = k := by
  obtain ⟨r, h1, h2, h3⟩ := root_of (R := R) i
  have h4 := h.2.1 i r hi (Nat.le_refl _) h2 h3
  have h5 : r ∈ rts R R.length := (rts_mem _).2 ⟨by omega, h2⟩
  obtain ⟨k, hk⟩ := List.getElem?_of_mem h5
  refine ⟨k, r, hk, h3, h4, fun j x hj he => ?_⟩
  have : x = r := by omega
  subst this
  exact rts_inj _ j k x hj hk

def RcpR (w : World) (E : List (List Nat)) (e : Ending) (w' : World) : Prop := ∃ S l, e = .returned (.slice (some ⟨S, 0, none⟩) E.length E.length) ∧ NArr w' S l ∧ IsComp (bth E) l ∧ Below w.heap.size w w'
theorem wpx {a b : Int} (h : a = b) : Value.int .i64 a = .int .i64 b := by rw [h]

set_option maxHeartbeats 4000000 in
set_option maxRecDepth 100000 in
theorem rComponents_ok {w : World} {v : Value} {names : List ByteArray} {E : List (List Nat)} (h : GrV w v names (toI E)) (hk : Ok names E) :
    Calls Tryd.prog 40 #[v] w (RcpR w E) := by
  have hsm := hk.small
  have HJ := Lib.hid (fun w' (hb : Below w.heap.size w w') a (ha : a < E.length) b (hb' : b < E.length) => rJoined_any (h.at w' hb) hk ha hb')
  obtain ⟨A, c, A', c', rfl, hs, hg⟩ := h
  rw [toI_length] at *
  have hr := hg.room
  unfold maxLen at hr
  obtain ⟨W, G, hW, hG, hbW, c0, c1, hGl, hwG⟩ := gbox w (.slice A names.length c) (.slice A' E.length c')
  have HW := Lib.hid hW
  have HG := Lib.hid hG
  have hbl := bth_length E
  have HBL := Lib.hid hbl
  have HE := Lib.hid (And.intro (bth_valid hk.valid) (bth_sym hk.valid))
  clear hW hG hs hg hbl hk
  obtain ⟨S, hS⟩ : ∃ S, S = W.heap.size := ⟨_, rfl⟩
  have HS := Lib.hid hS
  have hSW : W.heap.size ≤ S := by omega
  have hGS : G < S := by omega
  clear hS
  go_enter Tryd.func40, Tryd.ntmps40
  go_wp2_with (refine wpList_make_arr _ rfl _ _ 28 rfl 3 (.int .i64 0) 1 8 Tryd.underlying28 (by kernel_rfl) _ _ _ _ E.length rfl rfl rfl rfl (by omega) (by omega) ?_; rw [← HW.out, ← HS.out]; intro w1 har hb1 hs1; have hna := NArr.made har; have HNA := Lib.hid hna; clear har hna hs1)
  rw [← HG.out]
  go_loopw [5] (fun i wr => ∃ k : Nat, k ≤ E.length ∧ i = .int .i64 (k : Nat) ∧ NArr wr S (up E.length k) ∧ Below W.heap.size W wr) (fun i _ => E.length - (intOf i).toNat)
  case atStart => exact ⟨0, Nat.zero_le _, rfl, by rw [up_zero]; exact HNA.out, by rw [← HS.out]; exact hb1⟩
  case round =>
    obtain ⟨k, hk, rfl, hna, hbr⟩ := hrel
    clear HNA hb1 w1
    by_cases hlt : k < E.length
    · have hcx := hna.cell (i := k) (by rw [up_length hk]; exact hlt)
      have hfx := hna.frozen k
      have hki : (k : Int) < (E.length : Int) := by omega
      have hk0 : (0 : Int) ≤ (k : Int) := by omega
      go_wp2_with fail
      go_roundw
      case rel => exact ⟨k + 1, by omega, by go_num, by rw [← up_set hlt]; exact hna.set_ k k, hbr.setCell (p := ⟨S, k, none⟩) hSW _⟩
      case measure => simp [intOf]; omega
    · obtain rfl : k = E.length := by omega
      have hlab : LabI (bth E) (up E.length E.length) := LabI.start _ (by rw [up_length hk, HBL.out]) (fun v hv => up_full _ (by rw [← HBL.out]; exact hv))
      have HLAB := Lib.hid hlab
      clear hlab
      go_wp2_with fail
      obtain ⟨wo, rfl⟩ : ∃ wo : World, wo = wr := ⟨_, rfl⟩
      go_loopg [6] (lsum (up E.length E.length) E.length + 1) (fun g b wr => ∃ (c : Bool) (l : List Int), b = .bool c ∧ NArr wr S l ∧ l.length = E.length ∧ Hid (Stb (bth E) c l) ∧ (c = true → lsum l E.length + 1 ≤ g) ∧ Below W.heap.size W wr)
      case atStart => exact ⟨true, _, rfl, hna, up_length hk, Lib.hid ⟨HLAB.out, fun h => (by cases h)⟩, fun _ => Nat.le_refl _, hbr⟩
      case round =>
        clear hna HLAB hbr
        obtain ⟨c, l, rfl, hna, hll, hlab, hmg, hbr⟩ := hrel
        cases c
        · have hrl : RootL (bth E) l := ⟨hlab.out.1.1, LabI.done HE.out.2 HE.out.1 hlab.out.1 (hlab.out.2 rfl)⟩
          have HRL := Lib.hid hrl
          clear hrl hlab hmg
          have hS1 : S + 1 ≤ wr.heap.size := hna.lt
          go_wp2_with fail
          obtain ⟨wo, rfl⟩ : ∃ wo : World, wo = wr := ⟨_, rfl⟩
          go_loopw [9, 10, 11] (fun q f i wx => ∃ (k : Nat), k ≤ E.length ∧ i = .int .i64 (k : Nat) ∧ q = .int .i64 ((rts (bth E) k).length : Nat) ∧ OwnN wx (S + 1) f (rts (bth E) k) ∧ NArr wx S l ∧ Below W.heap.size W wx) (fun _ _ i _ => E.length - (intOf i).toNat)
          case atStart => exact ⟨0, Nat.zero_le _, rfl, rfl, OwnN.nil _ _, hna, hbr⟩
          case round =>
            clear hna hbr hS1
            obtain ⟨k, hkl, rfl, rfl, hown, hna, hbr⟩ := hrel
            obtain ⟨A2, c2, rfl, hf1, hf2⟩ := hown.slice
            have hrlen := rts_len (R := bth E) k
            unfold maxLen at hf2
            by_cases hlt : k < E.length
            · have hki : (k : Int) < (E.length : Int) := by omega
              have hk0 : (0 : Int) ≤ (k : Int) := by omega
              have hck := hna.cell (i := k) (by omega)
              have hiff := HRL.out.iff (v := k) (by rw [HBL.out]; exact hlt)
              obtain ⟨y, hy⟩ : ∃ y, y = l.getD k 0 := ⟨_, rfl⟩
              rw [← hy] at hck hiff
              clear hy
              have hS1 := hna.lt
              by_cases hrt : Root (bth E) k
              · have hb : (y == (k : Int)) = true := by rw [hiff.2 hrt]; simp
                have HRT := Lib.hid hrt
                clear hiff hrt
                go_wp2_with (at_builtin; ((refine wpList_pushN wr (by rfl) _ _ (by rfl) (S + 1) _ (rts (bth E) k) (by rfl) hown k _ (by rfl) (by rfl) (by omega) (by omega) ?_)); intro A5 c5 w6 hown6 hg6 hob6)
                have hna6 : NArr w6 S l := Arr.grown hna hg6 (fun h => (by have := (hown.lt S h.symm).1; omega))
                have hbr6 : Below W.heap.size W w6 := hbr.grown hg6 hbr.size (fun q hq => (by have := (hown.lt q hq).1; omega))
                go_roundw
                case rel => exact ⟨k + 1, by omega, by go_num, by rw [rts_root HRT.out, List.length_append]; go_num, by rw [rts_root HRT.out]; exact hown6, hna6, hbr6⟩
                case measure => simp [intOf]; omega
              · have hb : (y == (k : Int)) = false := beq_eq_false_iff_ne.2 (fun h => hrt (hiff.1 h))
                have HRT := Lib.hid hrt
                clear hiff hrt
                go_wp2_with fail
                go_roundw
                case rel => exact ⟨k + 1, by omega, by go_num, by rw [rts_not HRT.out], by rw [rts_not HRT.out]; exact hown, hna, hbr⟩
                case measure => simp [intOf]; omega
            · obtain rfl : k = E.length := by omega
              have hnum := NumI.start HRL.out
              have HNUM := Lib.hid hnum
              clear hnum
              have hrs : ∀ x ∈ rts (bth E) E.length, x ≤ 1000000 := fun x hx => by have := ((rts_mem _).1 hx).1; omega
              have HRS := Lib.hid hrs
              clear hrs
              go_wp2_with fail
              obtain ⟨m, hm⟩ : ∃ m, m = (rts (bth E) E.length).length := ⟨_, rfl⟩
              rw [← hm] at hf1 hrlen hown ⊢
              have HM := Lib.hid hm
              clear hm
              obtain ⟨wo, rfl⟩ : ∃ wo : World, wo = wr := ⟨_, rfl⟩
              go_loopw [12] (fun i wx => ∃ (k : Nat) (l : List Int), k ≤ E.length ∧ i = .int .i64 (k : Nat) ∧ NArr wx S l ∧ l.length = E.length ∧ Hid (NumI (bth E) k l) ∧ OwnN wx (S + 1) (.slice A2 m c2) (rts (bth E) E.length) ∧ Below W.heap.size W wx) (fun i _ => E.length - (intOf i).toNat)
              case atStart => exact ⟨0, l, Nat.zero_le _, rfl, hna, hll, HNUM, hown, hbr⟩
              case round =>
                clear hna hll HNUM hown hbr
                obtain ⟨k, l, hkl, rfl, hna, hll, hnum, hown, hbr⟩ := hrel
                by_cases hlt : k < E.length
                · obtain ⟨kk, r, hkk, hcr, hlr, huq⟩ := hnum.out.place (by rw [HBL.out]; exact hlt)
                  rw [HBL.out] at hkk huq
                  have hkm := some_lt hkk
                  rw [← HM.out] at hkm
                  have HKK := Lib.hid hkk
                  have HCR := Lib.hid hcr
                  have HUQ := Lib.hid huq
                  have HLR := Lib.hid hlr
                  clear hkk hcr huq hlr
                  have hki : (k : Int) < (E.length : Int) := by omega
                  have hk0 : (0 : Int) ≤ (k : Int) := by omega
                  go_wp2_with fail
                  obtain ⟨wo, rfl⟩ : ∃ wo : World, wo = wr := ⟨_, rfl⟩
                  go_loopw [13] (fun i wx => ∃ (t : Nat), t ≤ kk ∧ i = .int .i64 (t : Nat) ∧ NArr wx S l ∧ OwnN wx (S + 1) (.slice A2 m c2) (rts (bth E) E.length) ∧ Below W.heap.size W wx) (fun i _ => m - (intOf i).toNat)
                  case atStart => exact ⟨0, Nat.zero_le _, rfl, hna, hown, hbr⟩
                  case round =>
                    clear hna hown hbr
                    obtain ⟨t, htk, rfl, hna, hown, hbr⟩ := hrel
                    obtain ⟨A3, c3, e3, hil⟩ := hown.il HRS.out
                    rw [← HM.out] at e3 hil
                    injection e3 with e31 e32 e33
                    subst e31
                    clear e32 e33
                    obtain ⟨x, hx⟩ : ∃ x, (rts (bth E) E.length)[t]? = some x := ⟨_, List.getElem?_eq_getElem (by rw [← HM.out]; omega)⟩
                    obtain ⟨b3, o3, rfl, hcx⟩ := hil.num hx
                    have hck := hna.cell (i := k) (by omega)
                    have hfk := hna.frozen k
                    have hti : (t : Int) < (m : Int) := by omega
                    have ht0 : (0 : Int) ≤ (t : Int) := by omega
                    have huq := HUQ.out t x hx
                    obtain ⟨y, hy⟩ : ∃ y, y = l.getD k 0 := ⟨_, rfl⟩
                    rw [← hy] at hck huq
                    have HY := Lib.hid hy
                    clear hy hil
                    by_cases hyx : y = (x : Int)
                    · have hb : (y == (x : Int)) = true := by rw [hyx]; simp
                      obtain rfl : t = kk := huq hyx
                      clear huq hyx hx
                      go_wp2_with fail
                      go_quiet (fail)
                      have hfz := hna.frozen k
                      go_wp2_with fail
                      go_roundw
                      case rel => exact ⟨k + 1, l.set k t, by omega, by go_num, hna.set_ k t, by simpa using hll, Lib.hid (hnum.out.step (by rw [HBL.out]; exact hlt) (by rw [HBL.out]; exact HKK.out) HCR.out), OwnN.keep hown (fun g hg => Below.heap_setCell _ _ _ _ (fun e => (by have h1 := (hown.lt g hg).1; have h2 : g = S := e; omega))), (below_drewN' hbr _).setCell (p := ⟨S, k, none⟩) hSW _⟩
                      case measure => simp [intOf]; omega
                    · have hb : (y == (x : Int)) = false := beq_eq_false_iff_ne.2 hyx
                      have htne : t ≠ kk := fun h => (by subst h; rw [HKK.out] at hx; injection hx with hx; exact hyx (by rw [HY.out, HLR.out, hx]))
                      have htlt : t < kk := by omega
                      clear huq hyx hx htne
                      go_wp2_with fail
                      go_quiet (fail)
                      go_wp2_with fail
                      go_roundw
                      case rel => exact ⟨t + 1, by omega, by go_num, hna, hown, below_drewN' hbr _⟩
                      case measure => simp [intOf]; omega
                · obtain rfl : k = E.length := by omega
                  have hdone := hnum.out
                  rw [← HBL.out] at hdone
                  have HDN := Lib.hid hdone.done
                  clear hdone
                  go_wp2_with fail
                  go_ret
                  exact ⟨S, l, rfl, hna, HDN.out, hbW.trans (hbr.mono hbW.size)⟩
        · have hg1 := hmg rfl
          have hri := RndI.start hlab.out.1
          rw [HBL.out] at hri
          have HRI := Lib.hid hri
          clear hri hmg hlab
          go_wp2_with fail
          obtain ⟨m, hm⟩ : ∃ m, m = lsum l E.length := ⟨_, rfl⟩
          rw [← hm] at HRI hg1
          clear hm
          obtain ⟨wo, rfl⟩ : ∃ wo : World, wo = wr := ⟨_, rfl⟩
          go_loopw [6, 7] (fun b i wr => ∃ (c : Bool) (k : Nat) (l : List Int), k ≤ E.length ∧ b = .bool c ∧ i = .int .i64 (k : Nat) ∧ NArr wr S l ∧ l.length = E.length ∧ Hid (RndI (bth E) m c l (fun i' _ => i' < k)) ∧ Below W.heap.size W wr) (fun _ i _ => E.length - (intOf i).toNat)
          case atStart => exact ⟨false, 0, l, Nat.zero_le _, rfl, rfl, hna, hll, Lib.hid (HRI.out.weak fun i k _ h => (by omega)), hbr⟩
          case round =>
            clear hna HRI hbr hll
            obtain ⟨c, k, l, hkl, rfl, rfl, hna, hll, hri, hbr⟩ := hrel
            by_cases hlt : k < E.length
            · go_wp2_with fail
              obtain ⟨wo, rfl⟩ : ∃ wo : World, wo = wr := ⟨_, rfl⟩
              go_loopw [6, 8] (fun b i wr => ∃ (c : Bool) (t : Nat) (l : List Int), t ≤ E.length ∧ b = .bool c ∧ i = .int .i64 (t : Nat) ∧ NArr wr S l ∧ l.length = E.length ∧ Hid (RndI (bth E) m c l (fun i' k' => i' < k ∨ (i' = k ∧ k' < t))) ∧ Below W.heap.size W wr) (fun _ i _ => E.length - (intOf i).toNat)
              case atStart => exact ⟨c, 0, l, Nat.zero_le _, rfl, rfl, hna, hll, Lib.hid (hri.out.weak fun i k _ h => (by omega)), hbr⟩
              case round =>
                clear hna hri hbr hll
                obtain ⟨c, t, l, htl, rfl, rfl, hna, hll, hri, hbr⟩ := hrel
                by_cases htt : t < E.length
                · have hki : (k : Int) < (E.length : Int) := by omega
                  have hk0 : (0 : Int) ≤ (k : Int) := by omega
                  have hti : (t : Int) < (E.length : Int) := by omega
                  have ht0 : (0 : Int) ≤ (t : Int) := by omega
                  obtain ⟨d0, d1⟩ := keep2 hbr c0 c1
                  have hGr : G < wr.heap.size := Nat.lt_of_lt_of_le hGl hbr.size
                  have hSr := hna.lt
                  have hck := hna.cell (i := k) (by omega)
                  have hct := hna.cell (i := t) (by omega)
                  have hft := hna.frozen t
                  have hdr : Below wr.heap.size wr wr.drew := (Below.refl _ _).drew
                  have hbw := hbW.trans (hbr.mono hbW.size)
                  have HJ1 := Lib.hid (fun w' (hb : Below wr.heap.size wr w') => HJ.out w' (hbw.trans (hb.mono hbw.size)) k hlt t htt)
                  obtain ⟨x, hx⟩ : ∃ x, x = l.getD k 0 := ⟨_, rfl⟩
                  obtain ⟨y, hy⟩ : ∃ y, y = l.getD t 0 := ⟨_, rfl⟩
                  rw [← hx] at hck
                  rw [← hy] at hct
                  obtain ⟨q, hq⟩ : ∃ q, q = jnd E k t := ⟨_, rfl⟩
                  rw [← hq] at HJ1
                  have HX := Lib.hid (And.intro hx (And.intro hy hq))
                  clear hx hy hq
                  have hs0 := same_drew wr
                  go_wp2_with fail
                  refine wp_region_mix [(3, true), (1, false), (11, true)] (by kernel_rfl) (by decide) (by kernel_rfl) (by kernel_rfl) (fun _ _ _ _ _ h => h) (Same wr) ?_
                  simp only [segs, List.take_succ_cons, List.take_zero, List.drop_succ_cons, List.drop_zero, List.take_nil]
                  change goM _ _ _ _ _ _ wr.drew
                  refine goM_reads hs0 ?_
                  iterate 3
                    refine loadsZ_cons ?_ (by rfl) (fun wz hSw => ?_) ?_
                    rotate_left
                    · obtain ⟨hs1, hs2⟩ := hSw
                      go_simp
                      try with_reducible rfl
                    simp only [Act.put, List.setIfInBounds_toArray, List.set_cons_zero, List.set_cons_succ]
                  refine loadsZ_nil (goM_step hs0 ?_)
                  go_wp2_with (go_at_call 84; ((with_reducible refine (HJ1.out _ hdr).mono ?_)); rintro e w5 ⟨rfl, hb5⟩)
                  have hB5 := hdr.trans (hb5.mono hdr.size)
                  have hna5 := hna.below hB5
                  have hbr5 := hbr.trans (hB5.mono hbr.size)
                  have hft5 := hna5.frozen t
                  have hck5 := hna5.cell (i := k) (by omega)
                  have hct5 := hna5.cell (i := t) (by omega)
                  rw [← HX.out.1] at hck5
                  rw [← HX.out.2.1] at hct5
                  refine goM_reads (same_below hB5) ?_
                  cases q
                  · refine loadsZ_cons ?_ (by rfl) (fun wz hSw => ?_) ?_
                    rotate_left
                    · go_simp
                      try with_reducible rfl
                    simp only [Act.put, List.setIfInBounds_toArray, List.set_cons_zero, List.set_cons_succ]
                    iterate 9
                      refine loadsZ_skip (by rfl) ?_
                      simp only [Act.put, List.setIfInBounds_toArray, List.set_cons_zero, List.set_cons_succ]
                    refine loadsZ_cons ?_ (by rfl) (fun wz hSw => ?_) ?_
                    rotate_left
                    · go_simp
                      try with_reducible rfl
                    simp only [Act.put, List.setIfInBounds_toArray, List.set_cons_zero, List.set_cons_succ]
                    refine loadsZ_nil (goM_nil (same_below hB5) ?_)
                    clear hck hct hft hna hck5 hct5
                    go_wp2_with fail
                    go_roundw
                    case rel => exact ⟨c, t + 1, l, by omega, rfl, by go_num, hna5, hll, Lib.hid (hri.out.skip (i := k) (k := t) (fun h => (by have h1 := HX.out.2.2; unfold jnd at h1; rw [decide_eq_true h.1] at h1; cases h1)) (fun i' k' _ h => (by omega))), hbr5⟩
                    case measure => simp [intOf]; omega
                  · by_cases hxy : x < y
                    · have hd : decide (x < y) = true := decide_eq_true hxy
                      have HXY := Lib.hid hxy
                      clear hxy
                      iterate 11
                        refine loadsZ_cons ?_ (by rfl) (fun wz hSw => ?_) ?_
                        rotate_left
                        · obtain ⟨hs1, hs2⟩ := hSw
                          go_simp
                          try with_reducible rfl
                        simp only [Act.put, List.setIfInBounds_toArray, List.set_cons_zero, List.set_cons_succ]
                      refine loadsZ_nil (goM_nil (same_below hB5) ?_)
                      clear hck hct hft hna
                      go_wp2_with fail
                      go_roundw
                      case rel => exact ⟨true, t + 1, l.set t x, by omega, rfl, by go_num, hna5.set_ t x, by simpa using hll, Lib.hid (by have h1 := HX.out.2.2; have h2 := hri.out.hit (T' := fun i' k' => i' < k ∨ (i' = k ∧ k' < t + 1)) (i := k) (k := t) (by rw [HBL.out]; exact hlt) (by rw [HBL.out]; exact htt) (of_decide_eq_true h1.symm) (by rw [← HX.out.1, ← HX.out.2.1]; exact HXY.out); rw [← HX.out.1] at h2; exact h2), hbr5.setCell (p := ⟨S, t, none⟩) hSW _⟩
                      case measure => simp [intOf]; omega
                    · have hd : decide (x < y) = false := decide_eq_false hxy
                      have HXY := Lib.hid hxy
                      clear hxy
                      iterate 11
                        refine loadsZ_cons ?_ (by rfl) (fun wz hSw => ?_) ?_
                        rotate_left
                        · obtain ⟨hs1, hs2⟩ := hSw
                          go_simp
                          try with_reducible rfl
                        simp only [Act.put, List.setIfInBounds_toArray, List.set_cons_zero, List.set_cons_succ]
                      refine loadsZ_nil (goM_nil (same_below hB5) ?_)
                      clear hck hct hft hna
                      go_wp2_with fail
                      go_roundw
                      case rel => exact ⟨c, t + 1, l, by omega, rfl, by go_num, hna5, hll, Lib.hid (hri.out.skip (i := k) (k := t) (fun h => HXY.out (by rw [HX.out.1, HX.out.2.1]; exact h.2)) (fun i' k' _ h => (by omega))), hbr5⟩
                      case measure => simp [intOf]; omega
                · obtain rfl : t = E.length := by omega
                  go_wp2_with fail
                  go_roundw
                  case rel => exact ⟨c, k + 1, l, by omega, rfl, by go_num, hna, hll, Lib.hid (hri.out.weak fun i k' hk' h => (by rw [HBL.out] at hk'; omega)), hbr⟩
                  case measure => simp [intOf]; omega
            · obtain rfl : k = E.length := by omega
              go_wp2_with fail
              go_roundg (gk - 1)
              case rel => exact ⟨c, l, rfl, hna, hll, Lib.hid ⟨hri.out.1, fun hc i k h1 h2 => hri.out.2.2.2 hc i k h1 h2 (by rw [HBL.out] at h1; exact h1)⟩, fun hc => (by have := hri.out.2.2.1 hc; rw [HBL.out] at this; omega), hbr⟩
              case measure => omega
end Go.Proofs.YtpkjdnplmgfbbaaDoor
