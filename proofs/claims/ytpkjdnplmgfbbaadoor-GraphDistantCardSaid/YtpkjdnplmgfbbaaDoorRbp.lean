/- The reference's Bipartite. -/
import Derived.Test.YtpkjdnplmgfbbaaDoorRcp
namespace Go.Proofs.YtpkjdnplmgfbbaaDoor
open Go.RowKit

def neg01 (z : Int) : Nat := if z < 0 then 1 else 0
theorem neg01_neg {z : Int} (h : z < 0) : neg01 z = 1 := if_pos h
theorem neg01_pos {z : Int} (h : 0 ≤ z) : neg01 z = 0 := if_neg (by omega)
/-- How many have no colour yet. -/
def ngs (l : List Int) : Nat → Nat
  | 0 => 0
  | n + 1 => ngs l n + neg01 (l.getD n 0)
theorem ngs_set {l : List Int} {k : Nat} {x : Int} (hk : k < l.length) (hx : 0 ≤ x) (hy : l.getD k 0 < 0) : ∀ n, ngs (l.set k x) n + (if k < n then 1 else 0) = ngs l n
  | 0 => by simp [ngs]
  | n + 1 => by
    have ih := ngs_set hk hx hy n
    rw [ngs, ngs, getD_set]
    by_cases e : k = n
    · subst e
      rw [if_pos ⟨rfl, hk⟩, neg01_pos hx, neg01_neg hy, if_pos (Nat.lt_succ_self k)]
      rw [if_neg (Nat.lt_irrefl k)] at ih
      omega
    · rw [if_neg (fun h => e h.1)]
      by_cases h1 : k < n
      · rw [if_pos h1] at ih
        rw [if_pos (by omega)]
        omega
      · rw [if_neg h1] at ih
        rw [if_neg (by omega)]
        omega

/-- Which have a colour while those that are connected with i get one. -/
def ColP (R : List (List Nat)) (i : Nat) (P : Nat → Prop) (l : List Int) : Prop := ColI R P l ∧ (∀ v, Under R i v → P v) ∧ P i ∧ ∀ v, v < R.length → P v → Under R (i + 1) v
def RndB (R : List (List Nat)) (i m : Nat) (c : Bool) (l : List Int) (T : Nat → Nat → Prop) : Prop :=
  ∃ P, ColP R i P l ∧ ngs l R.length ≤ m ∧ (c = true → ngs l R.length + 1 ≤ m) ∧ (c = false → ∀ a b, a < R.length → b < R.length → T a b → b ∈ gr R a → P a → P b)
def StbB (R : List (List Nat)) (i : Nat) (c : Bool) (l : List Int) : Prop := ∃ P, ColP R i P l ∧ (c = false → ∀ a b, a < R.length → b < R.length → b ∈ gr R a → P a → P b)
theorem StbB.start {R : List (List Nat)} {i : Nat} {l : List Int} (h : ColI R (Under R i) l) (hi : i < R.length) (hn : l.getD i 0 < 0) : StbB R i true (l.set i 0) := by
  have hu : ¬ Under R i i := fun hu => by have := (h.iff hi).2 hu; omega
  refine ⟨fun v => Under R i v ∨ v = i, ⟨h.root hi (under_root hu), fun v hv => .inl hv, .inr rfl, fun v _ hv => ?_⟩, fun h => by cases h⟩
  rw [under_succ]
  rcases hv with h1 | h1
  · exact .inl h1
  · rw [h1]; exact .inr (Con.refl R i)
theorem StbB.rnd {R : List (List Nat)} {i : Nat} {c : Bool} {l : List Int} (h : StbB R i c l) : RndB R i (ngs l R.length) false l (fun _ _ => False) := by
  obtain ⟨P, h1, _⟩ := h
  exact ⟨P, h1, Nat.le_refl _, fun h => (by cases h), fun _ _ _ _ _ h => h.elim⟩
theorem RndB.weak {R : List (List Nat)} {i m : Nat} {c : Bool} {l : List Int} {T T' : Nat → Nat → Prop} (h : RndB R i m c l T) (hT : ∀ a b, b < R.length → T' a b → T a b) : RndB R i m c l T' := by
  obtain ⟨P, h1, h2, h3, h4⟩ := h
  exact ⟨P, h1, h2, h3, fun hc a b ha hb ht => h4 hc a b ha hb (hT a b hb ht)⟩
theorem RndB.skip {R : List (List Nat)} {i m : Nat} {c : Bool} {l : List Int} {T T' : Nat → Nat → Prop} (h : RndB R i m c l T) {a b : Nat} (hn : ¬ (b ∈ gr R a ∧ 0 ≤ l.getD a 0 ∧ l.getD b 0 < 0)) (hT : ∀ a' b', b' < R.length → T' a' b' → T a' b' ∨ (a' = a ∧ b' = b)) : RndB R i m c l T' := by
  obtain ⟨P, h1, h2, h3, h4⟩ := h
  refine ⟨P, h1, h2, h3, fun hc a' b' ha hb ht hj hp => ?_⟩
  rcases hT a' b' hb ht with h6 | ⟨rfl, rfl⟩
  · exact h4 hc a' b' ha hb h6 hj hp
  · have h7 := (h1.1.iff ha).2 hp
    refine (h1.1.iff hb).1 ?_
    rcases Int.lt_or_le (l.getD b' 0) 0 with h8 | h8
    · exact absurd ⟨hj, h7, h8⟩ hn
    · exact h8
theorem RndB.hit {R : List (List Nat)} {i m : Nat} {c : Bool} {l : List Int} {T T' : Nat → Nat → Prop} (h : RndB R i m c l T) {a b : Nat} (ha : a < R.length) (hb : b < R.length) (hj : b ∈ gr R a) (h0 : 0 ≤ l.getD a 0) (hn : l.getD b 0 < 0) : RndB R i m true (l.set b (1 - l.getD a 0)) T' := by
  obtain ⟨P, h1, h2, _, _⟩ := h
  have hp := (h1.1.iff ha).1 h0
  have hs := h1.1.small ha
  have h5 := ngs_set (l := l) (k := b) (x := 1 - l.getD a 0) (by rw [h1.1.1]; exact hb) (by omega) hn R.length
  rw [if_pos hb] at h5
  refine ⟨fun v => P v ∨ v = b, ⟨h1.1.edge ha hb hp hj, fun v hv => .inl (h1.2.1 v hv), .inl h1.2.2.1, fun v hv hpv => ?_⟩, by omega, fun _ => by omega, fun h => by cases h⟩
  rcases hpv with h6 | h6
  · exact h1.2.2.2 v hv h6
  · rw [h6]; exact under_edge (h1.2.2.2 a ha hp) hj
theorem RndB.len {R : List (List Nat)} {i m : Nat} {c : Bool} {l : List Int} {T : Nat → Nat → Prop} (h : RndB R i m c l T) {v : Nat} (hv : v < R.length) : -1 ≤ l.getD v 0 ∧ l.getD v 0 ≤ 1 := by
  obtain ⟨P, h1, _⟩ := h
  exact h1.1.small hv
theorem RndB.stb {R : List (List Nat)} {i m : Nat} {c : Bool} {l : List Int} {T : Nat → Nat → Prop} (h : RndB R i m c l T) (hT : ∀ a b, a < R.length → T a b) : StbB R i c l := by
  obtain ⟨P, h1, _, _, h4⟩ := h
  exact ⟨P, h1, fun hc a b ha hb => h4 hc a b ha hb (hT a b ha)⟩
theorem StbB.done {R : List (List Nat)} (hE : Valid R) {i : Nat} {l : List Int} (h : StbB R i false l) (hi : i < R.length) : ColI R (Under R (i + 1)) l := by
  obtain ⟨P, h1, h2⟩ := h
  refine h1.1.imp fun v hv => ⟨h1.2.2.2 v hv, fun hu => ?_⟩
  rcases under_succ.1 hu with h3 | h3
  · exact h1.2.1 v h3
  · exact (Con.ind (P := fun u => u < R.length ∧ P u) (fun u z ⟨hu, hp⟩ hz => ⟨hE u hu z hz, h2 rfl u z hu (hE u hu z hz) hz hp⟩) h3 ⟨hi, h1.2.2.1⟩).2
theorem colI_skip {R : List (List Nat)} {i : Nat} {l : List Int} (h : ColI R (Under R i) l) (hi : i < R.length) (hn : 0 ≤ l.getD i 0) : ColI R (Under R (i + 1)) l :=
  h.imp fun v _ => under_skip ((h.iff hi).1 hn) v
theorem colI_first {R : List (List Nat)} : ColI R (Under R 0) (List.replicate R.length (-1)) := ColI.zero.imp fun v _ => ⟨fun h => h.elim, fun ⟨_, h, _⟩ => absurd h (by omega)⟩
theorem colI_all {R : List (List Nat)} {l : List Int} (h : ColI R (Under R R.length) l) : ColI R (fun _ => True) l := h.imp fun _ hv => ⟨fun _ => trivial, fun _ => under_all hv⟩

/-- What Bipartite comes to: the colouring, or the error. -/
def BipR (w : World) (E : List (List Nat)) (e : Ending) (w' : World) : Prop :=
  (∃ G l, e = .returned (.tuple #[.slice (some ⟨G, 0, none⟩) E.length E.length, .int .i64 0]) ∧ NArr w' G l ∧ ColI (bth E) (fun _ => True) l ∧ Proper (bth E) l ∧ Below w.heap.size w w') ∨
  (e = .returned (.tuple #[.slice none 0 0, .int .i64 12]) ∧ (∃ l, ColI (bth E) (fun _ => True) l ∧ ¬ Proper (bth E) l) ∧ Below w.heap.size w w')

set_option maxHeartbeats 4000000 in
set_option maxRecDepth 100000 in
theorem rBipartite_ok {w : World} {v : Value} {names : List ByteArray} {E : List (List Nat)} (h : GrV w v names (toI E)) (hk : Ok names E) :
    Calls Tryd.prog 39 #[v] w (BipR w E) := by
  have hsm := hk.small
  have HJ := Lib.hid (fun w' (hb : Below w.heap.size w w') a (ha : a < E.length) b (hb' : b < E.length) => rJoined_any (h.at w' hb) hk ha hb')
  obtain ⟨A, c, A', c', rfl, hs, hg⟩ := h
  rw [toI_length] at *
  have hr := hg.room
  unfold maxLen at hr
  obtain ⟨W, G, hW, hG, hbW, c0, c1, hGl, hwG⟩ := gbox w (.slice A names.length c) (.slice A' E.length c')
  have HW := Lib.hid hW
  have HG := Lib.hid hG
  have hbl := bth_length E
  have HBL := Lib.hid hbl
  have HE := Lib.hid (And.intro (bth_valid hk.valid) (bth_sym hk.valid))
  clear hW hG hs hg hbl hk
  obtain ⟨S, hS⟩ : ∃ S, S = W.heap.size := ⟨_, rfl⟩
  have HS := Lib.hid hS
  have hSW : W.heap.size ≤ S := by omega
  have hGS : G < S := by omega
  clear hS
  go_enter Tryd.func39, Tryd.ntmps39
  go_wp2_with (refine wpList_make_arr _ rfl _ _ 28 rfl 3 (.int .i64 0) 1 8 Tryd.underlying28 (by kernel_rfl) _ _ _ _ E.length rfl rfl rfl rfl (by omega) (by omega) ?_; rw [← HW.out, ← HS.out]; intro w1 har hb1 hs1; have hna := NArr.made har; have HNA := Lib.hid hna; clear har hna hs1)
  rw [← HG.out]
  go_loopw [6] (fun i wr => ∃ k : Nat, k ≤ E.length ∧ i = .int .i64 (k : Nat) ∧ NArr wr S (fl E.length k (-1)) ∧ Below W.heap.size W wr) (fun i _ => E.length - (intOf i).toNat)
  case atStart => exact ⟨0, Nat.zero_le _, rfl, by rw [fl_zero]; exact HNA.out, by rw [← HS.out]; exact hb1⟩
  case round =>
    obtain ⟨k, hk, rfl, hna, hbr⟩ := hrel
    clear HNA hb1 w1
    by_cases hlt : k < E.length
    · have hcx := hna.cell (i := k) (by rw [fl_length hk]; exact hlt)
      have hfx := hna.frozen k
      have hki : (k : Int) < (E.length : Int) := by omega
      have hk0 : (0 : Int) ≤ (k : Int) := by omega
      go_wp2_with fail
      go_roundw
      case rel => exact ⟨k + 1, by omega, by go_num, by rw [← fl_set hlt]; exact hna.set_ k (-1), hbr.setCell (p := ⟨S, k, none⟩) hSW _⟩
      case measure => simp [intOf]; omega
    · obtain rfl : k = E.length := by omega
      rw [fl_full] at hna
      have hci := colI_first (R := bth E)
      rw [HBL.out] at hci
      have HCI := Lib.hid hci
      clear hci
      go_wp2_with fail
      obtain ⟨wo, rfl⟩ : ∃ wo : World, wo = wr := ⟨_, rfl⟩
      go_loopw [7] (fun i wr => ∃ (k : Nat) (l : List Int), k ≤ E.length ∧ i = .int .i64 (k : Nat) ∧ NArr wr S l ∧ Hid (ColI (bth E) (Under (bth E) k) l) ∧ Below W.heap.size W wr) (fun i _ => E.length - (intOf i).toNat)
      case atStart => exact ⟨0, _, Nat.zero_le _, rfl, hna, HCI, hbr⟩
      case round =>
        clear hna HCI hbr
        obtain ⟨k, l, hkl, rfl, hna, hci, hbr⟩ := hrel
        have hll := hci.out.1
        rw [HBL.out] at hll
        by_cases hlt : k < E.length
        · have hki : (k : Int) < (E.length : Int) := by omega
          have hk0 : (0 : Int) ≤ (k : Int) := by omega
          have hck := hna.cell (i := k) (by omega)
          have hfk := hna.frozen k
          obtain ⟨y, hy⟩ : ∃ y, y = l.getD k 0 := ⟨_, rfl⟩
          rw [← hy] at hck
          have HY := Lib.hid hy
          clear hy
          by_cases hneg : 0 ≤ y
          · have hd : decide (0 ≤ y) = true := decide_eq_true hneg
            have HNE := Lib.hid hneg
            clear hneg
            go_wp2_with fail
            go_roundw
            case rel => exact ⟨k + 1, l, by omega, by go_num, hna, Lib.hid (colI_skip hci.out (by rw [HBL.out]; exact hlt) (by rw [← HY.out]; exact HNE.out)), hbr⟩
            case measure => simp [intOf]; omega
          · have hd : decide (0 ≤ y) = false := decide_eq_false hneg
            have hst := StbB.start hci.out (by rw [HBL.out]; exact hlt) (by rw [← HY.out]; omega)
            have HST := Lib.hid hst
            have hna1 := hna.set_ k 0
            have hbr1 := hbr.setCell (p := ⟨S, k, none⟩) hSW (.int .i64 0)
            clear hst hci hneg
            go_wp2_with fail
            clear hna hbr hck hfk hd
            generalize wr.setCell ⟨S, k, none⟩ (.int .i64 0) = w2 at *
            go_loopg [8] (ngs (l.set k 0) E.length + 1) (fun g b wr => ∃ (c : Bool) (l : List Int), b = .bool c ∧ NArr wr S l ∧ Hid (StbB (bth E) k c l) ∧ (c = true → ngs l E.length + 1 ≤ g) ∧ Below W.heap.size W wr)
            case atStart => exact ⟨true, _, rfl, hna1, HST, fun _ => Nat.le_refl _, hbr1⟩
            case round =>
              clear hna1 HST hbr1 HY hll
              obtain ⟨c, l, rfl, hna, hst, hmg, hbr⟩ := hrel
              cases c
              · go_wp2_with fail
                go_roundw
                case rel => exact ⟨k + 1, l, by omega, by go_num, hna, Lib.hid (hst.out.done HE.out.1 (by rw [HBL.out]; exact hlt)), hbr⟩
                case measure => simp [intOf]; omega
              · have hg1 := hmg rfl
                have hri := hst.out.rnd
                rw [HBL.out] at hri
                have HRI := Lib.hid hri
                clear hri hmg hst
                go_wp2_with fail
                obtain ⟨m, hm⟩ : ∃ m, m = ngs l E.length := ⟨_, rfl⟩
                rw [← hm] at HRI hg1
                clear hm
                obtain ⟨wo, rfl⟩ : ∃ wo : World, wo = wr := ⟨_, rfl⟩
                go_loopw [8, 9] (fun b i wr => ∃ (c : Bool) (a : Nat) (l : List Int), a ≤ E.length ∧ b = .bool c ∧ i = .int .i64 (a : Nat) ∧ NArr wr S l ∧ Hid (RndB (bth E) k m c l (fun a' _ => a' < a)) ∧ Below W.heap.size W wr) (fun _ i _ => E.length - (intOf i).toNat)
                case atStart => exact ⟨false, 0, l, Nat.zero_le _, rfl, rfl, hna, Lib.hid (HRI.out.weak fun i k _ h => (by omega)), hbr⟩
                case round =>
                  clear hna HRI hbr
                  obtain ⟨c, a, l, hal, rfl, rfl, hna, hri, hbr⟩ := hrel
                  by_cases hat : a < E.length
                  · go_wp2_with fail
                    obtain ⟨wo, rfl⟩ : ∃ wo : World, wo = wr := ⟨_, rfl⟩
                    go_loopw [8, 10] (fun b i wr => ∃ (c : Bool) (t : Nat) (l : List Int), t ≤ E.length ∧ b = .bool c ∧ i = .int .i64 (t : Nat) ∧ NArr wr S l ∧ Hid (RndB (bth E) k m c l (fun a' b' => a' < a ∨ (a' = a ∧ b' < t))) ∧ Below W.heap.size W wr) (fun _ i _ => E.length - (intOf i).toNat)
                    case atStart => exact ⟨c, 0, l, Nat.zero_le _, rfl, rfl, hna, Lib.hid (hri.out.weak fun i k _ h => (by omega)), hbr⟩
                    case round =>
                      clear hna hri hbr
                      obtain ⟨c, t, l, htl, rfl, rfl, hna, hri, hbr⟩ := hrel
                      have hll : l.length = E.length := by obtain ⟨P, h1, _⟩ := hri.out; rw [h1.1.1, HBL.out]
                      by_cases htt : t < E.length
                      · have hai : (a : Int) < (E.length : Int) := by omega
                        have ha0 : (0 : Int) ≤ (a : Int) := by omega
                        have hti : (t : Int) < (E.length : Int) := by omega
                        have ht0 : (0 : Int) ≤ (t : Int) := by omega
                        obtain ⟨d0, d1⟩ := keep2 hbr c0 c1
                        have hbw := hbW.trans (hbr.mono hbW.size)
                        have HJ1 := Lib.hid (HJ.out wr hbw a hat t htt)
                        have hxs := hri.out.len (v := a) (by rw [HBL.out]; exact hat)
                        obtain ⟨x, hx⟩ : ∃ x, x = l.getD a 0 := ⟨_, rfl⟩
                        obtain ⟨y, hy⟩ : ∃ y, y = l.getD t 0 := ⟨_, rfl⟩
                        rw [← hx] at hxs
                        obtain ⟨q, hq⟩ : ∃ q, q = jnd E a t := ⟨_, rfl⟩
                        rw [← hq] at HJ1
                        have HX := Lib.hid (And.intro hx (And.intro hy hq))
                        clear hx hy hq
                        have HSK : Hid (q = false ∨ x < 0 ∨ 0 ≤ y → RndB (bth E) k m c l (fun a' b' => a' < a ∨ (a' = a ∧ b' < t + 1))) := Lib.hid (fun h => hri.out.skip (a := a) (b := t) (fun hh => by
                          obtain ⟨e1, e2, e3⟩ := HX.out
                          rw [← e1, ← e2] at hh
                          rcases h with h | h | h
                          · rw [e3] at h; unfold jnd at h; rw [decide_eq_true hh.1] at h; cases h
                          · omega
                          · omega) (fun i' k' _ h => (by omega)))
                        have HHT : Hid (q = true → 0 ≤ x → y < 0 → RndB (bth E) k m true (l.set t (1 - x)) (fun a' b' => a' < a ∨ (a' = a ∧ b' < t + 1))) := Lib.hid (fun h1 h2 h3 => by
                          obtain ⟨e1, e2, e3⟩ := HX.out
                          have h4 := hri.out.hit (T' := fun a' b' => a' < a ∨ (a' = a ∧ b' < t + 1)) (a := a) (b := t) (by rw [HBL.out]; exact hat) (by rw [HBL.out]; exact htt) (by rw [h1] at e3; exact of_decide_eq_true e3.symm) (by omega) (by omega)
                          rw [← e1] at h4
                          exact h4)
                        clear hri
                        have hwx : 0 ≤ x → IntKind.i64.wrap (1 - x) = 1 - x := fun _ => IntWalk.i64_in _ (by omega)
                        cases q
                        · clear hwx hxs
                          go_wp2_with (go_at_call 84; ((with_reducible refine HJ1.out.mono ?_)); rintro e w5 ⟨rfl, hb5⟩; have hna5 := hna.below hb5; have hbr5 := hbr.trans (hb5.mono hbr.size); have hcx5 := hna5.cell (i := a) (by omega); have hcy5 := hna5.cell (i := t) (by omega); have hft5 := hna5.frozen t; rw [← HX.out.1] at hcx5; rw [← HX.out.2.1] at hcy5)
                          go_roundw
                          case rel => exact ⟨c, t + 1, l, by omega, rfl, by go_num, hna5, Lib.hid (HSK.out (.inl (by trivial))), hbr5⟩
                          case measure => simp [intOf]; omega
                        · by_cases h1 : 0 ≤ x
                          · have hw1 := hwx h1
                            have hd1 : decide (0 ≤ x) = true := decide_eq_true h1
                            have H1 := Lib.hid h1
                            clear hwx
                            by_cases h2 : y < 0
                            · have hd2 : decide (y < 0) = true := decide_eq_true h2
                              have H2 := Lib.hid h2
                              clear h2
                              go_wp2_with (go_at_call 84; ((with_reducible refine HJ1.out.mono ?_)); rintro e w5 ⟨rfl, hb5⟩; have hna5 := hna.below hb5; have hbr5 := hbr.trans (hb5.mono hbr.size); have hcx5 := hna5.cell (i := a) (by omega); have hcy5 := hna5.cell (i := t) (by omega); have hft5 := hna5.frozen t; rw [← HX.out.1] at hcx5; rw [← HX.out.2.1] at hcy5)
                              go_roundw
                              case rel => exact ⟨true, t + 1, l.set t (1 - x), by omega, rfl, by go_num, hna5.set_ t (1 - x), Lib.hid (HHT.out (by trivial) H1.out H2.out), hbr5.setCell (p := ⟨S, t, none⟩) hSW _⟩
                              case measure => simp [intOf]; omega
                            · have hd2 : decide (y < 0) = false := decide_eq_false h2
                              have H2 := Lib.hid h2
                              clear h2
                              go_wp2_with (go_at_call 84; ((with_reducible refine HJ1.out.mono ?_)); rintro e w5 ⟨rfl, hb5⟩; have hna5 := hna.below hb5; have hbr5 := hbr.trans (hb5.mono hbr.size); have hcx5 := hna5.cell (i := a) (by omega); have hcy5 := hna5.cell (i := t) (by omega); have hft5 := hna5.frozen t; rw [← HX.out.1] at hcx5; rw [← HX.out.2.1] at hcy5)
                              go_roundw
                              case rel => exact ⟨c, t + 1, l, by omega, rfl, by go_num, hna5, Lib.hid (HSK.out (.inr (.inr (by have := H2.out; omega)))), hbr5⟩
                              case measure => simp [intOf]; omega
                          · have hd1 : decide (0 ≤ x) = false := decide_eq_false h1
                            have H1 := Lib.hid h1
                            clear h1 hwx
                            go_wp2_with (go_at_call 84; ((with_reducible refine HJ1.out.mono ?_)); rintro e w5 ⟨rfl, hb5⟩; have hna5 := hna.below hb5; have hbr5 := hbr.trans (hb5.mono hbr.size); have hcx5 := hna5.cell (i := a) (by omega); have hcy5 := hna5.cell (i := t) (by omega); have hft5 := hna5.frozen t; rw [← HX.out.1] at hcx5; rw [← HX.out.2.1] at hcy5)
                            go_roundw
                            case rel => exact ⟨c, t + 1, l, by omega, rfl, by go_num, hna5, Lib.hid (HSK.out (.inr (.inl (by have := H1.out; omega)))), hbr5⟩
                            case measure => simp [intOf]; omega
                      · obtain rfl : t = E.length := by omega
                        go_wp2_with fail
                        go_roundw
                        case rel => exact ⟨c, a + 1, l, by omega, rfl, by go_num, hna, Lib.hid (hri.out.weak fun i k' hk' h => (by rw [HBL.out] at hk'; omega)), hbr⟩
                        case measure => simp [intOf]; omega
                  · obtain rfl : a = E.length := by omega
                    go_wp2_with fail
                    go_roundg (gk - 1)
                    case rel => exact ⟨c, l, rfl, hna, Lib.hid (hri.out.stb fun a' b' h1 => (by rw [HBL.out] at h1; exact h1)), fun hc => (by obtain ⟨P, h1, h2, h3, h4⟩ := hri.out; have := h3 hc; rw [HBL.out] at this; omega), hbr⟩
                    case measure => omega
        · obtain rfl : k = E.length := by omega
          have hco := colI_all (R := bth E) (l := l) (by rw [HBL.out]; exact hci.out)
          have HCO := Lib.hid hco
          clear hco hci
          have hcs : ∀ v, v < E.length → -1 ≤ l.getD v 0 ∧ l.getD v 0 ≤ 1 := fun v hv => HCO.out.small (by rw [HBL.out]; exact hv)
          go_wp2_with fail
          obtain ⟨wo, rfl⟩ : ∃ wo : World, wo = wr := ⟨_, rfl⟩
          go_loopw [11] (fun i wr => ∃ a : Nat, a ≤ E.length ∧ i = .int .i64 (a : Nat) ∧ NArr wr S l ∧ Hid (∀ u, u < a → ∀ v ∈ gr (bth E) u, l.getD u 0 ≠ l.getD v 0) ∧ Below W.heap.size W wr) (fun i _ => E.length - (intOf i).toNat)
          case atStart => exact ⟨0, Nat.zero_le _, rfl, hna, Lib.hid (fun u hu => absurd hu (by omega)), hbr⟩
          case round =>
            clear hna hbr
            obtain ⟨a, hal, rfl, hna, hpr, hbr⟩ := hrel
            by_cases hat : a < E.length
            · go_wp2_with fail
              obtain ⟨wo, rfl⟩ : ∃ wo : World, wo = wr := ⟨_, rfl⟩
              go_loopw [12] (fun i wr => ∃ t : Nat, t ≤ E.length ∧ i = .int .i64 (t : Nat) ∧ NArr wr S l ∧ Hid (∀ v, v < t → v ∈ gr (bth E) a → l.getD a 0 ≠ l.getD v 0) ∧ Below W.heap.size W wr) (fun i _ => E.length - (intOf i).toNat)
              case atStart => exact ⟨0, Nat.zero_le _, rfl, hna, Lib.hid (fun u hu => absurd hu (by omega)), hbr⟩
              case round =>
                clear hna hbr
                obtain ⟨t, htl, rfl, hna, hpa, hbr⟩ := hrel
                by_cases htt : t < E.length
                · have hai : (a : Int) < (E.length : Int) := by omega
                  have ha0 : (0 : Int) ≤ (a : Int) := by omega
                  have hti : (t : Int) < (E.length : Int) := by omega
                  have ht0 : (0 : Int) ≤ (t : Int) := by omega
                  obtain ⟨d0, d1⟩ := keep2 hbr c0 c1
                  have hGr : G < wr.heap.size := Nat.lt_of_lt_of_le hGl hbr.size
                  have hSr := hna.lt
                  have hck := hna.cell (i := a) (by omega)
                  have hct := hna.cell (i := t) (by omega)
                  have hdr : Below wr.heap.size wr wr.drew := (Below.refl _ _).drew
                  have hbw := hbW.trans (hbr.mono hbW.size)
                  have HJ1 := Lib.hid (HJ.out wr.drew (hbw.trans (hdr.mono hbw.size)) a hat t htt)
                  obtain ⟨x, hx⟩ : ∃ x, x = l.getD a 0 := ⟨_, rfl⟩
                  obtain ⟨y, hy⟩ : ∃ y, y = l.getD t 0 := ⟨_, rfl⟩
                  rw [← hx] at hck
                  rw [← hy] at hct
                  obtain ⟨q, hq⟩ : ∃ q, q = jnd E a t := ⟨_, rfl⟩
                  rw [← hq] at HJ1
                  have HX := Lib.hid (And.intro hx (And.intro hy hq))
                  clear hx hy hq
                  have hs0 := same_drew wr
                  go_wp2_with fail
                  refine wp_region_mix [(3, true), (1, false), (11, true)] (by kernel_rfl) (by decide) (by kernel_rfl) (by kernel_rfl) (fun _ _ _ _ _ h => h) (Same wr) ?_
                  simp only [segs, List.take_succ_cons, List.take_zero, List.drop_succ_cons, List.drop_zero, List.take_nil]
                  change goM _ _ _ _ _ _ wr.drew
                  refine goM_reads hs0 ?_
                  iterate 3
                    refine loadsZ_cons ?_ (by rfl) (fun wz hSw => ?_) ?_
                    rotate_left
                    · obtain ⟨hs1, hs2⟩ := hSw
                      go_simp
                      try with_reducible rfl
                    simp only [Act.put, List.setIfInBounds_toArray, List.set_cons_zero, List.set_cons_succ]
                  refine loadsZ_nil (goM_step hs0 ?_)
                  go_wp2_with (go_at_call 84; ((with_reducible refine HJ1.out.mono ?_)); rintro e w5 ⟨rfl, hb5⟩)
                  have hB5 := hdr.trans (hb5.mono hdr.size)
                  have hna5 := hna.below hB5
                  have hbr5 := hbr.trans (hB5.mono hbr.size)
                  refine goM_reads (same_below hB5) ?_
                  cases q
                  · refine loadsZ_cons ?_ (by rfl) (fun wz hSw => ?_) ?_
                    rotate_left
                    · go_simp
                      try with_reducible rfl
                    simp only [Act.put, List.setIfInBounds_toArray, List.set_cons_zero, List.set_cons_succ]
                    iterate 9
                      refine loadsZ_skip (by rfl) ?_
                      simp only [Act.put, List.setIfInBounds_toArray, List.set_cons_zero, List.set_cons_succ]
                    refine loadsZ_cons ?_ (by rfl) (fun wz hSw => ?_) ?_
                    rotate_left
                    · go_simp
                      try with_reducible rfl
                    simp only [Act.put, List.setIfInBounds_toArray, List.set_cons_zero, List.set_cons_succ]
                    refine loadsZ_nil (goM_nil (same_below hB5) ?_)
                    clear hck hct hna
                    go_wp2_with fail
                    go_roundw
                    case rel =>
                      refine ⟨t + 1, by omega, by go_num, hna5, Lib.hid (fun v hv hm => ?_), hbr5⟩
                      rcases Nat.lt_or_ge v t with h1 | h1
                      · exact hpa.out v h1 hm
                      · obtain rfl : v = t := by omega
                        have h2 := HX.out.2.2
                        unfold jnd at h2
                        rw [decide_eq_true hm] at h2
                        cases h2
                    case measure => simp [intOf]; omega
                  · by_cases hxy : x = y
                    · have hd : (x == y) = true := by simp [hxy]
                      have HXY := Lib.hid hxy
                      clear hxy
                      iterate 11
                        refine loadsZ_cons ?_ (by rfl) (fun wz hSw => ?_) ?_
                        rotate_left
                        · obtain ⟨hs1, hs2⟩ := hSw
                          go_simp
                          try with_reducible rfl
                        simp only [Act.put, List.setIfInBounds_toArray, List.set_cons_zero, List.set_cons_succ]
                      refine loadsZ_nil (goM_nil (same_below hB5) ?_)
                      clear hck hct hna
                      go_wp2_with fail
                      go_ret2
                      refine .inr ⟨rfl, ⟨l, HCO.out, fun hp => ?_⟩, hbW.trans (hbr5.mono hbW.size)⟩
                      have h1 := HX.out
                      exact hp a t (by rw [HBL.out]; exact hat) (of_decide_eq_true h1.2.2.symm) (by rw [← h1.1, ← h1.2.1]; exact HXY.out)
                    · have hd : (x == y) = false := beq_eq_false_iff_ne.2 hxy
                      have HXY := Lib.hid hxy
                      clear hxy
                      iterate 11
                        refine loadsZ_cons ?_ (by rfl) (fun wz hSw => ?_) ?_
                        rotate_left
                        · obtain ⟨hs1, hs2⟩ := hSw
                          go_simp
                          try with_reducible rfl
                        simp only [Act.put, List.setIfInBounds_toArray, List.set_cons_zero, List.set_cons_succ]
                      refine loadsZ_nil (goM_nil (same_below hB5) ?_)
                      clear hck hct hna
                      go_wp2_with fail
                      go_roundw
                      case rel =>
                        refine ⟨t + 1, by omega, by go_num, hna5, Lib.hid (fun v hv hm => ?_), hbr5⟩
                        rcases Nat.lt_or_ge v t with h1 | h1
                        · exact hpa.out v h1 hm
                        · obtain rfl : v = t := by omega
                          have h2 := HX.out
                          rw [← h2.1, ← h2.2.1]
                          exact HXY.out
                      case measure => simp [intOf]; omega
                · obtain rfl : t = E.length := by omega
                  go_wp2_with fail
                  go_roundw
                  case rel =>
                    refine ⟨a + 1, by omega, by go_num, hna, Lib.hid (fun u hu v hv => ?_), hbr⟩
                    rcases Nat.lt_or_ge u a with h1 | h1
                    · exact hpr.out u h1 v hv
                    · obtain rfl : u = a := by omega
                      exact hpa.out v (by have := HE.out.1 u (by rw [HBL.out]; exact hat) v hv; rw [HBL.out] at this; exact this) hv
                  case measure => simp [intOf]; omega
            · obtain rfl : a = E.length := by omega
              go_wp2_with fail
              go_ret2
              exact .inl ⟨S, l, rfl, hna, HCO.out, fun u v hu hv => hpr.out u (by rw [HBL.out] at hu; exact hu) v hv, hbW.trans (hbr.mono hbW.size)⟩
end Go.Proofs.YtpkjdnplmgfbbaaDoor
