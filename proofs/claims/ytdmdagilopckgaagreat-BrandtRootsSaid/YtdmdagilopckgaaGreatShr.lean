/- The law's short: which polynomials the statements look at. -/
import Derived.Test.YtdmdagilopckgaaGreatB6
import Derived.Test.YtdmdagilopckgaaGreatPze
import Derived.IntWalk
namespace Go.Proofs.YtdmdagilopckgaaGreat
open Go.RowKit

/-- An integer of any form and any length. -/
def IntU (w : World) (v : Value) (x : Int) : Prop := IntV w (fun _ => True) v x
instance : Stays IntU := ⟨fun h hb => IntV.below h hb⟩

/-- A size that the statements look at. -/
def Fit (x : Int) : Prop := wl x.natAbs ≤ 3 ∨ 33 ≤ wl x.natAbs

theorem gz_takeL {l : List Int} {j k : Nat} (h : j < k) : gz (l.take k) j = gz l j := by
  simp [gz, List.getD_eq_getElem?_getD, h]

theorem Pl.prefix_ {w : World} {A : Option Addr} {n c k : Nat} {l : List Int} {b off : Nat} {neg : Bool} {B : Option Addr} {m q : Nat} (h : Pl IntU w (fun _ => True) A n c l) (hk : k < n) (h1 : Pl IntB w (fun _ => True) A k c (l.take k)) (hA : A = some ⟨b, off, none⟩)
    (e0 : w.cell? ⟨b, off + k * 2, none⟩ = some (.bool neg)) (e1 : w.cell? ⟨b, off + k * 2 + 1, none⟩ = some (.slice B m q)) (e2 : IntB w (.agg #[.bool neg, .slice B m q]) (gz l k)) : Pl IntB w (fun _ => True) A (k + 1) c (l.take (k + 1)) := by
  refine ⟨by rw [List.length_take, h.len]; omega, by have := h.cap; omega, h.room, fun _ => ⟨b, off, hA, trivial, fun j hj => ?_⟩⟩
  rw [gz_takeL hj]
  rcases Nat.lt_or_ge j k with hjk | hjk
  · obtain ⟨b', off', e, _, hc⟩ := h1.cells (by omega)
    rw [hA] at e
    injection e with e
    injection e with e3 e4
    subst e3 e4
    have := hc j hjk
    rwa [gz_takeL hjk] at this
  · obtain rfl : j = k := by omega
    exact ⟨neg, B, m, q, e0, e1, e2⟩

/-- What short looks for. -/
def ShP (w : World) (A : Option Addr) (n : Nat) (l : List Int) : Prop :=
  (n ≤ 12 ∨ 61 < n ∧ n ≤ 65) ∧ (∀ j, j < n → ∃ b off B m q, A = some ⟨b, off, none⟩ ∧ w.cell? ⟨b, off + j * 2 + 1, none⟩ = some (.slice B m q) ∧ m ≤ 40) ∧ ∀ x ∈ l, Fit x
theorem ShP.many {w : World} {A : Option Addr} {n : Nat} {l : List Int} (h : 12 < n ∧ n ≤ 61 ∨ 65 < n) : ¬ ShP w A n l := fun ⟨h1, _⟩ => by omega
theorem ShP.long {w : World} {A : Option Addr} {n k b off m q : Nat} {B : Option Addr} {l : List Int} (hA : A = some ⟨b, off, none⟩) (h : w.cell? ⟨b, off + k * 2 + 1, none⟩ = some (.slice B m q)) (hk : k < n) (hm : 40 < m) : ¬ ShP w A n l := fun ⟨_, h2, _⟩ => by
  obtain ⟨b', off', B', m', q', e, hc, hm'⟩ := h2 k hk
  rw [hA] at e
  injection e with e
  injection e with e3 e4
  subst e3 e4
  rw [h] at hc
  injection hc with hc
  injection hc with _ hc _
  omega
theorem ShP.unfit {w : World} {A : Option Addr} {n k : Nat} {l : List Int} (hl : l.length = n) (hk : k < n) (h : ¬ Fit (gz l k)) : ¬ ShP w A n l := fun ⟨_, _, h3⟩ => h (h3 _ (gz_mem (l := l) (j := k) (by omega)))
/-- What short answers. -/
def ShR (w : World) (A : Option Addr) (n c : Nat) (l : List Int) (e : Ending) (w' : World) : Prop :=
  ∃ b, e = .returned (.bool b) ∧ (b = true → Pl IntB w (fun _ => True) A n c l ∧ ShP w A n l) ∧ (b = false → ¬ ShP w A n l) ∧ Below w.heap.size w w'
theorem ShR.no {w w' : World} {A : Option Addr} {n c : Nat} {l : List Int} (h : ¬ ShP w A n l) (hb : Below w.heap.size w w') : ShR w A n c l (.returned (.bool false)) w' := ⟨false, rfl, (fun h => by cases h), (fun _ => h), hb⟩

theorem upto_next {P : Nat → Prop} {k : Nat} (h : ∀ j, j < k → P j) (hk : P k) : ∀ j, j < k + 1 → P j := fun j hj => by
  rcases Nat.lt_or_ge j k with h1 | h1
  · exact h j h1
  · obtain rfl : j = k := by omega
    exact hk
theorem fit_take {l : List Int} {k : Nat} (hk : k < l.length) (h : ∀ x ∈ l.take k, Fit x) (hf : Fit (gz l k)) : ∀ x ∈ l.take (k + 1), Fit x := by
  intro x hx
  rw [List.take_add_one, List.mem_append] at hx
  rcases hx with hx | hx
  · exact h x hx
  · rw [List.getElem?_eq_getElem hk] at hx
    simp at hx
    subst hx
    simpa [gz, List.getD_eq_getElem?_getD, List.getElem?_eq_getElem hk] using hf

set_option maxRecDepth 100000 in
set_option maxHeartbeats 4000000 in
theorem lawShort_any {A : Option Addr} {n c : Nat} {l : List Int} {w : World} (h : Pl IntU w (fun _ => True) A n c l) :
    Calls Tryz.prog 7 #[.slice A n c] w (ShR w A n c l) := by
  have hm := h.room
  unfold maxLen at hm
  have hc := h.cap
  have hl := Lib.hid h.len
  have HP := Lib.hid h
  clear h
  by_cases hbad : 12 < n ∧ n ≤ 61
  · have z1 : decide ((12 : Int) < (n : Int)) = true := decide_eq_true (by omega)
    have z2 : decide ((n : Int) ≤ (61 : Int)) = true := decide_eq_true (by omega)
    go_enter Tryz.func7, Tryz.ntmps7
    go_wp2_with fail
    go_ret
    exact ShR.no (ShP.many (by omega)) (Below.refl _ _)
  by_cases hbig : 65 < n
  · have z1 : decide ((12 : Int) < (n : Int)) = true := decide_eq_true (by omega)
    have z2 : decide ((n : Int) ≤ (61 : Int)) = false := decide_eq_false (by omega)
    have z3 : decide ((65 : Int) < (n : Int)) = true := decide_eq_true (by omega)
    go_enter Tryz.func7, Tryz.ntmps7
    go_wp2_with fail
    go_ret
    exact ShR.no (ShP.many (by omega)) (Below.refl _ _)
  have HN := Lib.hid (show n ≤ 12 ∨ 61 < n ∧ n ≤ 65 by omega)
  have z3 : decide ((65 : Int) < (n : Int)) = false := decide_eq_false (by omega)
  rcases (show n ≤ 12 ∨ (12 < n ∧ 61 < n) by omega) with h1 | ⟨h1, h2⟩
  · have z1 : decide ((12 : Int) < (n : Int)) = false := decide_eq_false (by omega)
    go_enter Tryz.func7, Tryz.ntmps7
    go_wp2_with fail
    go_loopw [3, 4] (fun iv _ wr => ∃ k : Nat, iv = .int .i64 k ∧ k ≤ n ∧ Hid ((Pl IntB w (fun _ => True) A k c (l.take k) ∧ ∀ x ∈ l.take k, Fit x) ∧ ∀ j, j < k → ∃ b off B m q, A = some ⟨b, off, none⟩ ∧ w.cell? ⟨b, off + j * 2 + 1, none⟩ = some (.slice B m q) ∧ m ≤ 40) ∧ Below w.heap.size w wr) (fun iv _ _ => n - (intOf iv).toNat)
    case atStart => exact ⟨0, rfl, by omega, Lib.hid ⟨⟨⟨rfl, Nat.zero_le _, HP.out.room, fun h => absurd h (Nat.lt_irrefl _)⟩, fun x hx => by simp at hx⟩, fun j hj => absurd hj (Nat.not_lt_zero _)⟩, Below.refl _ _⟩
    case round =>
      obtain ⟨k, rfl, hk, HF, hbr⟩ := hrel
      rcases Nat.lt_or_ge k n with hkn | hkn
      · obtain ⟨b, off, hA, _, hcell⟩ := HP.out.cells (by omega)
        obtain ⟨neg, B, q, c1, e0, e1, e2⟩ := hcell k (by omega)
        have x0 := keepB hbr e0
        have x1 := keepB hbr e1
        have HE0 := Lib.hid e0
        have HE1 := Lib.hid e1
        have HA := Lib.hid hA
        subst hA
        clear hcell e0 e1
        obtain ⟨neg', B', q', c1', l1, ee, hw, hx⟩ := e2
        injection ee with ee
        have ee2 := congrArg Array.toList ee
        simp at ee2
        obtain ⟨rfl, rfl, rfl, rfl⟩ := ee2
        clear ee
        by_cases h40 : 40 < q
        · have z4 : decide ((40 : Int) < (q : Int)) = true := decide_eq_true (by omega)
          clear hw hx
          go_wp2_with fail
          go_ret
          exact ShR.no (ShP.long rfl HE1.out hkn h40) hbr
        · have z4 : decide ((40 : Int) < (q : Int)) = false := decide_eq_false (by omega)
          have hib : IntB w (.agg #[.bool neg, .slice B q c1]) (gz l k) := ⟨neg, B, q, c1, l1, rfl, hw, hx, by omega⟩
          have HIB := Lib.hid hib
          have HNM := Lib.hid (rNormal_any (hib.below hbr))
          have hwl := hib.wl
          clear hw hx hib
          by_cases hf : Fit (gz l k)
          · have HFN := Lib.hid hf
            unfold Fit at hf
            have HK := Lib.hid (show (Pl IntB w (fun _ => True) _ (k + 1) c (l.take (k + 1)) ∧ ∀ x ∈ l.take (k + 1), Fit x) ∧ _ from ⟨⟨HP.out.prefix_ hkn HF.out.1.1 HA.out HE0.out HE1.out HIB.out, fit_take (by rw [hl.out]; exact hkn) HF.out.1.2 HFN.out⟩, upto_next HF.out.2 ⟨b, off, B, q, c1, HA.out, HE1.out, by omega⟩⟩)
            generalize gz l k = y at *
            obtain ⟨q3, hq3⟩ : ∃ q3, wl y.natAbs = q3 := ⟨_, rfl⟩
            rw [hq3] at hf hwl
            have HQ3 := Lib.hid hq3
            clear hq3
            rcases (show q3 ≤ 3 ∨ (3 < q3 ∧ 33 ≤ q3) by omega) with h3 | ⟨h3, h33⟩
            · have z5 : decide ((3 : Int) < (q3 : Int)) = false := decide_eq_false (by omega)
              go_wp2_with (go_at_call 29; go_must (refine HNM.out.mono ?_); rintro e w2 ⟨v2, rfl, ⟨A2, c2, rfl, hp2⟩, hb2⟩; rw [HQ3.out] at hp2 ⊢; have hc2 := hp2.cap; have hr2 := hp2.room; unfold maxLen at hr2)
              rename_i K hK
              refine hK _ _ ?_
              clear hK
              go_wp2_with fail
              go_roundw
              case rel => exact ⟨k + 1, by go_num, by omega, HK, btr hbr hb2⟩
              case measure => simp [intOf]; omega
            · have z5 : decide ((3 : Int) < (q3 : Int)) = true := decide_eq_true (by omega)
              have z6 : decide ((q3 : Int) < (33 : Int)) = false := decide_eq_false (by omega)
              go_wp2_with (go_at_call 29; go_must (refine HNM.out.mono ?_); rintro e w2 ⟨v2, rfl, ⟨A2, c2, rfl, hp2⟩, hb2⟩; rw [HQ3.out] at hp2 ⊢; have hc2 := hp2.cap; have hr2 := hp2.room; unfold maxLen at hr2)
              rename_i K hK
              refine hK _ _ ?_
              clear hK
              go_wp2_with fail
              go_roundw
              case rel => exact ⟨k + 1, by go_num, by omega, HK, btr hbr hb2⟩
              case measure => simp [intOf]; omega
          · have HNS := Lib.hid (show ¬ ShP w _ n l from ShP.unfit (A := some ⟨b, off, none⟩) hl.out hkn hf)
            unfold Fit at hf
            generalize gz l k = y at *
            obtain ⟨q3, hq3⟩ : ∃ q3, wl y.natAbs = q3 := ⟨_, rfl⟩
            rw [hq3] at hf hwl
            have HQ3 := Lib.hid hq3
            clear hq3
            have z5 : decide ((3 : Int) < (q3 : Int)) = true := decide_eq_true (by omega)
            have z6 : decide ((q3 : Int) < (33 : Int)) = true := decide_eq_true (by omega)
            go_wp2_with (go_at_call 29; go_must (refine HNM.out.mono ?_); rintro e w2 ⟨v2, rfl, ⟨A2, c2, rfl, hp2⟩, hb2⟩; rw [HQ3.out] at hp2 ⊢; have hc2 := hp2.cap; have hr2 := hp2.room; unfold maxLen at hr2)
            rename_i K hK
            refine hK _ _ ?_
            clear hK
            go_wp2_with fail
            go_ret
            exact ShR.no HNS.out (btr hbr hb2)
      · obtain rfl : k = n := by omega
        have HF2 := Lib.hid HF.out
        rw [List.take_of_length_le (by rw [hl.out]; exact Nat.le_refl _)] at HF2
        go_wp2_with fail
        go_ret
        exact ⟨true, rfl, fun _ => ⟨HF2.out.1.1, HN.out, HF2.out.2, HF2.out.1.2⟩, (fun h => by cases h), hbr⟩
  · have z1 : decide ((12 : Int) < (n : Int)) = true := decide_eq_true (by omega)
    have z2 : decide ((n : Int) ≤ (61 : Int)) = false := decide_eq_false (by omega)
    go_enter Tryz.func7, Tryz.ntmps7
    go_wp2_with fail
    go_loopw [3, 4] (fun iv _ wr => ∃ k : Nat, iv = .int .i64 k ∧ k ≤ n ∧ Hid ((Pl IntB w (fun _ => True) A k c (l.take k) ∧ ∀ x ∈ l.take k, Fit x) ∧ ∀ j, j < k → ∃ b off B m q, A = some ⟨b, off, none⟩ ∧ w.cell? ⟨b, off + j * 2 + 1, none⟩ = some (.slice B m q) ∧ m ≤ 40) ∧ Below w.heap.size w wr) (fun iv _ _ => n - (intOf iv).toNat)
    case atStart => exact ⟨0, rfl, by omega, Lib.hid ⟨⟨⟨rfl, Nat.zero_le _, HP.out.room, fun h => absurd h (Nat.lt_irrefl _)⟩, fun x hx => by simp at hx⟩, fun j hj => absurd hj (Nat.not_lt_zero _)⟩, Below.refl _ _⟩
    case round =>
      obtain ⟨k, rfl, hk, HF, hbr⟩ := hrel
      rcases Nat.lt_or_ge k n with hkn | hkn
      · obtain ⟨b, off, hA, _, hcell⟩ := HP.out.cells (by omega)
        obtain ⟨neg, B, q, c1, e0, e1, e2⟩ := hcell k (by omega)
        have x0 := keepB hbr e0
        have x1 := keepB hbr e1
        have HE0 := Lib.hid e0
        have HE1 := Lib.hid e1
        have HA := Lib.hid hA
        subst hA
        clear hcell e0 e1
        obtain ⟨neg', B', q', c1', l1, ee, hw, hx⟩ := e2
        injection ee with ee
        have ee2 := congrArg Array.toList ee
        simp at ee2
        obtain ⟨rfl, rfl, rfl, rfl⟩ := ee2
        clear ee
        by_cases h40 : 40 < q
        · have z4 : decide ((40 : Int) < (q : Int)) = true := decide_eq_true (by omega)
          clear hw hx
          go_wp2_with fail
          go_ret
          exact ShR.no (ShP.long rfl HE1.out hkn h40) hbr
        · have z4 : decide ((40 : Int) < (q : Int)) = false := decide_eq_false (by omega)
          have hib : IntB w (.agg #[.bool neg, .slice B q c1]) (gz l k) := ⟨neg, B, q, c1, l1, rfl, hw, hx, by omega⟩
          have HIB := Lib.hid hib
          have HNM := Lib.hid (rNormal_any (hib.below hbr))
          have hwl := hib.wl
          clear hw hx hib
          by_cases hf : Fit (gz l k)
          · have HFN := Lib.hid hf
            unfold Fit at hf
            have HK := Lib.hid (show (Pl IntB w (fun _ => True) _ (k + 1) c (l.take (k + 1)) ∧ ∀ x ∈ l.take (k + 1), Fit x) ∧ _ from ⟨⟨HP.out.prefix_ hkn HF.out.1.1 HA.out HE0.out HE1.out HIB.out, fit_take (by rw [hl.out]; exact hkn) HF.out.1.2 HFN.out⟩, upto_next HF.out.2 ⟨b, off, B, q, c1, HA.out, HE1.out, by omega⟩⟩)
            generalize gz l k = y at *
            obtain ⟨q3, hq3⟩ : ∃ q3, wl y.natAbs = q3 := ⟨_, rfl⟩
            rw [hq3] at hf hwl
            have HQ3 := Lib.hid hq3
            clear hq3
            rcases (show q3 ≤ 3 ∨ (3 < q3 ∧ 33 ≤ q3) by omega) with h3 | ⟨h3, h33⟩
            · have z5 : decide ((3 : Int) < (q3 : Int)) = false := decide_eq_false (by omega)
              go_wp2_with (go_at_call 29; go_must (refine HNM.out.mono ?_); rintro e w2 ⟨v2, rfl, ⟨A2, c2, rfl, hp2⟩, hb2⟩; rw [HQ3.out] at hp2 ⊢; have hc2 := hp2.cap; have hr2 := hp2.room; unfold maxLen at hr2)
              rename_i K hK
              refine hK _ _ ?_
              clear hK
              go_wp2_with fail
              go_roundw
              case rel => exact ⟨k + 1, by go_num, by omega, HK, btr hbr hb2⟩
              case measure => simp [intOf]; omega
            · have z5 : decide ((3 : Int) < (q3 : Int)) = true := decide_eq_true (by omega)
              have z6 : decide ((q3 : Int) < (33 : Int)) = false := decide_eq_false (by omega)
              go_wp2_with (go_at_call 29; go_must (refine HNM.out.mono ?_); rintro e w2 ⟨v2, rfl, ⟨A2, c2, rfl, hp2⟩, hb2⟩; rw [HQ3.out] at hp2 ⊢; have hc2 := hp2.cap; have hr2 := hp2.room; unfold maxLen at hr2)
              rename_i K hK
              refine hK _ _ ?_
              clear hK
              go_wp2_with fail
              go_roundw
              case rel => exact ⟨k + 1, by go_num, by omega, HK, btr hbr hb2⟩
              case measure => simp [intOf]; omega
          · have HNS := Lib.hid (show ¬ ShP w _ n l from ShP.unfit (A := some ⟨b, off, none⟩) hl.out hkn hf)
            unfold Fit at hf
            generalize gz l k = y at *
            obtain ⟨q3, hq3⟩ : ∃ q3, wl y.natAbs = q3 := ⟨_, rfl⟩
            rw [hq3] at hf hwl
            have HQ3 := Lib.hid hq3
            clear hq3
            have z5 : decide ((3 : Int) < (q3 : Int)) = true := decide_eq_true (by omega)
            have z6 : decide ((q3 : Int) < (33 : Int)) = true := decide_eq_true (by omega)
            go_wp2_with (go_at_call 29; go_must (refine HNM.out.mono ?_); rintro e w2 ⟨v2, rfl, ⟨A2, c2, rfl, hp2⟩, hb2⟩; rw [HQ3.out] at hp2 ⊢; have hc2 := hp2.cap; have hr2 := hp2.room; unfold maxLen at hr2)
            rename_i K hK
            refine hK _ _ ?_
            clear hK
            go_wp2_with fail
            go_ret
            exact ShR.no HNS.out (btr hbr hb2)
      · obtain rfl : k = n := by omega
        have HF2 := Lib.hid HF.out
        rw [List.take_of_length_le (by rw [hl.out]; exact Nat.le_refl _)] at HF2
        go_wp2_with fail
        go_ret
        exact ⟨true, rfl, fun _ => ⟨HF2.out.1.1, HN.out, HF2.out.2, HF2.out.1.2⟩, (fun h => by cases h), hbr⟩

/-- Where short says yes. -/
theorem lawShort_yes {A : Option Addr} {n c : Nat} {l : List Int} {w w' : World} (h : Pl IntU w (fun _ => True) A n c l) (hs : ShP w A n l) (hb : Below w.heap.size w w') :
    Calls Tryz.prog 7 #[.slice A n c] w' fun e w'' => e = .returned (.bool true) ∧ Below w'.heap.size w' w'' := by
  refine (lawShort_any (h.below hb)).mono ?_
  rintro e w'' ⟨b, rfl, _, h2, hb2⟩
  cases b
  · refine absurd ⟨hs.1, fun j hj => ?_, hs.2.2⟩ (h2 rfl)
    obtain ⟨b, off, B, m, q, hA, hc, hm⟩ := hs.2.1 j hj
    exact ⟨b, off, B, m, q, hA, keepB hb hc, hm⟩
  · exact ⟨rfl, hb2⟩
theorem ShP.pl {A : Option Addr} {n c : Nat} {l : List Int} {w : World} (h : Pl IntU w (fun _ => True) A n c l) (hs : ShP w A n l) : Pl IntB w (fun _ => True) A n c l := by
  refine ⟨h.len, h.cap, h.room, fun hn => ?_⟩
  obtain ⟨b, off, hA, _, hc⟩ := h.cells hn
  refine ⟨b, off, hA, trivial, fun j hj => ?_⟩
  obtain ⟨neg, B, m, k, e0, e1, neg', B', m', k', l', ee, hw, hx⟩ := hc j hj
  injection ee with ee
  have ee2 := congrArg Array.toList ee
  simp at ee2
  obtain ⟨rfl, rfl, rfl, rfl⟩ := ee2
  obtain ⟨b', off', B2, m2, q2, hA2, hc2, hm2⟩ := hs.2.1 j hj
  rw [hA] at hA2
  injection hA2 with e
  injection e with e3 e4
  subst e3 e4
  rw [e1] at hc2
  injection hc2 with hc2
  injection hc2 with _ hc2 _
  exact ⟨neg, B, m, k, e0, e1, neg, B, m, k, l', rfl, hw, hx, by omega⟩
/-- Where short says no. -/
theorem lawShort_no {A : Option Addr} {n c : Nat} {l : List Int} {w w' : World} (h : Pl IntU w (fun _ => True) A n c l) (hs : ¬ ShP w A n l) (hb : Below w.heap.size w w') :
    Calls Tryz.prog 7 #[.slice A n c] w' fun e w'' => e = .returned (.bool false) ∧ Below w'.heap.size w' w'' := by
  refine (lawShort_any (h.below hb)).mono ?_
  rintro e w'' ⟨b, rfl, h1, _, hb2⟩
  cases b
  · exact ⟨rfl, hb2⟩
  · have h3 := (h1 rfl).2
    refine absurd ⟨h3.1, fun j hj => ?_, h3.2.2⟩ hs
    obtain ⟨b, off, hA, _, hc⟩ := h.cells (by omega)
    obtain ⟨neg, B, m, k, e0, e1, e2⟩ := hc j hj
    obtain ⟨b', off', B2, m2, q2, hA2, hc2, hm2⟩ := h3.2.1 j hj
    rw [hA] at hA2
    injection hA2 with e
    injection e with e3 e4
    subst e3 e4
    rw [keepB hb e1] at hc2
    injection hc2 with hc2
    injection hc2 with _ hc2 _
    exact ⟨b, off, B, m, k, hA, e1, by omega⟩
/-- What is read of a polynomial that short lets pass is good. -/
theorem ShP.good {A : Option Addr} {n : Nat} {l : List Int} {w : World} (hl : l.length = n) (hs : ShP w A n l) (h : rdE l = 0) : GoodP (tz l) := by
  obtain ⟨h1, _, h3⟩ := hs
  unfold rdE at h
  split at h
  · cases h
  rename_i h61
  split at h
  · cases h
  rename_i hbig
  split at h
  · cases h
  rename_i h0
  have hle := tz_length_le l
  refine goodP (tz_tz l) h0 (by omega) fun x hx => ?_
  have hx2 := tz_mem hx
  rcases h3 x hx2 with h4 | h4
  · exact h4
  · exfalso
    have h5 : ¬ Lm ≤ x.natAbs := fun h6 => hbig (List.any_eq_true.2 ⟨x, hx2, decide_eq_true h6⟩)
    have h7 : x.natAbs < 4294967296 ^ 32 := Nat.lt_of_lt_of_le (Nat.lt_of_not_le h5) (by decide +kernel)
    have h8 := dig_length_le (b := 4294967296) (by omega) h7
    unfold wl at h4
    omega
end Go.Proofs.YtdmdagilopckgaaGreat
