/- Plain texts: what is printed of a valid graph is read again. No program in sight. -/
import Derived.Test.YtpkjdnplmgfbbaaGreatDoorTxe
namespace Go.Proofs.YtpkjdnplmgfbbaaGreatDoor
open Go.RowKit

def mkB (l : List UInt8) : ByteArray := ⟨l.toArray⟩
theorem mkB_data (l : List UInt8) : (mkB l).data.toList = l := by simp [mkB]
theorem mkB_of (s : ByteArray) : mkB s.data.toList = s := by
  unfold mkB
  simp
theorem mkB_size (l : List UInt8) : (mkB l).size = l.length := by rw [Lib.size_eq, mkB_data]
theorem eq_mkB {s : ByteArray} {l : List UInt8} (h : s.data.toList = l) : s = mkB l := by rw [← h, mkB_of]

/-! digits -/
def isDig (b : UInt8) : Prop := 48 ≤ b.toNat ∧ b.toNat ≤ 57
theorem ofNat48 {d : Nat} (h : d < 10) : (UInt8.ofNat (48 + d)).toNat = 48 + d := by
  rw [UInt8.toNat_ofNat']
  omega
theorem dec_step {u : Nat} (h : ¬ u < 10) : Lib.decDigits u = Lib.decDigits (u / 10) ++ [UInt8.ofNat (48 + u % 10)] := by
  rw [Lib.decDigits, dif_neg h]
theorem dec_dig (u : Nat) : ∀ b ∈ Lib.decDigits u, isDig b := by
  induction u using Nat.strongRecOn with
  | ind u ih =>
    intro b hb
    by_cases h : u < 10
    · rw [Lib.decDigits_one h, List.mem_singleton] at hb
      rw [hb]; unfold isDig; rw [ofNat48 h]; omega
    · rw [dec_step h] at hb
      rcases List.mem_append.1 hb with hb | hb
      · exact ih (u / 10) (by omega) b hb
      · rw [List.mem_singleton] at hb
        rw [hb]; unfold isDig; rw [ofNat48 (by omega)]; omega
theorem dec_ne (u : Nat) : Lib.decDigits u ≠ [] := by
  by_cases h : u < 10
  · rw [Lib.decDigits_one h]; simp
  · rw [dec_step h]; simp
theorem decFrom_append : ∀ (l m : List UInt8) (acc a : Nat), Lib.decFrom acc l = some a → Lib.decFrom acc (l ++ m) = Lib.decFrom a m
  | [], m, acc, a, h => by
    simp [Lib.decFrom] at h
    subst h
    rfl
  | b :: l, m, acc, a, h => by
    have e : ∀ t, Lib.decFrom acc (b :: t) = match Lib.digitVal b with | some d => Lib.decFrom (acc * 10 + d) t | none => none := fun _ => rfl
    rw [e] at h
    show Lib.decFrom acc (b :: (l ++ m)) = _
    rw [e]
    cases hd : Lib.digitVal b with
    | none => rw [hd] at h; cases h
    | some d => rw [hd] at h; exact decFrom_append l m _ a h
theorem digitVal_of {d : Nat} (h : d < 10) : Lib.digitVal (UInt8.ofNat (48 + d)) = some d := by
  have hc : d = 0 ∨ d = 1 ∨ d = 2 ∨ d = 3 ∨ d = 4 ∨ d = 5 ∨ d = 6 ∨ d = 7 ∨ d = 8 ∨ d = 9 := by omega
  rcases hc with rfl | rfl | rfl | rfl | rfl | rfl | rfl | rfl | rfl | rfl <;> rfl
theorem decFrom_dec (u : Nat) : Lib.decFrom 0 (Lib.decDigits u) = some u := by
  induction u using Nat.strongRecOn with
  | ind u ih =>
    by_cases h : u < 10
    · rw [Lib.decDigits_one h]
      unfold Lib.decFrom
      rw [digitVal_of h]
      simp [Lib.decFrom]
    · rw [dec_step h, decFrom_append _ _ _ _ (ih (u / 10) (by omega))]
      unfold Lib.decFrom
      rw [digitVal_of (by omega)]
      simp only [Lib.decFrom]
      congr 1
      omega
theorem ato_dec {v : Nat} (hv : v < 2500) : ato (mkB (Lib.decDigits v)) = some (v : Int) := by
  unfold ato
  have hl := dec_shortT v hv
  rw [mkB_data, Lib.atoiAll_short _ (by omega)]
  have hat : Lib.atoi (Lib.decDigits v) = some (v : Int) := by
    have h1 := decFrom_dec v
    have h2 := dec_dig v
    cases hd : Lib.decDigits v with
    | nil => exact absurd hd (dec_ne v)
    | cons b r =>
      rw [hd] at h1 h2
      have hb := h2 b (by simp)
      unfold isDig at hb
      show (if (b == 45) = true then (Lib.decNat r).map fun (m : Nat) => -(m : Int) else if (b == 43) = true then (Lib.decNat r).map fun (m : Nat) => (m : Int) else (Lib.decNat (b :: r)).map fun (m : Nat) => (m : Int)) = _
      have e1 : (b == 45) = false := beq_eq_false_iff_ne.2 (fun e => by rw [e] at hb; exact absurd hb.1 (by decide))
      have e2 : (b == 43) = false := beq_eq_false_iff_ne.2 (fun e => by rw [e] at hb; exact absurd hb.1 (by decide))
      rw [e1, e2]
      simp only [Bool.false_eq_true, if_false]
      unfold Lib.decNat
      simp [h1]
  rw [hat]
  rfl

/-! words -/
theorem ix_piece : ∀ {p r : List UInt8} {c : UInt8}, c ∉ p → Lib.indexByte (p ++ c :: r) c = (p.length : Int)
  | [], r, c, _ => by simp [Lib.indexByte]
  | b :: p, r, c, h => by
    have hb : (b == c) = false := beq_eq_false_iff_ne.2 (fun e => h (by simp [e]))
    have ih := ix_piece (p := p) (r := r) (c := c) (fun hm => h (by simp [hm]))
    show Lib.indexByte (b :: (p ++ c :: r)) c = _
    unfold Lib.indexByte
    rw [hb, ih]
    have : ((p.length : Int) == -1) = false := beq_eq_false_iff_ne.2 (by omega)
    simp [this]
theorem ix_none : ∀ {p : List UInt8} {c : UInt8}, c ∉ p → Lib.indexByte p c = -1
  | [], c, _ => rfl
  | b :: p, c, h => by
    have hb : (b == c) = false := beq_eq_false_iff_ne.2 (fun e => h (by simp [e]))
    unfold Lib.indexByte
    rw [hb, ix_none (p := p) (c := c) (fun hm => h (by simp [hm]))]
    rfl
theorem ext_left {s : ByteArray} {p r : List UInt8} (h : s.data.toList = p ++ r) : s.extract 0 p.length = mkB p := by
  refine eq_mkB ?_
  rw [Lib.extract_data]
  simp [h]
theorem ext_right {s : ByteArray} {p r : List UInt8} (h : s.data.toList = p ++ r) {q : Nat} (hq : q = p.length) : s.extract q s.size = mkB r := by
  refine eq_mkB ?_
  subst hq
  rw [Lib.extract_data, Lib.size_eq, h]
  simp
/-- Words behind spaces. -/
def sps (ws : List (List UInt8)) : List UInt8 := ws.flatMap fun w => 32 :: w
theorem split_words : ∀ (ws : List (List UInt8)) (w : List UInt8) (s : ByteArray), s.data.toList = w ++ sps ws → 32 ∉ w → (∀ x ∈ ws, 32 ∉ x) → Lib.splitB ⟨#[32]⟩ 0 ws.length s = mkB w :: ws.map mkB
  | [], w, s, h, _, _ => by
    rw [List.length_nil, Lib.splitB_zero]
    have : s = mkB w := eq_mkB (by rw [h]; simp [sps])
    rw [this]
    rfl
  | x :: xs, w, s, h, hw, hx => by
    have h' : s.data.toList = w ++ 32 :: (x ++ sps xs) := by rw [h]; simp [sps]
    have hi : Lib.indexB s ⟨#[32]⟩ = (w.length : Int) := by rw [indexB_sp, h']; exact ix_piece hw
    rw [List.length_cons]
    unfold Lib.splitB
    rw [hi]
    have hne : ((w.length : Int) == -1) = false := beq_eq_false_iff_ne.2 (by omega)
    rw [hne]
    simp only [Bool.false_eq_true, if_false, Int.toNat_natCast, Nat.add_zero]
    rw [ext_left h']
    have h2 : s.data.toList = (w ++ [32]) ++ (x ++ sps xs) := by rw [h']; simp
    have e2 : s.extract (w.length + (⟨#[32]⟩ : ByteArray).size) s.size = mkB (x ++ sps xs) := ext_right h2 (by simp; rfl)
    rw [e2, split_words xs x (mkB (x ++ sps xs)) (mkB_data _) (hx x (by simp)) (fun y hy => hx y (by simp [hy]))]
    rfl
theorem count_words : ∀ (ws : List (List UInt8)) (w : List UInt8), 32 ∉ w → (∀ x ∈ ws, 32 ∉ x) → (w ++ sps ws).count 32 = ws.length
  | [], w, hw, _ => by simp [sps, List.count_eq_zero.2 hw]
  | x :: xs, w, hw, hx => by
    have e : w ++ sps (x :: xs) = w ++ 32 :: (x ++ sps xs) := by simp [sps]
    rw [e, List.count_append, List.count_eq_zero.2 hw, List.count_cons_self, count_words xs x (hx x (by simp)) (fun y hy => hx y (by simp [hy])), List.length_cons]
    omega
theorem spl_words {ws : List (List UInt8)} {w : List UInt8} (hw : 32 ∉ w) (hx : ∀ x ∈ ws, 32 ∉ x) : spl (mkB (w ++ sps ws)) = mkB w :: ws.map mkB := by
  unfold spl
  have hc : Lib.countB (mkB (w ++ sps ws)) ⟨#[32]⟩ = ws.length := by
    rw [countB_sp, mkB_data]
    exact count_words ws w hw hx
  rw [hc]
  exact split_words ws w _ (mkB_data _) hw hx

/-! lines -/
theorem trn_line (l : List UInt8) : trn (mkB (l ++ [10])) = mkB l := by
  have hs : (mkB (l ++ [10])).data.toList = l ++ [10] := mkB_data _
  have hz : (mkB (l ++ [10])).size - 1 = l.length := by rw [mkB_size]; simp
  have he : endNL (mkB (l ++ [10])) = true := by
    unfold endNL
    rw [hz, ext_right hs rfl, Lib.toList_data, mkB_data]
    rfl
  unfold trn
  rw [if_pos he, hz]
  exact ext_left hs
theorem lnB_lines : ∀ (ls : List (List UInt8)) (s : ByteArray), s.data.toList = ls.flatMap (fun l => l ++ [10]) → (∀ l ∈ ls, 10 ∉ l) → lnB s = ls.map fun l => mkB (l ++ [10])
  | [], s, h, _ => by
    refine lnB_nil ?_
    rw [Lib.size_eq, h]
    rfl
  | l :: ls, s, h, hl => by
    have h' : s.data.toList = l ++ 10 :: ls.flatMap (fun l => l ++ [10]) := by rw [h]; simp
    have hi : Lib.indexByte s.data.toList 10 = (l.length : Int) := by rw [h']; exact ix_piece (hl l (by simp))
    have h2 : s.data.toList = (l ++ [10]) ++ ls.flatMap (fun l => l ++ [10]) := by rw [h']; simp
    rw [lnB_cons hi]
    have e1 : s.extract 0 (l.length + 1) = mkB (l ++ [10]) := by
      have := ext_left h2
      rw [List.length_append] at this
      exact this
    have e2 : s.extract (l.length + 1) s.size = mkB (ls.flatMap (fun l => l ++ [10])) := ext_right h2 (by simp)
    rw [e1, e2, lnB_lines ls _ (mkB_data _) (fun x hx => hl x (by simp [hx]))]
    rfl

/-! a printed graph -/
def lnOf (names : List ByteArray) (E : List (List Nat)) (k : Nat) : List UInt8 := (names.getD k ByteArray.empty).data.toList ++ sps ((gr E k).map Lib.decDigits)
theorem nums_sps (l : List Nat) : nums l = sps (l.map Lib.decDigits) := by
  unfold nums sps
  rw [List.flatMap_map]
theorem prn_lines (names : List ByteArray) (E : List (List Nat)) : ∀ k, prn names E k = ((List.range k).map (lnOf names E)).flatMap fun l => l ++ [10]
  | 0 => rfl
  | k + 1 => by
    rw [List.range_succ, List.map_append, List.flatMap_append, ← prn_lines names E k, prn, nums_sps]
    simp [lnOf]
theorem dig_no {b : UInt8} (h : isDig b) : b ≠ 32 ∧ b ≠ 10 := by
  unfold isDig at h
  constructor
  · intro e; rw [e] at h; exact absurd h.1 (by decide)
  · intro e; rw [e] at h; exact absurd h.1 (by decide)
theorem name_no {names : List ByteArray} {E : List (List Nat)} (hk : Ok names E) {k : Nat} (hkl : k < E.length) : 32 ∉ (names.getD k ByteArray.empty).data.toList ∧ 10 ∉ (names.getD k ByteArray.empty).data.toList := by
  have hkn : k < names.length := by rw [hk.len]; exact hkl
  have h4 := hk.name _ (List.mem_of_getElem? (List.getElem?_eq_getElem hkn))
  rw [getD_some (List.getElem?_eq_getElem hkn)]
  obtain ⟨h1, h2, h3⟩ := h4
  exact ⟨fun hm => (h3 _ hm).1 rfl, fun hm => (h3 _ hm).2 rfl⟩
theorem atos_dec : ∀ {l : List Nat}, (∀ v ∈ l, v < 2500) → atos ((l.map Lib.decDigits).map mkB) = some (l.map fun x : Nat => (x : Int))
  | [], _ => rfl
  | v :: l, h => by
    have ih := atos_dec (l := l) (fun x hx => h x (by simp [hx]))
    show (match ato (mkB (Lib.decDigits v)) with | none => none | some y => (atos ((l.map Lib.decDigits).map mkB)).map (y :: ·)) = _
    rw [ato_dec (h v (by simp)), ih]
    rfl
theorem lnps_append : ∀ {xs ys : List ByteArray} {N N' : List ByteArray} {E E' : List (List Int)}, lnps xs = some (N, E) → lnps ys = some (N', E') → lnps (xs ++ ys) = some (N ++ N', E ++ E')
  | [], ys, N, N', E, E', h, h' => by
    simp [lnps] at h
    obtain ⟨rfl, rfl⟩ := h
    exact h'
  | x :: xs, ys, N, N', E, E', h, h' => by
    show (match lnp x with | none => none | some (n, l) => (lnps (xs ++ ys)).map fun (N, E) => (n :: N, l :: E)) = _
    unfold lnps at h
    cases hx : lnp x with
    | none => rw [hx] at h; cases h
    | some p =>
      obtain ⟨n, l⟩ := p
      rw [hx] at h
      cases ht : lnps xs with
      | none => rw [ht] at h; cases h
      | some t =>
        obtain ⟨M, F⟩ := t
        rw [ht] at h
        simp at h
        obtain ⟨rfl, rfl⟩ := h
        have ih := lnps_append ht h'
        simp [ih]
theorem lnp_line {names : List ByteArray} {E : List (List Nat)} (hk : Ok names E) {k : Nat} (hkl : k < E.length) : lnp (mkB (lnOf names E k ++ [10])) = some (names.getD k ByteArray.empty, (gr E k).map fun x : Nat => (x : Int)) := by
  unfold lnp
  have hv : ∀ v ∈ gr E k, v < 2500 := fun v hv => by have := hk.valid k hkl v hv; have := hk.small; omega
  rw [trn_line, lnOf, spl_words (name_no hk hkl).1 (fun x hx => by
    obtain ⟨v, _, rfl⟩ := List.mem_map.1 hx
    exact fun hm => (dig_no (dec_dig v _ hm)).1 rfl)]
  show (atos (((gr E k).map Lib.decDigits).map mkB)).map _ = _
  rw [atos_dec hv, mkB_of]
  rfl
theorem line_no10 {names : List ByteArray} {E : List (List Nat)} (hk : Ok names E) {k : Nat} (hkl : k < E.length) : 10 ∉ lnOf names E k := by
  unfold lnOf
  intro hm
  rcases List.mem_append.1 hm with hm | hm
  · exact (name_no hk hkl).2 hm
  · unfold sps at hm
    obtain ⟨w, hw, hb⟩ := List.mem_flatMap.1 hm
    obtain ⟨v, _, rfl⟩ := List.mem_map.1 hw
    rcases List.mem_cons.1 hb with h | h
    · cases h
    · exact (dig_no (dec_dig v _ h)).2 rfl
theorem lnps_lines {names : List ByteArray} {E : List (List Nat)} (hk : Ok names E) : ∀ k, k ≤ E.length → lnps (((List.range k).map (lnOf names E)).map fun l => mkB (l ++ [10])) = some (names.take k, (toI E).take k)
  | 0, _ => rfl
  | k + 1, hkl => by
    have hkn : k < names.length := by rw [hk.len]; omega
    rw [List.range_succ, List.map_append, List.map_append]
    rw [show (([k].map (lnOf names E)).map fun l => mkB (l ++ [10])) = [mkB (lnOf names E k ++ [10])] from rfl, lnps_append (lnps_lines hk k (by omega)) (show lnps [mkB (lnOf names E k ++ [10])] = some ([names.getD k ByteArray.empty], [(gr E k).map fun x : Nat => (x : Int)]) by
      unfold lnps
      rw [lnp_line hk (by omega)]
      rfl)]
    congr 2
    · rw [List.take_add_one, List.getElem?_eq_getElem hkn, getD_some (List.getElem?_eq_getElem hkn)]
      rfl
    · have hkE : k < (toI E).length := by rw [toI_length]; omega
      rw [List.take_add_one, List.getElem?_eq_getElem hkE]
      congr 1
      simp [toI, gr, List.getD, List.getElem?_eq_getElem (show k < E.length by omega)]
/-- What is printed is read again. -/
theorem good_read {s : ByteArray} {names : List ByteArray} {E : List (List Nat)} (h : Good s names E) : lnps (lnB s) = some (names, toI E) := by
  have h1 := h.txt
  rw [prn_lines] at h1
  rw [lnB_lines _ s h1 (fun l hl => by
    obtain ⟨k, hk, rfl⟩ := List.mem_map.1 hl
    exact line_no10 h.ok (List.mem_range.1 hk)), lnps_lines h.ok E.length (Nat.le_refl _)]
  rw [List.take_of_length_le (by rw [h.ok.len]; exact Nat.le_refl _), List.take_of_length_le (by rw [toI_length]; exact Nat.le_refl _)]
theorem Parse_any {w : World} (hv : Vrs w) (s : ByteArray) (hs : s.size ≤ 2000) : Calls Tryz.prog 17 #[.string s] w (PrsR s w) := Parse_in hv s hs fun _ _ h => good_read h
end Go.Proofs.YtpkjdnplmgfbbaaGreatDoor
