/- Plain graphs: cycles, and how a search finds them. No program in sight. Plain graphs: what a search for a cycle keeps of what it was told. No program in sight. -/
import Derived.Test.YtpkjdnplmgfbbaaDoorDsp
namespace Go.Proofs.YtpkjdnplmgfbbaaDoor

/-- The list is a cycle. -/
structure IsCyc (E : List (List Nat)) (l : List Nat) : Prop where
  pos : 0 < l.length
  nodup : ∀ i j x : Nat, l[i]? = some x → l[j]? = some x → i = j
  two : l.length = 2 → ∀ x y : Nat, l[0]? = some x → l[1]? = some y → 2 ≤ (gr E x).count y
  adj : l.length ≠ 2 → ∀ i x y : Nat, l[i]? = some x → l[(i + 1) % l.length]? = some y → y ∈ gr E x

/-- The tree of a search: each vertex that has been found but the first one has one before it. -/
structure Tree (E : List (List Nat)) (a : Nat) (P : Nat → Prop) (par far : Nat → Nat) : Prop where
  root : P a
  far0 : far a = 0
  step : ∀ v, P v → v ≠ a → P (par v) ∧ far v = far (par v) + 1 ∧ v ∈ gr E (par v)
/-- The i-th vertex on the way up. -/
def an (par : Nat → Nat) (v : Nat) : Nat → Nat
  | 0 => v
  | i + 1 => par (an par v i)
theorem an_add (par : Nat → Nat) (v s : Nat) : ∀ i, an par (an par v s) i = an par v (s + i)
  | 0 => rfl
  | i + 1 => by show par (an par (an par v s) i) = par (an par v (s + i)); rw [an_add par v s i]
section
variable {E : List (List Nat)} {a : Nat} {P : Nat → Prop} {par far : Nat → Nat}
theorem Tree.an_far (h : Tree E a P par far) {v : Nat} (hv : P v) : ∀ i, i ≤ far v → P (an par v i) ∧ far (an par v i) + i = far v
  | 0, _ => ⟨hv, rfl⟩
  | i + 1, hi => by
    obtain ⟨h1, h2⟩ := h.an_far hv i (by omega)
    have hne : an par v i ≠ a := fun e => by rw [e, h.far0] at h2; omega
    obtain ⟨h3, h4, _⟩ := h.step _ h1 hne
    refine ⟨h3, ?_⟩
    show far (par (an par v i)) + (i + 1) = far v
    omega
theorem Tree.an_edge (h : Tree E a P par far) {v : Nat} (hv : P v) {i : Nat} (hi : i < far v) : an par v i ∈ gr E (an par v (i + 1)) := by
  obtain ⟨h1, h2⟩ := h.an_far hv i (by omega)
  have hne : an par v i ≠ a := fun e => by rw [e, h.far0] at h2; omega
  exact (h.step _ h1 hne).2.2
theorem Tree.an_root (h : Tree E a P par far) {v : Nat} (hv : P v) : an par v (far v) = a := by
  obtain ⟨h1, h2⟩ := h.an_far hv (far v) (Nat.le_refl _)
  apply Classical.byContradiction
  intro hne
  have := (h.step _ h1 hne).2.1
  omega
end

/-- Up from v, p steps, and down to w, q steps. -/
def cyc (par : Nat → Nat) (p q v w : Nat) : List Nat := (List.range (p + 1)).map (an par v) ++ ((List.range q).map (an par w)).reverse
theorem cyc_length (par : Nat → Nat) (p q v w : Nat) : (cyc par p q v w).length = p + q + 1 := by simp [cyc]; omega
theorem cyc_get1 {par : Nat → Nat} {p q v w i : Nat} (h : i ≤ p) : (cyc par p q v w)[i]? = some (an par v i) := by
  unfold cyc
  rw [List.getElem?_append_left (by simp; omega), List.getElem?_map, List.getElem?_range (by omega)]
  rfl
theorem cyc_get2 {par : Nat → Nat} {p q v w j : Nat} (h : j < q) : (cyc par p q v w)[p + 1 + j]? = some (an par w (q - 1 - j)) := by
  unfold cyc
  rw [List.getElem?_append_right (by simp), List.length_map, List.length_range, Nat.add_sub_cancel_left, List.getElem?_reverse (by simpa using h), List.length_map, List.length_range, List.getElem?_map, List.getElem?_range (by omega)]
  rfl
theorem cyc_cases {par : Nat → Nat} {p q v w i x : Nat} (h : (cyc par p q v w)[i]? = some x) : (i ≤ p ∧ x = an par v i) ∨ ∃ j, j < q ∧ i = p + 1 + j ∧ x = an par w (q - 1 - j) := by
  have hl := some_lt h
  rw [cyc_length] at hl
  by_cases h1 : i ≤ p
  · rw [cyc_get1 h1] at h
    injection h with h
    exact .inl ⟨h1, h.symm⟩
  · obtain ⟨j, rfl⟩ : ∃ j, i = p + 1 + j := ⟨i - p - 1, by omega⟩
    rw [cyc_get2 (by omega)] at h
    injection h with h
    exact .inr ⟨j, by omega, rfl, h.symm⟩
/-- Two ways up that meet for the first time, and an edge between their ends: a cycle. -/
theorem cyc_is {E : List (List Nat)} {a : Nat} {P : Nat → Prop} {par far : Nat → Nat} (hS : Sym E) (h : Tree E a P par far) {v w p q : Nat} (hv : P v) (hw : P w) (he : w ∈ gr E v) (hp : p ≤ far v) (hq : q ≤ far w) (hd : far v + q = far w + p) (hm : an par v p = an par w q)
    (hn : p = 0 ∨ q = 0 ∨ an par v (p - 1) ≠ an par w (q - 1)) (h3 : 3 ≤ p + q + 1) : IsCyc E (cyc par p q v w) := by
  have hcross : ∀ i j', i ≤ p → j' < q → an par v i ≠ an par w j' := by
    intro i j' hi hj e
    have h1 := (h.an_far hv i (by omega)).2
    have h2 := (h.an_far hw j' (by omega)).2
    rw [e] at h1
    have hp1 : 1 ≤ p := by omega
    rcases hn with h4 | h4 | h4
    · omega
    · omega
    · apply h4
      have e1 : p - 1 = i + (p - 1 - i) := by omega
      have e2 : q - 1 = j' + (p - 1 - i) := by omega
      rw [e1, e2, ← an_add, ← an_add, e]
  have hsv : ∀ i i', i ≤ p → i' ≤ p → an par v i = an par v i' → i = i' := fun i i' hi hi' e => by
    have h1 := (h.an_far hv i (by omega)).2
    have h2 := (h.an_far hv i' (by omega)).2
    rw [e] at h1; omega
  have hsw : ∀ i i', i < q → i' < q → an par w i = an par w i' → i = i' := fun i i' hi hi' e => by
    have h1 := (h.an_far hw i (by omega)).2
    have h2 := (h.an_far hw i' (by omega)).2
    rw [e] at h1; omega
  refine ⟨by rw [cyc_length]; omega, fun i j x hi hj => ?_, fun h2 => (by rw [cyc_length] at h2; omega), fun _ i x y hi hj => ?_⟩
  · rcases cyc_cases hi with ⟨a1, a2⟩ | ⟨i', a1, a2, a3⟩
    · rcases cyc_cases hj with ⟨b1, b2⟩ | ⟨j', b1, b2, b3⟩
      · exact hsv i j a1 b1 (by rw [← a2, ← b2])
      · exact absurd (by rw [← a2, ← b3]) (hcross i (q - 1 - j') a1 (by omega))
    · rcases cyc_cases hj with ⟨b1, b2⟩ | ⟨j', b1, b2, b3⟩
      · exact absurd (by rw [← b2, ← a3]) (hcross j (q - 1 - i') b1 (by omega))
      · have := hsw (q - 1 - i') (q - 1 - j') (by omega) (by omega) (by rw [← a3, ← b3])
        omega
  · rw [cyc_length] at hj
    rcases cyc_cases hi with ⟨a1, rfl⟩ | ⟨i', a1, rfl, rfl⟩
    · by_cases hip : i < p
      · rw [Nat.mod_eq_of_lt (by omega), cyc_get1 (by omega)] at hj
        injection hj with hj
        subst hj
        exact (hS _ _).1 (h.an_edge hv (by omega))
      · obtain rfl : i = p := by omega
        by_cases hq0 : q = 0
        · subst hq0
          rw [show i + 0 + 1 = i + 1 from rfl, Nat.mod_self, cyc_get1 (Nat.zero_le _)] at hj
          injection hj with hj
          subst hj
          rw [hm]
          exact (hS w v).1 he
        · rw [Nat.mod_eq_of_lt (by omega), show i + 1 = i + 1 + 0 from rfl, cyc_get2 (by omega)] at hj
          injection hj with hj
          subst hj
          rw [hm]
          have h5 := h.an_edge hw (i := q - 1 - 0) (by omega)
          rw [show q - 1 - 0 + 1 = q by omega] at h5
          exact h5
    · by_cases hjq : i' + 1 < q
      · rw [Nat.mod_eq_of_lt (by omega), show p + 1 + i' + 1 = p + 1 + (i' + 1) from rfl, cyc_get2 (by omega)] at hj
        injection hj with hj
        subst hj
        have h5 := h.an_edge hw (i := q - 1 - (i' + 1)) (by omega)
        rw [show q - 1 - (i' + 1) + 1 = q - 1 - i' by omega] at h5
        exact h5
      · obtain rfl : q = i' + 1 := by omega
        rw [show p + 1 + i' + 1 = p + (i' + 1) + 1 by omega, Nat.mod_self, cyc_get1 (Nat.zero_le _)] at hj
        injection hj with hj
        subst hj
        rw [show i' + 1 - 1 - i' = 0 by omega]
        exact (hS w v).1 he

/-- What a search has found by now is no deeper than any walk. -/
theorem srch_near {E : List (List Nat)} {a k : Nat} {s : Bs} {dep : List Nat} (h : Srch E a k [] s dep) {dk : Nat} (hk : dep[k]? = some dk) : ∀ m u, m ≤ dk → Wk E a m u → ∃ j d : Nat, (s.q[j]?).map Prod.snd = some u ∧ dep[j]? = some d ∧ d ≤ m := by
  intro m
  induction m with
  | zero => intro u _ hu; have e : u = a := hu; subst e; exact ⟨0, 0, by rw [h.first]; rfl, h.d0, Nat.le_refl _⟩
  | succ m ih =>
    intro u hm hu
    obtain ⟨z, hz, huz⟩ := hu
    obtain ⟨j, d, h1, h2, h3⟩ := ih z (by omega) hz
    obtain ⟨b, hb⟩ := snd_some h1
    have hjk : j < k := by
      rcases Nat.lt_or_ge j k with h4 | h4
      · exact h4
      · have := h.mono k j dk d h4 hk h2; omega
    obtain ⟨j', d', k1, k2, k3⟩ := h.closed j (b, z) d hjk hb h2 u huz
    exact ⟨j', d', k1, k2, by omega⟩
theorem srch_min {E : List (List Nat)} {a k : Nat} {s : Bs} {dep : List Nat} (h : Srch E a k [] s dep) {dk : Nat} (hk : dep[k]? = some dk) {j d m u : Nat} (hj : j ≤ k) (hu : (s.q[j]?).map Prod.snd = some u) (hd : dep[j]? = some d) (hw : Wk E a m u) : d ≤ m := by
  rcases Nat.lt_or_ge dk m with h1 | h1
  · have := h.mono j k d dk hj hd hk; omega
  · obtain ⟨j', d', h2, h3, h4⟩ := srch_near h hk m u h1 hw
    have e := h.nodup j j' u hu h2
    subst e
    rw [hd] at h3
    injection h3 with h3
    omega

theorem max_at (J : Nat → Nat) : ∀ L, 0 < L → ∃ t, t < L ∧ ∀ u, u < L → J u ≤ J t
  | 0, h => absurd h (by omega)
  | L + 1, _ => by
    by_cases h0 : L = 0
    · subst h0; exact ⟨0, by omega, fun u hu => by rw [show u = 0 by omega]; exact Nat.le_refl _⟩
    · obtain ⟨t, h1, h2⟩ := max_at J L (by omega)
      by_cases h3 : J L ≤ J t
      · exact ⟨t, by omega, fun u hu => by
          rcases Nat.lt_or_ge u L with h4 | h4
          · exact h2 u h4
          · rw [show u = L by omega]; exact h3⟩
      · exact ⟨L, by omega, fun u hu => by
          rcases Nat.lt_or_ge u L with h4 | h4
          · have := h2 u h4; omega
          · rw [show u = L by omega]; exact Nat.le_refl _⟩
/-- What the visits of a search have been told bounds each cycle through its first vertex. -/
def Told (E : List (List Nat)) (k : Nat) (s : Bs) (dep : List Nat) (most : Nat) : Prop :=
  ∀ (j i b v d w e : Nat), j < k → s.q[j]? = some (b, v) → dep[j]? = some d → i < j → (s.q[i]?).map Prod.snd = some w → dep[i]? = some e → w ∈ gr E v → w ≠ b → most ≤ d + e + 1
theorem cyc_key {E : List (List Nat)} (hS : Sym E) {a k : Nat} {s : Bs} {dep : List Nat} (h : Srch E a k [] s dep) {most : Nat} (hJ : Told E k s dep most) (hend : s.q.length = k ∨ ∃ dk, dep[k]? = some dk ∧ most ≤ 2 * dk)
    {c : Nat → Nat} {L : Nat} (hL : 3 ≤ L) (c0 : c 0 = a) (cL : c L = a) (ce : ∀ t, t < L → c (t + 1) ∈ gr E (c t)) (cd : ∀ t u, t < L → u < L → c t = c u → t = u) : most ≤ L := by
  rcases Nat.lt_or_ge L most with hlt | hge
  case inr => exact hge
  exfalso
  have wf : ∀ t, t ≤ L → Wk E a t (c t) := by
    intro t
    induction t with
    | zero => intro _; exact c0
    | succ t ih => intro ht; exact ⟨c t, ih (by omega), ce t (by omega)⟩
  have wb : ∀ q, q ≤ L → Wk E a q (c (L - q)) := by
    intro q
    induction q with
    | zero => intro _; exact cL
    | succ q ih =>
      intro hq
      refine ⟨c (L - q), ih (by omega), ?_⟩
      have h1 := ce (L - (q + 1)) (by omega)
      rw [show L - (q + 1) + 1 = L - q by omega] at h1
      exact (hS _ _).1 h1
  have hat : ∀ t, t < L → ∃ j d : Nat, j < k ∧ (s.q[j]?).map Prod.snd = some (c t) ∧ dep[j]? = some d ∧ d ≤ t ∧ d ≤ L - t := by
    intro t ht
    have w1 := wf t (by omega)
    have w2 := wb (L - t) (by omega)
    rw [show L - (L - t) = t by omega] at w2
    rcases hend with hq | ⟨dk, hdk, hm⟩
    · obtain ⟨j, d, h1, h2, h3⟩ := h.reach hq t _ w1
      obtain ⟨j', d', k1, k2, k3⟩ := h.reach hq (L - t) _ w2
      have e := h.nodup j j' _ h1 k1
      subst e
      rw [h2] at k2
      injection k2 with k2
      obtain ⟨b, hb⟩ := snd_some h1
      exact ⟨j, d, by have := some_lt hb; omega, h1, h2, h3, by omega⟩
    · have hnear : ∃ j d : Nat, (s.q[j]?).map Prod.snd = some (c t) ∧ dep[j]? = some d ∧ d < dk := by
        rcases Nat.lt_or_ge t dk with h1 | h1
        · obtain ⟨j, d, a1, a2, a3⟩ := srch_near h hdk t _ (by omega) w1
          exact ⟨j, d, a1, a2, by omega⟩
        · obtain ⟨j, d, a1, a2, a3⟩ := srch_near h hdk (L - t) _ (by omega) w2
          exact ⟨j, d, a1, a2, by omega⟩
      obtain ⟨j, d, h1, h2, h3⟩ := hnear
      have hjk : j < k := by
        rcases Nat.lt_or_ge j k with h4 | h4
        · exact h4
        · have := h.mono k j dk d h4 hdk h2; omega
      exact ⟨j, d, hjk, h1, h2, srch_min h hdk (by omega) h1 h2 w1, srch_min h hdk (by omega) h1 h2 w2⟩
  have hc : ∀ t, ∃ j, t < L → ∃ d : Nat, j < k ∧ (s.q[j]?).map Prod.snd = some (c t) ∧ dep[j]? = some d ∧ d ≤ t ∧ d ≤ L - t := fun t => by
    by_cases ht : t < L
    · obtain ⟨j, d, h1⟩ := hat t ht
      exact ⟨j, fun _ => ⟨d, h1⟩⟩
    · exact ⟨0, fun h => absurd h ht⟩
  obtain ⟨J, hJt⟩ := Classical.axiomOfChoice hc
  obtain ⟨t, ht, hmax⟩ := max_at J L (by omega)
  have hJ0 : J 0 = 0 := by
    obtain ⟨d, _, h2, _⟩ := hJt 0 (by omega)
    rw [c0] at h2
    exact h.nodup _ 0 a h2 (by rw [h.first]; rfl)
  have hne : ∀ u u', u < L → u' < L → u ≠ u' → J u ≠ J u' := fun u u' hu hu' hn e => by
    obtain ⟨d, _, h2, _⟩ := hJt u hu
    obtain ⟨d', _, k2, _⟩ := hJt u' hu'
    rw [e, k2] at h2
    injection h2 with h2
    exact hn (cd u u' hu hu' h2.symm)
  have ht0 : t ≠ 0 := fun e => by
    subst e
    have h1 := hmax 1 (by omega)
    have h2 := hne 1 0 (by omega) (by omega) (by omega)
    omega
  obtain ⟨d, h1, h2, h3, h4, h5⟩ := hJt t ht
  obtain ⟨b, hb⟩ := snd_some h2
  obtain ⟨d1, k1, k2, k3, k4, k5⟩ := hJt (t - 1) (by omega)
  have hlt1 : J (t - 1) < J t := by
    have := hmax (t - 1) (by omega)
    have := hne (t - 1) t (by omega) ht (by omega)
    omega
  have e1 : c (t - 1) ∈ gr E (c t) := by
    have h6 := ce (t - 1) (by omega)
    rw [show t - 1 + 1 = t by omega] at h6
    exact (hS _ _).1 h6
  by_cases hw1 : c (t - 1) = b
  · -- the other neighbour
    by_cases htl : t + 1 < L
    · obtain ⟨d2, m1, m2, m3, m4, m5⟩ := hJt (t + 1) htl
      have hlt2 : J (t + 1) < J t := by
        have := hmax (t + 1) htl
        have := hne (t + 1) t htl ht (by omega)
        omega
      have hw2 : c (t + 1) ≠ b := fun e => by
        have := cd (t - 1) (t + 1) (by omega) htl (by rw [hw1, e])
        omega
      have := hJ (J t) (J (t + 1)) b (c t) d (c (t + 1)) d2 h1 hb h3 hlt2 m2 m3 (ce t ht) hw2
      omega
    · have etl : t + 1 = L := by omega
      obtain ⟨d2, m1, m2, m3, m4, m5⟩ := hJt 0 (by omega)
      have hlt2 : J 0 < J t := by
        have := hmax 0 (by omega)
        have := hne 0 t (by omega) ht (by omega)
        omega
      have e2 := ce t ht
      rw [etl, cL, ← c0] at e2
      have hw2 : c 0 ≠ b := fun e => by
        have := cd (t - 1) 0 (by omega) (by omega) (by rw [hw1, e])
        omega
      have := hJ (J t) (J 0) b (c t) d (c 0) d2 h1 hb h3 hlt2 m2 m3 e2 hw2
      omega
  · have := hJ (J t) (J (t - 1)) b (c t) d (c (t - 1)) d1 h1 hb h3 hlt1 k2 k3 e1 hw1
    omega
/-- A cycle, gone around from any of its vertices. -/
theorem IsCyc.around {E : List (List Nat)} {l : List Nat} (h : IsCyc E l) (h3 : 3 ≤ l.length) {s a : Nat} (hs : l[s]? = some a) :
    ∃ c : Nat → Nat, c 0 = a ∧ c l.length = a ∧ (∀ t, t < l.length → c (t + 1) ∈ gr E (c t)) ∧ ∀ t u, t < l.length → u < l.length → c t = c u → t = u := by
  have hsl := some_lt hs
  have hat : ∀ t, l[(s + t) % l.length]? = some (l.getD ((s + t) % l.length) 0) := fun t => by
    have : (s + t) % l.length < l.length := Nat.mod_lt _ (by omega)
    simp [List.getD, List.getElem?_eq_getElem this]
  refine ⟨fun t => l.getD ((s + t) % l.length) 0, ?_, ?_, fun t ht => ?_, fun t u ht hu e => ?_⟩
  · show l.getD ((s + 0) % l.length) 0 = a
    rw [Nat.add_zero, Nat.mod_eq_of_lt hsl]
    simp [List.getD, hs]
  · show l.getD ((s + l.length) % l.length) 0 = a
    rw [Nat.add_mod_right, Nat.mod_eq_of_lt hsl]
    simp [List.getD, hs]
  · refine h.adj (by omega) ((s + t) % l.length) _ _ (hat t) ?_
    have e : ((s + t) % l.length + 1) % l.length = (s + (t + 1)) % l.length := by rw [Nat.mod_add_mod]; rfl
    rw [e]
    exact hat (t + 1)
  · have h1 := hat t
    have h2 := hat u
    have e' : l.getD ((s + t) % l.length) 0 = l.getD ((s + u) % l.length) 0 := e
    rw [e'] at h1
    have h4 := h.nodup _ _ _ h1 h2
    have m1 : (s + t) % l.length = if s + t < l.length then s + t else s + t - l.length := by
      split
      · exact Nat.mod_eq_of_lt (by assumption)
      · rw [Nat.mod_eq_sub_mod (by omega), Nat.mod_eq_of_lt (by omega)]
    have m2 : (s + u) % l.length = if s + u < l.length then s + u else s + u - l.length := by
      split
      · exact Nat.mod_eq_of_lt (by assumption)
      · rw [Nat.mod_eq_sub_mod (by omega), Nat.mod_eq_of_lt (by omega)]
    rw [m1, m2] at h4
    split at h4 <;> split at h4 <;> omega
end Go.Proofs.YtpkjdnplmgfbbaaDoor

namespace Go.Proofs.YtpkjdnplmgfbbaaDoor

theorem addOne_takeP {v x k : Nat} {s : Bs} (hk : k ≤ s.q.length) : (addOne v s x).q.take k = s.q.take k ∧ k ≤ (addOne v s x).q.length := by
  unfold addOne
  split
  · exact ⟨rfl, hk⟩
  · exact ⟨List.take_append_of_le_length hk, by simp; omega⟩
theorem addAll_takeP {v k : Nat} (l : List Nat) {s : Bs} (hk : k ≤ s.q.length) : (addAll v s l).q.take k = s.q.take k ∧ k ≤ (addAll v s l).q.length := by
  induction l generalizing s with
  | nil => exact ⟨rfl, hk⟩
  | cons x r ih =>
    obtain ⟨h1, h2⟩ := addOne_takeP (v := v) (x := x) hk
    obtain ⟨h3, h4⟩ := ih h2
    exact ⟨h3.trans h1, h4⟩
theorem bs_takeP {E : List (List Nat)} {a k : Nat} {p : Nat × Nat} (h : (bs E a k).q[k]? = some p) : (bs E a (k + 1)).q.take (k + 1) = (bs E a k).q.take k ++ [p] ∧ k + 1 ≤ (bs E a (k + 1)).q.length := by
  rw [bs_succ h]
  obtain ⟨h1, h2⟩ := addAll_takeP (v := p.2) (gr E p.2) (s := bs E a k) (k := k + 1) (some_lt h)
  refine ⟨?_, h2⟩
  rw [h1, List.take_add_one, h]; rfl
theorem bs_prefix {E : List (List Nat)} {a : Nat} : ∀ {k : Nat}, (∀ i, i < k → ∃ p, (bs E a i).q[i]? = some p) → ∀ (i : Nat) p, i < k → (bs E a i).q[i]? = some p → (bs E a k).q[i]? = some p
  | 0, _, i, p, hi, _ => by omega
  | k + 1, hpr, i, p, hi, hp => by
    obtain ⟨pk, hpk⟩ := hpr k (by omega)
    obtain ⟨e, hl⟩ := bs_takeP hpk
    have h1 : ((bs E a (k + 1)).q.take (k + 1))[i]? = (bs E a (k + 1)).q[i]? := by rw [List.getElem?_take, if_pos hi]
    rw [← h1, e]
    have hkl := some_lt hpk
    have hlen : ((bs E a k).q.take k).length = k := by rw [List.length_take]; omega
    by_cases h2 : i < k
    · have := bs_prefix (fun i hi => hpr i (by omega)) i p h2 hp
      rw [List.getElem?_append_left (by omega), List.getElem?_take, if_pos h2, this]
    · obtain rfl : i = k := by omega
      rw [List.getElem?_append_right (by omega), hlen, Nat.sub_self]
      rw [hpk] at hp
      exact hp

/-- The vertices before, behind some visits. -/
def pl (n : Nat) (done : List (Nat × Nat)) : List Int := done.foldl (fun l p => l.set p.2 ((p.1 : Nat) : Int)) (List.replicate n (-1))
theorem pl_snoc (n : Nat) (done : List (Nat × Nat)) (p : Nat × Nat) : pl n (done ++ [p]) = (pl n done).set p.2 ((p.1 : Nat) : Int) := by simp [pl]
theorem pl_length (n : Nat) (done : List (Nat × Nat)) : (pl n done).length = n := by
  unfold pl
  have : ∀ l : List Int, (done.foldl (fun l p => l.set p.2 ((p.1 : Nat) : Int)) l).length = l.length := by
    induction done with
    | nil => intro l; rfl
    | cons p r ih => intro l; rw [List.foldl_cons, ih, List.length_set]
  rw [this]; simp
theorem pl_at {E : List (List Nat)} {a k : Nat} {pre : List Nat} {s : Bs} {dep : List Nat} (h : Srch E a k pre s dep) : ∀ j, j ≤ s.q.length → ∀ i p, i < j → s.q[i]? = some p → (pl E.length (s.q.take j)).getD p.2 0 = (p.1 : Nat)
  | 0, _, i, p, hi, _ => by omega
  | j + 1, hj, i, p, hi, hp => by
    obtain ⟨pj, hpj⟩ : ∃ p, s.q[j]? = some p := ⟨_, List.getElem?_eq_getElem (by omega)⟩
    have e : s.q.take (j + 1) = s.q.take j ++ [pj] := by rw [List.take_add_one, hpj]; rfl
    rw [e, pl_snoc, getD_set]
    by_cases h1 : i < j
    · rw [if_neg (fun h2 => by
        have := h.nodup i j p.2 (by rw [hp]; rfl) (by rw [hpj, ← h2.1]; rfl)
        omega)]
      exact pl_at h j (by omega) i p h1 hp
    · obtain rfl : i = j := by omega
      rw [hp] at hpj
      injection hpj with hpj
      subst hpj
      rw [if_pos ⟨rfl, by rw [pl_length]; exact h.small i p hp⟩]

/-- What holds when the k-th vertex is visited, of the distances D and the vertices before R. -/
structure Vst (E : List (List Nat)) (a : Nat) (done : List (Nat × Nat)) (p : Nat × Nat) (D R : Nat → Int) (P : Nat → Prop) (par far : Nat → Nat) : Prop where
  tree : Tree E a P par far
  has : ∀ v, v < E.length → (P v ↔ 0 ≤ D v)
  lt : ∀ v, P v → v < E.length
  farD : ∀ v, P v → D v = (far v : Nat)
  parR : ∀ v, P v → R v = (par v : Nat)
  root : par a = a
  me : P p.2
  my : par p.2 = p.1
  leaf : ∀ w, P w → par w = p.2 → w = p.2
  mem : ∀ v, P v ↔ ∃ i : Nat, ((done ++ [p])[i]?).map Prod.snd = some v

theorem vst_of {E : List (List Nat)} (hE : Valid E) {a k : Nat} (ha : a < E.length) (hpr : ∀ i, i < k → ∃ p, (bs E a i).q[i]? = some p) {p : Nat × Nat} (hp : (bs E a k).q[k]? = some p) :
    ∃ P par far, Vst E a ((bs E a k).q.take k) p (fun v => (dl E.length a ((bs E a k).q.take k ++ [p])).getD v 0) (fun v => (pl E.length ((bs E a k).q.take k ++ [p])).getD v 0) P par far := by
  obtain ⟨dep, h⟩ := bs_inv hE ha k hpr
  have hkl := some_lt hp
  have e : (bs E a k).q.take (k + 1) = (bs E a k).q.take k ++ [p] := by rw [List.take_add_one, hp]; rfl
  obtain ⟨h1, h2⟩ := dl_at h ha (k + 1) (by omega)
  have h3 := pl_at h (k + 1) (by omega)
  rw [e] at h1 h2 h3
  have hdep : ∀ i, i < k + 1 → ∃ d, dep[i]? = some d := fun i hi => ⟨_, List.getElem?_eq_getElem (by rw [h.dlen]; omega)⟩
  have hq : ∀ i, i < k + 1 → ∃ p, (bs E a k).q[i]? = some p := fun i hi => ⟨_, List.getElem?_eq_getElem (by omega)⟩
  have hmem : ∀ v, (∃ i : Nat, i < k + 1 ∧ ((bs E a k).q[i]?).map Prod.snd = some v) ↔ ∃ i : Nat, (((bs E a k).q.take k ++ [p])[i]?).map Prod.snd = some v := fun v => by
    rw [← e]
    constructor
    · rintro ⟨i, hi, hv⟩
      exact ⟨i, by rw [List.getElem?_take, if_pos hi]; exact hv⟩
    · rintro ⟨i, hv⟩
      rw [List.getElem?_take] at hv
      split at hv
      · rename_i hi; exact ⟨i, hi, hv⟩
      · cases hv
  have hD : ∀ i p' d, i < k + 1 → (bs E a k).q[i]? = some p' → dep[i]? = some d → (dl E.length a ((bs E a k).q.take k ++ [p])).getD p'.2 0 = d := fun i p' d hi hp' hd => h1 i d p' hi hp' hd
  have hedge : ∀ i p', 0 < i → i < k + 1 → (bs E a k).q[i]? = some p' → p'.2 ∈ gr E p'.1 := fun i p' hi hik hp' => by
    have key : ∃ p2, (bs E a i).q[i]? = some p2 ∧ p2 = p' := by
      rcases Nat.lt_or_ge i k with h4 | h4
      · obtain ⟨p2, hp2⟩ := hpr i h4
        have := bs_prefix hpr i p2 h4 hp2
        rw [hp'] at this
        injection this with this
        exact ⟨p2, hp2, this.symm⟩
      · obtain rfl : i = k := by omega
        exact ⟨p', hp', rfl⟩
    obtain ⟨p2, hp2, rfl⟩ := key
    obtain ⟨_, _, h5⟩ := bs_next hE ha (fun j hj => hpr j (by omega)) hp2
    rcases h5 with ⟨h5, _⟩ | ⟨_, h5, _⟩
    · omega
    · exact h5
  have hroot : (bs E a k).q[0]? = some (a, a) := h.first
  refine ⟨fun v => ∃ i : Nat, i < k + 1 ∧ ((bs E a k).q[i]?).map Prod.snd = some v, fun v => ((pl E.length ((bs E a k).q.take k ++ [p])).getD v 0).toNat, fun v => ((dl E.length a ((bs E a k).q.take k ++ [p])).getD v 0).toNat, ⟨⟨⟨0, by omega, by rw [hroot]; rfl⟩, ?_, ?_⟩, ?_, ?_, ?_, ?_, ?_, ⟨k, by omega, by rw [hp]; rfl⟩, ?_, ?_, fun v => hmem v⟩⟩
  · have := hD 0 (a, a) 0 (by omega) hroot h.d0
    show ((dl E.length a ((bs E a k).q.take k ++ [p])).getD a 0).toNat = 0
    rw [this]; rfl
  · rintro v ⟨i, hi, hv⟩ hne
    obtain ⟨b, hb⟩ := snd_some hv
    obtain ⟨d, hd⟩ := hdep i hi
    have hi0 : 0 < i := by
      rcases Nat.eq_zero_or_pos i with h4 | h4
      · subst h4; rw [hroot] at hb; cases hb; exact absurd rfl hne
      · exact h4
    obtain ⟨j, dj, hj, hjk, hj2, hdj, hdd⟩ := h.par i (b, v) d hi0 hb hd
    obtain ⟨b', hb'⟩ := snd_some hj2
    have e1 := h3 i (b, v) hi hb
    have e2 := hD i (b, v) d hi hb hd
    have e3 := hD j (b', b) dj (by omega) hb' hdj
    have e4 : ((pl E.length ((bs E a k).q.take k ++ [p])).getD v 0).toNat = b := by rw [e1]; rfl
    show (∃ i : Nat, i < k + 1 ∧ ((bs E a k).q[i]?).map Prod.snd = some ((pl E.length ((bs E a k).q.take k ++ [p])).getD v 0).toNat) ∧ ((dl E.length a ((bs E a k).q.take k ++ [p])).getD v 0).toNat = ((dl E.length a ((bs E a k).q.take k ++ [p])).getD ((pl E.length ((bs E a k).q.take k ++ [p])).getD v 0).toNat 0).toNat + 1 ∧ v ∈ gr E ((pl E.length ((bs E a k).q.take k ++ [p])).getD v 0).toNat
    rw [e4]
    refine ⟨⟨j, by omega, hj2⟩, ?_, hedge i (b, v) hi0 hi hb⟩
    have e5 : (dl E.length a ((bs E a k).q.take k ++ [p])).getD v 0 = d := e2
    have e6 : (dl E.length a ((bs E a k).q.take k ++ [p])).getD b 0 = dj := e3
    rw [e5, e6]
    omega
  · intro v hv
    constructor
    · rintro ⟨i, hi, hv2⟩
      obtain ⟨b, hb⟩ := snd_some hv2
      obtain ⟨d, hd⟩ := hdep i hi
      have := hD i (b, v) d hi hb hd
      show (0 : Int) ≤ (dl E.length a ((bs E a k).q.take k ++ [p])).getD v 0
      have e5 : (dl E.length a ((bs E a k).q.take k ++ [p])).getD v 0 = d := this
      rw [e5]; omega
    · intro h4
      apply Classical.byContradiction
      intro h5
      have := h2 v hv (fun i hi he => h5 ⟨i, hi, he⟩)
      have h4' : (0 : Int) ≤ (dl E.length a ((bs E a k).q.take k ++ [p])).getD v 0 := h4
      rw [this] at h4'
      omega
  · rintro v ⟨i, hi, hv2⟩
    obtain ⟨b, hb⟩ := snd_some hv2
    exact h.small i _ hb
  · rintro v ⟨i, hi, hv2⟩
    obtain ⟨b, hb⟩ := snd_some hv2
    obtain ⟨d, hd⟩ := hdep i hi
    have e5 : (dl E.length a ((bs E a k).q.take k ++ [p])).getD v 0 = d := hD i (b, v) d hi hb hd
    show (dl E.length a ((bs E a k).q.take k ++ [p])).getD v 0 = (((dl E.length a ((bs E a k).q.take k ++ [p])).getD v 0).toNat : Nat)
    rw [e5]; rfl
  · rintro v ⟨i, hi, hv2⟩
    obtain ⟨b, hb⟩ := snd_some hv2
    have e1 : (pl E.length ((bs E a k).q.take k ++ [p])).getD v 0 = b := h3 i (b, v) hi hb
    show (pl E.length ((bs E a k).q.take k ++ [p])).getD v 0 = (((pl E.length ((bs E a k).q.take k ++ [p])).getD v 0).toNat : Nat)
    rw [e1]; rfl
  · have e1 : (pl E.length ((bs E a k).q.take k ++ [p])).getD a 0 = a := h3 0 (a, a) (by omega) hroot
    show ((pl E.length ((bs E a k).q.take k ++ [p])).getD a 0).toNat = a
    rw [e1]; rfl
  · have e1 : (pl E.length ((bs E a k).q.take k ++ [p])).getD p.2 0 = p.1 := h3 k p (by omega) hp
    show ((pl E.length ((bs E a k).q.take k ++ [p])).getD p.2 0).toNat = p.1
    rw [e1]; rfl
  · rintro w ⟨i, hi, hw⟩ hpw
    obtain ⟨b, hb⟩ := snd_some hw
    have e1 : (pl E.length ((bs E a k).q.take k ++ [p])).getD w 0 = b := h3 i (b, w) hi hb
    have hpw' : ((pl E.length ((bs E a k).q.take k ++ [p])).getD w 0).toNat = p.2 := hpw
    rw [e1] at hpw'
    have hbp : b = p.2 := by simpa using hpw'
    rcases Nat.eq_zero_or_pos i with h4 | h4
    · subst h4
      rw [hroot] at hb
      cases hb
      exact hbp
    · obtain ⟨d, hd⟩ := hdep i hi
      obtain ⟨j, dj, hj, hjk, hj2, _⟩ := h.par i (b, w) d h4 hb hd
      rw [hbp] at hj2
      have := h.nodup j k p.2 hj2 (by rw [hp]; rfl)
      omega

/-- The cycle of two neighbours has at least three vertices. -/
theorem Vst.three {E : List (List Nat)} {a : Nat} {done : List (Nat × Nat)} {p : Nat × Nat} {D R : Nat → Int} {P : Nat → Prop} {par far : Nat → Nat} (h : Vst E a done p D R P par far) (hs : ∀ v, v ∉ gr E v) {w x y : Nat} (hw : P w) (he : w ∈ gr E p.2) (hb : w ≠ p.1)
    (hm : an par p.2 x = an par w y) : 3 ≤ x + y + 1 := by
  apply Classical.byContradiction
  intro hlt
  have hne : w ≠ p.2 := fun e => hs p.2 (by rw [e] at he; exact he)
  by_cases h0 : x = 0
  · subst h0
    by_cases h1 : y = 0
    · subst h1
      exact hne hm.symm
    · obtain rfl : y = 1 := by omega
      exact hne (h.leaf w hw hm.symm)
  · obtain rfl : x = 1 := by omega
    obtain rfl : y = 0 := by omega
    have hm' : par p.2 = w := hm
    rw [h.my] at hm'
    exact hb hm'.symm

/-- What was told of the visits so far bounds the cycles. -/
def ToldD (E : List (List Nat)) (done : List (Nat × Nat)) (D : Nat → Int) (m : Nat) : Prop :=
  ∀ (j i b v w : Nat), done[j]? = some (b, v) → i < j → (done[i]?).map Prod.snd = some w → w ∈ gr E v → w ≠ b → (m : Int) ≤ D v + D w + 1
theorem ToldD.nil (E : List (List Nat)) (D : Nat → Int) (m : Nat) : ToldD E [] D m := fun j i b v w h => by simp at h
theorem ToldD.less {E : List (List Nat)} {done : List (Nat × Nat)} {D : Nat → Int} {m m' : Nat} (h : ToldD E done D m) (hm : m' ≤ m) : ToldD E done D m' := fun j i b v w h1 h2 h3 h4 h5 => by
  have := h j i b v w h1 h2 h3 h4 h5
  omega
theorem ToldD.same {E : List (List Nat)} {done : List (Nat × Nat)} {D D' : Nat → Int} {m : Nat} (h : ToldD E done D m) (hD : ∀ i v : Nat, (done[i]?).map Prod.snd = some v → D' v = D v) : ToldD E done D' m := fun j i b v w h1 h2 h3 h4 h5 => by
  rw [hD j v (by rw [h1]; rfl), hD i w h3]
  exact h j i b v w h1 h2 h3 h4 h5
theorem ToldD.snoc {E : List (List Nat)} {done : List (Nat × Nat)} {p : Nat × Nat} {D : Nat → Int} {m : Nat} (h : ToldD E done D m) (hp : ∀ i w : Nat, (done[i]?).map Prod.snd = some w → w ∈ gr E p.2 → w ≠ p.1 → (m : Int) ≤ D p.2 + D w + 1) : ToldD E (done ++ [p]) D m := fun j i b v w h1 h2 h3 h4 h5 => by
  rcases getElem?_snoc_cases h1 with ⟨hj, h6⟩ | ⟨hj, h6⟩
  · rw [List.getElem?_append_left (by omega)] at h3
    exact h j i b v w h6 h2 h3 h4 h5
  · rw [List.getElem?_append_left (by omega)] at h3
    have e1 : v = p.2 := by rw [← h6]
    have e2 : b = p.1 := by rw [← h6]
    rw [e1] at h4 ⊢
    rw [e2] at h5
    exact hp i w h3 h4 h5
/-- The distances of those visited before do not change. -/
theorem dl_same {E : List (List Nat)} (hE : Valid E) {a k : Nat} (ha : a < E.length) (hpr : ∀ i, i < k → ∃ p, (bs E a i).q[i]? = some p) {p : Nat × Nat} (hp : (bs E a k).q[k]? = some p) (i v : Nat) (hv : (((bs E a k).q.take k)[i]?).map Prod.snd = some v) :
    (dl E.length a ((bs E a k).q.take k ++ [p])).getD v 0 = (dl E.length a ((bs E a k).q.take k)).getD v 0 := by
  obtain ⟨dep, h⟩ := bs_inv hE ha k hpr
  have hkl := some_lt hp
  have e : (bs E a k).q.take (k + 1) = (bs E a k).q.take k ++ [p] := by rw [List.take_add_one, hp]; rfl
  obtain ⟨h1, _⟩ := dl_at h ha (k + 1) (by omega)
  obtain ⟨h2, _⟩ := dl_at h ha k (by omega)
  obtain ⟨b, hb⟩ := snd_some hv
  rw [List.getElem?_take] at hb
  split at hb
  · rename_i hi
    obtain ⟨d, hd⟩ : ∃ d, dep[i]? = some d := ⟨_, List.getElem?_eq_getElem (by rw [h.dlen]; omega)⟩
    rw [← e]
    exact (h1 i d (b, v) (by omega) hb hd).trans (h2 i d (b, v) hi hb hd).symm
  · cases hb

/-- When the search is at its end, or so far from its start that no shorter cycle is left, each cycle through its start has been told. -/
theorem told_all {E : List (List Nat)} (hE : Valid E) (hS : Sym E) {a k m : Nat} (ha : a < E.length) (hpr : ∀ i, i < k → ∃ p, (bs E a i).q[i]? = some p) (hT : ToldD E ((bs E a k).q.take k) (fun v => (dl E.length a ((bs E a k).q.take k)).getD v 0) m)
    (hend : (bs E a k).q.length = k ∨ ∃ p, (bs E a k).q[k]? = some p ∧ (m : Int) ≤ 2 * (dl E.length a ((bs E a k).q.take k ++ [p])).getD p.2 0) {l : List Nat} (hl : IsCyc E l) (h3 : 3 ≤ l.length) (hal : a ∈ l) : m ≤ l.length := by
  obtain ⟨dep, h⟩ := bs_inv hE ha k hpr
  obtain ⟨s, hs⟩ := List.mem_iff_getElem?.1 hal
  obtain ⟨c, c0, cL, ce, cd⟩ := hl.around h3 hs
  have hkq : k ≤ (bs E a k).q.length := by
    rcases Nat.eq_zero_or_pos k with h0 | h0
    · omega
    · obtain ⟨p, hp⟩ := hpr (k - 1) (by omega)
      have := (bs_takeP hp).2
      rw [show k - 1 + 1 = k by omega] at this
      exact this
  obtain ⟨h1, _⟩ := dl_at h ha k hkq
  refine cyc_key hS h (fun j i b v d w e hj hjq hjd hi hw hie hwv hwb => ?_) ?_ h3 c0 cL ce cd
  · have e1 := h1 j d (b, v) hj hjq hjd
    obtain ⟨b', hb'⟩ := snd_some hw
    have e2 := h1 i e (b', w) (by omega) hb' hie
    have := hT j i b v w (by rw [List.getElem?_take, if_pos hj]; exact hjq) hi (by rw [List.getElem?_take, if_pos (by omega)]; exact hw) hwv hwb
    have e1' : (dl E.length a ((bs E a k).q.take k)).getD v 0 = d := e1
    have e2' : (dl E.length a ((bs E a k).q.take k)).getD w 0 = e := e2
    simp only [e1', e2'] at this
    omega
  · rcases hend with h4 | ⟨p, hp, h4⟩
    · exact .inl h4
    · obtain ⟨d, hd⟩ : ∃ d, dep[k]? = some d := ⟨_, List.getElem?_eq_getElem (by rw [h.dlen]; exact some_lt hp)⟩
      have e : (bs E a k).q.take (k + 1) = (bs E a k).q.take k ++ [p] := by rw [List.take_add_one, hp]; rfl
      obtain ⟨h5, _⟩ := dl_at h ha (k + 1) (some_lt hp)
      have e1 := h5 k d p (by omega) hp hd
      rw [e] at e1
      rw [e1] at h4
      exact .inr ⟨d, hd, by omega⟩

/-- The best cycle so far: none, or one that is shorter than asked. -/
def Bst (E : List (List Nat)) (m0 : Nat) : Option (List Nat) → Nat → Prop
  | none, m => m = m0
  | some l, m => IsCyc E l ∧ 3 ≤ l.length ∧ l.length = m ∧ m < m0
theorem Bst.less {E : List (List Nat)} {m0 m : Nat} {b : Option (List Nat)} (h : Bst E m0 b m) : m ≤ m0 := by
  cases b with
  | none => exact Nat.le_of_eq h
  | some l => exact Nat.le_of_lt h.2.2.2
theorem Bst.trans {E : List (List Nat)} {m0 m m' : Nat} {b b' : Option (List Nat)} (h : Bst E m0 b m) (h' : Bst E m b' m') : Bst E m0 (b'.or b) m' := by
  cases b' with
  | none =>
    have e : m' = m := h'
    subst e
    simpa using h
  | some l => exact ⟨h'.1, h'.2.1, h'.2.2.1, Nat.lt_of_lt_of_le h'.2.2.2 h.less⟩

theorem IsCyc.lt {E : List (List Nat)} (hE : Valid E) {l : List Nat} (h : IsCyc E l) : ∀ x ∈ l, x < E.length := by
  intro x hx
  obtain ⟨i, hi⟩ := List.mem_iff_getElem?.1 hx
  have hil := some_lt hi
  by_cases h2 : l.length = 2
  · obtain ⟨u, hu⟩ : ∃ u, l[0]? = some u := ⟨_, List.getElem?_eq_getElem (by omega)⟩
    obtain ⟨v, hv⟩ : ∃ v, l[1]? = some v := ⟨_, List.getElem?_eq_getElem (by omega)⟩
    have hm : v ∈ gr E u := List.count_pos_iff.1 (by have := h.two h2 u v hu hv; omega)
    have hul := gr_mem hm
    have hvl := hE u hul v hm
    have h3 : i = 0 ∨ i = 1 := by omega
    rcases h3 with rfl | rfl
    · rw [hu] at hi; cases hi; exact hul
    · rw [hv] at hi; cases hi; exact hvl
  · obtain ⟨y, hy⟩ : ∃ y, l[(i + 1) % l.length]? = some y := ⟨_, List.getElem?_eq_getElem (Nat.mod_lt _ h.pos)⟩
    exact gr_mem (h.adj h2 i x y hi hy)
theorem nodup_of {l : List Nat} (h : ∀ i j x : Nat, l[i]? = some x → l[j]? = some x → i = j) : l.Nodup := by
  rw [List.nodup_iff_pairwise_ne, List.pairwise_iff_getElem]
  intro i j hi hj hij e
  have := h i j l[i] (List.getElem?_eq_getElem hi) (by rw [e]; exact List.getElem?_eq_getElem hj)
  omega
theorem IsCyc.le {E : List (List Nat)} (hE : Valid E) {l : List Nat} (h : IsCyc E l) : l.length ≤ E.length := pigeon _ l (nodup_of h.nodup) (h.lt hE)
/-- Without loops and repeated edges. -/
def Smp (E : List (List Nat)) : Prop := (∀ v, v ∉ gr E v) ∧ ∀ u v, (gr E u).count v ≤ 1
theorem IsCyc.loop {E : List (List Nat)} {l : List Nat} (h : IsCyc E l) (h1 : l.length = 1) : ∃ v, v ∈ gr E v := by
  obtain ⟨x, hx⟩ : ∃ x, l[0]? = some x := ⟨_, List.getElem?_eq_getElem (by omega)⟩
  exact ⟨x, h.adj (by omega) 0 x x hx (by rw [h1]; exact hx)⟩
theorem IsCyc.three {E : List (List Nat)} (hs : Smp E) {l : List Nat} (h : IsCyc E l) : 3 ≤ l.length := by
  have h0 := h.pos
  by_cases h1 : l.length = 1
  · obtain ⟨v, hv⟩ := h.loop h1
    exact absurd hv (hs.1 v)
  · by_cases h2 : l.length = 2
    · obtain ⟨u, hu⟩ : ∃ u, l[0]? = some u := ⟨_, List.getElem?_eq_getElem (by omega)⟩
      obtain ⟨v, hv⟩ : ∃ v, l[1]? = some v := ⟨_, List.getElem?_eq_getElem (by omega)⟩
      have := h.two h2 u v hu hv
      have := hs.2 u v
      omega
    · omega
/-- A loop is a cycle. -/
theorem isCyc_one {E : List (List Nat)} {v : Nat} (h : v ∈ gr E v) : IsCyc E [v] := by
  refine ⟨by simp, fun i j x hi hj => ?_, fun h2 => by simp at h2, fun _ i x y hi hj => ?_⟩
  · have := some_lt hi; have := some_lt hj; simp at *; omega
  · have hi1 := some_lt hi
    simp at hi1
    subst hi1
    simp at hi hj
    subst hi hj
    exact h
/-- A repeated edge is a cycle. -/
theorem isCyc_pair {E : List (List Nat)} {u v : Nat} (hne : u ≠ v) (h : 2 ≤ (gr E u).count v) : IsCyc E [u, v] := by
  refine ⟨by simp, fun i j x hi hj => ?_, fun _ x y hx hy => ?_, fun h2 => absurd rfl h2⟩
  · have h1 := some_lt hi; have h2 := some_lt hj
    simp at h1 h2
    have e1 : i = 0 ∨ i = 1 := by omega
    have e2 : j = 0 ∨ j = 1 := by omega
    rcases e1 with rfl | rfl <;> rcases e2 with rfl | rfl <;> simp at hi hj <;> omega
  · simp at hx hy
    subst hx hy
    exact h
/-- A cycle, and no shorter one. -/
def Bes (E : List (List Nat)) (l : List Nat) : Prop := IsCyc E l ∧ ∀ l', IsCyc E l' → l.length ≤ l'.length
/-- What is said of the shortest cycle. -/
def GirS (E : List (List Nat)) : Option (List Nat) → Prop
  | none => ∀ l, ¬ IsCyc E l
  | some l => Bes E l
theorem girS_one {E : List (List Nat)} {v : Nat} (h : v ∈ gr E v) : GirS E (some [v]) := ⟨isCyc_one h, fun _ hl => hl.pos⟩
theorem girS_pair {E : List (List Nat)} {u v : Nat} (hl : ∀ v, v ∉ gr E v) (h : 2 ≤ (gr E u).count v) : GirS E (some [u, v]) := by
  have hm : v ∈ gr E u := List.count_pos_iff.1 (by omega)
  refine ⟨isCyc_pair (fun e => hl u (by rw [← e] at hm; exact hm)) h, fun l' hl' => ?_⟩
  have h0 := hl'.pos
  by_cases h1 : l'.length = 1
  · obtain ⟨v, hv⟩ := hl'.loop h1
    exact absurd hv (hl v)
  · show 2 ≤ l'.length
    omega
theorem girS_all {E : List (List Nat)} (hE : Valid E) (hs : Smp E) {b : Option (List Nat)} {m : Nat} (hb : Bst E (E.length + 1) b m) (h : ∀ a, a < E.length → ∀ l, IsCyc E l → 3 ≤ l.length → a ∈ l → m ≤ l.length) : GirS E b := by
  have key : ∀ l, IsCyc E l → m ≤ l.length := fun l hl => by
    obtain ⟨x, hx⟩ : ∃ x, l[0]? = some x := ⟨_, List.getElem?_eq_getElem hl.pos⟩
    have hxl := List.mem_of_getElem? hx
    exact h x (hl.lt hE x hxl) l hl (hl.three hs) hxl
  cases b with
  | none =>
    intro l hl
    have h1 := key l hl
    have h2 := hl.le hE
    have h3 : m = E.length + 1 := hb
    omega
  | some l =>
    exact ⟨hb.1, fun l' hl' => by rw [hb.2.2.1]; exact key l' hl'⟩

/-- There is a cycle of n vertices. -/
def HasCyc (E : List (List Nat)) (n : Nat) : Prop := ∃ l, IsCyc E l ∧ l.length = n
/-- The least length of a cycle, and the error. -/
def GirN (E : List (List Nat)) (m h : Nat) : Prop := (h = 0 ∧ HasCyc E m ∧ ∀ k, k < m → ¬ HasCyc E k) ∨ (h = 12 ∧ m = 0 ∧ ∀ k, ¬ HasCyc E k)
theorem GirN.none {E : List (List Nat)} {m h : Nat} (hn : GirN E m h) (hg : GirS E .none) : m = 0 ∧ h = 12 := by
  rcases hn with ⟨_, ⟨l, hl, _⟩, _⟩ | ⟨h1, h2, _⟩
  · exact absurd hl (hg l)
  · exact ⟨h2, h1⟩
theorem GirN.some {E : List (List Nat)} {m h : Nat} {l : List Nat} (hn : GirN E m h) (hg : GirS E (.some l)) : m = l.length ∧ h = 0 := by
  rcases hn with ⟨h0, ⟨l', hl', e⟩, hm⟩ | ⟨_, _, h3⟩
  · have h1 := hg.2 l' hl'
    rcases Nat.lt_or_ge l.length m with h2 | h2
    · exact absurd ⟨l, hg.1, rfl⟩ (hm _ h2)
    · exact ⟨by omega, h0⟩
  · exact absurd ⟨l, hg.1, rfl⟩ (h3 l.length)
end Go.Proofs.YtpkjdnplmgfbbaaDoor
