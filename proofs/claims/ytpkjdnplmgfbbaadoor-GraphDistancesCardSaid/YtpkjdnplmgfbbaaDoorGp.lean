/- Plain graphs: walks, the search that graph.search makes, distances. No program in sight. -/
import Derived.Lib.Hide
namespace Go.Proofs.YtpkjdnplmgfbbaaDoor

/-- The neighbours of a vertex. -/
def gr (E : List (List Nat)) (v : Nat) : List Nat := E.getD v []

/-- All neighbours are vertices. -/
def Valid (E : List (List Nat)) : Prop := ∀ v, v < E.length → ∀ x ∈ gr E v, x < E.length

/-- There is a walk of length m from u to v. -/
def Wk (E : List (List Nat)) (u : Nat) : Nat → Nat → Prop
  | 0, v => v = u
  | m + 1, v => ∃ z, Wk E u m z ∧ v ∈ gr E z

theorem gr_ge {E : List (List Nat)} {v : Nat} (h : E.length ≤ v) : gr E v = [] := by simp [gr, List.getD, List.getElem?_eq_none h]
theorem gr_lt {E : List (List Nat)} {v : Nat} (h : v < E.length) : E[v]? = some (gr E v) := by simp [gr, List.getD, List.getElem?_eq_getElem h]
theorem gr_mem {E : List (List Nat)} {v x : Nat} (h : x ∈ gr E v) : v < E.length := by
  rcases Nat.lt_or_ge v E.length with h1 | h1
  · exact h1
  · rw [gr_ge h1] at h; cases h
theorem Wk.lt {E : List (List Nat)} (hE : Valid E) {u : Nat} (hu : u < E.length) {m v : Nat} (h : Wk E u m v) : v < E.length := by
  cases m with
  | zero => have : v = u := h; omega
  | succ m => obtain ⟨z, _, h2⟩ := h; exact hE z (gr_mem h2) v h2

/-- x is the distance from u to v: -1 where there is no walk. -/
def IsDist (E : List (List Nat)) (u v : Nat) (x : Int) : Prop :=
  (x = -1 ∧ ∀ m, ¬ Wk E u m v) ∨ (∃ m : Nat, x = m ∧ Wk E u m v ∧ ∀ j, Wk E u j v → m ≤ j)

theorem IsDist.unique {E : List (List Nat)} {u v : Nat} {x y : Int} (h : IsDist E u v x) (k : IsDist E u v y) : x = y := by
  rcases h with ⟨h1, h2⟩ | ⟨m, h1, h2, h3⟩
  · rcases k with ⟨k1, k2⟩ | ⟨j, k1, k2, k3⟩
    · rw [h1, k1]
    · exact absurd k2 (h2 j)
  · rcases k with ⟨k1, k2⟩ | ⟨j, k1, k2, k3⟩
    · exact absurd h2 (k2 m)
    · have a := h3 j k2
      have b := k3 m h2
      omega

/-- All of a list are distances from u. -/
def IsDists (E : List (List Nat)) (u : Nat) (l : List Int) : Prop := l.length = E.length ∧ ∀ v, v < E.length → IsDist E u v (l.getD v 0)

theorem IsDists.unique {E : List (List Nat)} {u : Nat} {l k : List Int} (h : IsDists E u l) (h' : IsDists E u k) : l = k := by
  apply List.ext_getElem?
  intro i
  rcases Nat.lt_or_ge i E.length with hi | hi
  · have a := (h.2 i hi).unique (h'.2 i hi)
    have e1 : l[i]? = some (l.getD i 0) := by simp [List.getD, List.getElem?_eq_getElem (show i < l.length by rw [h.1]; exact hi)]
    have e2 : k[i]? = some (k.getD i 0) := by simp [List.getD, List.getElem?_eq_getElem (show i < k.length by rw [h'.1]; exact hi)]
    rw [e1, e2, a]
  · rw [List.getElem?_eq_none (by rw [h.1]; exact hi), List.getElem?_eq_none (by rw [h'.1]; exact hi)]

/-- What a search has found: the queue (each vertex with the one before it) and what is seen. -/
structure Bs where
  seen : List Bool
  q : List (Nat × Nat)

def addOne (v : Nat) (s : Bs) (x : Nat) : Bs := if s.seen.getD x false then s else ⟨s.seen.set x true, s.q ++ [(v, x)]⟩
def addAll (v : Nat) (s : Bs) (l : List Nat) : Bs := l.foldl (addOne v) s
def bs (E : List (List Nat)) (a : Nat) : Nat → Bs
  | 0 => ⟨(List.replicate E.length false).set a true, [(a, a)]⟩
  | k + 1 => match (bs E a k).q[k]? with
    | none => bs E a k
    | some p => addAll p.2 (bs E a k) (gr E p.2)

theorem addAll_nil (v : Nat) (s : Bs) : addAll v s [] = s := rfl
theorem addAll_snoc (v : Nat) (s : Bs) (l : List Nat) (x : Nat) : addAll v s (l ++ [x]) = addOne v (addAll v s l) x := by simp [addAll]
theorem bs_succ {E : List (List Nat)} {a k : Nat} {p : Nat × Nat} (h : (bs E a k).q[k]? = some p) : bs E a (k + 1) = addAll p.2 (bs E a k) (gr E p.2) := by
  rw [bs, h]

/-- What holds of a search in which k of the queue have been gone through; in the midst of the next one, those of 'pre' are through. -/
structure Srch (E : List (List Nat)) (a k : Nat) (pre : List Nat) (s : Bs) (dep : List Nat) : Prop where
  len : s.seen.length = E.length
  dlen : dep.length = s.q.length
  seen : ∀ x, x < E.length → (s.seen.getD x false = true ↔ ∃ j : Nat, (s.q[j]?).map Prod.snd = some x)
  nodup : ∀ i j x : Nat, (s.q[i]?).map Prod.snd = some x → (s.q[j]?).map Prod.snd = some x → i = j
  small : ∀ j : Nat, ∀ p, s.q[j]? = some p → p.2 < E.length
  first : s.q[0]? = some (a, a)
  d0 : dep[0]? = some 0
  mono : ∀ i j di dj : Nat, i ≤ j → dep[i]? = some di → dep[j]? = some dj → di ≤ dj
  walk : ∀ j : Nat, ∀ p, ∀ d : Nat, s.q[j]? = some p → dep[j]? = some d → Wk E a d p.2
  par : ∀ j : Nat, ∀ p, ∀ d : Nat, 0 < j → s.q[j]? = some p → dep[j]? = some d → ∃ i di : Nat, i < j ∧ i ≤ k ∧ (s.q[i]?).map Prod.snd = some p.1 ∧ dep[i]? = some di ∧ d = di + 1
  closed : ∀ i : Nat, ∀ p, ∀ di : Nat, i < k → s.q[i]? = some p → dep[i]? = some di → ∀ x ∈ gr E p.2, ∃ j d : Nat, (s.q[j]?).map Prod.snd = some x ∧ dep[j]? = some d ∧ d ≤ di + 1
  part : ∀ p, ∀ dk : Nat, s.q[k]? = some p → dep[k]? = some dk → (∀ j d : Nat, dep[j]? = some d → d ≤ dk + 1) ∧ ∀ x ∈ pre, ∃ j d : Nat, (s.q[j]?).map Prod.snd = some x ∧ dep[j]? = some d ∧ d ≤ dk + 1
  done : s.q[k]? = none → pre = []

theorem Srch.start {E : List (List Nat)} {a : Nat} (ha : a < E.length) : Srch E a 0 [] (bs E a 0) [0] := by
  have hq : ∀ j : Nat, ∀ p, [(a, a)][j]? = some p → j = 0 ∧ p = (a, a) := by
    intro j p h
    cases j with
    | zero => simp at h; exact ⟨rfl, h.symm⟩
    | succ j => simp at h
  have hd : ∀ j d : Nat, [0][j]? = some d → j = 0 ∧ d = 0 := by
    intro j d h
    cases j with
    | zero => simp at h; exact ⟨rfl, h.symm⟩
    | succ j => simp at h
  have hqs : ∀ j x : Nat, ([(a, a)][j]?).map Prod.snd = some x → j = 0 ∧ x = a := by
    intro j x h
    cases j with
    | zero => simp at h; exact ⟨rfl, h.symm⟩
    | succ j => simp at h
  refine ⟨by simp [bs], by simp [bs], ?_, ?_, ?_, by simp [bs], rfl, ?_, ?_, ?_, ?_, ?_, ?_⟩
  · intro x hx
    simp only [bs, List.getD, List.getElem?_set]
    by_cases hxa : a = x
    · subst hxa
      simp only [if_pos trivial, List.length_replicate, if_pos ha, Option.getD_some, true_iff]
      exact ⟨0, rfl⟩
    · rw [if_neg hxa]
      constructor
      · intro h; simp [hx] at h
      · rintro ⟨j, hj⟩; exact absurd (hqs j x hj).2.symm hxa
  · intro i j x hi hj; rw [(hqs i x hi).1, (hqs j x hj).1]
  · intro j p h; rw [(hq j p h).2]; exact ha
  · intro i j di dj _ hi hj; rw [(hd i di hi).2]; omega
  · intro j p d h h'; rw [(hq j p h).2, (hd j d h').2]; rfl
  · intro j p d h0 h; have := (hq j p h).1; omega
  · intro i p di h; omega
  · intro p dk h h'
    refine ⟨fun j d hj => ?_, fun x hx => by cases hx⟩
    rw [(hd j d hj).2]; omega
  · intro h; simp [bs] at h

theorem getElem?_snoc_cases {α : Type} {l : List α} {x y : α} {j : Nat} (h : (l ++ [x])[j]? = some y) : (j < l.length ∧ l[j]? = some y) ∨ (j = l.length ∧ y = x) := by
  rcases Nat.lt_trichotomy j l.length with h1 | h1 | h1
  · rw [List.getElem?_append_left h1] at h; exact .inl ⟨h1, h⟩
  · subst h1; simp at h; exact .inr ⟨rfl, h.symm⟩
  · rw [List.getElem?_eq_none (by simp; omega)] at h; cases h
theorem getElem?_snoc_old {α : Type} {l : List α} {x y : α} {j : Nat} (h : l[j]? = some y) : (l ++ [x])[j]? = some y := by
  have : j < l.length := by
    rcases Nat.lt_or_ge j l.length with h1 | h1
    · exact h1
    · rw [List.getElem?_eq_none h1] at h; cases h
  rw [List.getElem?_append_left this]; exact h
theorem snd_some {l : List (Nat × Nat)} {j x : Nat} (h : (l[j]?).map Prod.snd = some x) : ∃ b, l[j]? = some (b, x) := by
  cases e : l[j]? with
  | none => rw [e] at h; cases h
  | some p => rw [e] at h; simp at h; exact ⟨p.1, by rw [← h]⟩

theorem Srch.add {E : List (List Nat)} {a k : Nat} {pre : List Nat} {s : Bs} {dep : List Nat} (h : Srch E a k pre s dep) {p : Nat × Nat} (hp : s.q[k]? = some p) {x : Nat} (hx : x ∈ gr E p.2) (hxl : x < E.length) :
    ∃ dep', Srch E a k (pre ++ [x]) (addOne p.2 s x) dep' := by
  have hkl : k < s.q.length := by
    rcases Nat.lt_or_ge k s.q.length with h1 | h1
    · exact h1
    · rw [List.getElem?_eq_none h1] at hp; cases hp
  obtain ⟨dk, hdk⟩ : ∃ dk, dep[k]? = some dk := ⟨_, List.getElem?_eq_getElem (by rw [h.dlen]; exact hkl)⟩
  obtain ⟨hpart1, hpart2⟩ := h.part p dk hp hdk
  by_cases hs : s.seen.getD x false = true
  · refine ⟨dep, ?_⟩
    have e : addOne p.2 s x = s := by unfold addOne; rw [if_pos hs]
    rw [e]
    refine { h with part := ?_, done := fun hn => by rw [hp] at hn; cases hn }
    intro p' dk' hp' hdk'
    rw [hdk] at hdk'; cases hdk'
    refine ⟨hpart1, fun y hy => ?_⟩
    rcases List.mem_append.1 hy with hy | hy
    · exact hpart2 y hy
    · have : y = x := by simpa using hy
      subst this
      obtain ⟨j, hj⟩ := (h.seen y hxl).1 hs
      obtain ⟨b, hb⟩ := snd_some hj
      have hjl : j < s.q.length := by
        rcases Nat.lt_or_ge j s.q.length with h1 | h1
        · exact h1
        · rw [List.getElem?_eq_none h1] at hb; cases hb
      obtain ⟨d, hd⟩ : ∃ d, dep[j]? = some d := ⟨_, List.getElem?_eq_getElem (by rw [h.dlen]; exact hjl)⟩
      exact ⟨j, d, hj, hd, hpart1 j d hd⟩
  · refine ⟨dep ++ [dk + 1], ?_⟩
    have e : addOne p.2 s x = ⟨s.seen.set x true, s.q ++ [(p.2, x)]⟩ := by unfold addOne; rw [if_neg hs]
    rw [e]
    have hnew : ∀ j : Nat, (s.q[j]?).map Prod.snd ≠ some x := fun j hj => hs ((h.seen x hxl).2 ⟨j, hj⟩)
    have hold : ∀ j y : Nat, ((s.q ++ [(p.2, x)])[j]?).map Prod.snd = some y → (j < s.q.length ∧ (s.q[j]?).map Prod.snd = some y) ∨ (j = s.q.length ∧ y = x) := by
      intro j y hj
      obtain ⟨b, hb⟩ := snd_some hj
      rcases getElem?_snoc_cases hb with ⟨h1, h2⟩ | ⟨h1, h2⟩
      · exact .inl ⟨h1, by rw [h2]; rfl⟩
      · exact .inr ⟨h1, by cases h2; rfl⟩
    have hlift : ∀ j y : Nat, (s.q[j]?).map Prod.snd = some y → ((s.q ++ [(p.2, x)])[j]?).map Prod.snd = some y := by
      intro j y hj
      obtain ⟨b, hb⟩ := snd_some hj
      rw [getElem?_snoc_old hb]; rfl
    have hdl : s.q.length = dep.length := h.dlen.symm
    refine ⟨by simp [h.len], by simp [h.dlen], ?_, ?_, ?_, getElem?_snoc_old h.first, getElem?_snoc_old h.d0, ?_, ?_, ?_, ?_, ?_, ?_⟩
    · intro y hy
      show (s.seen.set x true).getD y false = true ↔ _
      simp only [List.getD, List.getElem?_set]
      by_cases hxy : x = y
      · subst hxy
        simp only [if_pos trivial, h.len, if_pos hxl, Option.getD_some, true_iff]
        exact ⟨s.q.length, by simp⟩
      · rw [if_neg hxy]
        have := h.seen y hy
        simp only [List.getD] at this
        rw [this]
        constructor
        · rintro ⟨j, hj⟩; exact ⟨j, hlift j y hj⟩
        · rintro ⟨j, hj⟩
          rcases hold j y hj with ⟨_, h2⟩ | ⟨_, h2⟩
          · exact ⟨j, h2⟩
          · exact absurd h2.symm hxy
    · intro i j y hi hj
      rcases hold i y hi with ⟨h1, h2⟩ | ⟨h1, h2⟩ <;> rcases hold j y hj with ⟨h3, h4⟩ | ⟨h3, h4⟩
      · exact h.nodup i j y h2 h4
      · subst h4; exact absurd h2 (hnew i)
      · subst h2; exact absurd h4 (hnew j)
      · omega
    · intro j q hq
      rcases getElem?_snoc_cases hq with ⟨_, h2⟩ | ⟨_, h2⟩
      · exact h.small j q h2
      · rw [h2]; exact hxl
    · intro i j di dj hij hi hj
      rcases getElem?_snoc_cases hi with ⟨h1, h2⟩ | ⟨h1, h2⟩ <;> rcases getElem?_snoc_cases hj with ⟨h3, h4⟩ | ⟨h3, h4⟩
      · exact h.mono i j di dj hij h2 h4
      · have := hpart1 i di h2; omega
      · omega
      · omega
    · intro j q d hq hd
      rcases getElem?_snoc_cases hq with ⟨h1, h2⟩ | ⟨h1, h2⟩ <;> rcases getElem?_snoc_cases hd with ⟨h3, h4⟩ | ⟨h3, h4⟩
      · exact h.walk j q d h2 h4
      · omega
      · omega
      · rw [h2, h4]; exact ⟨p.2, h.walk k p dk hp hdk, hx⟩
    · intro j q d h0 hq hd
      rcases getElem?_snoc_cases hq with ⟨h1, h2⟩ | ⟨h1, h2⟩ <;> rcases getElem?_snoc_cases hd with ⟨h3, h4⟩ | ⟨h3, h4⟩
      · obtain ⟨i, di, a1, a2, a3, a4, a5⟩ := h.par j q d h0 h2 h4
        exact ⟨i, di, a1, a2, hlift _ _ a3, getElem?_snoc_old a4, a5⟩
      · omega
      · omega
      · refine ⟨k, dk, by omega, Nat.le_refl _, ?_, getElem?_snoc_old hdk, h4⟩
        rw [h2]
        exact hlift k p.2 (by rw [hp]; rfl)
    · intro i q di hik hq hdi y hy
      have h2 : s.q[i]? = some q := by
        rcases getElem?_snoc_cases hq with ⟨_, h2⟩ | ⟨h1, _⟩
        · exact h2
        · omega
      have h4 : dep[i]? = some di := by
        rcases getElem?_snoc_cases hdi with ⟨_, h2⟩ | ⟨h1, _⟩
        · exact h2
        · omega
      obtain ⟨j, d, a1, a2, a3⟩ := h.closed i q di hik h2 h4 y hy
      exact ⟨j, d, hlift _ _ a1, getElem?_snoc_old a2, a3⟩
    · intro q dk' hq hdk'
      have h4 : dk' = dk := by
        rcases getElem?_snoc_cases hdk' with ⟨_, h2⟩ | ⟨h1, _⟩
        · rw [hdk] at h2; cases h2; rfl
        · omega
      subst h4
      refine ⟨fun j d hd => ?_, fun y hy => ?_⟩
      · rcases getElem?_snoc_cases hd with ⟨_, h2⟩ | ⟨_, h2⟩
        · exact hpart1 j d h2
        · omega
      · rcases List.mem_append.1 hy with hy | hy
        · obtain ⟨j, d, a1, a2, a3⟩ := hpart2 y hy
          exact ⟨j, d, hlift _ _ a1, getElem?_snoc_old a2, a3⟩
        · have : y = x := by simpa using hy
          subst this
          refine ⟨s.q.length, dk' + 1, by simp, ?_, Nat.le_refl _⟩
          rw [hdl]; simp
    · intro hn
      have := getElem?_snoc_old (x := (p.2, x)) hp
      rw [this] at hn; cases hn

theorem Srch.all {E : List (List Nat)} {a k : Nat} {pre : List Nat} {s : Bs} {dep : List Nat} (h : Srch E a k pre s dep) {p : Nat × Nat} (hp : s.q[k]? = some p) (l : List Nat) (hl : ∀ x ∈ l, x ∈ gr E p.2) (hll : ∀ x ∈ l, x < E.length) :
    ∃ dep', Srch E a k (pre ++ l) (addAll p.2 s l) dep' ∧ (addAll p.2 s l).q[k]? = some p := by
  induction l generalizing s pre dep with
  | nil => exact ⟨dep, by rw [List.append_nil]; exact h, hp⟩
  | cons x r ih =>
    obtain ⟨dep', h'⟩ := h.add hp (hl x (by simp)) (hll x (by simp))
    have hp' : (addOne p.2 s x).q[k]? = some p := by
      unfold addOne
      split
      · exact hp
      · exact getElem?_snoc_old hp
    obtain ⟨dep'', h'', hp''⟩ := ih h' hp' (fun y hy => hl y (by simp [hy])) (fun y hy => hll y (by simp [hy]))
    refine ⟨dep'', ?_, hp''⟩
    rw [List.append_assoc] at h''
    exact h''

theorem Srch.next {E : List (List Nat)} {a k : Nat} {s : Bs} {dep : List Nat} {p : Nat × Nat} (hp : s.q[k]? = some p) (h : Srch E a k (gr E p.2) s dep) : Srch E a (k + 1) [] s dep := by
  have hkl : k < s.q.length := by
    rcases Nat.lt_or_ge k s.q.length with h1 | h1
    · exact h1
    · rw [List.getElem?_eq_none h1] at hp; cases hp
  obtain ⟨dk, hdk⟩ : ∃ dk, dep[k]? = some dk := ⟨_, List.getElem?_eq_getElem (by rw [h.dlen]; exact hkl)⟩
  obtain ⟨hpart1, hpart2⟩ := h.part p dk hp hdk
  refine { h with par := ?_, closed := ?_, part := ?_, done := fun _ => rfl }
  · intro j q d h0 hq hd
    obtain ⟨i, di, a1, a2, a3⟩ := h.par j q d h0 hq hd
    exact ⟨i, di, a1, by omega, a3⟩
  · intro i q di hi hq hdi x hx
    by_cases hik : i = k
    · subst hik
      rw [hp] at hq; cases hq
      rw [hdk] at hdi; cases hdi
      exact hpart2 x hx
    · exact h.closed i q di (by omega) hq hdi x hx
  · intro q dq hq hdq
    refine ⟨fun j d hd => ?_, fun x hx => by cases hx⟩
    have := hpart1 j d hd
    have := h.mono k (k + 1) dk dq (by omega) hdk hdq
    omega

theorem bs_inv {E : List (List Nat)} (hE : Valid E) {a : Nat} (ha : a < E.length) (k : Nat) (hk : ∀ i, i < k → ∃ p, (bs E a i).q[i]? = some p) : ∃ dep, Srch E a k [] (bs E a k) dep := by
  induction k with
  | zero => exact ⟨_, Srch.start ha⟩
  | succ k ih =>
    obtain ⟨dep, h⟩ := ih (fun i hi => hk i (by omega))
    obtain ⟨p, hp⟩ := hk k (by omega)
    rw [bs_succ hp]
    obtain ⟨dep', h', hp'⟩ := h.all hp (gr E p.2) (fun x hx => hx) (fun x hx => hE p.2 (gr_mem hx) x hx)
    rw [List.nil_append] at h'
    exact ⟨dep', Srch.next hp' h'⟩

/-- Different numbers below n are at most n. -/
theorem pigeon (n : Nat) : ∀ l : List Nat, l.Nodup → (∀ x ∈ l, x < n) → l.length ≤ n := by
  induction n with
  | zero => intro l _ h; cases l with
    | nil => simp
    | cons x r => have := h x (by simp); omega
  | succ n ih =>
    intro l hn h
    have h1 : (l.erase n).length ≤ n := by
      refine ih _ (hn.erase n) fun x hx => ?_
      have h2 := h x (List.mem_of_mem_erase hx)
      have h3 : x ≠ n := fun e => by
        subst e
        exact (List.Nodup.not_mem_erase hn) hx
      omega
    have := List.length_erase_le (a := n) (l := l)
    by_cases hm : n ∈ l
    · have := List.length_erase_of_mem hm; omega
    · rw [List.erase_of_not_mem hm] at h1; omega

theorem Srch.qlen {E : List (List Nat)} {a k : Nat} {pre : List Nat} {s : Bs} {dep : List Nat} (h : Srch E a k pre s dep) : s.q.length ≤ E.length := by
  have h1 := pigeon E.length (s.q.map Prod.snd) ?_ ?_
  · simpa using h1
  · refine List.pairwise_iff_getElem.2 fun i j hi hj hij he => ?_
    have hi' : i < s.q.length := by simpa using hi
    have hj' : j < s.q.length := by simpa using hj
    have e1 : s.q[j]? = some s.q[j] := List.getElem?_eq_getElem hj'
    have e2 : s.q[i]? = some s.q[i] := List.getElem?_eq_getElem hi'
    simp only [List.getElem_map] at he
    have := h.nodup i j s.q[j].2 (by rw [e2, ← he]; rfl) (by rw [e1]; rfl)
    omega
  · intro x hx
    obtain ⟨p, hp, rfl⟩ := List.mem_map.1 hx
    obtain ⟨j, hj⟩ := List.getElem?_of_mem hp
    exact h.small j p hj
end Go.Proofs.YtpkjdnplmgfbbaaDoor
