/- Plain graphs: walks, the search that graph.search makes, distances. No program in sight. Plain graphs: what the two ways of finding distances compute. No program in sight. Plain graphs: turned graphs, the first shortest walk, numbers of walks. No program in sight. Graphs in memory: slices of one-cell values, of ints, of texts, of slices; package api's Graph. First walks over graphs: has, isName, Light. The reference's Check. -/
import Derived.Lib.Hide
import Derived.Test.YtefcdclmabdmbaaGreatDoorKa
import Derived.StillTailTactics
import Derived.Lib.IndexAny
import Derived.IntWalk
namespace Go.Proofs.YtefcdclmabdmbaaGreatDoor

/-- The neighbours of a vertex. -/
def gr (E : List (List Nat)) (v : Nat) : List Nat := E.getD v []

/-- All neighbours are vertices. -/
def Valid (E : List (List Nat)) : Prop := ∀ v, v < E.length → ∀ x ∈ gr E v, x < E.length

/-- There is a walk of length m from u to v. -/
def Wk (E : List (List Nat)) (u : Nat) : Nat → Nat → Prop
  | 0, v => v = u
  | m + 1, v => ∃ z, Wk E u m z ∧ v ∈ gr E z

theorem gr_ge {E : List (List Nat)} {v : Nat} (h : E.length ≤ v) : gr E v = [] := by simp [gr, List.getD, List.getElem?_eq_none h]
theorem gr_lt {E : List (List Nat)} {v : Nat} (h : v < E.length) : E[v]? = some (gr E v) := by simp [gr, List.getD, List.getElem?_eq_getElem h]
theorem gr_mem {E : List (List Nat)} {v x : Nat} (h : x ∈ gr E v) : v < E.length := by
  rcases Nat.lt_or_ge v E.length with h1 | h1
  · exact h1
  · rw [gr_ge h1] at h; cases h
theorem Wk.lt {E : List (List Nat)} (hE : Valid E) {u : Nat} (hu : u < E.length) {m v : Nat} (h : Wk E u m v) : v < E.length := by
  cases m with
  | zero => have : v = u := h; omega
  | succ m => obtain ⟨z, _, h2⟩ := h; exact hE z (gr_mem h2) v h2

/-- x is the distance from u to v: -1 where there is no walk. -/
def IsDist (E : List (List Nat)) (u v : Nat) (x : Int) : Prop :=
  (x = -1 ∧ ∀ m, ¬ Wk E u m v) ∨ (∃ m : Nat, x = m ∧ Wk E u m v ∧ ∀ j, Wk E u j v → m ≤ j)

theorem IsDist.unique {E : List (List Nat)} {u v : Nat} {x y : Int} (h : IsDist E u v x) (k : IsDist E u v y) : x = y := by
  rcases h with ⟨h1, h2⟩ | ⟨m, h1, h2, h3⟩
  · rcases k with ⟨k1, k2⟩ | ⟨j, k1, k2, k3⟩
    · rw [h1, k1]
    · exact absurd k2 (h2 j)
  · rcases k with ⟨k1, k2⟩ | ⟨j, k1, k2, k3⟩
    · exact absurd h2 (k2 m)
    · have a := h3 j k2
      have b := k3 m h2
      omega

/-- All of a list are distances from u. -/
def IsDists (E : List (List Nat)) (u : Nat) (l : List Int) : Prop := l.length = E.length ∧ ∀ v, v < E.length → IsDist E u v (l.getD v 0)

theorem IsDists.unique {E : List (List Nat)} {u : Nat} {l k : List Int} (h : IsDists E u l) (h' : IsDists E u k) : l = k := by
  apply List.ext_getElem?
  intro i
  rcases Nat.lt_or_ge i E.length with hi | hi
  · have a := (h.2 i hi).unique (h'.2 i hi)
    have e1 : l[i]? = some (l.getD i 0) := by simp [List.getD, List.getElem?_eq_getElem (show i < l.length by rw [h.1]; exact hi)]
    have e2 : k[i]? = some (k.getD i 0) := by simp [List.getD, List.getElem?_eq_getElem (show i < k.length by rw [h'.1]; exact hi)]
    rw [e1, e2, a]
  · rw [List.getElem?_eq_none (by rw [h.1]; exact hi), List.getElem?_eq_none (by rw [h'.1]; exact hi)]

/-- What a search has found: the queue (each vertex with the one before it) and what is seen. -/
structure Bs where
  seen : List Bool
  q : List (Nat × Nat)

def addOne (v : Nat) (s : Bs) (x : Nat) : Bs := if s.seen.getD x false then s else ⟨s.seen.set x true, s.q ++ [(v, x)]⟩
def addAll (v : Nat) (s : Bs) (l : List Nat) : Bs := l.foldl (addOne v) s
def bs (E : List (List Nat)) (a : Nat) : Nat → Bs
  | 0 => ⟨(List.replicate E.length false).set a true, [(a, a)]⟩
  | k + 1 => match (bs E a k).q[k]? with
    | none => bs E a k
    | some p => addAll p.2 (bs E a k) (gr E p.2)

theorem addAll_snoc (v : Nat) (s : Bs) (l : List Nat) (x : Nat) : addAll v s (l ++ [x]) = addOne v (addAll v s l) x := by simp [addAll]
theorem bs_succ {E : List (List Nat)} {a k : Nat} {p : Nat × Nat} (h : (bs E a k).q[k]? = some p) : bs E a (k + 1) = addAll p.2 (bs E a k) (gr E p.2) := by
  rw [bs, h]

/-- What holds of a search in which k of the queue have been gone through; in the midst of the next one, those of 'pre' are through. -/
structure Srch (E : List (List Nat)) (a k : Nat) (pre : List Nat) (s : Bs) (dep : List Nat) : Prop where
  len : s.seen.length = E.length
  dlen : dep.length = s.q.length
  seen : ∀ x, x < E.length → (s.seen.getD x false = true ↔ ∃ j : Nat, (s.q[j]?).map Prod.snd = some x)
  nodup : ∀ i j x : Nat, (s.q[i]?).map Prod.snd = some x → (s.q[j]?).map Prod.snd = some x → i = j
  small : ∀ j : Nat, ∀ p, s.q[j]? = some p → p.2 < E.length
  first : s.q[0]? = some (a, a)
  d0 : dep[0]? = some 0
  mono : ∀ i j di dj : Nat, i ≤ j → dep[i]? = some di → dep[j]? = some dj → di ≤ dj
  walk : ∀ j : Nat, ∀ p, ∀ d : Nat, s.q[j]? = some p → dep[j]? = some d → Wk E a d p.2
  par : ∀ j : Nat, ∀ p, ∀ d : Nat, 0 < j → s.q[j]? = some p → dep[j]? = some d → ∃ i di : Nat, i < j ∧ i ≤ k ∧ (s.q[i]?).map Prod.snd = some p.1 ∧ dep[i]? = some di ∧ d = di + 1
  closed : ∀ i : Nat, ∀ p, ∀ di : Nat, i < k → s.q[i]? = some p → dep[i]? = some di → ∀ x ∈ gr E p.2, ∃ j d : Nat, (s.q[j]?).map Prod.snd = some x ∧ dep[j]? = some d ∧ d ≤ di + 1
  part : ∀ p, ∀ dk : Nat, s.q[k]? = some p → dep[k]? = some dk → (∀ j d : Nat, dep[j]? = some d → d ≤ dk + 1) ∧ ∀ x ∈ pre, ∃ j d : Nat, (s.q[j]?).map Prod.snd = some x ∧ dep[j]? = some d ∧ d ≤ dk + 1
  done : s.q[k]? = none → pre = []

theorem Srch.start {E : List (List Nat)} {a : Nat} (ha : a < E.length) : Srch E a 0 [] (bs E a 0) [0] := by
  have hq : ∀ j : Nat, ∀ p, [(a, a)][j]? = some p → j = 0 ∧ p = (a, a) := by
    intro j p h
    cases j with
    | zero => simp at h; exact ⟨rfl, h.symm⟩
    | succ j => simp at h
  have hd : ∀ j d : Nat, [0][j]? = some d → j = 0 ∧ d = 0 := by
    intro j d h
    cases j with
    | zero => simp at h; exact ⟨rfl, h.symm⟩
    | succ j => simp at h
  have hqs : ∀ j x : Nat, ([(a, a)][j]?).map Prod.snd = some x → j = 0 ∧ x = a := by
    intro j x h
    cases j with
    | zero => simp at h; exact ⟨rfl, h.symm⟩
    | succ j => simp at h
  refine ⟨by simp [bs], by simp [bs], ?_, ?_, ?_, by simp [bs], rfl, ?_, ?_, ?_, ?_, ?_, ?_⟩
  · intro x hx
    simp only [bs, List.getD, List.getElem?_set]
    by_cases hxa : a = x
    · subst hxa
      simp only [if_pos trivial, List.length_replicate, if_pos ha, Option.getD_some, true_iff]
      exact ⟨0, rfl⟩
    · rw [if_neg hxa]
      constructor
      · intro h; simp [hx] at h
      · rintro ⟨j, hj⟩; exact absurd (hqs j x hj).2.symm hxa
  · intro i j x hi hj; rw [(hqs i x hi).1, (hqs j x hj).1]
  · intro j p h; rw [(hq j p h).2]; exact ha
  · intro i j di dj _ hi hj; rw [(hd i di hi).2]; omega
  · intro j p d h h'; rw [(hq j p h).2, (hd j d h').2]; rfl
  · intro j p d h0 h; have := (hq j p h).1; omega
  · intro i p di h; omega
  · intro p dk h h'
    refine ⟨fun j d hj => ?_, fun x hx => by cases hx⟩
    rw [(hd j d hj).2]; omega
  · intro h; simp [bs] at h

theorem getElem?_snoc_cases {α : Type} {l : List α} {x y : α} {j : Nat} (h : (l ++ [x])[j]? = some y) : (j < l.length ∧ l[j]? = some y) ∨ (j = l.length ∧ y = x) := by
  rcases Nat.lt_trichotomy j l.length with h1 | h1 | h1
  · rw [List.getElem?_append_left h1] at h; exact .inl ⟨h1, h⟩
  · subst h1; simp at h; exact .inr ⟨rfl, h.symm⟩
  · rw [List.getElem?_eq_none (by simp; omega)] at h; cases h
theorem getElem?_snoc_old {α : Type} {l : List α} {x y : α} {j : Nat} (h : l[j]? = some y) : (l ++ [x])[j]? = some y := by
  have : j < l.length := by
    rcases Nat.lt_or_ge j l.length with h1 | h1
    · exact h1
    · rw [List.getElem?_eq_none h1] at h; cases h
  rw [List.getElem?_append_left this]; exact h
theorem snd_some {l : List (Nat × Nat)} {j x : Nat} (h : (l[j]?).map Prod.snd = some x) : ∃ b, l[j]? = some (b, x) := by
  cases e : l[j]? with
  | none => rw [e] at h; cases h
  | some p => rw [e] at h; simp at h; exact ⟨p.1, by rw [← h]⟩

theorem Srch.add {E : List (List Nat)} {a k : Nat} {pre : List Nat} {s : Bs} {dep : List Nat} (h : Srch E a k pre s dep) {p : Nat × Nat} (hp : s.q[k]? = some p) {x : Nat} (hx : x ∈ gr E p.2) (hxl : x < E.length) :
    ∃ dep', Srch E a k (pre ++ [x]) (addOne p.2 s x) dep' := by
  have hkl : k < s.q.length := by
    rcases Nat.lt_or_ge k s.q.length with h1 | h1
    · exact h1
    · rw [List.getElem?_eq_none h1] at hp; cases hp
  obtain ⟨dk, hdk⟩ : ∃ dk, dep[k]? = some dk := ⟨_, List.getElem?_eq_getElem (by rw [h.dlen]; exact hkl)⟩
  obtain ⟨hpart1, hpart2⟩ := h.part p dk hp hdk
  by_cases hs : s.seen.getD x false = true
  · refine ⟨dep, ?_⟩
    have e : addOne p.2 s x = s := by unfold addOne; rw [if_pos hs]
    rw [e]
    refine { h with part := ?_, done := fun hn => by rw [hp] at hn; cases hn }
    intro p' dk' hp' hdk'
    rw [hdk] at hdk'; cases hdk'
    refine ⟨hpart1, fun y hy => ?_⟩
    rcases List.mem_append.1 hy with hy | hy
    · exact hpart2 y hy
    · have : y = x := by simpa using hy
      subst this
      obtain ⟨j, hj⟩ := (h.seen y hxl).1 hs
      obtain ⟨b, hb⟩ := snd_some hj
      have hjl : j < s.q.length := by
        rcases Nat.lt_or_ge j s.q.length with h1 | h1
        · exact h1
        · rw [List.getElem?_eq_none h1] at hb; cases hb
      obtain ⟨d, hd⟩ : ∃ d, dep[j]? = some d := ⟨_, List.getElem?_eq_getElem (by rw [h.dlen]; exact hjl)⟩
      exact ⟨j, d, hj, hd, hpart1 j d hd⟩
  · refine ⟨dep ++ [dk + 1], ?_⟩
    have e : addOne p.2 s x = ⟨s.seen.set x true, s.q ++ [(p.2, x)]⟩ := by unfold addOne; rw [if_neg hs]
    rw [e]
    have hnew : ∀ j : Nat, (s.q[j]?).map Prod.snd ≠ some x := fun j hj => hs ((h.seen x hxl).2 ⟨j, hj⟩)
    have hold : ∀ j y : Nat, ((s.q ++ [(p.2, x)])[j]?).map Prod.snd = some y → (j < s.q.length ∧ (s.q[j]?).map Prod.snd = some y) ∨ (j = s.q.length ∧ y = x) := by
      intro j y hj
      obtain ⟨b, hb⟩ := snd_some hj
      rcases getElem?_snoc_cases hb with ⟨h1, h2⟩ | ⟨h1, h2⟩
      · exact .inl ⟨h1, by rw [h2]; rfl⟩
      · exact .inr ⟨h1, by cases h2; rfl⟩
    have hlift : ∀ j y : Nat, (s.q[j]?).map Prod.snd = some y → ((s.q ++ [(p.2, x)])[j]?).map Prod.snd = some y := by
      intro j y hj
      obtain ⟨b, hb⟩ := snd_some hj
      rw [getElem?_snoc_old hb]; rfl
    have hdl : s.q.length = dep.length := h.dlen.symm
    refine ⟨by simp [h.len], by simp [h.dlen], ?_, ?_, ?_, getElem?_snoc_old h.first, getElem?_snoc_old h.d0, ?_, ?_, ?_, ?_, ?_, ?_⟩
    · intro y hy
      show (s.seen.set x true).getD y false = true ↔ _
      simp only [List.getD, List.getElem?_set]
      by_cases hxy : x = y
      · subst hxy
        simp only [if_pos trivial, h.len, if_pos hxl, Option.getD_some, true_iff]
        exact ⟨s.q.length, by simp⟩
      · rw [if_neg hxy]
        have := h.seen y hy
        simp only [List.getD] at this
        rw [this]
        constructor
        · rintro ⟨j, hj⟩; exact ⟨j, hlift j y hj⟩
        · rintro ⟨j, hj⟩
          rcases hold j y hj with ⟨_, h2⟩ | ⟨_, h2⟩
          · exact ⟨j, h2⟩
          · exact absurd h2.symm hxy
    · intro i j y hi hj
      rcases hold i y hi with ⟨h1, h2⟩ | ⟨h1, h2⟩ <;> rcases hold j y hj with ⟨h3, h4⟩ | ⟨h3, h4⟩
      · exact h.nodup i j y h2 h4
      · subst h4; exact absurd h2 (hnew i)
      · subst h2; exact absurd h4 (hnew j)
      · omega
    · intro j q hq
      rcases getElem?_snoc_cases hq with ⟨_, h2⟩ | ⟨_, h2⟩
      · exact h.small j q h2
      · rw [h2]; exact hxl
    · intro i j di dj hij hi hj
      rcases getElem?_snoc_cases hi with ⟨h1, h2⟩ | ⟨h1, h2⟩ <;> rcases getElem?_snoc_cases hj with ⟨h3, h4⟩ | ⟨h3, h4⟩
      · exact h.mono i j di dj hij h2 h4
      · have := hpart1 i di h2; omega
      · omega
      · omega
    · intro j q d hq hd
      rcases getElem?_snoc_cases hq with ⟨h1, h2⟩ | ⟨h1, h2⟩ <;> rcases getElem?_snoc_cases hd with ⟨h3, h4⟩ | ⟨h3, h4⟩
      · exact h.walk j q d h2 h4
      · omega
      · omega
      · rw [h2, h4]; exact ⟨p.2, h.walk k p dk hp hdk, hx⟩
    · intro j q d h0 hq hd
      rcases getElem?_snoc_cases hq with ⟨h1, h2⟩ | ⟨h1, h2⟩ <;> rcases getElem?_snoc_cases hd with ⟨h3, h4⟩ | ⟨h3, h4⟩
      · obtain ⟨i, di, a1, a2, a3, a4, a5⟩ := h.par j q d h0 h2 h4
        exact ⟨i, di, a1, a2, hlift _ _ a3, getElem?_snoc_old a4, a5⟩
      · omega
      · omega
      · refine ⟨k, dk, by omega, Nat.le_refl _, ?_, getElem?_snoc_old hdk, h4⟩
        rw [h2]
        exact hlift k p.2 (by rw [hp]; rfl)
    · intro i q di hik hq hdi y hy
      have h2 : s.q[i]? = some q := by
        rcases getElem?_snoc_cases hq with ⟨_, h2⟩ | ⟨h1, _⟩
        · exact h2
        · omega
      have h4 : dep[i]? = some di := by
        rcases getElem?_snoc_cases hdi with ⟨_, h2⟩ | ⟨h1, _⟩
        · exact h2
        · omega
      obtain ⟨j, d, a1, a2, a3⟩ := h.closed i q di hik h2 h4 y hy
      exact ⟨j, d, hlift _ _ a1, getElem?_snoc_old a2, a3⟩
    · intro q dk' hq hdk'
      have h4 : dk' = dk := by
        rcases getElem?_snoc_cases hdk' with ⟨_, h2⟩ | ⟨h1, _⟩
        · rw [hdk] at h2; cases h2; rfl
        · omega
      subst h4
      refine ⟨fun j d hd => ?_, fun y hy => ?_⟩
      · rcases getElem?_snoc_cases hd with ⟨_, h2⟩ | ⟨_, h2⟩
        · exact hpart1 j d h2
        · omega
      · rcases List.mem_append.1 hy with hy | hy
        · obtain ⟨j, d, a1, a2, a3⟩ := hpart2 y hy
          exact ⟨j, d, hlift _ _ a1, getElem?_snoc_old a2, a3⟩
        · have : y = x := by simpa using hy
          subst this
          refine ⟨s.q.length, dk' + 1, by simp, ?_, Nat.le_refl _⟩
          rw [hdl]; simp
    · intro hn
      have := getElem?_snoc_old (x := (p.2, x)) hp
      rw [this] at hn; cases hn

theorem Srch.all {E : List (List Nat)} {a k : Nat} {pre : List Nat} {s : Bs} {dep : List Nat} (h : Srch E a k pre s dep) {p : Nat × Nat} (hp : s.q[k]? = some p) (l : List Nat) (hl : ∀ x ∈ l, x ∈ gr E p.2) (hll : ∀ x ∈ l, x < E.length) :
    ∃ dep', Srch E a k (pre ++ l) (addAll p.2 s l) dep' ∧ (addAll p.2 s l).q[k]? = some p := by
  induction l generalizing s pre dep with
  | nil => exact ⟨dep, by rw [List.append_nil]; exact h, hp⟩
  | cons x r ih =>
    obtain ⟨dep', h'⟩ := h.add hp (hl x (by simp)) (hll x (by simp))
    have hp' : (addOne p.2 s x).q[k]? = some p := by
      unfold addOne
      split
      · exact hp
      · exact getElem?_snoc_old hp
    obtain ⟨dep'', h'', hp''⟩ := ih h' hp' (fun y hy => hl y (by simp [hy])) (fun y hy => hll y (by simp [hy]))
    refine ⟨dep'', ?_, hp''⟩
    rw [List.append_assoc] at h''
    exact h''

theorem Srch.next {E : List (List Nat)} {a k : Nat} {s : Bs} {dep : List Nat} {p : Nat × Nat} (hp : s.q[k]? = some p) (h : Srch E a k (gr E p.2) s dep) : Srch E a (k + 1) [] s dep := by
  have hkl : k < s.q.length := by
    rcases Nat.lt_or_ge k s.q.length with h1 | h1
    · exact h1
    · rw [List.getElem?_eq_none h1] at hp; cases hp
  obtain ⟨dk, hdk⟩ : ∃ dk, dep[k]? = some dk := ⟨_, List.getElem?_eq_getElem (by rw [h.dlen]; exact hkl)⟩
  obtain ⟨hpart1, hpart2⟩ := h.part p dk hp hdk
  refine { h with par := ?_, closed := ?_, part := ?_, done := fun _ => rfl }
  · intro j q d h0 hq hd
    obtain ⟨i, di, a1, a2, a3⟩ := h.par j q d h0 hq hd
    exact ⟨i, di, a1, by omega, a3⟩
  · intro i q di hi hq hdi x hx
    by_cases hik : i = k
    · subst hik
      rw [hp] at hq; cases hq
      rw [hdk] at hdi; cases hdi
      exact hpart2 x hx
    · exact h.closed i q di (by omega) hq hdi x hx
  · intro q dq hq hdq
    refine ⟨fun j d hd => ?_, fun x hx => by cases hx⟩
    have := hpart1 j d hd
    have := h.mono k (k + 1) dk dq (by omega) hdk hdq
    omega

theorem bs_inv {E : List (List Nat)} (hE : Valid E) {a : Nat} (ha : a < E.length) (k : Nat) (hk : ∀ i, i < k → ∃ p, (bs E a i).q[i]? = some p) : ∃ dep, Srch E a k [] (bs E a k) dep := by
  induction k with
  | zero => exact ⟨_, Srch.start ha⟩
  | succ k ih =>
    obtain ⟨dep, h⟩ := ih (fun i hi => hk i (by omega))
    obtain ⟨p, hp⟩ := hk k (by omega)
    rw [bs_succ hp]
    obtain ⟨dep', h', hp'⟩ := h.all hp (gr E p.2) (fun x hx => hx) (fun x hx => hE p.2 (gr_mem hx) x hx)
    rw [List.nil_append] at h'
    exact ⟨dep', Srch.next hp' h'⟩

/-- Different numbers below n are at most n. -/
theorem pigeon (n : Nat) : ∀ l : List Nat, l.Nodup → (∀ x ∈ l, x < n) → l.length ≤ n := by
  induction n with
  | zero => intro l _ h; cases l with
    | nil => simp
    | cons x r => have := h x (by simp); omega
  | succ n ih =>
    intro l hn h
    have h1 : (l.erase n).length ≤ n := by
      refine ih _ (hn.erase n) fun x hx => ?_
      have h2 := h x (List.mem_of_mem_erase hx)
      have h3 : x ≠ n := fun e => by
        subst e
        exact (List.Nodup.not_mem_erase hn) hx
      omega
    have := List.length_erase_le (a := n) (l := l)
    by_cases hm : n ∈ l
    · have := List.length_erase_of_mem hm; omega
    · rw [List.erase_of_not_mem hm] at h1; omega

theorem Srch.qlen {E : List (List Nat)} {a k : Nat} {pre : List Nat} {s : Bs} {dep : List Nat} (h : Srch E a k pre s dep) : s.q.length ≤ E.length := by
  have h1 := pigeon E.length (s.q.map Prod.snd) ?_ ?_
  · simpa using h1
  · refine List.pairwise_iff_getElem.2 fun i j hi hj hij he => ?_
    have hi' : i < s.q.length := by simpa using hi
    have hj' : j < s.q.length := by simpa using hj
    have e1 : s.q[j]? = some s.q[j] := List.getElem?_eq_getElem hj'
    have e2 : s.q[i]? = some s.q[i] := List.getElem?_eq_getElem hi'
    simp only [List.getElem_map] at he
    have := h.nodup i j s.q[j].2 (by rw [e2, ← he]; rfl) (by rw [e1]; rfl)
    omega
  · intro x hx
    obtain ⟨p, hp, rfl⟩ := List.mem_map.1 hx
    obtain ⟨j, hj⟩ := List.getElem?_of_mem hp
    exact h.small j p hj
end Go.Proofs.YtefcdclmabdmbaaGreatDoor

namespace Go.Proofs.YtefcdclmabdmbaaGreatDoor

theorem getD_set {l : List Int} {i j : Nat} {x d : Int} : (l.set i x).getD j d = if i = j ∧ i < l.length then x else l.getD j d := by
  simp only [List.getD, List.getElem?_set]
  by_cases h : i = j
  · subst h
    by_cases h2 : i < l.length
    · simp [h2]
    · simp [h2]
  · simp [h]

theorem some_lt {α : Type} {l : List α} {i : Nat} {x : α} (h : l[i]? = some x) : i < l.length := by
  rcases Nat.lt_or_ge i l.length with h1 | h1
  · exact h1
  · rw [List.getElem?_eq_none h1] at h; cases h

/-- One visit. -/
def vis (a : Nat) (out : List Int) (p : Nat × Nat) : List Int := if p.2 = a then out.set p.2 0 else out.set p.2 (out.getD p.1 0 + 1)
/-- The list behind some visits. -/
def dl (n a : Nat) (done : List (Nat × Nat)) : List Int := done.foldl (vis a) (List.replicate n (-1))

theorem dl_snoc (n a : Nat) (done : List (Nat × Nat)) (p : Nat × Nat) : dl n a (done ++ [p]) = vis a (dl n a done) p := by simp [dl]
theorem vis_length (a : Nat) (out : List Int) (p : Nat × Nat) : (vis a out p).length = out.length := by unfold vis; split <;> simp
theorem dl_length (n a : Nat) (done : List (Nat × Nat)) : (dl n a done).length = n := by
  unfold dl
  have : ∀ l : List Int, (done.foldl (vis a) l).length = l.length := by
    induction done with
    | nil => intro l; rfl
    | cons p r ih => intro l; rw [List.foldl_cons, ih, vis_length]
  rw [this]; simp

/-- The numbers stay small. -/
theorem dl_small (n a : Nat) (done : List (Nat × Nat)) : ∀ v, -1 ≤ (dl n a done).getD v 0 ∧ (dl n a done).getD v 0 ≤ done.length := by
  unfold dl
  have : ∀ (l : List Int) (b : Nat), (∀ v, -1 ≤ l.getD v 0 ∧ l.getD v 0 ≤ b) → ∀ v, -1 ≤ (done.foldl (vis a) l).getD v 0 ∧ (done.foldl (vis a) l).getD v 0 ≤ (b + done.length : Nat) := by
    induction done with
    | nil => intro l b h v; exact h v
    | cons p r ih =>
      intro l b h v
      rw [List.foldl_cons]
      have h1 := ih (vis a l p) (b + 1) ?_ v
      · simp only [List.length_cons]
        have e : b + 1 + r.length = b + (r.length + 1) := by omega
        rw [e] at h1; exact h1
      · intro u
        have hu := h u
        have hp := h p.1
        unfold vis
        split
        · rw [getD_set]; split <;> omega
        · rw [getD_set]; split <;> omega
  intro v
  have h := this (List.replicate n (-1)) 0 ?_ v
  · simpa using h
  · intro u
    simp only [List.getD, List.getElem?_replicate]
    split <;> simp

/-- Behind the first j visits: those visited have their depth, the others -1. -/
theorem dl_at {E : List (List Nat)} {a k : Nat} {pre : List Nat} {s : Bs} {dep : List Nat} (h : Srch E a k pre s dep) (ha : a < E.length) (j : Nat) (hj : j ≤ s.q.length) :
    (∀ i d : Nat, ∀ p, i < j → s.q[i]? = some p → dep[i]? = some d → (dl E.length a (s.q.take j)).getD p.2 0 = d) ∧
    (∀ v, v < E.length → (∀ i : Nat, i < j → (s.q[i]?).map Prod.snd ≠ some v) → (dl E.length a (s.q.take j)).getD v 0 = -1) := by
  induction j with
  | zero =>
    refine ⟨fun i d p hi => by omega, fun v hv _ => ?_⟩
    simp [dl, List.getD, hv]
  | succ j ih =>
    obtain ⟨ih1, ih2⟩ := ih (by omega)
    have hjl : j < s.q.length := by omega
    obtain ⟨p, hp⟩ : ∃ p, s.q[j]? = some p := ⟨_, List.getElem?_eq_getElem hjl⟩
    obtain ⟨dj, hdj⟩ : ∃ d, dep[j]? = some d := ⟨_, List.getElem?_eq_getElem (by rw [h.dlen]; exact hjl)⟩
    have e : s.q.take (j + 1) = s.q.take j ++ [p] := by rw [List.take_add_one, hp]; rfl
    rw [e, dl_snoc]
    have hlen := dl_length E.length a (s.q.take j)
    have hpl : p.2 < E.length := h.small j p hp
    have hset : ∀ v, (vis a (dl E.length a (s.q.take j)) p).getD v 0 = if p.2 = v then (dj : Int) else (dl E.length a (s.q.take j)).getD v 0 := by
      intro v
      by_cases hj0 : j = 0
      · subst hj0
        have e1 : p = (a, a) := by have := h.first; rw [hp] at this; exact Option.some.inj this
        have e2 : dj = 0 := by have := h.d0; rw [hdj] at this; exact Option.some.inj this
        subst e1 e2
        unfold vis
        rw [if_pos rfl, getD_set]
        by_cases hv : a = v
        · rw [if_pos ⟨hv, by rw [hlen]; exact ha⟩, if_pos hv]; rfl
        · rw [if_neg (fun h => hv h.1), if_neg hv]
      · have hpa : p.2 ≠ a := fun e => by
          have := h.nodup j 0 a (by rw [hp, ← e]; rfl) (by rw [h.first]; rfl)
          omega
        obtain ⟨i, di, a1, _, a3, a4, a5⟩ := h.par j p dj (by omega) hp hdj
        obtain ⟨b, hb⟩ := snd_some a3
        have h1 := ih1 i di (b, p.1) a1 hb a4
        unfold vis
        rw [if_neg hpa, getD_set, h1]
        by_cases hv : p.2 = v
        · rw [if_pos ⟨hv, by rw [hlen]; exact hpl⟩, if_pos hv, a5]; omega
        · rw [if_neg (fun h => hv h.1), if_neg hv]
    refine ⟨fun i d q hi hq hd => ?_, fun v hv hno => ?_⟩
    · rw [hset]
      by_cases hij : i = j
      · subst hij
        rw [hp] at hq; cases hq
        rw [hdj] at hd; cases hd
        rw [if_pos rfl]
      · have hne : p.2 ≠ q.2 := fun e => hij (h.nodup i j q.2 (by rw [hq]; rfl) (by rw [hp, ← e]; rfl))
        rw [if_neg hne]
        exact ih1 i d q (by omega) hq hd
    · rw [hset]
      have hne : p.2 ≠ v := fun e => hno j (by omega) (by rw [hp, ← e]; rfl)
      rw [if_neg hne]
      exact ih2 v hv fun i hi => hno i (by omega)

/-- Whatever a walk reaches is in the queue, no deeper than the walk is long. -/
theorem Srch.reach {E : List (List Nat)} {a k : Nat} {s : Bs} {dep : List Nat} (h : Srch E a k [] s dep) (hk : s.q.length = k) :
    ∀ m v, Wk E a m v → ∃ j d : Nat, (s.q[j]?).map Prod.snd = some v ∧ dep[j]? = some d ∧ d ≤ m := by
  intro m
  induction m with
  | zero => intro v hv; have e : v = a := hv; subst e; exact ⟨0, 0, by rw [h.first]; rfl, h.d0, Nat.le_refl _⟩
  | succ m ih =>
    intro v hv
    obtain ⟨z, hz, hvz⟩ := hv
    obtain ⟨j, d, h1, h2, h3⟩ := ih z hz
    obtain ⟨b, hb⟩ := snd_some h1
    obtain ⟨j', d', k1, k2, k3⟩ := h.closed j (b, z) d (by have := some_lt hb; omega) hb h2 v hvz
    exact ⟨j', d', k1, k2, by omega⟩

theorem Srch.depth {E : List (List Nat)} {a k : Nat} {pre : List Nat} {s : Bs} {dep : List Nat} (h : Srch E a k pre s dep) : ∀ b j d : Nat, j ≤ b → dep[j]? = some d → d ≤ j := by
  intro b
  induction b with
  | zero => intro j d hj hd; have e : j = 0 := by omega
            subst e; have := h.d0; rw [hd] at this; cases this; omega
  | succ b ih =>
    intro j d hj hd
    by_cases h0 : j = 0
    · subst h0; have := h.d0; rw [hd] at this; cases this; omega
    · have hjl : j < s.q.length := by have := some_lt hd; rw [h.dlen] at this; exact this
      obtain ⟨i, di, a1, _, _, a4, a5⟩ := h.par j _ d (by omega) (List.getElem?_eq_getElem hjl) hd
      have := ih i di (by omega) a4
      omega

/-- The visits of a whole search give the distances. -/
theorem dl_dists {E : List (List Nat)} (hE : Valid E) {a : Nat} (ha : a < E.length) {k : Nat} (hk : (bs E a k).q.length = k) (hpr : ∀ i, i < k → ∃ p, (bs E a i).q[i]? = some p) : IsDists E a (dl E.length a (bs E a k).q) := by
  obtain ⟨dep, h⟩ := bs_inv hE ha k hpr
  have hat := dl_at h ha (bs E a k).q.length (Nat.le_refl _)
  rw [List.take_length] at hat
  obtain ⟨h1, h2⟩ := hat
  refine ⟨dl_length _ _ _, fun v hv => ?_⟩
  by_cases hin : ∃ j : Nat, ((bs E a k).q[j]?).map Prod.snd = some v
  · obtain ⟨j, hj⟩ := hin
    obtain ⟨b, hb⟩ := snd_some hj
    have hjl := some_lt hb
    obtain ⟨d, hd⟩ : ∃ d, dep[j]? = some d := ⟨_, List.getElem?_eq_getElem (by rw [h.dlen]; exact hjl)⟩
    refine .inr ⟨d, h1 j d (b, v) hjl hb hd, h.walk j (b, v) d hb hd, fun m hm => ?_⟩
    obtain ⟨j', d', k1, k2, k3⟩ := h.reach hk m v hm
    have e := h.nodup j j' v hj k1
    subst e
    rw [hd] at k2; cases k2
    exact k3
  · refine .inl ⟨h2 v hv fun i _ hi => hin ⟨i, hi⟩, fun m hm => ?_⟩
    obtain ⟨j', d', k1, _, _⟩ := h.reach hk m v hm
    exact hin ⟨j', k1⟩

/-- A search comes to its end. -/
theorem bs_final {E : List (List Nat)} (hE : Valid E) {a : Nat} (ha : a < E.length) : ∃ k, (bs E a k).q.length = k ∧ ∀ i, i < k → ∃ p, (bs E a i).q[i]? = some p := by
  apply Classical.byContradiction
  intro hno
  have hall : ∀ k, (∀ i, i < k → ∃ p, (bs E a i).q[i]? = some p) ∧ k ≤ (bs E a k).q.length := by
    intro k
    induction k with
    | zero => exact ⟨fun i hi => by omega, Nat.zero_le _⟩
    | succ k ih =>
      obtain ⟨i1, i2⟩ := ih
      have hne : (bs E a k).q.length ≠ k := fun e => hno ⟨k, e, i1⟩
      have hlt : k < (bs E a k).q.length := by omega
      have hp : (bs E a k).q[k]? = some _ := List.getElem?_eq_getElem hlt
      refine ⟨fun i hi => ?_, ?_⟩
      · by_cases e : i = k
        · subst e; exact ⟨_, hp⟩
        · exact i1 i (by omega)
      · rw [bs_succ hp]
        have : ∀ (v : Nat) (l : List Nat) (s : Bs), s.q.length ≤ (addAll v s l).q.length := by
          intro v l
          induction l with
          | nil => intro s; exact Nat.le_refl _
          | cons x r ihl =>
            intro s
            refine Nat.le_trans ?_ (ihl (addOne v s x))
            unfold addOne
            split
            · exact Nat.le_refl _
            · simp
        have := this ((bs E a k).q[k]).2 (gr E ((bs E a k).q[k]).2) (bs E a k)
        omega
  obtain ⟨dep, h⟩ := bs_inv hE ha (E.length + 1) (hall _).1
  have h1 := h.qlen
  have h2 := (hall (E.length + 1)).2
  omega

/-- The distances from a vertex. -/
noncomputable def dd (E : List (List Nat)) (a : Nat) : List Int := Classical.epsilon (IsDists E a)
theorem dd_is {E : List (List Nat)} (hE : Valid E) {a : Nat} (ha : a < E.length) : IsDists E a (dd E a) := by
  obtain ⟨k, hk, hpr⟩ := bs_final hE ha
  exact Classical.epsilon_spec ⟨_, dl_dists hE ha hk hpr⟩
theorem IsDists.eq {E : List (List Nat)} {a : Nat} {l : List Int} (h : IsDists E a l) : l = dd E a := h.unique (Classical.epsilon_spec ⟨_, h⟩)

/-- What a walk reaches, a walk shorter than the number of vertices reaches. -/
theorem short_walk {E : List (List Nat)} (hE : Valid E) {a : Nat} (ha : a < E.length) {m v : Nat} (h : Wk E a m v) : ∃ j, j < E.length ∧ Wk E a j v := by
  obtain ⟨k, hk, hpr⟩ := bs_final hE ha
  obtain ⟨dep, hs⟩ := bs_inv hE ha k hpr
  obtain ⟨j, d, h1, h2, _⟩ := hs.reach hk m v h
  obtain ⟨b, hb⟩ := snd_some h1
  refine ⟨d, ?_, hs.walk j (b, v) d hb h2⟩
  have := hs.depth j j d (Nat.le_refl _) h2
  have := some_lt hb
  have := hs.qlen
  omega
theorem IsDist.small {E : List (List Nat)} (hE : Valid E) {a : Nat} (ha : a < E.length) {v : Nat} {x : Int} (h : IsDist E a v x) : -1 ≤ x ∧ x < E.length := by
  rcases h with ⟨h1, _⟩ | ⟨m, h1, h2, h3⟩
  · omega
  · obtain ⟨j, hj, hw⟩ := short_walk hE ha h2
    have := h3 j hw
    omega
theorem dd_small {E : List (List Nat)} (hE : Valid E) {a : Nat} (ha : a < E.length) {x : Int} (h : x ∈ dd E a) : -1 ≤ x ∧ x < E.length := by
  obtain ⟨i, hi⟩ := List.getElem?_of_mem h
  have hd := dd_is hE ha
  have hil := some_lt hi
  have h1 := (hd.2 i (by rw [← hd.1]; exact hil)).small hE ha
  have : (dd E a).getD i 0 = x := by simp [List.getD, hi]
  rwa [this] at h1

/-- The list in round d of the reference, in which the edges of T are through. -/
structure Lev (E : List (List Nat)) (u d : Nat) (T : Nat → Nat → Prop) (l : List Int) : Prop where
  len : l.length = E.length
  is : ∀ v, v < E.length → l.getD v 0 = -1 ∨ ∃ m : Nat, l.getD v 0 = m ∧ m ≤ d + 1 ∧ Wk E u m v ∧ ∀ j, Wk E u j v → m ≤ j
  has : ∀ v m, v < E.length → m ≤ d → Wk E u m v → l.getD v 0 ≠ -1
  thr : ∀ z x, T z x → x < E.length → l.getD z 0 = d → l.getD x 0 ≠ -1

theorem Lev.start {E : List (List Nat)} {u : Nat} (hu : u < E.length) : Lev E u 0 (fun _ _ => False) ((List.replicate E.length (-1)).set u 0) := by
  have hg : ∀ v, v < E.length → ((List.replicate E.length (-1 : Int)).set u 0).getD v 0 = if u = v then 0 else -1 := by
    intro v hv
    rw [getD_set]
    by_cases e : u = v
    · rw [if_pos ⟨e, by simpa using hu⟩, if_pos e]
    · rw [if_neg (fun h => e h.1), if_neg e]; simp [List.getD, hv]
  refine ⟨by simp, fun v hv => ?_, fun v m hv hm hw => ?_, fun _ _ h => h.elim⟩
  · rw [hg v hv]
    by_cases e : u = v
    · rw [if_pos e]; exact .inr ⟨0, rfl, by omega, e.symm, fun _ _ => Nat.zero_le _⟩
    · rw [if_neg e]; exact .inl rfl
  · have : m = 0 := by omega
    subst this
    have e : v = u := hw
    rw [hg v hv, if_pos e.symm]
    decide

theorem Lev.mono {E : List (List Nat)} {u d : Nat} {T T' : Nat → Nat → Prop} {l : List Int} (h : Lev E u d T l) (hT : ∀ z x, T' z x → x < E.length → l.getD z 0 = d → T z x) : Lev E u d T' l :=
  ⟨h.len, h.is, h.has, fun z x hz hx hd => h.thr z x (hT z x hz hx hd) hx hd⟩

/-- One neighbour x of z, which is at the distance d. -/
theorem Lev.one {E : List (List Nat)} {u d : Nat} {T : Nat → Nat → Prop} {l : List Int} (h : Lev E u d T l) {z x : Nat} (hz : z < E.length) (hzd : l.getD z 0 = d) (hx : x ∈ gr E z) (hxl : x < E.length) :
    Lev E u d (fun a b => T a b ∨ (a = z ∧ b = x)) (if l.getD x 0 < 0 then l.set x (d + 1) else l) := by
  by_cases hneg : l.getD x 0 < 0
  · rw [if_pos hneg]
    have hxm : l.getD x 0 = -1 := by
      rcases h.is x hxl with h1 | ⟨m, h1, _⟩
      · exact h1
      · omega
    have hwz : Wk E u d z := by
      rcases h.is z hz with h1 | ⟨m, h1, _, h3, _⟩
      · omega
      · have : m = d := by omega
        subst this; exact h3
    have hg : ∀ v, (l.set x ((d : Int) + 1)).getD v 0 = if x = v then (d : Int) + 1 else l.getD v 0 := by
      intro v
      rw [getD_set]
      by_cases e : x = v
      · rw [if_pos ⟨e, by rw [h.len]; exact hxl⟩, if_pos e]
      · rw [if_neg (fun h => e h.1), if_neg e]
    refine ⟨by simp [h.len], fun v hv => ?_, fun v m hv hm hw => ?_, fun a b hab hb hd => ?_⟩
    · rw [hg]
      by_cases e : x = v
      · rw [if_pos e]
        subst e
        refine .inr ⟨d + 1, by omega, Nat.le_refl _, ⟨z, hwz, hx⟩, fun j hj => ?_⟩
        rcases Nat.lt_or_ge d j with h1 | h1
        · exact h1
        · exact absurd hxm (h.has x j hxl h1 hj)
      · rw [if_neg e]; exact h.is v hv
    · rw [hg]
      split
      · omega
      · exact h.has v m hv hm hw
    · rw [hg] at hd ⊢
      by_cases e : x = b
      · rw [if_pos e]; omega
      · rw [if_neg e]
        by_cases e2 : x = a
        · rw [if_pos e2] at hd; omega
        · rw [if_neg e2] at hd
          rcases hab with hab | ⟨_, hab⟩
          · exact h.thr a b hab hb hd
          · exact absurd hab.symm e
  · rw [if_neg hneg]
    refine ⟨h.len, h.is, h.has, fun a b hab hb hd => ?_⟩
    rcases hab with hab | ⟨_, hab⟩
    · exact h.thr a b hab hb hd
    · subst hab; omega

theorem Lev.next {E : List (List Nat)} (hE : Valid E) {u d : Nat} {T : Nat → Nat → Prop} {l : List Int} (h : Lev E u d T l) (hu : u < E.length) (hT : ∀ z x, x ∈ gr E z → z < E.length → T z x) : Lev E u (d + 1) (fun _ _ => False) l := by
  refine ⟨h.len, fun v hv => ?_, fun v m hv hm hw => ?_, fun _ _ h => h.elim⟩
  · rcases h.is v hv with h1 | ⟨m, h1, h2, h3⟩
    · exact .inl h1
    · exact .inr ⟨m, h1, by omega, h3⟩
  · rcases Nat.lt_or_ge d m with h1 | h1
    · have e : m = d + 1 := by omega
      subst e
      obtain ⟨z, hz, hvz⟩ := hw
      have hzl := hz.lt hE hu
      rcases h.is z hzl with h2 | ⟨j, h2, h3, h4, h5⟩
      · exact absurd h2 (h.has z d hzl (Nat.le_refl _) hz)
      · have hjd := h5 d hz
        by_cases e : j = d
        · subst e; exact h.thr z v (hT z v hvz hzl) hv h2
        · exact h.has v (j + 1) hv (by omega) ⟨z, h4, hvz⟩
    · exact h.has v m hv h1 hw

theorem Lev.done {E : List (List Nat)} (hE : Valid E) {u d : Nat} {T : Nat → Nat → Prop} {l : List Int} (h : Lev E u d T l) (hu : u < E.length) (hd : E.length ≤ d) : IsDists E u l := by
  refine ⟨h.len, fun v hv => ?_⟩
  rcases h.is v hv with h1 | ⟨m, h1, _, h3, h4⟩
  · refine .inl ⟨h1, fun m hm => ?_⟩
    obtain ⟨j, hj, hw⟩ := short_walk hE hu hm
    exact h.has v j hv (by omega) hw h1
  · exact .inr ⟨m, h1, h3, h4⟩
theorem Lev.small {E : List (List Nat)} {u d : Nat} {T : Nat → Nat → Prop} {l : List Int} (h : Lev E u d T l) {v : Nat} (hv : v < E.length) : -1 ≤ l.getD v 0 ∧ l.getD v 0 ≤ d + 1 := by
  rcases h.is v hv with h1 | ⟨m, h1, h2, _⟩ <;> omega

/-- The greatest number of a list and m. -/
def mx (m : Int) (l : List Int) : Int := l.foldl max m
theorem mx_snoc (m : Int) (l : List Int) (x : Int) : mx m (l ++ [x]) = max (mx m l) x := by simp [mx]
/-- The greatest distance from the first k vertices. -/
noncomputable def dm (E : List (List Nat)) : Nat → Int
  | 0 => 0
  | k + 1 => mx (dm E k) (dd E k)
/-- All distances from the first k vertices are there. -/
def dok (E : List (List Nat)) (k : Nat) : Prop := ∀ i, i < k → ∀ x ∈ dd E i, ¬ x < 0
end Go.Proofs.YtefcdclmabdmbaaGreatDoor

namespace Go.Proofs.YtefcdclmabdmbaaGreatDoor

theorem Wk.cons {E : List (List Nat)} {u z v m : Nat} (hz : z ∈ gr E u) (h : Wk E z m v) : Wk E u (m + 1) v := by
  induction m generalizing v with
  | zero => have e : v = z := h; subst e; exact ⟨u, rfl, hz⟩
  | succ m ih => obtain ⟨y, hy, hv⟩ := h; exact ⟨y, ih hy, hv⟩
theorem Wk.uncons {E : List (List Nat)} {u v m : Nat} (h : Wk E u (m + 1) v) : ∃ z, z ∈ gr E u ∧ Wk E z m v := by
  induction m generalizing v with
  | zero => obtain ⟨z, hz, hv⟩ := h; have e : z = u := hz; subst e; exact ⟨v, hv, rfl⟩
  | succ m ih => obtain ⟨y, hy, hv⟩ := h; obtain ⟨z, hz, hw⟩ := ih hy; exact ⟨z, hz, y, hw, hv⟩

/-- R is E with all edges turned. -/
def Turned (E R : List (List Nat)) : Prop := R.length = E.length ∧ ∀ u v, u ∈ gr R v ↔ v ∈ gr E u
theorem Turned.wk {E R : List (List Nat)} (h : Turned E R) : ∀ m u v, Wk R u m v ↔ Wk E v m u := by
  intro m
  induction m with
  | zero => intro u v; exact ⟨fun h => Eq.symm h, fun h => Eq.symm h⟩
  | succ m ih =>
    intro u v
    constructor
    · rintro ⟨z, hz, hv⟩
      exact Wk.cons ((h.2 v z).1 hv) ((ih u z).1 hz)
    · intro hw
      obtain ⟨z, hz, hw⟩ := hw.uncons
      exact ⟨z, (ih u z).2 hw, (h.2 v z).2 hz⟩
theorem Turned.dist {E R : List (List Nat)} (h : Turned E R) {t v : Nat} {x : Int} (hd : IsDist R t v x) : IsDist E v t x := by
  rcases hd with ⟨h1, h2⟩ | ⟨m, h1, h2, h3⟩
  · exact .inl ⟨h1, fun m hm => h2 m ((h.wk m t v).2 hm)⟩
  · exact .inr ⟨m, h1, (h.wk m t v).1 h2, fun j hj => h3 j ((h.wk j t v).2 hj)⟩
theorem Turned.valid {E R : List (List Nat)} (h : Turned E R) : Valid R := by
  intro v hv x hx
  rw [h.1]
  exact gr_mem ((h.2 x v).1 hx)

/-- One row of the turned graph's making. -/
def bk (R : List (List Nat)) (i : Nat) (l : List Nat) : List (List Nat) := l.foldl (fun R v => R.set v (gr R v ++ [i])) R
def bks (E : List (List Nat)) : Nat → List (List Nat)
  | 0 => List.replicate E.length []
  | k + 1 => bk (bks E k) k (gr E k)
theorem bk_snoc (R : List (List Nat)) (i : Nat) (l : List Nat) (v : Nat) : bk R i (l ++ [v]) = (bk R i l).set v (gr (bk R i l) v ++ [i]) := by simp [bk]
theorem bk_length (R : List (List Nat)) (i : Nat) (l : List Nat) : (bk R i l).length = R.length := by
  induction l generalizing R with
  | nil => rfl
  | cons x r ih => show (bk (R.set x (gr R x ++ [i])) i r).length = _; rw [ih]; simp
theorem bks_length (E : List (List Nat)) (k : Nat) : (bks E k).length = E.length := by
  induction k with
  | zero => simp [bks]
  | succ k ih => rw [bks, bk_length, ih]
theorem gr_set {R : List (List Nat)} {v x : Nat} {l : List Nat} (hv : v < R.length) : gr (R.set v l) x = if v = x then l else gr R x := by
  simp only [gr, List.getD, List.getElem?_set]
  by_cases h : v = x
  · subst h; simp [hv]
  · simp [h]
theorem bk_mem {R : List (List Nat)} {i : Nat} (l : List Nat) (hl : ∀ x ∈ l, x < R.length) : ∀ u v, u ∈ gr (bk R i l) v ↔ u ∈ gr R v ∨ (u = i ∧ v ∈ l) := by
  induction l generalizing R with
  | nil => intro u v; simp [bk]
  | cons x r ih =>
    intro u v
    show u ∈ gr (bk (R.set x (gr R x ++ [i])) i r) v ↔ _
    rw [ih (by intro y hy; simp; exact hl y (by simp [hy])) u v, gr_set (hl x (by simp))]
    by_cases h : x = v
    · subst h
      rw [if_pos rfl, List.mem_append, List.mem_singleton]
      constructor
      · rintro ((h | h) | h)
        · exact .inl h
        · exact .inr ⟨h, by simp⟩
        · exact .inr ⟨h.1, by simp⟩
      · rintro (h | h)
        · exact .inl (.inl h)
        · exact .inl (.inr h.1)
    · rw [if_neg h]
      constructor
      · rintro (h1 | h1)
        · exact .inl h1
        · exact .inr ⟨h1.1, List.mem_cons_of_mem _ h1.2⟩
      · rintro (h1 | ⟨h1, h2⟩)
        · exact .inl h1
        · rcases List.mem_cons.1 h2 with h2 | h2
          · exact absurd h2.symm h
          · exact .inr ⟨h1, h2⟩
theorem bks_mem {E : List (List Nat)} (hE : Valid E) : ∀ k u v, u ∈ gr (bks E k) v ↔ u < k ∧ v ∈ gr E u := by
  intro k
  induction k with
  | zero =>
    intro u v
    simp only [bks, Nat.not_lt_zero, false_and, iff_false]
    intro h
    simp only [gr, List.getD, List.getElem?_replicate] at h
    split at h <;> simp at h
  | succ k ih =>
    intro u v
    rw [bks, bk_mem _ (fun x hx => by rw [bks_length]; exact hE k (gr_mem hx) x hx), ih]
    constructor
    · rintro (⟨h1, h2⟩ | ⟨h1, h2⟩)
      · exact ⟨by omega, h2⟩
      · subst h1; exact ⟨by omega, h2⟩
    · rintro ⟨h1, h2⟩
      by_cases h : u = k
      · subst h; exact .inr ⟨rfl, h2⟩
      · exact .inl ⟨by omega, h2⟩
theorem bks_turned {E : List (List Nat)} (hE : Valid E) : Turned E (bks E E.length) :=
  ⟨bks_length _ _, fun u v => by rw [bks_mem hE]; exact ⟨fun h => h.2, fun h => ⟨gr_mem h, h⟩⟩⟩

/-- The next vertex of a shortest walk: D says how far each vertex is from its end. -/
def nx (E : List (List Nat)) (D : Nat → Int) (v : Nat) : Nat := ((gr E v).find? fun x => D x == D v - 1).getD 0
def it (E : List (List Nat)) (D : Nat → Int) (v : Nat) : Nat → Nat
  | 0 => v
  | k + 1 => nx E D (it E D v k)
/-- The walk of the first k steps. -/
def pth (E : List (List Nat)) (D : Nat → Int) (v k : Nat) : List Nat := (List.range (k + 1)).map (it E D v)
theorem pth_succ (E : List (List Nat)) (D : Nat → Int) (v k : Nat) : pth E D v (k + 1) = pth E D v k ++ [it E D v (k + 1)] := by
  unfold pth; rw [List.range_succ, List.map_append]; rfl
theorem pth_length (E : List (List Nat)) (D : Nat → Int) (v k : Nat) : (pth E D v k).length = k + 1 := by simp [pth]

/-- D is the distance to t. -/
def To (E : List (List Nat)) (t : Nat) (D : Nat → Int) : Prop := ∀ v, v < E.length → IsDist E v t (D v)
theorem To.zero {E : List (List Nat)} {t : Nat} {D : Nat → Int} (h : To E t D) {v : Nat} (hv : v < E.length) : D v = 0 ↔ v = t := by
  rcases h v hv with ⟨h1, h2⟩ | ⟨m, h1, h2, h3⟩
  · constructor
    · intro h0; omega
    · intro e; subst e; exact absurd (show Wk E v 0 v from rfl) (h2 0)
  · constructor
    · intro h0
      have : m = 0 := by omega
      subst this
      exact Eq.symm h2
    · intro e; subst e
      have := h3 0 rfl
      omega
/-- A vertex before the end has a neighbour that is nearer by one. -/
theorem To.step {E : List (List Nat)} (hE : Valid E) {t : Nat} {D : Nat → Int} (h : To E t D) {v : Nat} (hv : v < E.length) (hp : 0 < D v) : ∃ z, z ∈ gr E v ∧ D z = D v - 1 := by
  rcases h v hv with ⟨h1, h2⟩ | ⟨m, h1, h2, h3⟩
  · omega
  · obtain ⟨j, rfl⟩ : ∃ j, m = j + 1 := ⟨m - 1, by omega⟩
    obtain ⟨z, hz, hw⟩ := h2.uncons
    refine ⟨z, hz, ?_⟩
    rcases h z (hE v hv z hz) with ⟨k1, k2⟩ | ⟨i, k1, k2, k3⟩
    · exact absurd hw (k2 j)
    · have a := k3 j hw
      have b := h3 (i + 1) (Wk.cons hz k2)
      omega
theorem To.nx {E : List (List Nat)} (hE : Valid E) {t : Nat} {D : Nat → Int} (h : To E t D) {v : Nat} (hv : v < E.length) (hp : 0 < D v) : (gr E v).find? (fun x => D x == D v - 1) = some (nx E D v) ∧ nx E D v ∈ gr E v ∧ nx E D v < E.length ∧ D (nx E D v) = D v - 1 := by
  obtain ⟨z, hz, hd⟩ := h.step hE hv hp
  cases hf : (gr E v).find? (fun x => D x == D v - 1) with
  | none =>
    have := List.find?_eq_none.1 hf z hz
    exact absurd (by simp [hd]) this
  | some y =>
    have e : Go.Proofs.YtefcdclmabdmbaaGreatDoor.nx E D v = y := by unfold Go.Proofs.YtefcdclmabdmbaaGreatDoor.nx; rw [hf]; rfl
    rw [e]
    have hm := List.mem_of_find?_eq_some hf
    have hp := List.find?_some hf
    exact ⟨rfl, hm, hE v hv y hm, by simpa using hp⟩
theorem To.it {E : List (List Nat)} (hE : Valid E) {t : Nat} {D : Nat → Int} (h : To E t D) {a : Nat} (ha : a < E.length) {d : Nat} (hd : D a = d) : ∀ k, k ≤ d → it E D a k < E.length ∧ D (it E D a k) = (d : Int) - k := by
  intro k
  induction k with
  | zero => intro _; exact ⟨ha, by rw [Go.Proofs.YtefcdclmabdmbaaGreatDoor.it, hd]; omega⟩
  | succ k ih =>
    intro hk
    obtain ⟨h1, h2⟩ := ih (by omega)
    obtain ⟨_, _, h3, h4⟩ := h.nx hE h1 (by omega)
    exact ⟨h3, by show D (Go.Proofs.YtefcdclmabdmbaaGreatDoor.nx E D (Go.Proofs.YtefcdclmabdmbaaGreatDoor.it E D a k)) = _; rw [h4, h2]; omega⟩

/-- A vertex before the end has been reached just before as many steps as it is far. -/
theorem To.end_iff {E : List (List Nat)} (hE : Valid E) {t : Nat} {D : Nat → Int} (h : To E t D) {a : Nat} (ha : a < E.length) {d : Nat} (hd : D a = d) {k : Nat} (hk : k ≤ d) : Go.Proofs.YtefcdclmabdmbaaGreatDoor.it E D a k = t ↔ k = d := by
  obtain ⟨h1, h2⟩ := h.it hE ha hd k hk
  rw [← h.zero h1, h2]
  omega

/-- The sum over the first i rows of f times the number of edges to v. -/
def ps (E : List (List Nat)) (f : Nat → Nat) (v : Nat) : Nat → Nat
  | 0 => 0
  | i + 1 => ps E f v i + f i * (gr E i).count v
/-- The number of walks of length m from u to v. -/
def wn (E : List (List Nat)) (u : Nat) : Nat → Nat → Nat
  | 0, v => if v = u then 1 else 0
  | m + 1, v => ps E (wn E u m) v E.length
/-- The number of closed walks, from the first i vertices. -/
def tr (E : List (List Nat)) (m : Nat) : Nat → Nat
  | 0 => 0
  | i + 1 => tr E m i + wn E i m i

theorem ps_le {E : List (List Nat)} {f : Nat → Nat} {v B K : Nat} (hf : ∀ i, f i ≤ B) (hK : ∀ i, (gr E i).length ≤ K) : ∀ i, ps E f v i ≤ i * (B * K) := by
  intro i
  induction i with
  | zero => simp [ps]
  | succ i ih =>
    rw [ps, Nat.succ_mul]
    have h1 : (gr E i).count v ≤ K := Nat.le_trans List.count_le_length (hK i)
    exact Nat.add_le_add ih (Nat.mul_le_mul (hf i) h1)
theorem wn_le {E : List (List Nat)} {u K : Nat} (hK : ∀ i, (gr E i).length ≤ K) (hn : E.length * K ≤ 1048576) : ∀ m v, wn E u m v ≤ 2 ^ (20 * m) := by
  intro m
  induction m with
  | zero => intro v; rw [wn]; split <;> simp
  | succ m ih =>
    intro v
    rw [wn]
    have h1 := ps_le (v := v) ih hK E.length
    have h2 : E.length * (2 ^ (20 * m) * K) = E.length * K * 2 ^ (20 * m) := by rw [Nat.mul_comm (2 ^ (20 * m)) K, Nat.mul_assoc]
    have h3 : 2 ^ (20 * (m + 1)) = 1048576 * 2 ^ (20 * m) := by rw [Nat.mul_add, Nat.pow_add, Nat.mul_comm]
    rw [h3]
    rw [h2] at h1
    exact Nat.le_trans h1 (Nat.mul_le_mul_right _ hn)
theorem tr_le {E : List (List Nat)} {K : Nat} (hK : ∀ i, (gr E i).length ≤ K) (hn : E.length * K ≤ 1048576) (m : Nat) : ∀ i, tr E m i ≤ i * 2 ^ (20 * m) := by
  intro i
  induction i with
  | zero => simp [tr]
  | succ i ih => rw [tr, Nat.succ_mul]; exact Nat.add_le_add ih (wn_le hK hn m i)

end Go.Proofs.YtefcdclmabdmbaaGreatDoor

namespace Go.Proofs.YtefcdclmabdmbaaGreatDoor
open Go.RowKit

/-- The slice value with address A, length n and capacity c holds the one-cell values xs. -/
structure Rw (w : World) (A : Option Addr) (n c : Nat) (xs : List Value) : Prop where
  len : xs.length = n
  cap : n ≤ c
  room : c ≤ maxLen
  cells : 0 < n → ∃ b off, A = some ⟨b, off, none⟩ ∧ ∀ j u, xs[j]? = some u → w.cell? ⟨b, off + j, none⟩ = some u

theorem cell_some_lt {w : World} {b o : Nat} {u : Value} (h : w.cell? ⟨b, o, none⟩ = some u) : b < w.heap.size := by
  rcases Nat.lt_or_ge b w.heap.size with h1 | h1
  · exact h1
  · have : w.heap[b]? = none := Array.getElem?_eq_none h1
    simp [World.cell?, this] at h

section
variable {w w' : World} {A : Option Addr} {n c : Nat} {xs : List Value}
theorem Rw.keep (h : Rw w A n c xs) (hk : ∀ b o, b < w.heap.size → w'.cell? ⟨b, o, none⟩ = w.cell? ⟨b, o, none⟩) : Rw w' A n c xs :=
  ⟨h.len, h.cap, h.room, fun hn => by
    obtain ⟨b, off, e, hc⟩ := h.cells hn
    exact ⟨b, off, e, fun j u hu => (hk b _ (cell_some_lt (hc j u hu))).trans (hc j u hu)⟩⟩
theorem Rw.below (h : Rw w A n c xs) (hb : Below w.heap.size w w') : Rw w' A n c xs := h.keep (bcell hb).1
end

/-- .. holds ints. -/
def Il (w : World) (A : Option Addr) (n c : Nat) (l : List Int) : Prop := Rw w A n c (l.map (Value.int .i64)) ∧ ∀ x ∈ l, -9223372036854775808 ≤ x ∧ x ≤ 9223372036854775807
/-- .. holds texts. -/
def Sl (w : World) (A : Option Addr) (n c : Nat) (l : List ByteArray) : Prop := Rw w A n c (l.map Value.string) ∧ ∀ s ∈ l, s.size ≤ maxLen
/-- .. holds slices of ints. -/
def Gl (w : World) (A : Option Addr) (n c : Nat) (E : List (List Int)) : Prop :=
  ∃ vs, Rw w A n c vs ∧ vs.length = E.length ∧ ∀ (i : Nat) v l, vs[i]? = some v → E[i]? = some l → ∃ A' c', v = .slice A' l.length c' ∧ Il w A' l.length c' l

section
variable {w w' : World} {A : Option Addr} {n c : Nat}
theorem Il.below {l : List Int} (h : Il w A n c l) (hb : Below w.heap.size w w') : Il w' A n c l := ⟨h.1.below hb, h.2⟩
theorem Sl.below {l : List ByteArray} (h : Sl w A n c l) (hb : Below w.heap.size w w') : Sl w' A n c l := ⟨h.1.below hb, h.2⟩
theorem Gl.below {E : List (List Int)} (h : Gl w A n c E) (hb : Below w.heap.size w w') : Gl w' A n c E := by
  obtain ⟨vs, h1, h2, h3⟩ := h
  refine ⟨vs, h1.below hb, h2, fun i v l hv hl => ?_⟩
  obtain ⟨A', c', e, hi⟩ := h3 i v l hv hl
  exact ⟨A', c', e, hi.below hb⟩
theorem Il.len {l : List Int} (h : Il w A n c l) : l.length = n := by have := h.1.len; simpa using this
theorem Sl.len {l : List ByteArray} (h : Sl w A n c l) : l.length = n := by have := h.1.len; simpa using this
theorem Gl.len {E : List (List Int)} (h : Gl w A n c E) : E.length = n := by
  obtain ⟨vs, h1, h2, _⟩ := h
  rw [← h2, h1.len]
theorem Il.room {l : List Int} (h : Il w A n c l) : n ≤ c ∧ c ≤ maxLen := ⟨h.1.cap, h.1.room⟩
theorem Sl.room {l : List ByteArray} (h : Sl w A n c l) : n ≤ c ∧ c ≤ maxLen := ⟨h.1.cap, h.1.room⟩
theorem Gl.room {E : List (List Int)} (h : Gl w A n c E) : n ≤ c ∧ c ≤ maxLen := by obtain ⟨vs, h1, _⟩ := h; exact ⟨h1.cap, h1.room⟩
/-- The cell of an int. -/
theorem Il.cell {l : List Int} (h : Il w A n c l) (hn : 0 < n) : ∃ b off, A = some ⟨b, off, none⟩ ∧ ∀ j x, l[j]? = some x → w.cell? ⟨b, off + j, none⟩ = some (.int .i64 x) := by
  obtain ⟨b, off, e, hc⟩ := h.1.cells hn
  exact ⟨b, off, e, fun j x hx => hc j _ (by rw [List.getElem?_map, hx]; rfl)⟩
theorem Sl.cell {l : List ByteArray} (h : Sl w A n c l) (hn : 0 < n) : ∃ b off, A = some ⟨b, off, none⟩ ∧ ∀ j x, l[j]? = some x → w.cell? ⟨b, off + j, none⟩ = some (.string x) := by
  obtain ⟨b, off, e, hc⟩ := h.1.cells hn
  exact ⟨b, off, e, fun j x hx => hc j _ (by rw [List.getElem?_map, hx]; rfl)⟩
theorem Gl.cell {E : List (List Int)} (h : Gl w A n c E) (hn : 0 < n) : ∃ b off, A = some ⟨b, off, none⟩ ∧ ∀ j l, E[j]? = some l → ∃ A' c', w.cell? ⟨b, off + j, none⟩ = some (.slice A' l.length c') ∧ Il w A' l.length c' l := by
  obtain ⟨vs, h1, h2, h3⟩ := h
  obtain ⟨b, off, e, hc⟩ := h1.cells hn
  refine ⟨b, off, e, fun j l hl => ?_⟩
  have hj : j < vs.length := by
    rw [h2]
    rcases Nat.lt_or_ge j E.length with h4 | h4
    · exact h4
    · rw [List.getElem?_eq_none h4] at hl; cases hl
  obtain ⟨A', c', e', hi⟩ := h3 j _ l (List.getElem?_eq_getElem hj) hl
  exact ⟨A', c', by rw [← e']; exact hc j _ (List.getElem?_eq_getElem hj), hi⟩
end

/-- A graph as it stands as an argument. -/
def GrV (w : World) (v : Value) (names : List ByteArray) (E : List (List Int)) : Prop :=
  ∃ A c A' c', v = .agg #[.slice A names.length c, .slice A' E.length c'] ∧ Sl w A names.length c names ∧ Gl w A' E.length c' E
theorem GrV.below {w w' : World} {v : Value} {names : List ByteArray} {E : List (List Int)} (h : GrV w v names E) (hb : Below w.heap.size w w') : GrV w' v names E := by
  obtain ⟨A, c, A', c', e, h1, h2⟩ := h
  exact ⟨A, c, A', c', e, h1.below hb, h2.below hb⟩

/-- The box of a graph argument: the world behind it under a name, with what is known of it. -/
theorem gbox (w : World) (s t : Value) : ∃ W G, W = w.alloc (.cells #[s, t] 25) ∧ G = w.heap.size ∧ Below w.heap.size w W ∧ W.cell? ⟨G, 0, none⟩ = some s ∧ W.cell? ⟨G, 1, none⟩ = some t ∧ G < W.heap.size ∧ w.heap.size ≤ G :=
  ⟨_, _, rfl, rfl, (Below.refl _ _).alloc (Nat.le_refl _) _, by simp, by simp, by simp, Nat.le_refl _⟩

theorem ret_bool {a b : Bool} (h : a = b) : Ending.returned (.bool a) = .returned (.bool b) := by rw [h]

/-- The first number that is not 0. -/
def fnz (f : Nat → Nat) : Nat → Nat
  | 0 => 0
  | n + 1 => if fnz f n = 0 then f n else fnz f n
theorem fnz_none {f : Nat → Nat} {n : Nat} (h : ∀ i, i < n → f i = 0) : fnz f n = 0 := by
  induction n with
  | zero => rfl
  | succ n ih => rw [fnz, if_pos (ih fun i hi => h i (by omega))]; exact h n (by omega)
theorem fnz_hit {f : Nat → Nat} {n k : Nat} (h : ∀ i, i < k → f i = 0) (hk : k < n) (hf : f k ≠ 0) : fnz f n = f k := by
  induction n with
  | zero => omega
  | succ n ih =>
    rw [fnz]
    rcases Nat.lt_or_ge k n with h1 | h1
    · rw [if_neg (by rw [ih h1]; exact hf), ih h1]
    · obtain rfl : k = n := by omega
      rw [if_pos (fnz_none h)]
theorem fnz_zero {f : Nat → Nat} {n : Nat} (h : fnz f n = 0) : ∀ i, i < n → f i = 0 := by
  induction n with
  | zero => intro i hi; omega
  | succ n ih =>
    rw [fnz] at h
    by_cases h1 : fnz f n = 0
    · rw [if_pos h1] at h
      intro i hi
      rcases Nat.lt_or_ge i n with h2 | h2
      · exact ih h1 i h2
      · obtain rfl : i = n := by omega
        exact h
    · rw [if_neg h1] at h; exact absurd h h1

/-- A text that may be a name. -/
def okName (s : ByteArray) : Prop := s.size ≠ 0 ∧ s.size ≤ 40 ∧ ∀ b ∈ s.data.toList, b ≠ 32 ∧ b ≠ 10
noncomputable def nameB (s : ByteArray) : Bool := @decide (okName s) (Classical.propDecidable _)
theorem nameB_true {s : ByteArray} : nameB s = true ↔ okName s := by unfold nameB; exact @decide_eq_true_iff _ (Classical.propDecidable _)
theorem nameB_false {s : ByteArray} : nameB s = false ↔ ¬ okName s := by unfold nameB; exact @decide_eq_false_iff_not _ (Classical.propDecidable _)

/-- The error of one neighbour: no vertex; smaller than the one before. -/
def rowAt (n : Nat) (l : List Int) (k : Nat) : Nat :=
  if ¬ (0 ≤ l.getD k 0 ∧ l.getD k 0 < n) then 6 else if 0 < k ∧ l.getD k 0 < l.getD (k - 1) 0 then 14 else 0
def rowC (n : Nat) (l : List Int) : Nat := if 400 < l.length then 8 else fnz (rowAt n l) l.length
open Classical in
/-- The error of one vertex. -/
noncomputable def atC (names : List ByteArray) (E : List (List Int)) (i : Nat) : Nat :=
  if nameB (names.getD i ByteArray.empty) = false then 4 else if names.getD i ByteArray.empty ∈ names.take i then 5 else rowC names.length (E.getD i [])
/-- The error of a graph. -/
noncomputable def chk (names : List ByteArray) (E : List (List Int)) : Nat :=
  if names.length ≠ E.length then 9 else if 2500 < names.length then 8 else fnz (atC names E) names.length

end Go.Proofs.YtefcdclmabdmbaaGreatDoor

namespace Go.Proofs.YtefcdclmabdmbaaGreatDoor
open Go.RowKit

def hasB (n : Nat) (x : Int) : Bool := decide (0 ≤ x ∧ x < n)

/-- graph.has. -/
theorem has_any {w : World} {v : Value} {names : List ByteArray} {E : List (List Int)} (h : GrV w v names E) (x : Int) :
    Calls Tryz.prog 94 #[v, .int .i64 x] w fun e w' => e = .returned (.bool (hasB names.length x)) ∧ Below w.heap.size w w' := by
  obtain ⟨A, c, A', c', rfl, hs, hg⟩ := h
  have hr := hs.room
  unfold maxLen at hr
  by_cases h0 : 0 ≤ x
  · by_cases h1 : x < names.length
    · have e : hasB names.length x = true := by unfold hasB; simp [h0, h1]
      rw [e]
      go_enter Tryz.func94, Tryz.ntmps94
      go_wp2
      go_ret
      exact ⟨rfl, (Below.refl _ _).alloc (Nat.le_refl _) _⟩
    · have e : hasB names.length x = false := by unfold hasB; simp; omega
      rw [e]
      have hd : decide (x < (names.length : Int)) = false := by simpa using h1
      go_enter Tryz.func94, Tryz.ntmps94
      go_wp2
      go_ret
      exact ⟨rfl, (Below.refl _ _).alloc (Nat.le_refl _) _⟩
  · have e : hasB names.length x = false := by unfold hasB; simp; omega
    rw [e]
    have hd : decide (0 ≤ x) = false := by simpa using h0
    go_enter Tryz.func94, Tryz.ntmps94
    go_wp2
    go_ret
    exact ⟨rfl, (Below.refl _ _).alloc (Nat.le_refl _) _⟩

theorem mem_getElem {α : Type} {l : List α} {x : α} (h : x ∈ l) : ∃ i : Nat, i < l.length ∧ l[i]? = some x := by
  obtain ⟨i, hi⟩ := List.getElem?_of_mem h
  refine ⟨i, ?_, hi⟩
  rcases Nat.lt_or_ge i l.length with h1 | h1
  · exact h1
  · rw [List.getElem?_eq_none h1] at hi; cases hi

end Go.Proofs.YtefcdclmabdmbaaGreatDoor

namespace Go.Proofs.YtefcdclmabdmbaaGreatDoor
open Go.RowKit

theorem getD_some {α : Type} {l : List α} {i : Nat} {x d : α} (h : l[i]? = some x) : l.getD i d = x := by simp [List.getD, h]
theorem lt_of_some {α : Type} {l : List α} {i : Nat} {x : α} (h : l[i]? = some x) : i < l.length := by
  rcases Nat.lt_or_ge i l.length with h1 | h1
  · exact h1
  · rw [List.getElem?_eq_none h1] at h; cases h
theorem mem_take {α : Type} {l : List α} {k : Nat} {x : α} : x ∈ l.take k ↔ ∃ j, j < k ∧ l[j]? = some x := by
  constructor
  · intro h
    obtain ⟨j, hj⟩ := List.getElem?_of_mem h
    have hl := lt_of_some hj
    rw [List.length_take] at hl
    rw [List.getElem?_take, if_pos (by omega)] at hj
    exact ⟨j, by omega, hj⟩
  · rintro ⟨j, hj, h⟩
    exact List.mem_of_getElem? (i := j) (by rw [List.getElem?_take, if_pos hj]; exact h)
theorem atC_name {names : List ByteArray} {E : List (List Int)} {i : Nat} {x : ByteArray} (hx : names[i]? = some x) (h : nameB x = false) : atC names E i = 4 := by unfold atC; rw [getD_some hx, if_pos h]
theorem atC_exists {names : List ByteArray} {E : List (List Int)} {i j : Nat} {x : ByteArray} (hx : names[i]? = some x) (h : nameB x = true) (hj : j < i) (hy : names[j]? = some x) : atC names E i = 5 := by
  unfold atC; rw [getD_some hx, if_neg (by rw [h]; simp), if_pos (mem_take.2 ⟨j, hj, hy⟩)]
theorem atC_row {names : List ByteArray} {E : List (List Int)} {i : Nat} {x : ByteArray} {l : List Int} (hx : names[i]? = some x) (h : nameB x = true) (hl : E[i]? = some l) (hno : ∀ j, j < i → names[j]? ≠ some x) : atC names E i = rowC names.length l := by
  unfold atC; rw [getD_some hx, if_neg (by rw [h]; simp), if_neg (fun hm => by obtain ⟨j, hj, h2⟩ := mem_take.1 hm; exact hno j hj h2), getD_some hl]
theorem chk_hit {names : List ByteArray} {E : List (List Int)} {k : Nat} (h1 : names.length = E.length) (h2 : names.length ≤ 2500) (hk : k < names.length) (hz : ∀ i, i < k → atC names E i = 0) (hf : atC names E k ≠ 0) : chk names E = atC names E k := by
  unfold chk; rw [if_neg (by omega), if_neg (by omega)]; exact fnz_hit hz hk hf
theorem chk_ok {names : List ByteArray} {E : List (List Int)} (h1 : names.length = E.length) (h2 : names.length ≤ 2500) (hz : ∀ i, i < names.length → atC names E i = 0) : chk names E = 0 := by
  unfold chk; rw [if_neg (by omega), if_neg (by omega)]; exact fnz_none hz
theorem rowC_hit {n k : Nat} {l : List Int} (h : l.length ≤ 400) (hk : k < l.length) (hz : ∀ i, i < k → rowAt n l i = 0) (hf : rowAt n l k ≠ 0) : rowC n l = rowAt n l k := by
  unfold rowC; rw [if_neg (by omega)]; exact fnz_hit hz hk hf
theorem rowC_ok {n : Nat} {l : List Int} (h : l.length ≤ 400) (hz : ∀ i, i < l.length → rowAt n l i = 0) : rowC n l = 0 := by
  unfold rowC; rw [if_neg (by omega)]; exact fnz_none hz

def ChkR (w : World) (c : Nat) (e : Ending) (w' : World) : Prop := e = .returned (.int .i64 (c : Nat)) ∧ Below w.heap.size w w'
theorem chkR_of {w w' : World} {c d : Nat} (h : d = c) (hb : Below w.heap.size w w') : ChkR w c (.returned (.int .i64 (d : Nat))) w' := ⟨by rw [h], hb⟩

end Go.Proofs.YtefcdclmabdmbaaGreatDoor
