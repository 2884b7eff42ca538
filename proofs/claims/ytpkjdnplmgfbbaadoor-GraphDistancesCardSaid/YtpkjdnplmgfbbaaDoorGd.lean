/- Plain graphs: what the two ways of finding distances compute. No program in sight. -/
import Derived.Test.YtpkjdnplmgfbbaaDoorGp
namespace Go.Proofs.YtpkjdnplmgfbbaaDoor

theorem getD_set {l : List Int} {i j : Nat} {x d : Int} : (l.set i x).getD j d = if i = j ∧ i < l.length then x else l.getD j d := by
  simp only [List.getD, List.getElem?_set]
  by_cases h : i = j
  · subst h
    by_cases h2 : i < l.length
    · simp [h2]
    · simp [h2]
  · simp [h]

theorem some_lt {α : Type} {l : List α} {i : Nat} {x : α} (h : l[i]? = some x) : i < l.length := by
  rcases Nat.lt_or_ge i l.length with h1 | h1
  · exact h1
  · rw [List.getElem?_eq_none h1] at h; cases h

/-- One visit. -/
def vis (a : Nat) (out : List Int) (p : Nat × Nat) : List Int := if p.2 = a then out.set p.2 0 else out.set p.2 (out.getD p.1 0 + 1)
/-- The list behind some visits. -/
def dl (n a : Nat) (done : List (Nat × Nat)) : List Int := done.foldl (vis a) (List.replicate n (-1))

theorem dl_snoc (n a : Nat) (done : List (Nat × Nat)) (p : Nat × Nat) : dl n a (done ++ [p]) = vis a (dl n a done) p := by simp [dl]
theorem vis_length (a : Nat) (out : List Int) (p : Nat × Nat) : (vis a out p).length = out.length := by unfold vis; split <;> simp
theorem dl_length (n a : Nat) (done : List (Nat × Nat)) : (dl n a done).length = n := by
  unfold dl
  have : ∀ l : List Int, (done.foldl (vis a) l).length = l.length := by
    induction done with
    | nil => intro l; rfl
    | cons p r ih => intro l; rw [List.foldl_cons, ih, vis_length]
  rw [this]; simp

/-- The numbers stay small. -/
theorem dl_small (n a : Nat) (done : List (Nat × Nat)) : ∀ v, -1 ≤ (dl n a done).getD v 0 ∧ (dl n a done).getD v 0 ≤ done.length := by
  unfold dl
  have : ∀ (l : List Int) (b : Nat), (∀ v, -1 ≤ l.getD v 0 ∧ l.getD v 0 ≤ b) → ∀ v, -1 ≤ (done.foldl (vis a) l).getD v 0 ∧ (done.foldl (vis a) l).getD v 0 ≤ (b + done.length : Nat) := by
    induction done with
    | nil => intro l b h v; exact h v
    | cons p r ih =>
      intro l b h v
      rw [List.foldl_cons]
      have h1 := ih (vis a l p) (b + 1) ?_ v
      · simp only [List.length_cons]
        have e : b + 1 + r.length = b + (r.length + 1) := by omega
        rw [e] at h1; exact h1
      · intro u
        have hu := h u
        have hp := h p.1
        unfold vis
        split
        · rw [getD_set]; split <;> omega
        · rw [getD_set]; split <;> omega
  intro v
  have h := this (List.replicate n (-1)) 0 ?_ v
  · simpa using h
  · intro u
    simp only [List.getD, List.getElem?_replicate]
    split <;> simp

/-- Behind the first j visits: those visited have their depth, the others -1. -/
theorem dl_at {E : List (List Nat)} {a k : Nat} {pre : List Nat} {s : Bs} {dep : List Nat} (h : Srch E a k pre s dep) (ha : a < E.length) (j : Nat) (hj : j ≤ s.q.length) :
    (∀ i d : Nat, ∀ p, i < j → s.q[i]? = some p → dep[i]? = some d → (dl E.length a (s.q.take j)).getD p.2 0 = d) ∧
    (∀ v, v < E.length → (∀ i : Nat, i < j → (s.q[i]?).map Prod.snd ≠ some v) → (dl E.length a (s.q.take j)).getD v 0 = -1) := by
  induction j with
  | zero =>
    refine ⟨fun i d p hi => by omega, fun v hv _ => ?_⟩
    simp [dl, List.getD, hv]
  | succ j ih =>
    obtain ⟨ih1, ih2⟩ := ih (by omega)
    have hjl : j < s.q.length := by omega
    obtain ⟨p, hp⟩ : ∃ p, s.q[j]? = some p := ⟨_, List.getElem?_eq_getElem hjl⟩
    obtain ⟨dj, hdj⟩ : ∃ d, dep[j]? = some d := ⟨_, List.getElem?_eq_getElem (by rw [h.dlen]; exact hjl)⟩
    have e : s.q.take (j + 1) = s.q.take j ++ [p] := by rw [List.take_add_one, hp]; rfl
    rw [e, dl_snoc]
    have hlen := dl_length E.length a (s.q.take j)
    have hpl : p.2 < E.length := h.small j p hp
    have hset : ∀ v, (vis a (dl E.length a (s.q.take j)) p).getD v 0 = if p.2 = v then (dj : Int) else (dl E.length a (s.q.take j)).getD v 0 := by
      intro v
      by_cases hj0 : j = 0
      · subst hj0
        have e1 : p = (a, a) := by have := h.first; rw [hp] at this; exact Option.some.inj this
        have e2 : dj = 0 := by have := h.d0; rw [hdj] at this; exact Option.some.inj this
        subst e1 e2
        unfold vis
        rw [if_pos rfl, getD_set]
        by_cases hv : a = v
        · rw [if_pos ⟨hv, by rw [hlen]; exact ha⟩, if_pos hv]; rfl
        · rw [if_neg (fun h => hv h.1), if_neg hv]
      · have hpa : p.2 ≠ a := fun e => by
          have := h.nodup j 0 a (by rw [hp, ← e]; rfl) (by rw [h.first]; rfl)
          omega
        obtain ⟨i, di, a1, _, a3, a4, a5⟩ := h.par j p dj (by omega) hp hdj
        obtain ⟨b, hb⟩ := snd_some a3
        have h1 := ih1 i di (b, p.1) a1 hb a4
        unfold vis
        rw [if_neg hpa, getD_set, h1]
        by_cases hv : p.2 = v
        · rw [if_pos ⟨hv, by rw [hlen]; exact hpl⟩, if_pos hv, a5]; omega
        · rw [if_neg (fun h => hv h.1), if_neg hv]
    refine ⟨fun i d q hi hq hd => ?_, fun v hv hno => ?_⟩
    · rw [hset]
      by_cases hij : i = j
      · subst hij
        rw [hp] at hq; cases hq
        rw [hdj] at hd; cases hd
        rw [if_pos rfl]
      · have hne : p.2 ≠ q.2 := fun e => hij (h.nodup i j q.2 (by rw [hq]; rfl) (by rw [hp, ← e]; rfl))
        rw [if_neg hne]
        exact ih1 i d q (by omega) hq hd
    · rw [hset]
      have hne : p.2 ≠ v := fun e => hno j (by omega) (by rw [hp, ← e]; rfl)
      rw [if_neg hne]
      exact ih2 v hv fun i hi => hno i (by omega)

/-- Whatever a walk reaches is in the queue, no deeper than the walk is long. -/
theorem Srch.reach {E : List (List Nat)} {a k : Nat} {s : Bs} {dep : List Nat} (h : Srch E a k [] s dep) (hk : s.q.length = k) :
    ∀ m v, Wk E a m v → ∃ j d : Nat, (s.q[j]?).map Prod.snd = some v ∧ dep[j]? = some d ∧ d ≤ m := by
  intro m
  induction m with
  | zero => intro v hv; have e : v = a := hv; subst e; exact ⟨0, 0, by rw [h.first]; rfl, h.d0, Nat.le_refl _⟩
  | succ m ih =>
    intro v hv
    obtain ⟨z, hz, hvz⟩ := hv
    obtain ⟨j, d, h1, h2, h3⟩ := ih z hz
    obtain ⟨b, hb⟩ := snd_some h1
    obtain ⟨j', d', k1, k2, k3⟩ := h.closed j (b, z) d (by have := some_lt hb; omega) hb h2 v hvz
    exact ⟨j', d', k1, k2, by omega⟩

theorem Srch.depth {E : List (List Nat)} {a k : Nat} {pre : List Nat} {s : Bs} {dep : List Nat} (h : Srch E a k pre s dep) : ∀ b j d : Nat, j ≤ b → dep[j]? = some d → d ≤ j := by
  intro b
  induction b with
  | zero => intro j d hj hd; have e : j = 0 := by omega
            subst e; have := h.d0; rw [hd] at this; cases this; omega
  | succ b ih =>
    intro j d hj hd
    by_cases h0 : j = 0
    · subst h0; have := h.d0; rw [hd] at this; cases this; omega
    · have hjl : j < s.q.length := by have := some_lt hd; rw [h.dlen] at this; exact this
      obtain ⟨i, di, a1, _, _, a4, a5⟩ := h.par j _ d (by omega) (List.getElem?_eq_getElem hjl) hd
      have := ih i di (by omega) a4
      omega

/-- The visits of a whole search give the distances. -/
theorem dl_dists {E : List (List Nat)} (hE : Valid E) {a : Nat} (ha : a < E.length) {k : Nat} (hk : (bs E a k).q.length = k) (hpr : ∀ i, i < k → ∃ p, (bs E a i).q[i]? = some p) : IsDists E a (dl E.length a (bs E a k).q) := by
  obtain ⟨dep, h⟩ := bs_inv hE ha k hpr
  have hat := dl_at h ha (bs E a k).q.length (Nat.le_refl _)
  rw [List.take_length] at hat
  obtain ⟨h1, h2⟩ := hat
  refine ⟨dl_length _ _ _, fun v hv => ?_⟩
  by_cases hin : ∃ j : Nat, ((bs E a k).q[j]?).map Prod.snd = some v
  · obtain ⟨j, hj⟩ := hin
    obtain ⟨b, hb⟩ := snd_some hj
    have hjl := some_lt hb
    obtain ⟨d, hd⟩ : ∃ d, dep[j]? = some d := ⟨_, List.getElem?_eq_getElem (by rw [h.dlen]; exact hjl)⟩
    refine .inr ⟨d, h1 j d (b, v) hjl hb hd, h.walk j (b, v) d hb hd, fun m hm => ?_⟩
    obtain ⟨j', d', k1, k2, k3⟩ := h.reach hk m v hm
    have e := h.nodup j j' v hj k1
    subst e
    rw [hd] at k2; cases k2
    exact k3
  · refine .inl ⟨h2 v hv fun i _ hi => hin ⟨i, hi⟩, fun m hm => ?_⟩
    obtain ⟨j', d', k1, _, _⟩ := h.reach hk m v hm
    exact hin ⟨j', k1⟩

/-- A search comes to its end. -/
theorem bs_final {E : List (List Nat)} (hE : Valid E) {a : Nat} (ha : a < E.length) : ∃ k, (bs E a k).q.length = k ∧ ∀ i, i < k → ∃ p, (bs E a i).q[i]? = some p := by
  apply Classical.byContradiction
  intro hno
  have hall : ∀ k, (∀ i, i < k → ∃ p, (bs E a i).q[i]? = some p) ∧ k ≤ (bs E a k).q.length := by
    intro k
    induction k with
    | zero => exact ⟨fun i hi => by omega, Nat.zero_le _⟩
    | succ k ih =>
      obtain ⟨i1, i2⟩ := ih
      have hne : (bs E a k).q.length ≠ k := fun e => hno ⟨k, e, i1⟩
      have hlt : k < (bs E a k).q.length := by omega
      have hp : (bs E a k).q[k]? = some _ := List.getElem?_eq_getElem hlt
      refine ⟨fun i hi => ?_, ?_⟩
      · by_cases e : i = k
        · subst e; exact ⟨_, hp⟩
        · exact i1 i (by omega)
      · rw [bs_succ hp]
        have : ∀ (v : Nat) (l : List Nat) (s : Bs), s.q.length ≤ (addAll v s l).q.length := by
          intro v l
          induction l with
          | nil => intro s; exact Nat.le_refl _
          | cons x r ihl =>
            intro s
            refine Nat.le_trans ?_ (ihl (addOne v s x))
            unfold addOne
            split
            · exact Nat.le_refl _
            · simp
        have := this ((bs E a k).q[k]).2 (gr E ((bs E a k).q[k]).2) (bs E a k)
        omega
  obtain ⟨dep, h⟩ := bs_inv hE ha (E.length + 1) (hall _).1
  have h1 := h.qlen
  have h2 := (hall (E.length + 1)).2
  omega

/-- The distances from a vertex. -/
noncomputable def dd (E : List (List Nat)) (a : Nat) : List Int := Classical.epsilon (IsDists E a)
theorem dd_is {E : List (List Nat)} (hE : Valid E) {a : Nat} (ha : a < E.length) : IsDists E a (dd E a) := by
  obtain ⟨k, hk, hpr⟩ := bs_final hE ha
  exact Classical.epsilon_spec ⟨_, dl_dists hE ha hk hpr⟩
theorem IsDists.eq {E : List (List Nat)} {a : Nat} {l : List Int} (h : IsDists E a l) : l = dd E a := h.unique (Classical.epsilon_spec ⟨_, h⟩)

/-- What a walk reaches, a walk shorter than the number of vertices reaches. -/
theorem short_walk {E : List (List Nat)} (hE : Valid E) {a : Nat} (ha : a < E.length) {m v : Nat} (h : Wk E a m v) : ∃ j, j < E.length ∧ Wk E a j v := by
  obtain ⟨k, hk, hpr⟩ := bs_final hE ha
  obtain ⟨dep, hs⟩ := bs_inv hE ha k hpr
  obtain ⟨j, d, h1, h2, _⟩ := hs.reach hk m v h
  obtain ⟨b, hb⟩ := snd_some h1
  refine ⟨d, ?_, hs.walk j (b, v) d hb h2⟩
  have := hs.depth j j d (Nat.le_refl _) h2
  have := some_lt hb
  have := hs.qlen
  omega
theorem IsDist.small {E : List (List Nat)} (hE : Valid E) {a : Nat} (ha : a < E.length) {v : Nat} {x : Int} (h : IsDist E a v x) : -1 ≤ x ∧ x < E.length := by
  rcases h with ⟨h1, _⟩ | ⟨m, h1, h2, h3⟩
  · omega
  · obtain ⟨j, hj, hw⟩ := short_walk hE ha h2
    have := h3 j hw
    omega
theorem dd_small {E : List (List Nat)} (hE : Valid E) {a : Nat} (ha : a < E.length) {x : Int} (h : x ∈ dd E a) : -1 ≤ x ∧ x < E.length := by
  obtain ⟨i, hi⟩ := List.getElem?_of_mem h
  have hd := dd_is hE ha
  have hil := some_lt hi
  have h1 := (hd.2 i (by rw [← hd.1]; exact hil)).small hE ha
  have : (dd E a).getD i 0 = x := by simp [List.getD, hi]
  rwa [this] at h1

/-- The list in round d of the reference, in which the edges of T are through. -/
structure Lev (E : List (List Nat)) (u d : Nat) (T : Nat → Nat → Prop) (l : List Int) : Prop where
  len : l.length = E.length
  is : ∀ v, v < E.length → l.getD v 0 = -1 ∨ ∃ m : Nat, l.getD v 0 = m ∧ m ≤ d + 1 ∧ Wk E u m v ∧ ∀ j, Wk E u j v → m ≤ j
  has : ∀ v m, v < E.length → m ≤ d → Wk E u m v → l.getD v 0 ≠ -1
  thr : ∀ z x, T z x → x < E.length → l.getD z 0 = d → l.getD x 0 ≠ -1

theorem Lev.start {E : List (List Nat)} {u : Nat} (hu : u < E.length) : Lev E u 0 (fun _ _ => False) ((List.replicate E.length (-1)).set u 0) := by
  have hg : ∀ v, v < E.length → ((List.replicate E.length (-1 : Int)).set u 0).getD v 0 = if u = v then 0 else -1 := by
    intro v hv
    rw [getD_set]
    by_cases e : u = v
    · rw [if_pos ⟨e, by simpa using hu⟩, if_pos e]
    · rw [if_neg (fun h => e h.1), if_neg e]; simp [List.getD, hv]
  refine ⟨by simp, fun v hv => ?_, fun v m hv hm hw => ?_, fun _ _ h => h.elim⟩
  · rw [hg v hv]
    by_cases e : u = v
    · rw [if_pos e]; exact .inr ⟨0, rfl, by omega, e.symm, fun _ _ => Nat.zero_le _⟩
    · rw [if_neg e]; exact .inl rfl
  · have : m = 0 := by omega
    subst this
    have e : v = u := hw
    rw [hg v hv, if_pos e.symm]
    decide

theorem Lev.mono {E : List (List Nat)} {u d : Nat} {T T' : Nat → Nat → Prop} {l : List Int} (h : Lev E u d T l) (hT : ∀ z x, T' z x → x < E.length → l.getD z 0 = d → T z x) : Lev E u d T' l :=
  ⟨h.len, h.is, h.has, fun z x hz hx hd => h.thr z x (hT z x hz hx hd) hx hd⟩

/-- One neighbour x of z, which is at the distance d. -/
theorem Lev.one {E : List (List Nat)} {u d : Nat} {T : Nat → Nat → Prop} {l : List Int} (h : Lev E u d T l) {z x : Nat} (hz : z < E.length) (hzd : l.getD z 0 = d) (hx : x ∈ gr E z) (hxl : x < E.length) :
    Lev E u d (fun a b => T a b ∨ (a = z ∧ b = x)) (if l.getD x 0 < 0 then l.set x (d + 1) else l) := by
  by_cases hneg : l.getD x 0 < 0
  · rw [if_pos hneg]
    have hxm : l.getD x 0 = -1 := by
      rcases h.is x hxl with h1 | ⟨m, h1, _⟩
      · exact h1
      · omega
    have hwz : Wk E u d z := by
      rcases h.is z hz with h1 | ⟨m, h1, _, h3, _⟩
      · omega
      · have : m = d := by omega
        subst this; exact h3
    have hg : ∀ v, (l.set x ((d : Int) + 1)).getD v 0 = if x = v then (d : Int) + 1 else l.getD v 0 := by
      intro v
      rw [getD_set]
      by_cases e : x = v
      · rw [if_pos ⟨e, by rw [h.len]; exact hxl⟩, if_pos e]
      · rw [if_neg (fun h => e h.1), if_neg e]
    refine ⟨by simp [h.len], fun v hv => ?_, fun v m hv hm hw => ?_, fun a b hab hb hd => ?_⟩
    · rw [hg]
      by_cases e : x = v
      · rw [if_pos e]
        subst e
        refine .inr ⟨d + 1, by omega, Nat.le_refl _, ⟨z, hwz, hx⟩, fun j hj => ?_⟩
        rcases Nat.lt_or_ge d j with h1 | h1
        · exact h1
        · exact absurd hxm (h.has x j hxl h1 hj)
      · rw [if_neg e]; exact h.is v hv
    · rw [hg]
      split
      · omega
      · exact h.has v m hv hm hw
    · rw [hg] at hd ⊢
      by_cases e : x = b
      · rw [if_pos e]; omega
      · rw [if_neg e]
        by_cases e2 : x = a
        · rw [if_pos e2] at hd; omega
        · rw [if_neg e2] at hd
          rcases hab with hab | ⟨_, hab⟩
          · exact h.thr a b hab hb hd
          · exact absurd hab.symm e
  · rw [if_neg hneg]
    refine ⟨h.len, h.is, h.has, fun a b hab hb hd => ?_⟩
    rcases hab with hab | ⟨_, hab⟩
    · exact h.thr a b hab hb hd
    · subst hab; omega

theorem Lev.next {E : List (List Nat)} (hE : Valid E) {u d : Nat} {T : Nat → Nat → Prop} {l : List Int} (h : Lev E u d T l) (hu : u < E.length) (hT : ∀ z x, x ∈ gr E z → z < E.length → T z x) : Lev E u (d + 1) (fun _ _ => False) l := by
  refine ⟨h.len, fun v hv => ?_, fun v m hv hm hw => ?_, fun _ _ h => h.elim⟩
  · rcases h.is v hv with h1 | ⟨m, h1, h2, h3⟩
    · exact .inl h1
    · exact .inr ⟨m, h1, by omega, h3⟩
  · rcases Nat.lt_or_ge d m with h1 | h1
    · have e : m = d + 1 := by omega
      subst e
      obtain ⟨z, hz, hvz⟩ := hw
      have hzl := hz.lt hE hu
      rcases h.is z hzl with h2 | ⟨j, h2, h3, h4, h5⟩
      · exact absurd h2 (h.has z d hzl (Nat.le_refl _) hz)
      · have hjd := h5 d hz
        by_cases e : j = d
        · subst e; exact h.thr z v (hT z v hvz hzl) hv h2
        · exact h.has v (j + 1) hv (by omega) ⟨z, h4, hvz⟩
    · exact h.has v m hv h1 hw

theorem Lev.done {E : List (List Nat)} (hE : Valid E) {u d : Nat} {T : Nat → Nat → Prop} {l : List Int} (h : Lev E u d T l) (hu : u < E.length) (hd : E.length ≤ d) : IsDists E u l := by
  refine ⟨h.len, fun v hv => ?_⟩
  rcases h.is v hv with h1 | ⟨m, h1, _, h3, h4⟩
  · refine .inl ⟨h1, fun m hm => ?_⟩
    obtain ⟨j, hj, hw⟩ := short_walk hE hu hm
    exact h.has v j hv (by omega) hw h1
  · exact .inr ⟨m, h1, h3, h4⟩
theorem Lev.small {E : List (List Nat)} {u d : Nat} {T : Nat → Nat → Prop} {l : List Int} (h : Lev E u d T l) {v : Nat} (hv : v < E.length) : -1 ≤ l.getD v 0 ∧ l.getD v 0 ≤ d + 1 := by
  rcases h.is v hv with h1 | ⟨m, h1, h2, _⟩ <;> omega

/-- The greatest number of a list and m. -/
def mx (m : Int) (l : List Int) : Int := l.foldl max m
theorem mx_snoc (m : Int) (l : List Int) (x : Int) : mx m (l ++ [x]) = max (mx m l) x := by simp [mx]
/-- The greatest distance from the first k vertices. -/
noncomputable def dm (E : List (List Nat)) : Nat → Int
  | 0 => 0
  | k + 1 => mx (dm E k) (dd E k)
/-- All distances from the first k vertices are there. -/
def dok (E : List (List Nat)) (k : Nat) : Prop := ∀ i, i < k → ∀ x ∈ dd E i, ¬ x < 0
theorem mx_small {m b : Int} {l : List Int} (hm : 0 ≤ m ∧ m ≤ b) (hl : ∀ x ∈ l, x ≤ b) : 0 ≤ mx m l ∧ mx m l ≤ b := by
  induction l generalizing m with
  | nil => exact hm
  | cons x r ih =>
    have h1 := hl x (by simp)
    exact ih (m := max m x) (by omega) fun y hy => hl y (by simp [hy])
theorem dm_small {E : List (List Nat)} (hE : Valid E) (k : Nat) (hk : k ≤ E.length) : 0 ≤ dm E k ∧ dm E k ≤ E.length := by
  induction k with
  | zero => exact ⟨Int.le_refl 0, by simp [dm]⟩
  | succ k ih => exact mx_small (ih (by omega)) fun x hx => by have := dd_small hE (by omega) hx; omega
end Go.Proofs.YtpkjdnplmgfbbaaDoor
