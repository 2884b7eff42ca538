/- Plain graphs: components and colourings. No program in sight. -/
import Derived.Test.YtpkjdnplmgfbbaaDoorG1
namespace Go.Proofs.YtpkjdnplmgfbbaaDoor

/-- Some walk leads from u to v. -/
def Con (R : List (List Nat)) (u v : Nat) : Prop := ∃ m, Wk R u m v
/-- Each edge leads back. -/
def Sym (R : List (List Nat)) : Prop := ∀ u v, u ∈ gr R v ↔ v ∈ gr R u

theorem Wk.add {R : List (List Nat)} {u v x a : Nat} : ∀ {b}, Wk R u a v → Wk R v b x → Wk R u (a + b) x
  | 0, h, k => by have e : x = v := k; rw [e]; exact h
  | b + 1, h, k => by obtain ⟨z, k1, k2⟩ := k; exact ⟨z, Wk.add h k1, k2⟩
theorem Wk.one {R : List (List Nat)} {u v : Nat} (h : v ∈ gr R u) : Wk R u 1 v := ⟨u, rfl, h⟩
theorem Wk.back {R : List (List Nat)} (hR : Sym R) : ∀ {m u v}, Wk R u m v → Wk R v m u
  | 0, u, v, h => by have e : v = u := h; rw [e]; rfl
  | m + 1, u, v, h => by
    obtain ⟨z, h1, h2⟩ := h
    have h3 : Wk R v 1 z := Wk.one ((hR z v).2 h2)
    have h4 := h3.add (Wk.back hR h1)
    rwa [Nat.add_comm 1 m] at h4
theorem Con.refl (R : List (List Nat)) (u : Nat) : Con R u u := ⟨0, rfl⟩
theorem Con.trans {R : List (List Nat)} {u v x : Nat} (h : Con R u v) (k : Con R v x) : Con R u x := by
  obtain ⟨a, h⟩ := h
  obtain ⟨b, k⟩ := k
  exact ⟨a + b, h.add k⟩
theorem Con.symm {R : List (List Nat)} (hR : Sym R) {u v : Nat} (h : Con R u v) : Con R v u := by obtain ⟨a, h⟩ := h; exact ⟨a, h.back hR⟩
theorem Con.one {R : List (List Nat)} {u v : Nat} (h : v ∈ gr R u) : Con R u v := ⟨1, Wk.one h⟩
theorem Con.lt {R : List (List Nat)} (hE : Valid R) {u v : Nat} (hu : u < R.length) (h : Con R u v) : v < R.length := by obtain ⟨a, h⟩ := h; exact h.lt hE hu
/-- What is closed under edges holds along walks. -/
theorem Con.ind {R : List (List Nat)} {P : Nat → Prop} (hP : ∀ u v, P u → v ∈ gr R u → P v) {u v : Nat} (h : Con R u v) (hu : P u) : P v := by
  obtain ⟨m, h⟩ := h
  induction m generalizing v with
  | zero => have e : v = u := h; rw [e]; exact hu
  | succ m ih => obtain ⟨z, h1, h2⟩ := h; exact hP z v (ih h1) h2

/-- The least vertex of its component. -/
def Root (R : List (List Nat)) (r : Nat) : Prop := ∀ x, Con R x r → r ≤ x

theorem least {P : Nat → Prop} : ∀ n, P n → ∃ m, m ≤ n ∧ P m ∧ ∀ x, P x → m ≤ x := by
  intro n
  induction n using Nat.strongRecOn with
  | ind n ih =>
    intro hn
    by_cases h : ∃ x, x < n ∧ P x
    · obtain ⟨x, hx, hp⟩ := h
      obtain ⟨m, h1, h2, h3⟩ := ih x hx hp
      exact ⟨m, by omega, h2, h3⟩
    · refine ⟨n, Nat.le_refl _, hn, fun x hx => ?_⟩
      rcases Nat.lt_or_ge x n with h1 | h1
      · exact absurd ⟨x, h1, hx⟩ h
      · exact h1
theorem root_of {R : List (List Nat)} (v : Nat) : ∃ r, r ≤ v ∧ Root R r ∧ Con R r v := by
  obtain ⟨r, h1, h2, h3⟩ := least (P := fun x => Con R x v) v (Con.refl R v)
  exact ⟨r, h1, fun x hx => h3 x (hx.trans h2), h2⟩
theorem Root.unique {R : List (List Nat)} (hR : Sym R) {r s v : Nat} (h : Root R r) (k : Root R s) (h1 : Con R r v) (k1 : Con R s v) : r = s := by
  have a := h s (k1.trans (h1.symm hR))
  have b := k r (h1.trans (k1.symm hR))
  omega

open Classical in
/-- The roots below a number. -/
noncomputable def rts (R : List (List Nat)) : Nat → List Nat
  | 0 => []
  | i + 1 => if Root R i then rts R i ++ [i] else rts R i
theorem rts_root {R : List (List Nat)} {i : Nat} (h : Root R i) : rts R (i + 1) = rts R i ++ [i] := by rw [rts, if_pos h]
theorem rts_not {R : List (List Nat)} {i : Nat} (h : ¬ Root R i) : rts R (i + 1) = rts R i := by rw [rts, if_neg h]
theorem rts_mem {R : List (List Nat)} {r : Nat} : ∀ i, r ∈ rts R i ↔ r < i ∧ Root R r
  | 0 => by simp [rts]
  | i + 1 => by
    by_cases h : Root R i
    · rw [rts_root h, List.mem_append, rts_mem i, List.mem_singleton]
      constructor
      · rintro (⟨h1, h2⟩ | rfl)
        · exact ⟨by omega, h2⟩
        · exact ⟨by omega, h⟩
      · rintro ⟨h1, h2⟩
        by_cases e : r = i
        · exact .inr e
        · exact .inl ⟨by omega, h2⟩
    · rw [rts_not h, rts_mem i]
      constructor
      · rintro ⟨h1, h2⟩; exact ⟨by omega, h2⟩
      · rintro ⟨h1, h2⟩
        refine ⟨?_, h2⟩
        by_cases e : r = i
        · rw [e] at h2; exact absurd h2 h
        · omega
theorem rts_len {R : List (List Nat)} : ∀ i, (rts R i).length ≤ i
  | 0 => by simp [rts]
  | i + 1 => by
    have := rts_len (R := R) i
    by_cases h : Root R i
    · rw [rts_root h, List.length_append]; simp; omega
    · rw [rts_not h]; omega
theorem rts_inj {R : List (List Nat)} : ∀ i (a b : Nat) r, (rts R i)[a]? = some r → (rts R i)[b]? = some r → a = b
  | 0, a, b, r, h, _ => by simp [rts] at h
  | i + 1, a, b, r, h, k => by
    by_cases hr : Root R i
    · rw [rts_root hr] at h k
      have hlt : ∀ {c : Nat}, (rts R i)[c]? = some i → False := fun hc => by
        have := ((rts_mem i).1 (List.mem_of_getElem? hc)).1; omega
      rcases getElem?_snoc_cases h with ⟨h1, h2⟩ | ⟨h1, h2⟩ <;> rcases getElem?_snoc_cases k with ⟨k1, k2⟩ | ⟨k1, k2⟩
      · exact rts_inj i a b r h2 k2
      · rw [k2] at h2; exact absurd h2 hlt
      · rw [h2] at k2; exact absurd k2 hlt
      · omega
    · rw [rts_not hr] at h k; exact rts_inj i a b r h k

/-- The numbers of the components, where the roots below i have been gone through; -1 elsewhere. -/
def CompI (R : List (List Nat)) (i : Nat) (l : List Int) : Prop :=
  l.length = R.length ∧ ∀ v, v < R.length → (∃ k r : Nat, (rts R i)[k]? = some r ∧ Con R r v ∧ l.getD v 0 = k) ∨ ((∀ r, r < i → ¬ Con R r v) ∧ l.getD v 0 = -1)
theorem CompI.zero (R : List (List Nat)) : CompI R 0 (List.replicate R.length (-1)) :=
  ⟨by simp, fun v hv => .inr ⟨fun r hr => by omega, by simp [List.getD, hv]⟩⟩
theorem CompI.ge {R : List (List Nat)} {i : Nat} {l : List Int} (h : CompI R i l) {v : Nat} (hv : v < R.length) : -1 ≤ l.getD v 0 ∧ l.getD v 0 < i + 1 := by
  rcases h.2 v hv with ⟨k, r, h1, _, h3⟩ | ⟨_, h2⟩
  · have h4 := rts_len (R := R) i
    have h5 := some_lt h1
    omega
  · omega
/-- Where the vertex has a number already, it is no root. -/
theorem CompI.skip {R : List (List Nat)} {i : Nat} {l : List Int} (h : CompI R i l) (hi : i < R.length) (hl : ¬ l.getD i 0 < 0) : CompI R (i + 1) l ∧ rts R (i + 1) = rts R i := by
  obtain ⟨k, r, h1, h2, h3⟩ : ∃ k r : Nat, (rts R i)[k]? = some r ∧ Con R r i ∧ l.getD i 0 = k := by
    rcases h.2 i hi with h1 | h1
    · exact h1
    · omega
  obtain ⟨h4, h5⟩ := (rts_mem i).1 (List.mem_of_getElem? h1)
  have hno : ¬ Root R i := fun hr => by have := hr r h2; omega
  refine ⟨⟨h.1, fun v hv => ?_⟩, rts_not hno⟩
  rw [rts_not hno]
  rcases h.2 v hv with h6 | ⟨h6, h7⟩
  · exact .inl h6
  · refine .inr ⟨fun x hx hc => ?_, h7⟩
    by_cases e : x = i
    · rw [e] at hc; exact h6 r h4 (h2.trans hc)
    · exact h6 x (by omega) hc
/-- A new component. -/
theorem CompI.step {R : List (List Nat)} {i : Nat} {l m : List Int} (h : CompI R i l) (hi : i < R.length) (hl : l.getD i 0 < 0) (hm : m.length = l.length)
    (h1 : ∀ v, v < R.length → Con R i v → m.getD v 0 = ((rts R i).length : Nat)) (h2 : ∀ v, v < R.length → ¬ Con R i v → m.getD v 0 = l.getD v 0) : CompI R (i + 1) m ∧ (rts R (i + 1)).length = (rts R i).length + 1 := by
  have hr : Root R i := fun x hx => by
    rcases h.2 i hi with ⟨k, r, _, _, h3⟩ | ⟨h3, _⟩
    · omega
    · rcases Nat.lt_or_ge x i with h4 | h4
      · exact absurd hx (h3 x h4)
      · exact h4
  refine ⟨⟨by rw [hm, h.1], fun v hv => ?_⟩, by rw [rts_root hr]; simp⟩
  rw [rts_root hr]
  by_cases hc : Con R i v
  · exact .inl ⟨(rts R i).length, i, by simp, hc, h1 v hv hc⟩
  · rw [h2 v hv hc]
    rcases h.2 v hv with ⟨k, r, a1, a2, a3⟩ | ⟨a1, a2⟩
    · exact .inl ⟨k, r, getElem?_snoc_old a1, a2, a3⟩
    · refine .inr ⟨fun x hx hc2 => ?_, a2⟩
      by_cases e : x = i
      · rw [e] at hc2; exact hc hc2
      · exact a1 x (by omega) hc2

/-- The numbers of all components. -/
def IsComp (R : List (List Nat)) (l : List Int) : Prop := l.length = R.length ∧ ∀ v, v < R.length → ∃ k r : Nat, (rts R R.length)[k]? = some r ∧ Con R r v ∧ l.getD v 0 = k
theorem CompI.done {R : List (List Nat)} {l : List Int} (h : CompI R R.length l) : IsComp R l := by
  refine ⟨h.1, fun v hv => ?_⟩
  rcases h.2 v hv with h1 | ⟨h1, _⟩
  · exact h1
  · exact absurd (Con.refl R v) (h1 v hv)
theorem list_eq_of_getD {l k : List Int} (hl : l.length = k.length) (h : ∀ v, v < l.length → l.getD v 0 = k.getD v 0) : l = k := by
  apply List.ext_getElem?
  intro i
  rcases Nat.lt_or_ge i l.length with hi | hi
  · have a := h i hi
    have e1 : l[i]? = some (l.getD i 0) := by simp [List.getD, List.getElem?_eq_getElem hi]
    have e2 : k[i]? = some (k.getD i 0) := by simp [List.getD, List.getElem?_eq_getElem (show i < k.length by omega)]
    rw [e1, e2, a]
  · rw [List.getElem?_eq_none hi, List.getElem?_eq_none (by omega)]
theorem IsComp.unique {R : List (List Nat)} (hR : Sym R) {l m : List Int} (h : IsComp R l) (k : IsComp R m) : l = m := by
  refine list_eq_of_getD (by rw [h.1, k.1]) fun v hv => ?_
  rw [h.1] at hv
  obtain ⟨a, r, h1, h2, h3⟩ := h.2 v hv
  obtain ⟨b, s, k1, k2, k3⟩ := k.2 v hv
  have e := Root.unique hR ((rts_mem _).1 (List.mem_of_getElem? h1)).2 ((rts_mem _).1 (List.mem_of_getElem? k1)).2 h2 k2
  subst e
  rw [h3, k3, rts_inj _ _ _ _ h1 k1]

/-- Labels on the way to the least vertices: each one is connected, and no greater. -/
def LabI (R : List (List Nat)) (l : List Int) : Prop := l.length = R.length ∧ ∀ v, v < R.length → ∃ x : Nat, l.getD v 0 = x ∧ x ≤ v ∧ Con R x v
theorem LabI.start (R : List (List Nat)) {l : List Int} (h : l.length = R.length) (h2 : ∀ v, v < R.length → l.getD v 0 = v) : LabI R l := ⟨h, fun v hv => ⟨v, h2 v hv, Nat.le_refl _, Con.refl R v⟩⟩
theorem LabI.step {R : List (List Nat)} {l : List Int} (h : LabI R l) {i k : Nat} (hi : i < R.length) (hk : k < R.length) (hj : k ∈ gr R i) (hlt : l.getD i 0 < l.getD k 0) : LabI R (l.set k (l.getD i 0)) := by
  refine ⟨by simp [h.1], fun v hv => ?_⟩
  obtain ⟨x, h1, h2, h3⟩ := h.2 i hi
  obtain ⟨y, k1, k2, k3⟩ := h.2 k hk
  rw [getD_set]
  by_cases e : k = v
  · subst e
    rw [if_pos ⟨rfl, by rw [h.1]; exact hk⟩]
    exact ⟨x, h1, by omega, h3.trans (Con.one hj)⟩
  · rw [if_neg (fun hh => e hh.1)]
    exact h.2 v hv
/-- The sum of the labels. -/
def lsum (l : List Int) : Nat → Nat
  | 0 => 0
  | n + 1 => lsum l n + (l.getD n 0).toNat
theorem lsum_set {l : List Int} {k : Nat} {x : Int} (hk : k < l.length) (hx : x.toNat < (l.getD k 0).toNat) : ∀ n, lsum (l.set k x) n + (if k < n then 1 else 0) ≤ lsum l n
  | 0 => by simp [lsum]
  | n + 1 => by
    have ih := lsum_set hk hx n
    rw [lsum, lsum, getD_set]
    by_cases e : k = n
    · subst e
      rw [if_pos ⟨rfl, hk⟩, if_pos (by omega)]
      rw [if_neg (by omega)] at ih
      omega
    · rw [if_neg (fun hh => e hh.1)]
      by_cases h : k < n
      · rw [if_pos h] at ih; rw [if_pos (by omega)]; omega
      · rw [if_neg h] at ih; rw [if_neg (by omega)]; omega
theorem LabI.done {R : List (List Nat)} (hR : Sym R) (hE : Valid R) {l : List Int} (h : LabI R l) (hf : ∀ i k, i < R.length → k < R.length → k ∈ gr R i → ¬ l.getD i 0 < l.getD k 0) : ∀ v r, v < R.length → Root R r → Con R r v → l.getD v 0 = r := by
  intro v r hv hr hc
  have hrl : r < R.length := (hc.symm hR).lt hE hv
  have h1 : l.getD r 0 = r := by
    obtain ⟨x, h1, h2, h3⟩ := h.2 r hrl
    have := hr x h3
    omega
  have h2 : v < R.length ∧ l.getD v 0 = r := by
    refine Con.ind (P := fun u => u < R.length ∧ l.getD u 0 = r) (fun u z ⟨hu, he⟩ hz => ?_) hc ⟨hrl, h1⟩
    have hzl := hE u hu z hz
    refine ⟨hzl, ?_⟩
    have a := hf u z hu hzl hz
    have b := hf z u hzl hu ((hR u z).2 hz)
    omega
  exact h2.2

/-- A colouring on the way: what has a colour has that of the lengths of some walk from its root. -/
def ColI (R : List (List Nat)) (P : Nat → Prop) (l : List Int) : Prop :=
  l.length = R.length ∧ ∀ v, v < R.length → (P v ∧ ∃ m r : Nat, Root R r ∧ Wk R r m v ∧ l.getD v 0 = (m % 2 : Nat)) ∨ (¬ P v ∧ l.getD v 0 = -1)
theorem ColI.zero {R : List (List Nat)} : ColI R (fun _ => False) (List.replicate R.length (-1)) := ⟨by simp, fun v hv => .inr ⟨fun h => h, by simp [List.getD, hv]⟩⟩
theorem ColI.iff {R : List (List Nat)} {P : Nat → Prop} {l : List Int} (h : ColI R P l) {v : Nat} (hv : v < R.length) : 0 ≤ l.getD v 0 ↔ P v := by
  rcases h.2 v hv with ⟨h1, m, r, _, _, h2⟩ | ⟨h1, h2⟩
  · exact ⟨fun _ => h1, fun _ => by omega⟩
  · exact ⟨fun h => by omega, fun h => absurd h h1⟩
theorem ColI.small {R : List (List Nat)} {P : Nat → Prop} {l : List Int} (h : ColI R P l) {v : Nat} (hv : v < R.length) : -1 ≤ l.getD v 0 ∧ l.getD v 0 ≤ 1 := by
  rcases h.2 v hv with ⟨h1, m, r, _, _, h2⟩ | ⟨h1, h2⟩ <;> omega
theorem ColI.imp {R : List (List Nat)} {P P' : Nat → Prop} {l : List Int} (h : ColI R P l) (hp : ∀ v, v < R.length → (P v ↔ P' v)) : ColI R P' l :=
  ⟨h.1, fun v hv => by
    rcases h.2 v hv with ⟨h1, h2⟩ | ⟨h1, h2⟩
    · exact .inl ⟨(hp v hv).1 h1, h2⟩
    · exact .inr ⟨fun h3 => h1 ((hp v hv).2 h3), h2⟩⟩
theorem ColI.root {R : List (List Nat)} {P : Nat → Prop} {l : List Int} (h : ColI R P l) {i : Nat} (hi : i < R.length) (hr : Root R i) : ColI R (fun v => P v ∨ v = i) (l.set i 0) := by
  refine ⟨by simp [h.1], fun v hv => ?_⟩
  rw [getD_set]
  by_cases e : i = v
  · subst e
    rw [if_pos ⟨rfl, by rw [h.1]; exact hi⟩]
    exact .inl ⟨.inr rfl, 0, i, hr, rfl, rfl⟩
  · rw [if_neg (fun hh => e hh.1)]
    rcases h.2 v hv with ⟨h1, h2⟩ | ⟨h1, h2⟩
    · exact .inl ⟨.inl h1, h2⟩
    · exact .inr ⟨fun h3 => h3.elim h1 (fun e2 => e e2.symm), h2⟩
theorem ColI.edge {R : List (List Nat)} {P : Nat → Prop} {l : List Int} (h : ColI R P l) {a b : Nat} (ha : a < R.length) (hb : b < R.length) (hp : P a) (hj : b ∈ gr R a) : ColI R (fun v => P v ∨ v = b) (l.set b (1 - l.getD a 0)) := by
  obtain ⟨m, r, hr, hw, he⟩ : ∃ m r : Nat, Root R r ∧ Wk R r m a ∧ l.getD a 0 = (m % 2 : Nat) := by
    rcases h.2 a ha with ⟨_, h2⟩ | ⟨h1, _⟩
    · exact h2
    · exact absurd hp h1
  refine ⟨by simp [h.1], fun v hv => ?_⟩
  rw [getD_set]
  by_cases e : b = v
  · subst e
    rw [if_pos ⟨rfl, by rw [h.1]; exact hb⟩]
    exact .inl ⟨.inr rfl, m + 1, r, hr, ⟨a, hw, hj⟩, by rw [he]; omega⟩
  · rw [if_neg (fun hh => e hh.1)]
    rcases h.2 v hv with ⟨h1, h2⟩ | ⟨h1, h2⟩
    · exact .inl ⟨.inl h1, h2⟩
    · exact .inr ⟨fun h3 => h3.elim h1 (fun e2 => e e2.symm), h2⟩

/-- No edge joins vertices of one colour. -/
def Proper (R : List (List Nat)) (l : List Int) : Prop := ∀ u v, u < R.length → v ∈ gr R u → l.getD u 0 ≠ l.getD v 0
/-- Two colourings that are whole: if one is proper they are one. -/
theorem ColI.unique {R : List (List Nat)} (hR : Sym R) (hE : Valid R) {l m : List Int} (h : ColI R (fun _ => True) l) (k : ColI R (fun _ => True) m) (hp : Proper R l) : l = m := by
  have hw : ∀ j r v, Root R r → r < R.length → Wk R r j v → l.getD v 0 = (j % 2 : Nat) := by
    intro j
    induction j with
    | zero =>
      intro r v hr hrl hv
      have e : v = r := hv
      subst e
      rcases h.2 v hrl with ⟨_, m', s, h1, h2, h3⟩ | ⟨h1, _⟩
      · have e := Root.unique hR hr h1 (Con.refl R v) ⟨m', h2⟩
        subst e
        -- a closed walk of the root: the colours alternate along it
        have alt : ∀ q u, Wk R v q u → (l.getD u 0 = l.getD v 0 ∧ q % 2 = 0) ∨ (l.getD u 0 = 1 - l.getD v 0 ∧ q % 2 = 1) := by
          intro q
          induction q with
          | zero => intro u hu; have e : u = v := hu; subst e; exact .inl ⟨rfl, rfl⟩
          | succ q ih =>
            intro u hu
            obtain ⟨z, h4, h5⟩ := hu
            have hzl := h4.lt hE hrl
            have hul := hE z hzl u h5
            have hne := hp z u hzl h5
            have b1 : 0 ≤ l.getD z 0 := (h.iff hzl).2 trivial
            have b2 : 0 ≤ l.getD u 0 := (h.iff hul).2 trivial
            have b3 := h.small hzl
            have b4 := h.small hul
            have b5 : 0 ≤ l.getD v 0 := (h.iff hrl).2 trivial
            have b6 := h.small hrl
            rcases ih z h4 with ⟨c1, c2⟩ | ⟨c1, c2⟩
            · right; omega
            · left; omega
        rcases alt m' v h2 with ⟨_, c2⟩ | ⟨c1, c2⟩
        · omega
        · omega
      · exact absurd trivial h1
    | succ j ih =>
      intro r v hr hrl hv
      obtain ⟨z, h4, h5⟩ := hv
      have hzl := h4.lt hE hrl
      have hvl := hE z hzl v h5
      have hne := hp z v hzl h5
      have b1 := ih r z hr hrl h4
      have b2 : 0 ≤ l.getD v 0 := (h.iff hvl).2 trivial
      have b4 := h.small hvl
      omega
  refine list_eq_of_getD (by rw [h.1, k.1]) fun v hv => ?_
  rw [h.1] at hv
  rcases k.2 v hv with ⟨_, q, r, k1, k2, k3⟩ | ⟨k1, _⟩
  · rw [k3]
    exact hw q r v k1 ((Con.symm hR ⟨q, k2⟩).lt hE hv) k2
  · exact absurd trivial k1

/-- The neighbours in both directions: the edges of the first rows, and of the next row the first ones. -/
def bo1 (R : List (List Nat)) (i : Nat) (l : List Nat) : List (List Nat) := l.foldl (fun R v => (R.set i (gr R i ++ [v])).set v (gr (R.set i (gr R i ++ [v])) v ++ [i])) R
def bo (E : List (List Nat)) : Nat → List (List Nat)
  | 0 => List.replicate E.length []
  | k + 1 => bo1 (bo E k) k (gr E k)
theorem bo1_nil (R : List (List Nat)) (i : Nat) : bo1 R i [] = R := rfl
theorem bo1_snoc (R : List (List Nat)) (i : Nat) (l : List Nat) (v : Nat) : bo1 R i (l ++ [v]) = ((bo1 R i l).set i (gr (bo1 R i l) i ++ [v])).set v (gr ((bo1 R i l).set i (gr (bo1 R i l) i ++ [v])) v ++ [i]) := by simp [bo1]
theorem bo1_length (R : List (List Nat)) (i : Nat) (l : List Nat) : (bo1 R i l).length = R.length := by
  induction l generalizing R with
  | nil => rfl
  | cons v r ih => show (bo1 _ i r).length = _; rw [ih]; simp
theorem bo_length (E : List (List Nat)) : ∀ k, (bo E k).length = E.length
  | 0 => by simp [bo]
  | k + 1 => by rw [bo, bo1_length, bo_length E k]
theorem bo1_mem {R : List (List Nat)} {i : Nat} (hi : i < R.length) : ∀ (l : List Nat), (∀ x ∈ l, x < R.length) → ∀ u v, u ∈ gr (bo1 R i l) v ↔ u ∈ gr R v ∨ (u = i ∧ v ∈ l) ∨ (v = i ∧ u ∈ l) := by
  intro l
  induction l generalizing R with
  | nil => intro _ u v; simp [bo1]
  | cons x r ih =>
    intro hl u v
    have hx : x < R.length := hl x (by simp)
    show u ∈ gr (bo1 _ i r) v ↔ _
    rw [ih (by simpa using hi) (fun y hy => by simpa using hl y (by simp [hy]))]
    have ms : ∀ {l : List Nat} {a b : Nat}, a ∈ l ++ [b] ↔ a ∈ l ∨ a = b := by simp
    rw [gr_set (by simpa using hx)]
    by_cases e1 : x = v
    · rw [if_pos e1, gr_set hi]
      by_cases e2 : i = x
      · rw [if_pos e2, ms, ms, List.mem_cons, List.mem_cons]
        grind
      · rw [if_neg e2, ms, List.mem_cons, List.mem_cons]
        grind
    · rw [if_neg e1, gr_set hi]
      by_cases e2 : i = v
      · rw [if_pos e2, ms, List.mem_cons, List.mem_cons]
        grind
      · rw [if_neg e2, List.mem_cons, List.mem_cons]
        grind
theorem bo_mem {E : List (List Nat)} (hE : Valid E) : ∀ k, k ≤ E.length → ∀ u v, u ∈ gr (bo E k) v ↔ (u < k ∧ v ∈ gr E u) ∨ (v < k ∧ u ∈ gr E v)
  | 0, _, u, v => by
    constructor
    · intro h
      rw [bo] at h
      rcases Nat.lt_or_ge v E.length with h1 | h1
      · have : gr (List.replicate E.length []) v = [] := by simp [gr, List.getD, h1]
        rw [this] at h; cases h
      · rw [gr_ge (by simpa using h1)] at h; cases h
    · rintro (⟨h, _⟩ | ⟨h, _⟩) <;> omega
  | k + 1, hk, u, v => by
    rw [bo, bo1_mem (by rw [bo_length]; omega) _ (fun x hx => by rw [bo_length]; exact hE k (by omega) x hx), bo_mem hE k (by omega)]
    constructor
    · rintro ((⟨h1, h2⟩ | ⟨h1, h2⟩) | ⟨h1, h2⟩ | ⟨h1, h2⟩)
      · exact .inl ⟨by omega, h2⟩
      · exact .inr ⟨by omega, h2⟩
      · exact .inl ⟨by omega, by rw [h1]; exact h2⟩
      · exact .inr ⟨by omega, by rw [h1]; exact h2⟩
    · rintro (⟨h1, h2⟩ | ⟨h1, h2⟩)
      · by_cases e : u = k
        · exact .inr (.inl ⟨e, by rw [← e]; exact h2⟩)
        · exact .inl (.inl ⟨by omega, h2⟩)
      · by_cases e : v = k
        · exact .inr (.inr ⟨e, by rw [← e]; exact h2⟩)
        · exact .inl (.inr ⟨by omega, h2⟩)
/-- The graph with all edges in both directions. -/
def bth (E : List (List Nat)) : List (List Nat) := bo E E.length
theorem bth_length (E : List (List Nat)) : (bth E).length = E.length := bo_length E _
theorem bth_mem {E : List (List Nat)} (hE : Valid E) (u v : Nat) : u ∈ gr (bth E) v ↔ v ∈ gr E u ∨ u ∈ gr E v := by
  unfold bth
  rw [bo_mem hE _ (Nat.le_refl _)]
  constructor
  · rintro (⟨_, h⟩ | ⟨_, h⟩)
    · exact .inl h
    · exact .inr h
  · rintro (h | h)
    · exact .inl ⟨gr_mem h, h⟩
    · exact .inr ⟨gr_mem h, h⟩
theorem bth_sym {E : List (List Nat)} (hE : Valid E) : Sym (bth E) := fun u v => by rw [bth_mem hE, bth_mem hE]; exact or_comm
theorem bth_valid {E : List (List Nat)} (hE : Valid E) : Valid (bth E) := fun v hv x hx => by
  rw [bth_length] at *
  rcases (bth_mem hE x v).1 hx with h | h
  · exact gr_mem h
  · exact hE v hv x h
theorem bo1_len {R : List (List Nat)} {i M : Nat} (hi : i < R.length) : ∀ (l : List Nat), (∀ x ∈ l, x < R.length) → (∀ v, (gr R v).length ≤ M) → ∀ v, (gr (bo1 R i l) v).length ≤ M + 2 * l.length := by
  intro l
  induction l generalizing R M with
  | nil => intro _ h v; exact h v
  | cons x r ih =>
    intro hl h v
    have hx : x < R.length := hl x (by simp)
    have := ih (R := (R.set i (gr R i ++ [x])).set x (gr (R.set i (gr R i ++ [x])) x ++ [i])) (M := M + 2) (by simpa using hi) (fun y hy => by simpa using hl y (by simp [hy])) (fun u => by
      have h1 : ∀ z, (gr (R.set i (gr R i ++ [x])) z).length ≤ M + 1 := fun z => by
        rw [gr_set hi]
        split
        · rw [List.length_append]; have := h i; simp; omega
        · have := h z; omega
      rw [gr_set (by simpa using hx)]
      split
      · rw [List.length_append]; have := h1 x; simp; omega
      · have := h1 u; omega) v
    show (gr (bo1 _ i r) v).length ≤ _
    simp only [List.length_cons]
    omega
theorem bo_len {E : List (List Nat)} (hE : Valid E) (hd : ∀ v, (gr E v).length ≤ 400) : ∀ k, k ≤ E.length → ∀ v, (gr (bo E k) v).length ≤ k * 800
  | 0, _, v => by
    rcases Nat.lt_or_ge v E.length with h1 | h1
    · simp [bo, gr, List.getD, h1]
    · rw [gr_ge (by rw [bo_length]; exact h1)]; simp
  | k + 1, hk, v => by
    have h1 := bo1_len (i := k) (M := k * 800) (R := bo E k) (by rw [bo_length]; omega) (gr E k) (fun x hx => by rw [bo_length]; exact hE k (by omega) x hx) (bo_len hE hd k (by omega)) v
    have := hd k
    rw [bo]
    omega

/-- Whatever a search has found was found along an edge. -/
def EdgeQ (E : List (List Nat)) (q : List (Nat × Nat)) : Prop := ∀ (j : Nat) p, 0 < j → q[j]? = some p → p.2 ∈ gr E p.1
theorem EdgeQ.one {E : List (List Nat)} {s : Bs} (h : EdgeQ E s.q) (h0 : 0 < s.q.length) {v x : Nat} (hx : x ∈ gr E v) : EdgeQ E (addOne v s x).q ∧ 0 < (addOne v s x).q.length := by
  unfold addOne
  split
  · exact ⟨h, h0⟩
  · refine ⟨fun j p hj hp => ?_, by simp⟩
    rcases getElem?_snoc_cases hp with ⟨_, h2⟩ | ⟨_, h2⟩
    · exact h j p hj h2
    · rw [h2]; exact hx
theorem EdgeQ.all {E : List (List Nat)} {v : Nat} : ∀ (l : List Nat) {s : Bs}, (∀ x ∈ l, x ∈ gr E v) → EdgeQ E s.q → 0 < s.q.length → EdgeQ E (addAll v s l).q ∧ 0 < (addAll v s l).q.length
  | [], s, _, h, h0 => ⟨h, h0⟩
  | x :: r, s, hl, h, h0 => by
    obtain ⟨h1, h2⟩ := h.one h0 (hl x (by simp))
    exact EdgeQ.all r (fun y hy => hl y (by simp [hy])) h1 h2
theorem bs_edge (E : List (List Nat)) (a : Nat) : ∀ k, EdgeQ E (bs E a k).q ∧ 0 < (bs E a k).q.length
  | 0 => ⟨fun j p hj hp => by
      have : (bs E a 0).q = [(a, a)] := rfl
      rw [this] at hp
      have := some_lt hp
      simp at this
      omega, by show 0 < [(a, a)].length; simp⟩
  | k + 1 => by
    have ih := bs_edge E a k
    rw [bs]
    split
    · exact ih
    · exact EdgeQ.all _ (fun x hx => hx) ih.1 ih.2
/-- A whole search finds what is connected. -/
theorem bs_con {E : List (List Nat)} (hE : Valid E) {a k : Nat} (ha : a < E.length) (hk : (bs E a k).q.length = k) (hpr : ∀ i, i < k → ∃ p, (bs E a i).q[i]? = some p) (v : Nat) : (∃ p ∈ (bs E a k).q, p.2 = v) ↔ Con E a v := by
  obtain ⟨dep, h⟩ := bs_inv hE ha k hpr
  constructor
  · rintro ⟨p, hp, rfl⟩
    obtain ⟨j, hj⟩ := List.getElem?_of_mem hp
    obtain ⟨d, hd⟩ : ∃ d, dep[j]? = some d := ⟨_, List.getElem?_eq_getElem (by rw [h.dlen]; exact some_lt hj)⟩
    exact ⟨d, h.walk j p d hj hd⟩
  · rintro ⟨m, hm⟩
    obtain ⟨j, d, h1, _, _⟩ := h.reach hk m v hm
    obtain ⟨b, hb⟩ := snd_some h1
    exact ⟨(b, v), List.mem_of_getElem? hb, rfl⟩
/-- The next one to be visited: the first one, or one whose edge comes from one that was visited. -/
theorem bs_next {E : List (List Nat)} (hE : Valid E) {a k : Nat} (ha : a < E.length) (hpr : ∀ i, i < k → ∃ p, (bs E a i).q[i]? = some p) {p : Nat × Nat} (hp : (bs E a k).q[k]? = some p) :
    p.1 < E.length ∧ p.2 < E.length ∧ ((k = 0 ∧ p = (a, a)) ∨ (p.2 ≠ a ∧ p.2 ∈ gr E p.1 ∧ (∃ q ∈ (bs E a k).q.take k, q.2 = p.1) ∧ ∀ q ∈ (bs E a k).q.take k, q.2 ≠ p.2)) := by
  obtain ⟨dep, h⟩ := bs_inv hE ha k hpr
  by_cases h0 : k = 0
  · subst h0
    have := h.first
    rw [hp] at this
    injection this with this
    subst this
    exact ⟨ha, ha, .inl ⟨rfl, rfl⟩⟩
  · have h2 := h.small k p hp
    have hed := (bs_edge E a k).1 k p (by omega) hp
    obtain ⟨d, hd⟩ : ∃ d, dep[k]? = some d := ⟨_, List.getElem?_eq_getElem (by rw [h.dlen]; exact some_lt hp)⟩
    obtain ⟨i, di, a1, _, a3, _, _⟩ := h.par k p d (by omega) hp hd
    obtain ⟨b, hb⟩ := snd_some a3
    have hdis : ∀ q ∈ (bs E a k).q.take k, q.2 ≠ p.2 := by
      intro q hq e
      obtain ⟨j, hj⟩ := List.getElem?_of_mem hq
      have hjl := some_lt hj
      rw [List.length_take] at hjl
      rw [List.getElem?_take, if_pos (by omega)] at hj
      have := h.nodup j k p.2 (by rw [hj, ← e]; rfl) (by rw [hp]; rfl)
      omega
    refine ⟨h.small i _ hb, h2, .inr ⟨fun e => ?_, hed, ⟨(b, p.1), ?_, rfl⟩, hdis⟩⟩
    · have := h.nodup 0 k p.2 (by rw [h.first, e]; rfl) (by rw [hp]; rfl)
      omega
    · refine List.mem_of_getElem? (i := i) ?_
      rw [List.getElem?_take, if_pos a1]
      exact hb

/-- The vertices that are connected with one below i. -/
def Under (R : List (List Nat)) (i v : Nat) : Prop := ∃ x, x < i ∧ Con R x v
theorem under_skip {R : List (List Nat)} {i : Nat} (h : Under R i i) (v : Nat) : Under R i v ↔ Under R (i + 1) v := by
  constructor
  · rintro ⟨x, h1, h2⟩; exact ⟨x, by omega, h2⟩
  · rintro ⟨x, h1, h2⟩
    by_cases e : x = i
    · subst e
      obtain ⟨y, k1, k2⟩ := h
      exact ⟨y, k1, k2.trans h2⟩
    · exact ⟨x, by omega, h2⟩
theorem under_root {R : List (List Nat)} {i : Nat} (h : ¬ Under R i i) : Root R i := fun x hx => by
  rcases Nat.lt_or_ge x i with h1 | h1
  · exact absurd ⟨x, h1, hx⟩ h
  · exact h1
theorem under_succ {R : List (List Nat)} {i v : Nat} : Under R (i + 1) v ↔ Under R i v ∨ Con R i v := by
  constructor
  · rintro ⟨x, h1, h2⟩
    by_cases e : x = i
    · subst e; exact .inr h2
    · exact .inl ⟨x, by omega, h2⟩
  · rintro (⟨x, h1, h2⟩ | h)
    · exact ⟨x, by omega, h2⟩
    · exact ⟨i, by omega, h⟩
theorem under_all {R : List (List Nat)} {v : Nat} (hv : v < R.length) : Under R R.length v := ⟨v, hv, Con.refl R v⟩
theorem under_edge {R : List (List Nat)} {i u v : Nat} (h : Under R i u) (hv : v ∈ gr R u) : Under R i v := by
  obtain ⟨x, h1, h2⟩ := h
  exact ⟨x, h1, h2.trans (Con.one hv)⟩
end Go.Proofs.YtpkjdnplmgfbbaaDoor
