/- Plain graphs: turned graphs, the first shortest walk, numbers of walks. No program in sight. -/
import Derived.Test.YtpkjdnplmgfbbaaDoorGd
namespace Go.Proofs.YtpkjdnplmgfbbaaDoor

theorem Wk.cons {E : List (List Nat)} {u z v m : Nat} (hz : z ∈ gr E u) (h : Wk E z m v) : Wk E u (m + 1) v := by
  induction m generalizing v with
  | zero => have e : v = z := h; subst e; exact ⟨u, rfl, hz⟩
  | succ m ih => obtain ⟨y, hy, hv⟩ := h; exact ⟨y, ih hy, hv⟩
theorem Wk.uncons {E : List (List Nat)} {u v m : Nat} (h : Wk E u (m + 1) v) : ∃ z, z ∈ gr E u ∧ Wk E z m v := by
  induction m generalizing v with
  | zero => obtain ⟨z, hz, hv⟩ := h; have e : z = u := hz; subst e; exact ⟨v, hv, rfl⟩
  | succ m ih => obtain ⟨y, hy, hv⟩ := h; obtain ⟨z, hz, hw⟩ := ih hy; exact ⟨z, hz, y, hw, hv⟩

/-- R is E with all edges turned. -/
def Turned (E R : List (List Nat)) : Prop := R.length = E.length ∧ ∀ u v, u ∈ gr R v ↔ v ∈ gr E u
theorem Turned.wk {E R : List (List Nat)} (h : Turned E R) : ∀ m u v, Wk R u m v ↔ Wk E v m u := by
  intro m
  induction m with
  | zero => intro u v; exact ⟨fun h => Eq.symm h, fun h => Eq.symm h⟩
  | succ m ih =>
    intro u v
    constructor
    · rintro ⟨z, hz, hv⟩
      exact Wk.cons ((h.2 v z).1 hv) ((ih u z).1 hz)
    · intro hw
      obtain ⟨z, hz, hw⟩ := hw.uncons
      exact ⟨z, (ih u z).2 hw, (h.2 v z).2 hz⟩
theorem Turned.dist {E R : List (List Nat)} (h : Turned E R) {t v : Nat} {x : Int} (hd : IsDist R t v x) : IsDist E v t x := by
  rcases hd with ⟨h1, h2⟩ | ⟨m, h1, h2, h3⟩
  · exact .inl ⟨h1, fun m hm => h2 m ((h.wk m t v).2 hm)⟩
  · exact .inr ⟨m, h1, (h.wk m t v).1 h2, fun j hj => h3 j ((h.wk j t v).2 hj)⟩
theorem Turned.valid {E R : List (List Nat)} (h : Turned E R) : Valid R := by
  intro v hv x hx
  rw [h.1]
  exact gr_mem ((h.2 x v).1 hx)

/-- One row of the turned graph's making. -/
def bk (R : List (List Nat)) (i : Nat) (l : List Nat) : List (List Nat) := l.foldl (fun R v => R.set v (gr R v ++ [i])) R
def bks (E : List (List Nat)) : Nat → List (List Nat)
  | 0 => List.replicate E.length []
  | k + 1 => bk (bks E k) k (gr E k)
theorem bk_nil (R : List (List Nat)) (i : Nat) : bk R i [] = R := rfl
theorem bk_snoc (R : List (List Nat)) (i : Nat) (l : List Nat) (v : Nat) : bk R i (l ++ [v]) = (bk R i l).set v (gr (bk R i l) v ++ [i]) := by simp [bk]
theorem bk_length (R : List (List Nat)) (i : Nat) (l : List Nat) : (bk R i l).length = R.length := by
  induction l generalizing R with
  | nil => rfl
  | cons x r ih => show (bk (R.set x (gr R x ++ [i])) i r).length = _; rw [ih]; simp
theorem bks_length (E : List (List Nat)) (k : Nat) : (bks E k).length = E.length := by
  induction k with
  | zero => simp [bks]
  | succ k ih => rw [bks, bk_length, ih]
theorem gr_set {R : List (List Nat)} {v x : Nat} {l : List Nat} (hv : v < R.length) : gr (R.set v l) x = if v = x then l else gr R x := by
  simp only [gr, List.getD, List.getElem?_set]
  by_cases h : v = x
  · subst h; simp [hv]
  · simp [h]
theorem bk_mem {R : List (List Nat)} {i : Nat} (l : List Nat) (hl : ∀ x ∈ l, x < R.length) : ∀ u v, u ∈ gr (bk R i l) v ↔ u ∈ gr R v ∨ (u = i ∧ v ∈ l) := by
  induction l generalizing R with
  | nil => intro u v; simp [bk]
  | cons x r ih =>
    intro u v
    show u ∈ gr (bk (R.set x (gr R x ++ [i])) i r) v ↔ _
    rw [ih (by intro y hy; simp; exact hl y (by simp [hy])) u v, gr_set (hl x (by simp))]
    by_cases h : x = v
    · subst h
      rw [if_pos rfl, List.mem_append, List.mem_singleton]
      constructor
      · rintro ((h | h) | h)
        · exact .inl h
        · exact .inr ⟨h, by simp⟩
        · exact .inr ⟨h.1, by simp⟩
      · rintro (h | h)
        · exact .inl (.inl h)
        · exact .inl (.inr h.1)
    · rw [if_neg h]
      constructor
      · rintro (h1 | h1)
        · exact .inl h1
        · exact .inr ⟨h1.1, List.mem_cons_of_mem _ h1.2⟩
      · rintro (h1 | ⟨h1, h2⟩)
        · exact .inl h1
        · rcases List.mem_cons.1 h2 with h2 | h2
          · exact absurd h2.symm h
          · exact .inr ⟨h1, h2⟩
theorem bks_mem {E : List (List Nat)} (hE : Valid E) : ∀ k u v, u ∈ gr (bks E k) v ↔ u < k ∧ v ∈ gr E u := by
  intro k
  induction k with
  | zero =>
    intro u v
    simp only [bks, Nat.not_lt_zero, false_and, iff_false]
    intro h
    simp only [gr, List.getD, List.getElem?_replicate] at h
    split at h <;> simp at h
  | succ k ih =>
    intro u v
    rw [bks, bk_mem _ (fun x hx => by rw [bks_length]; exact hE k (gr_mem hx) x hx), ih]
    constructor
    · rintro (⟨h1, h2⟩ | ⟨h1, h2⟩)
      · exact ⟨by omega, h2⟩
      · subst h1; exact ⟨by omega, h2⟩
    · rintro ⟨h1, h2⟩
      by_cases h : u = k
      · subst h; exact .inr ⟨rfl, h2⟩
      · exact .inl ⟨by omega, h2⟩
theorem bks_turned {E : List (List Nat)} (hE : Valid E) : Turned E (bks E E.length) :=
  ⟨bks_length _ _, fun u v => by rw [bks_mem hE]; exact ⟨fun h => h.2, fun h => ⟨gr_mem h, h⟩⟩⟩

/-- The next vertex of a shortest walk: D says how far each vertex is from its end. -/
def nx (E : List (List Nat)) (D : Nat → Int) (v : Nat) : Nat := ((gr E v).find? fun x => D x == D v - 1).getD 0
def it (E : List (List Nat)) (D : Nat → Int) (v : Nat) : Nat → Nat
  | 0 => v
  | k + 1 => nx E D (it E D v k)
/-- The walk of the first k steps. -/
def pth (E : List (List Nat)) (D : Nat → Int) (v k : Nat) : List Nat := (List.range (k + 1)).map (it E D v)
theorem pth_zero (E : List (List Nat)) (D : Nat → Int) (v : Nat) : pth E D v 0 = [v] := rfl
theorem pth_succ (E : List (List Nat)) (D : Nat → Int) (v k : Nat) : pth E D v (k + 1) = pth E D v k ++ [it E D v (k + 1)] := by
  unfold pth; rw [List.range_succ, List.map_append]; rfl
theorem pth_length (E : List (List Nat)) (D : Nat → Int) (v k : Nat) : (pth E D v k).length = k + 1 := by simp [pth]

/-- D is the distance to t. -/
def To (E : List (List Nat)) (t : Nat) (D : Nat → Int) : Prop := ∀ v, v < E.length → IsDist E v t (D v)
theorem To.zero {E : List (List Nat)} {t : Nat} {D : Nat → Int} (h : To E t D) {v : Nat} (hv : v < E.length) : D v = 0 ↔ v = t := by
  rcases h v hv with ⟨h1, h2⟩ | ⟨m, h1, h2, h3⟩
  · constructor
    · intro h0; omega
    · intro e; subst e; exact absurd (show Wk E v 0 v from rfl) (h2 0)
  · constructor
    · intro h0
      have : m = 0 := by omega
      subst this
      exact Eq.symm h2
    · intro e; subst e
      have := h3 0 rfl
      omega
/-- A vertex before the end has a neighbour that is nearer by one. -/
theorem To.step {E : List (List Nat)} (hE : Valid E) {t : Nat} {D : Nat → Int} (h : To E t D) {v : Nat} (hv : v < E.length) (hp : 0 < D v) : ∃ z, z ∈ gr E v ∧ D z = D v - 1 := by
  rcases h v hv with ⟨h1, h2⟩ | ⟨m, h1, h2, h3⟩
  · omega
  · obtain ⟨j, rfl⟩ : ∃ j, m = j + 1 := ⟨m - 1, by omega⟩
    obtain ⟨z, hz, hw⟩ := h2.uncons
    refine ⟨z, hz, ?_⟩
    rcases h z (hE v hv z hz) with ⟨k1, k2⟩ | ⟨i, k1, k2, k3⟩
    · exact absurd hw (k2 j)
    · have a := k3 j hw
      have b := h3 (i + 1) (Wk.cons hz k2)
      omega
theorem To.nx {E : List (List Nat)} (hE : Valid E) {t : Nat} {D : Nat → Int} (h : To E t D) {v : Nat} (hv : v < E.length) (hp : 0 < D v) : (gr E v).find? (fun x => D x == D v - 1) = some (nx E D v) ∧ nx E D v ∈ gr E v ∧ nx E D v < E.length ∧ D (nx E D v) = D v - 1 := by
  obtain ⟨z, hz, hd⟩ := h.step hE hv hp
  cases hf : (gr E v).find? (fun x => D x == D v - 1) with
  | none =>
    have := List.find?_eq_none.1 hf z hz
    exact absurd (by simp [hd]) this
  | some y =>
    have e : Go.Proofs.YtpkjdnplmgfbbaaDoor.nx E D v = y := by unfold Go.Proofs.YtpkjdnplmgfbbaaDoor.nx; rw [hf]; rfl
    rw [e]
    have hm := List.mem_of_find?_eq_some hf
    have hp := List.find?_some hf
    exact ⟨rfl, hm, hE v hv y hm, by simpa using hp⟩
theorem To.it {E : List (List Nat)} (hE : Valid E) {t : Nat} {D : Nat → Int} (h : To E t D) {a : Nat} (ha : a < E.length) {d : Nat} (hd : D a = d) : ∀ k, k ≤ d → it E D a k < E.length ∧ D (it E D a k) = (d : Int) - k := by
  intro k
  induction k with
  | zero => intro _; exact ⟨ha, by rw [Go.Proofs.YtpkjdnplmgfbbaaDoor.it, hd]; omega⟩
  | succ k ih =>
    intro hk
    obtain ⟨h1, h2⟩ := ih (by omega)
    obtain ⟨_, _, h3, h4⟩ := h.nx hE h1 (by omega)
    exact ⟨h3, by show D (Go.Proofs.YtpkjdnplmgfbbaaDoor.nx E D (Go.Proofs.YtpkjdnplmgfbbaaDoor.it E D a k)) = _; rw [h4, h2]; omega⟩

/-- A vertex before the end has been reached just before as many steps as it is far. -/
theorem To.end_iff {E : List (List Nat)} (hE : Valid E) {t : Nat} {D : Nat → Int} (h : To E t D) {a : Nat} (ha : a < E.length) {d : Nat} (hd : D a = d) {k : Nat} (hk : k ≤ d) : Go.Proofs.YtpkjdnplmgfbbaaDoor.it E D a k = t ↔ k = d := by
  obtain ⟨h1, h2⟩ := h.it hE ha hd k hk
  rw [← h.zero h1, h2]
  omega

/-- What is found first in a list that ascends is the least. -/
theorem find_least {l : List Nat} (hs : l.Pairwise (· ≤ ·)) {p : Nat → Bool} {y : Nat} (h : l.find? p = some y) : ∀ x, x ∈ l → p x = true → y ≤ x := by
  induction l with
  | nil => intro x hx; cases hx
  | cons z r ih =>
    intro x hx hp
    rw [List.find?_cons] at h
    cases hz : p z with
    | true =>
      rw [hz] at h
      simp at h
      subst h
      rcases List.mem_cons.1 hx with e | e
      · omega
      · exact (List.pairwise_cons.1 hs).1 x e
    | false =>
      rw [hz] at h
      rcases List.mem_cons.1 hx with e | e
      · subst e; rw [hz] at hp; cases hp
      · exact ih (List.pairwise_cons.1 hs).2 h x e hp

/-- The sum over the first i rows of f times the number of edges to v. -/
def ps (E : List (List Nat)) (f : Nat → Nat) (v : Nat) : Nat → Nat
  | 0 => 0
  | i + 1 => ps E f v i + f i * (gr E i).count v
/-- The number of walks of length m from u to v. -/
def wn (E : List (List Nat)) (u : Nat) : Nat → Nat → Nat
  | 0, v => if v = u then 1 else 0
  | m + 1, v => ps E (wn E u m) v E.length
/-- The number of closed walks, from the first i vertices. -/
def tr (E : List (List Nat)) (m : Nat) : Nat → Nat
  | 0 => 0
  | i + 1 => tr E m i + wn E i m i

theorem ps_le {E : List (List Nat)} {f : Nat → Nat} {v B K : Nat} (hf : ∀ i, f i ≤ B) (hK : ∀ i, (gr E i).length ≤ K) : ∀ i, ps E f v i ≤ i * (B * K) := by
  intro i
  induction i with
  | zero => simp [ps]
  | succ i ih =>
    rw [ps, Nat.succ_mul]
    have h1 : (gr E i).count v ≤ K := Nat.le_trans List.count_le_length (hK i)
    exact Nat.add_le_add ih (Nat.mul_le_mul (hf i) h1)
theorem ps_mono {E : List (List Nat)} {f : Nat → Nat} {v i j : Nat} (h : i ≤ j) : ps E f v i ≤ ps E f v j := by
  induction j with
  | zero => have : i = 0 := by omega
            subst this; exact Nat.le_refl _
  | succ j ih =>
    rcases Nat.lt_or_ge j i with h1 | h1
    · have : i = j + 1 := by omega
      subst this; exact Nat.le_refl _
    · rw [ps]; exact Nat.le_trans (ih h1) (Nat.le_add_right _ _)
theorem wn_le {E : List (List Nat)} {u K : Nat} (hK : ∀ i, (gr E i).length ≤ K) (hn : E.length * K ≤ 1048576) : ∀ m v, wn E u m v ≤ 2 ^ (20 * m) := by
  intro m
  induction m with
  | zero => intro v; rw [wn]; split <;> simp
  | succ m ih =>
    intro v
    rw [wn]
    have h1 := ps_le (v := v) ih hK E.length
    have h2 : E.length * (2 ^ (20 * m) * K) = E.length * K * 2 ^ (20 * m) := by rw [Nat.mul_comm (2 ^ (20 * m)) K, Nat.mul_assoc]
    have h3 : 2 ^ (20 * (m + 1)) = 1048576 * 2 ^ (20 * m) := by rw [Nat.mul_add, Nat.pow_add, Nat.mul_comm]
    rw [h3]
    rw [h2] at h1
    exact Nat.le_trans h1 (Nat.mul_le_mul_right _ hn)
theorem wn_ge {E : List (List Nat)} (hE : Valid E) {u m v : Nat} (hu : u < E.length) (hv : E.length ≤ v) : wn E u m v = 0 := by
  cases m with
  | zero => rw [wn, if_neg (by omega)]
  | succ m =>
    rw [wn]
    have : ∀ i, ps E (wn E u m) v i = 0 := by
      intro i
      induction i with
      | zero => rfl
      | succ i ih =>
        have : (gr E i).count v = 0 := List.count_eq_zero.2 fun hm => by have := hE i (gr_mem hm) v hm; omega
        rw [ps, ih, this]; simp
    exact this _
theorem tr_le {E : List (List Nat)} {K : Nat} (hK : ∀ i, (gr E i).length ≤ K) (hn : E.length * K ≤ 1048576) (m : Nat) : ∀ i, tr E m i ≤ i * 2 ^ (20 * m) := by
  intro i
  induction i with
  | zero => simp [tr]
  | succ i ih => rw [tr, Nat.succ_mul]; exact Nat.add_le_add ih (wn_le hK hn m i)

end Go.Proofs.YtpkjdnplmgfbbaaDoor
