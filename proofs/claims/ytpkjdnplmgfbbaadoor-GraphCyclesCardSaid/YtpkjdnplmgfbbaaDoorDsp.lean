/- Plain graphs: numbers of walks tell where there are walks; odd closed walks and colourings. No program in sight. -/
import Derived.Test.YtpkjdnplmgfbbaaDoorCop
namespace Go.Proofs.YtpkjdnplmgfbbaaDoor

theorem ps_pos {E : List (List Nat)} {f : Nat → Nat} {v : Nat} : ∀ n, 0 < ps E f v n ↔ ∃ i, i < n ∧ 0 < f i ∧ v ∈ gr E i
  | 0 => by simp [ps]
  | n + 1 => by
    have ih := ps_pos (E := E) (f := f) (v := v) n
    rw [ps]
    constructor
    · intro h
      by_cases h1 : 0 < ps E f v n
      · obtain ⟨i, a, b, c⟩ := ih.1 h1
        exact ⟨i, by omega, b, c⟩
      · have h2 : 0 < f n * (gr E n).count v := by omega
        refine ⟨n, by omega, Nat.pos_of_mul_pos_right h2, ?_⟩
        exact List.count_pos_iff.1 (Nat.pos_of_mul_pos_left h2)
    · rintro ⟨i, a, b, c⟩
      by_cases e : i = n
      · subst e
        have := Nat.mul_pos b (List.count_pos_iff.2 c)
        omega
      · have := ih.2 ⟨i, by omega, b, c⟩
        omega
theorem wn_pos {E : List (List Nat)} {u : Nat} : ∀ m v, 0 < wn E u m v ↔ Wk E u m v
  | 0, v => by
    rw [wn]
    constructor
    · intro h
      by_cases e : v = u
      · exact e
      · rw [if_neg e] at h; omega
    · intro h
      have e : v = u := h
      rw [if_pos e]; omega
  | m + 1, v => by
    rw [wn, ps_pos]
    constructor
    · rintro ⟨i, _, h2, h3⟩
      exact ⟨i, (wn_pos m i).1 h2, h3⟩
    · rintro ⟨z, h1, h2⟩
      exact ⟨z, gr_mem h2, (wn_pos m z).2 h1, h2⟩
theorem tr_pos {E : List (List Nat)} {m : Nat} : ∀ n, 0 < tr E m n ↔ ∃ i, i < n ∧ Wk E i m i
  | 0 => by simp [tr]
  | n + 1 => by
    have ih := tr_pos (E := E) (m := m) n
    rw [tr]
    constructor
    · intro h
      by_cases h1 : 0 < tr E m n
      · obtain ⟨i, a, b⟩ := ih.1 h1
        exact ⟨i, by omega, b⟩
      · exact ⟨n, by omega, (wn_pos m n).1 (by omega)⟩
    · rintro ⟨i, a, b⟩
      by_cases e : i = n
      · subst e; have := (wn_pos m i).2 b; omega
      · have := ih.2 ⟨i, by omega, b⟩; omega

/-- A walk, vertex by vertex. -/
theorem Wk.path {E : List (List Nat)} {u : Nat} : ∀ {m v}, Wk E u m v → ∃ x : Nat → Nat, x 0 = u ∧ x m = v ∧ ∀ i, i < m → x (i + 1) ∈ gr E (x i)
  | 0, v, h => ⟨fun _ => u, rfl, Eq.symm h, fun i hi => by omega⟩
  | m + 1, v, h => by
    obtain ⟨z, h1, h2⟩ := h
    obtain ⟨x, a, b, c⟩ := Wk.path h1
    refine ⟨fun i => if i ≤ m then x i else v, by simp [a], if_neg (by omega), fun i hi => ?_⟩
    by_cases e : i = m
    · subst e
      have h5 : ¬ i + 1 ≤ i := by omega
      simp only [h5, Nat.le_refl, if_true, if_false, b]
      exact h2
    · have h3 : i + 1 ≤ m := by omega
      have h4 : i ≤ m := by omega
      simp only [h3, h4, if_true]
      exact c i (by omega)
theorem path_wk {E : List (List Nat)} {x : Nat → Nat} {m : Nat} (h : ∀ i, i < m → x (i + 1) ∈ gr E (x i)) {i : Nat} : ∀ d, i + d ≤ m → Wk E (x i) d (x (i + d))
  | 0, _ => rfl
  | d + 1, hd => ⟨x (i + d), path_wk h d (by omega), h (i + d) (by omega)⟩
/-- Two of more than n numbers below n are equal. -/
theorem two_equal {x : Nat → Nat} {L n : Nat} (hx : ∀ i, i < L → x i < n) (hL : n < L) : ∃ i j, i < j ∧ j < L ∧ x i = x j := by
  apply Classical.byContradiction
  intro hno
  have hnd : ((List.range L).map x).Nodup := by
    refine List.pairwise_iff_getElem.2 fun i j hi hj hij => ?_
    simp only [List.length_map, List.length_range] at hi hj
    simp only [List.getElem_map, List.getElem_range]
    intro e
    exact hno ⟨i, j, hij, hj, e⟩
  have := pigeon n _ hnd (fun y hy => by
    obtain ⟨i, hi, rfl⟩ := List.mem_map.1 hy
    exact hx i (List.mem_range.1 hi))
  simp at this
  omega
/-- Where there is an odd closed walk, there is one with at most as many steps as there are vertices. -/
theorem odd_short {E : List (List Nat)} (hE : Valid E) {a L : Nat} (ha : a < E.length) (h : Wk E a L a) (hL : L % 2 = 1) : ∃ b q, b < E.length ∧ q % 2 = 1 ∧ q ≤ E.length ∧ Wk E b q b := by
  obtain ⟨q, _, ⟨b, hb, hq, hw⟩, hmin⟩ := least (P := fun q => ∃ b, b < E.length ∧ q % 2 = 1 ∧ Wk E b q b) L ⟨a, ha, hL, h⟩
  refine ⟨b, q, hb, hq, ?_, hw⟩
  apply Classical.byContradiction
  intro hgt
  obtain ⟨x, h0, h1, h2⟩ := hw.path
  have hlt : ∀ i, i ≤ q → x i < E.length := fun i hi => by
    have := path_wk h2 (i := 0) i (by omega)
    rw [h0, Nat.zero_add] at this
    exact this.lt hE hb
  obtain ⟨i, j, hij, hjq, he⟩ := two_equal (x := x) (L := q) (n := E.length) (fun i hi => hlt i (by omega)) (by omega)
  have w1 := path_wk h2 (i := 0) i (by omega)
  have w2 := path_wk h2 (i := i) (j - i) (by omega)
  have w3 := path_wk h2 (i := j) (q - j) (by omega)
  rw [Nat.zero_add] at w1
  rw [show i + (j - i) = j by omega] at w2
  rw [show j + (q - j) = q by omega] at w3
  rw [he] at w1 w2
  rw [h0] at w1
  rw [h1] at w3
  by_cases hodd : (j - i) % 2 = 1
  · have := hmin (j - i) ⟨x j, hlt j (by omega), hodd, w2⟩
    omega
  · have := hmin (i + (q - j)) ⟨b, hb, by omega, w1.add w3⟩
    omega
/-- A whole colouring is proper just if no closed walk is odd. -/
theorem proper_iff {R : List (List Nat)} (hR : Sym R) (hE : Valid R) {l : List Int} (h : ColI R (fun _ => True) l) : Proper R l ↔ ∀ a m, a < R.length → Wk R a m a → m % 2 = 0 := by
  have hcol : ∀ v, v < R.length → ∃ m r : Nat, Root R r ∧ Wk R r m v ∧ l.getD v 0 = (m % 2 : Nat) := by
    intro v hv
    rcases h.2 v hv with ⟨_, h2⟩ | ⟨h1, _⟩
    · exact h2
    · exact absurd trivial h1
  constructor
  · intro hp a m ha hw
    have alt : ∀ q u, Wk R a q u → (l.getD u 0 = l.getD a 0 ∧ q % 2 = 0) ∨ (l.getD u 0 = 1 - l.getD a 0 ∧ q % 2 = 1) := by
      intro q
      induction q with
      | zero => intro u hu; have e : u = a := hu; subst e; exact .inl ⟨rfl, rfl⟩
      | succ q ih =>
        intro u hu
        obtain ⟨z, h4, h5⟩ := hu
        have hzl := h4.lt hE ha
        have hul := hE z hzl u h5
        have hne := hp z u hzl h5
        have b1 : 0 ≤ l.getD z 0 := (h.iff hzl).2 trivial
        have b2 : 0 ≤ l.getD u 0 := (h.iff hul).2 trivial
        have b3 := h.small hzl
        have b4 := h.small hul
        have b5 : 0 ≤ l.getD a 0 := (h.iff ha).2 trivial
        have b6 := h.small ha
        rcases ih z h4 with ⟨c1, c2⟩ | ⟨c1, c2⟩
        · right; omega
        · left; omega
    rcases alt m a hw with ⟨_, c⟩ | ⟨c1, _⟩
    · exact c
    · omega
  · intro hc u v hu hv e
    have hvl := hE u hu v hv
    obtain ⟨m, r, h1, h2, h3⟩ := hcol u hu
    obtain ⟨q, s, k1, k2, k3⟩ := hcol v hvl
    have ers := Root.unique hR h1 k1 ((Con.trans ⟨m, h2⟩ (Con.one hv))) ⟨q, k2⟩
    subst ers
    have hrl : r < R.length := (Con.symm hR ⟨m, h2⟩).lt hE hu
    have hw : Wk R r (m + 1) v := ⟨u, h2, hv⟩
    have := hc r (m + 1 + q) hrl (hw.add (k2.back hR))
    omega
/-- Walks of graphs with the same edges are the same. -/
theorem Wk.same {E R : List (List Nat)} (h : ∀ u v, v ∈ gr R u ↔ v ∈ gr E u) {u : Nat} : ∀ {m v}, Wk R u m v ↔ Wk E u m v
  | 0, _ => Iff.rfl
  | m + 1, v => by
    constructor
    · rintro ⟨z, h1, h2⟩; exact ⟨z, (Wk.same h).1 h1, (h z v).1 h2⟩
    · rintro ⟨z, h1, h2⟩; exact ⟨z, (Wk.same h).2 h1, (h z v).2 h2⟩

/-- As many edges lead back. -/
def Und (E : List (List Nat)) : Prop := ∀ u v, u < E.length → v < E.length → (gr E u).count v = (gr E v).count u
theorem Und.sym {E : List (List Nat)} (hE : Valid E) (h : Und E) : Sym E := fun u v => by
  constructor
  · intro hu
    have hv := gr_mem hu
    have hul := hE v hv u hu
    have := h v u hv hul
    exact List.count_pos_iff.1 (by have := List.count_pos_iff.2 hu; omega)
  · intro hv
    have hu := gr_mem hv
    have hvl := hE u hu v hv
    have := h u v hu hvl
    exact List.count_pos_iff.1 (by have := List.count_pos_iff.2 hv; omega)
theorem Und.bth {E : List (List Nat)} (hE : Valid E) (h : Und E) (u v : Nat) : v ∈ gr (Go.Proofs.YtpkjdnplmgfbbaaDoor.bth E) u ↔ v ∈ gr E u := by
  rw [bth_mem hE]
  constructor
  · rintro (h1 | h1)
    · exact (h.sym hE u v).1 h1
    · exact h1
  · exact .inr
end Go.Proofs.YtpkjdnplmgfbbaaDoor
