/- Sturm's theorem, as far as it is wanted: along a chain the changes of sign do not grow from left to right, and fall at a root (plain Lean, rational points). Sturm's theorem, global: the changes fall from left to right; their numbers at the ends (plain Lean). What Enclose lists is what CheckEnclosures accepts (plain Lean, by Sturm's theorem). -/
import Derived.Test.YtdmdagilopckgaaGreatPze
import Derived.Test.YtdmdagilopckgaaGreatChg
import Derived.Test.YtdmdagilopckgaaGreatExj
namespace Go.Proofs.YtdmdagilopckgaaGreat

/-- The value at a rational point. -/
def evR : List Int → Rat → Rat
  | [], _ => 0
  | c :: r, x => (c : Rat) + x * evR r x
/-- The derivative's value. -/
def deR : List Int → Rat → Rat
  | [], _ => 0
  | _ :: r, x => evR r x + x * deR r x
theorem evR_addL : ∀ (a b : List Int) (x : Rat), evR (addL a b) x = evR a x + evR b x
  | [], b, x => by simp [addL, evR]; grind
  | a :: r, [], x => by simp [addL, evR]; grind
  | a :: r, b :: q, x => by
    rw [addL, evR, evR_addL r q x, evR, evR, Rat.intCast_add]
    grind
theorem evR_map (s : Int) (l : List Int) (x : Rat) : evR (l.map (· * s)) x = evR l x * s := by
  induction l with
  | nil => simp [evR]
  | cons c r ih => rw [List.map_cons, evR, ih, evR, Rat.intCast_mul]; grind
theorem evR_mulL (a b : List Int) (x : Rat) : evR (mulL a b) x = evR a x * evR b x := by
  induction a with
  | nil => simp [mulL, evR]
  | cons c r ih => rw [mulL, evR_addL, evR_map, evR, ih, evR]; simp; grind
theorem evR_append_zero (l : List Int) (x : Rat) : evR (l ++ [0]) x = evR l x := by
  induction l with
  | nil => simp [evR]; grind
  | cons c r ih => rw [List.cons_append, evR, ih, evR]
theorem evR_tz (l : List Int) (x : Rat) : evR (tz l) x = evR l x := tz_law (fun l => evR l x) (fun l => evR_append_zero l x) l
theorem evR_ext {a b : List Int} (h : ∀ x : Int, ev a x = ev b x) (x : Rat) : evR a x = evR b x := by rw [← evR_tz a, tz_ev h, evR_tz]
theorem evR_dvF (i : Nat) (l : List Int) (x : Rat) : evR (dvF i l) x = i * evR l x + x * deR l x := by
  induction l generalizing i with
  | nil => simp [dvF, evR, deR]; grind
  | cons c r ih =>
    rw [dvF, evR, ih, evR, deR, Rat.intCast_mul]
    have : ((i + 1 : Nat) : Rat) = (i : Rat) + 1 := by norm_cast
    have h2 : (((i : Nat) : Int) : Rat) = (i : Rat) := by norm_cast
    rw [this, h2]
    grind
theorem evR_dv (l : List Int) (x : Rat) : evR (dv l) x = deR l x := by
  unfold dv
  rw [evR_tz, evR_dvF]
  cases l with
  | nil => simp [evR, deR]; grind
  | cons c r =>
    rw [List.drop_one, List.tail_cons, deR]
    have : ((1 : Nat) : Rat) = 1 := rfl
    rw [this]
    grind
theorem evR_int (l : List Int) (n : Int) : evR l (n : Rat) = ((ev l n : Int) : Rat) := by
  induction l with
  | nil => rfl
  | cons c r ih => rw [evR, ih, ev, Rat.intCast_add, Rat.intCast_mul]

/-- The sign. -/
def sgR (v : Rat) : Int := if v < 0 then -1 else if v = 0 then 0 else 1
theorem sgR_pos {v : Rat} : sgR v = 1 ↔ 0 < v := by
  unfold sgR
  constructor
  · intro h
    split at h
    · cases h
    · split at h
      · cases h
      · grind
  · intro h
    rw [if_neg (by grind), if_neg (by grind)]
theorem sgR_neg {v : Rat} : sgR v = -1 ↔ v < 0 := by
  unfold sgR
  constructor
  · intro h
    split at h
    · assumption
    · split at h <;> cases h
  · intro h
    rw [if_pos h]
theorem sgR_zero {v : Rat} : sgR v = 0 ↔ v = 0 := by
  unfold sgR
  constructor
  · intro h
    split at h
    · cases h
    · split at h
      · assumption
      · cases h
  · intro h
    rw [if_neg (by grind), if_pos h]
theorem sgR_cases (v : Rat) : sgR v = 1 ∧ 0 < v ∨ sgR v = -1 ∧ v < 0 ∨ sgR v = 0 ∧ v = 0 := by
  rcases show 0 < v ∨ v < 0 ∨ v = 0 by grind with h | h | h
  · exact .inl ⟨sgR_pos.2 h, h⟩
  · exact .inr (.inl ⟨sgR_neg.2 h, h⟩)
  · exact .inr (.inr ⟨sgR_zero.2 h, h⟩)

/-- A point within R. -/
def InR (R x : Rat) : Prop := -R ≤ x ∧ x ≤ R
theorem mul_bd {a b A B : Rat} (h1 : -A ≤ a) (h2 : a ≤ A) (h3 : -B ≤ b) (h4 : b ≤ B) : -(A * B) ≤ a * b ∧ a * b ≤ A * B := by
  have p1 : 0 ≤ (A - a) * (B + b) := Rat.mul_nonneg (by grind) (by grind)
  have p2 : 0 ≤ (A + a) * (B - b) := Rat.mul_nonneg (by grind) (by grind)
  have p3 : 0 ≤ (A - a) * (B - b) := Rat.mul_nonneg (by grind) (by grind)
  have p4 : 0 ≤ (A + a) * (B + b) := Rat.mul_nonneg (by grind) (by grind)
  constructor <;> grind
theorem bd_int (c : Int) : ∃ C : Rat, 0 ≤ C ∧ -C ≤ (c : Rat) ∧ (c : Rat) ≤ C := by
  rcases show (0 : Rat) ≤ c ∨ (c : Rat) ≤ 0 by grind with h | h
  · exact ⟨c, h, by grind, by grind⟩
  · exact ⟨-c, by grind, by grind, by grind⟩
theorem evR_bd (l : List Int) {R : Rat} (hR : 0 ≤ R) : ∃ B, 0 ≤ B ∧ ∀ x, InR R x → -B ≤ evR l x ∧ evR l x ≤ B := by
  induction l with
  | nil => exact ⟨0, by grind, fun x _ => by simp [evR]⟩
  | cons c r ih =>
    obtain ⟨B, hB, h⟩ := ih
    obtain ⟨C, hC, h1, h2⟩ := bd_int c
    have hRB := Rat.mul_nonneg hR hB
    refine ⟨C + R * B, by grind, fun x hx => ?_⟩
    obtain ⟨h3, h4⟩ := h x hx
    obtain ⟨h5, h6⟩ := mul_bd hx.1 hx.2 h3 h4
    rw [evR]
    constructor <;> grind
theorem deR_bd (l : List Int) {R : Rat} (hR : 0 ≤ R) : ∃ B, 0 ≤ B ∧ ∀ x, InR R x → -B ≤ deR l x ∧ deR l x ≤ B := by
  obtain ⟨B, hB, h⟩ := evR_bd (dv l) hR
  exact ⟨B, hB, fun x hx => by rw [← evR_dv]; exact h x hx⟩
/-- Polynomials change little over a small step. -/
theorem evR_lip (l : List Int) {R : Rat} (hR : 0 ≤ R) : ∃ B, 0 < B ∧ ∀ x y, InR R x → InR R y → x ≤ y → -(B * (y - x)) ≤ evR l y - evR l x ∧ evR l y - evR l x ≤ B * (y - x) := by
  induction l with
  | nil => exact ⟨1, by grind, fun x y _ _ hxy => by simp only [evR]; constructor <;> grind⟩
  | cons c r ih =>
    obtain ⟨B, hB, h⟩ := ih
    obtain ⟨B0, hB0, h0⟩ := evR_bd r hR
    have hRB := Rat.mul_nonneg hR (Rat.le_of_lt hB)
    refine ⟨R * B + B0 + 1, by grind, fun x y hx hy hxy => ?_⟩
    obtain ⟨h1, h2⟩ := h x y hx hy hxy
    obtain ⟨h3, h4⟩ := h0 x hx
    obtain ⟨h5, h6⟩ := mul_bd hy.1 hy.2 h1 h2
    obtain ⟨h7, h8⟩ := mul_bd (a := y - x) (A := y - x) (by grind) (by grind) h3 h4
    have e : evR (c :: r) y - evR (c :: r) x = y * (evR r y - evR r x) + (y - x) * evR r x := by
      rw [evR, evR]; grind
    have e2 : (R * B + B0 + 1) * (y - x) = R * (B * (y - x)) + (y - x) * B0 + (y - x) := by grind
    rw [e, e2]
    constructor <;> grind
/-- .. and as the derivative says. -/
theorem evR_tay (l : List Int) {R : Rat} (hR : 0 ≤ R) : ∃ B, 0 < B ∧ ∀ x y, InR R x → InR R y → x ≤ y → -(B * ((y - x) * (y - x))) ≤ evR l y - evR l x - (y - x) * deR l x ∧ evR l y - evR l x - (y - x) * deR l x ≤ B * ((y - x) * (y - x)) := by
  induction l with
  | nil =>
    refine ⟨1, by grind, fun x y _ _ hxy => ?_⟩
    have := Rat.mul_nonneg (show 0 ≤ y - x by grind) (show 0 ≤ y - x by grind)
    simp only [evR, deR]
    constructor <;> grind
  | cons c r ih =>
    obtain ⟨B, hB, h⟩ := ih
    obtain ⟨B0, hB0, h0⟩ := deR_bd r hR
    have hRB := Rat.mul_nonneg hR (Rat.le_of_lt hB)
    refine ⟨R * B + B0 + 1, by grind, fun x y hx hy hxy => ?_⟩
    obtain ⟨h1, h2⟩ := h x y hx hy hxy
    obtain ⟨h3, h4⟩ := h0 x hx
    obtain ⟨h5, h6⟩ := mul_bd hy.1 hy.2 h1 h2
    have hs := Rat.mul_nonneg (show 0 ≤ y - x by grind) (show 0 ≤ y - x by grind)
    obtain ⟨h7, h8⟩ := mul_bd (a := (y - x) * (y - x)) (A := (y - x) * (y - x)) (by grind) (by grind) h3 h4
    have e : evR (c :: r) y - evR (c :: r) x - (y - x) * deR (c :: r) x = y * (evR r y - evR r x - (y - x) * deR r x) + (y - x) * (y - x) * deR r x := by
      rw [evR, evR, deR]; grind
    have e2 : (R * B + B0 + 1) * ((y - x) * (y - x)) = R * (B * ((y - x) * (y - x))) + (y - x) * (y - x) * B0 + (y - x) * (y - x) := by grind
    rw [e, e2]
    constructor <;> grind

theorem div_ex {b d : Rat} (hb : 0 < b) (hd : 0 < d) : ∃ u, 0 < u ∧ u * d = b := by
  have hmul : b / d * d = b := Rat.div_mul_cancel (by grind)
  refine ⟨b / d, ?_, hmul⟩
  rcases show 0 < b / d ∨ b / d ≤ 0 by grind with h | h
  · exact h
  · exfalso
    have := Rat.mul_nonneg (show 0 ≤ -(b / d) by grind) (Rat.le_of_lt hd)
    grind

/-- Far from 0. -/
def Fr0 (e v : Rat) : Prop := e ≤ v ∨ v ≤ -e
/-- Three that follow one another in a chain. -/
def Rel3 (f g h : List Int) : Prop := ∃ (a b : Rat) (q : List Int), 0 < a ∧ 0 < b ∧ ∀ x, b * evR h x = evR q x * evR g x - a * evR f x
inductive SC : List Int → List Int → List (List Int) → Prop
  | last {f g : List Int} {c : Rat} (hc : c ≠ 0) (hg : ∀ x, evR g x = c) : SC f g [g]
  | step {f g h : List Int} {L : List (List Int)} (hr : Rel3 f g h) (hs : SC g h L) : SC f g (g :: L)
/-- Two of them are never small at once. -/
def Sep (R : Rat) (f g : List Int) : Prop := ∃ e, 0 < e ∧ ∀ x, InR R x → Fr0 e (evR f x) ∨ Fr0 e (evR g x)
theorem Sep.step {R : Rat} (hR : 0 ≤ R) {f g h : List Int} (hr : Rel3 f g h) (hs : Sep R g h) : Sep R f g := by
  obtain ⟨a, b, q, ha, hb, he⟩ := hr
  obtain ⟨e, h0, hs⟩ := hs
  obtain ⟨B, hB, hq⟩ := evR_bd q hR
  have hden : 0 < b + B + a := by grind
  obtain ⟨u, hr1, hmul⟩ := div_ex hb hden
  have hu1 : u ≤ 1 := by
    rcases show u ≤ 1 ∨ 1 < u by grind with h | h
    · exact h
    · exfalso
      have := Rat.mul_pos (show 0 < u - 1 by grind) hden
      grind
  have heu : 0 < e * u := Rat.mul_pos h0 hr1
  have heu1 : e * u ≤ e := by
    have := Rat.mul_nonneg (Rat.le_of_lt h0) (show 0 ≤ 1 - u by grind)
    grind
  refine ⟨e * u, heu, fun x hx => ?_⟩
  rcases show Fr0 (e * u) (evR f x) ∨ (-(e * u) < evR f x ∧ evR f x < e * u) by unfold Fr0; grind with h1 | ⟨h1, h2⟩
  · exact .inl h1
  rcases show Fr0 (e * u) (evR g x) ∨ (-(e * u) < evR g x ∧ evR g x < e * u) by unfold Fr0; grind with h3 | ⟨h3, h4⟩
  · exact .inr h3
  exfalso
  obtain ⟨q1, q2⟩ := hq x hx
  obtain ⟨m1, m2⟩ := mul_bd q1 q2 (Rat.le_of_lt h3) (Rat.le_of_lt h4)
  have e1 := he x
  have n1 := Rat.mul_pos ha (show 0 < e * u - evR f x by grind)
  have n2 := Rat.mul_pos ha (show 0 < e * u + evR f x by grind)
  have hbe : b * e = e * u * b + B * (e * u) + a * (e * u) := by
    have : e * (u * (b + B + a)) = e * b := by rw [hmul]
    grind
  have hpb := Rat.mul_pos heu hb
  rcases hs x hx with h5 | h5
  · unfold Fr0 at h5; grind
  · rcases h5 with h5 | h5
    · have := Rat.mul_nonneg (Rat.le_of_lt hb) (show 0 ≤ evR h x - e by grind)
      grind
    · have := Rat.mul_nonneg (Rat.le_of_lt hb) (show 0 ≤ -e - evR h x by grind)
      grind
theorem SC.sep {f g : List Int} {L : List (List Int)} (h : SC f g L) {R : Rat} (hR : 0 ≤ R) : Sep R f g := by
  induction h with
  | @last f g c hc hg =>
    rcases show 0 < c ∨ c < 0 by grind with h | h
    · exact ⟨c, h, fun x _ => .inr (by rw [hg]; left; grind)⟩
    · exact ⟨-c, by grind, fun x _ => .inr (by rw [hg]; right; grind)⟩
  | step hr _ ih => exact Sep.step hR hr ih
theorem lt_scale {u B d h : Rat} (hB : 0 ≤ B) (hd : h ≤ d) (he : B * d ≤ u) : B * h ≤ u := by
  have := Rat.mul_nonneg hB (show 0 ≤ d - h by grind)
  grind
/-- What is far from 0 keeps its sign over a small step. -/
theorem sign_keep (l : List Int) {R e : Rat} (hR : 0 ≤ R) (he : 0 < e) : ∃ d, 0 < d ∧ ∀ x y, InR R x → InR R y → x ≤ y → y ≤ x + d → (e ≤ evR l x → sgR (evR l x) = 1 ∧ sgR (evR l y) = 1) ∧ (evR l x ≤ -e → sgR (evR l x) = -1 ∧ sgR (evR l y) = -1) := by
  obtain ⟨B, hB, h⟩ := evR_lip l hR
  obtain ⟨d, hd, hdm⟩ := div_ex (b := e) (d := 2 * B) he (by grind)
  refine ⟨d, hd, fun x y hx hy hxy hyd => ?_⟩
  obtain ⟨h1, h2⟩ := h x y hx hy hxy
  have h3 := lt_scale (u := e / 2) (Rat.le_of_lt hB) (show y - x ≤ d by grind) (by grind)
  exact ⟨fun h4 => ⟨sgR_pos.2 (by grind), sgR_pos.2 (by grind)⟩, fun h4 => ⟨sgR_neg.2 (by grind), sgR_neg.2 (by grind)⟩⟩
/-- The signs along a list at x. -/
def sgs (L : List (List Int)) (x : Rat) : List Int := L.map fun p => sgR (evR p x)
/-- Behind f, where f keeps its sign, the changes stay the same over a small step. -/
def Stab (R : Rat) (f : List Int) (L : List (List Int)) : Prop :=
  ∃ d, 0 < d ∧ ∀ x y, InR R x → InR R y → x ≤ y → y ≤ x + d → ∀ s : Int, (s = 1 ∨ s = -1) → sgR (evR f x) = s → sgR (evR f y) = s → chc s (sgs L x) = chc s (sgs L y)
theorem min_ex {a b : Rat} (ha : 0 < a) (hb : 0 < b) : ∃ d, 0 < d ∧ d ≤ a ∧ d ≤ b := by
  rcases show a ≤ b ∨ b ≤ a by grind with h | h
  · exact ⟨a, ha, by grind, h⟩
  · exact ⟨b, hb, h, by grind⟩
theorem chc_hd {s t : Int} (ht : t ≠ 0) {r : List Int} : chc s (t :: r) = (if t = -s then 1 else 0) + chc t r := by rw [chc, if_pos ht]
/-- An element whose neighbours have opposite signs makes one change, whatever its own sign is. -/
theorem chc_mid {s t : Int} (hs : s = 1 ∨ s = -1) (ht : t = 1 ∨ t = -1 ∨ t = 0) (r : List Int) : chc s (t :: -s :: r) = 1 + chc (-s) r := by
  rcases hs with rfl | rfl <;> rcases ht with rfl | rfl | rfl <;> simp [chc] <;> omega
theorem SC.stab {f g : List Int} {L : List (List Int)} (h : SC f g L) {R : Rat} (hR : 0 ≤ R) : ∃ T, L = g :: T ∧ Stab R f L ∧ Stab R g T := by
  induction h with
  | @last f g c hc hg =>
    refine ⟨[], rfl, ⟨1, by grind, fun x y _ _ _ _ s _ _ _ => ?_⟩, ⟨1, by grind, fun x y _ _ _ _ s _ _ _ => rfl⟩⟩
    simp only [sgs, List.map, hg]
  | @step f g h L hr hs ih =>
    obtain ⟨T, rfl, ⟨d1, hd1, s1⟩, ⟨d2, hd2, s2⟩⟩ := ih
    refine ⟨_, rfl, ?_, ⟨d1, hd1, s1⟩⟩
    obtain ⟨e, he, hsep⟩ := Sep.step hR hr (hs.sep hR)
    obtain ⟨a, b, q, ha, hb, hrel⟩ := hr
    obtain ⟨B, hB, hq⟩ := evR_bd q hR
    -- how small g is to be: u
    have hden : 0 < 2 * (a + B) := by grind
    obtain ⟨v, hv, hvm⟩ := div_ex (b := a * e) (d := 2 * (a + B)) (Rat.mul_pos ha he) hden
    obtain ⟨u, hu, hu1, hu2⟩ := min_ex he hv
    have hBu : B * u ≤ a * e / 2 := by
      have h1 := Rat.mul_nonneg (show 0 ≤ a + B by grind) (show 0 ≤ v - u by grind)
      have h2 := Rat.mul_nonneg (Rat.le_of_lt ha) (Rat.le_of_lt hu)
      grind
    -- how far h is from 0 then: t
    obtain ⟨t, ht, htm⟩ := div_ex (b := a * e / 2) (d := b) (by have := Rat.mul_pos ha he; grind) hb
    obtain ⟨d3, hd3, k3⟩ := sign_keep g hR hu
    obtain ⟨d4, hd4, k4⟩ := sign_keep h hR ht
    obtain ⟨m1, hm1, l1, l2⟩ := min_ex hd1 hd2
    obtain ⟨m2, hm2, l3, l4⟩ := min_ex hd3 hd4
    obtain ⟨d, hd, l5, l6⟩ := min_ex hm1 hm2
    refine ⟨d, hd, fun x y hx hy hxy hyd s hs2 hfx hfy => ?_⟩
    have hg3 := k3 x y hx hy hxy (by grind)
    have hh4 := k4 x y hx hy hxy (by grind)
    rcases show u ≤ evR g x ∨ evR g x ≤ -u ∨ (-u < evR g x ∧ evR g x < u) by grind with hg | hg | ⟨hg1, hg2⟩
    · obtain ⟨e1, e2⟩ := hg3.1 hg
      have := s1 x y hx hy hxy (by grind) 1 (.inl rfl) e1 e2
      simp only [sgs, List.map_cons] at this ⊢
      rw [e1, e2, chc_hd (s := s) (t := 1) (by decide), chc_hd (s := s) (t := 1) (by decide), this]
    · obtain ⟨e1, e2⟩ := hg3.2 hg
      have := s1 x y hx hy hxy (by grind) (-1) (.inr rfl) e1 e2
      simp only [sgs, List.map_cons] at this ⊢
      rw [e1, e2, chc_hd (s := s) (t := -1) (by decide), chc_hd (s := s) (t := -1) (by decide), this]
    · obtain ⟨q1, q2⟩ := hq x hx
      obtain ⟨n1, n2⟩ := mul_bd q1 q2 (Rat.le_of_lt hg1) (Rat.le_of_lt hg2)
      have hre := hrel x
      have hopp : sgR (evR h x) = -s ∧ sgR (evR h y) = -s := by
        rcases hs2 with rfl | rfl
        · have hf := sgR_pos.1 hfx
          have hfe : e ≤ evR f x := by
            rcases hsep x hx with h5 | h5 <;> unfold Fr0 at h5 <;> grind
          have h6 := Rat.mul_nonneg (Rat.le_of_lt ha) (show 0 ≤ evR f x - e by grind)
          refine hh4.2 ?_
          rcases show evR h x ≤ -t ∨ -t < evR h x by grind with h7 | h7
          · exact h7
          · exfalso
            have := Rat.mul_pos hb (show 0 < evR h x + t by grind)
            grind
        · have hf := sgR_neg.1 hfx
          have hfe : evR f x ≤ -e := by
            rcases hsep x hx with h5 | h5 <;> unfold Fr0 at h5 <;> grind
          have h6 := Rat.mul_nonneg (Rat.le_of_lt ha) (show 0 ≤ -e - evR f x by grind)
          refine hh4.1 ?_
          rcases show t ≤ evR h x ∨ evR h x < t by grind with h7 | h7
          · exact h7
          · exfalso
            have := Rat.mul_pos hb (show 0 < t - evR h x by grind)
            grind
      have hs3 : -s = 1 ∨ -s = -1 := by omega
      have := s2 x y hx hy hxy (by grind) (-s) hs3 hopp.1 hopp.2
      simp only [sgs, List.map_cons] at this ⊢
      rw [hopp.1, hopp.2, chc_mid hs2 (by rcases sgR_cases (evR g x) with h | h | h <;> omega), chc_mid hs2 (by rcases sgR_cases (evR g y) with h | h | h <;> omega), this]

/-- The changes of sign at x. -/
def Vr (L : List (List Int)) (x : Rat) : Int := chc 0 (sgs L x)
/-- Over a small step the changes do not grow; where the first element is 0 at the end they fall. -/
theorem step_small {s p : List Int} {L : List (List Int)} {k : Rat} (h : SC s p L) (hk : 0 < k) (hp : ∀ x, k * evR p x = deR s x) {R : Rat} (hR : 0 ≤ R) :
    ∃ d, 0 < d ∧ ∀ x y, InR R x → InR R y → x < y → y ≤ x + d → Vr (s :: L) y ≤ Vr (s :: L) x ∧ (evR s y = 0 → Vr (s :: L) y + 1 ≤ Vr (s :: L) x) := by
  obtain ⟨T, rfl, ⟨d1, hd1, s1⟩, ⟨d2, hd2, s2⟩⟩ := h.stab hR
  obtain ⟨e, he, hsep⟩ := h.sep hR
  obtain ⟨d3, hd3, k3⟩ := sign_keep s hR he
  obtain ⟨d4, hd4, k4⟩ := sign_keep p hR he
  obtain ⟨B, hB, htay⟩ := evR_tay s hR
  obtain ⟨d5, hd5, k5⟩ := div_ex (b := k * e) (d := 2 * B) (Rat.mul_pos hk he) (by grind)
  obtain ⟨m1, hm1, l1, l2⟩ := min_ex hd1 hd2
  obtain ⟨m2, hm2, l3, l4⟩ := min_ex hd3 hd4
  obtain ⟨m3, hm3, l5, l6⟩ := min_ex hm1 hm2
  obtain ⟨d, hd, l7, l8⟩ := min_ex hm3 hd5
  refine ⟨d, hd, fun x y hx hy hxy hyd => ?_⟩
  have hle := Rat.le_of_lt hxy
  have h3 := k3 x y hx hy hle (by grind)
  have h4 := k4 x y hx hy hle (by grind)
  unfold Vr
  rcases show e ≤ evR s x ∨ evR s x ≤ -e ∨ (-e < evR s x ∧ evR s x < e) by grind with hs | hs | ⟨hs1, hs2⟩
  · obtain ⟨e1, e2⟩ := h3.1 hs
    have := s1 x y hx hy hle (by grind) 1 (.inl rfl) e1 e2
    have h0 : evR s y ≠ 0 := fun h => by rw [sgR_zero.2 h] at e2; cases e2
    simp only [sgs, List.map_cons] at this ⊢
    rw [e1, e2, chc_hd (s := 0) (t := 1) (by decide), chc_hd (s := 0) (t := 1) (by decide), this]
    exact ⟨Int.le_refl _, fun h => absurd h h0⟩
  · obtain ⟨e1, e2⟩ := h3.2 hs
    have := s1 x y hx hy hle (by grind) (-1) (.inr rfl) e1 e2
    have h0 : evR s y ≠ 0 := fun h => by rw [sgR_zero.2 h] at e2; cases e2
    simp only [sgs, List.map_cons] at this ⊢
    rw [e1, e2, chc_hd (s := 0) (t := -1) (by decide), chc_hd (s := 0) (t := -1) (by decide), this]
    exact ⟨Int.le_refl _, fun h => absurd h h0⟩
  · have hpe : Fr0 e (evR p x) := by
      rcases hsep x hx with h5 | h5
      · unfold Fr0 at h5; grind
      · exact h5
    obtain ⟨t1, t2⟩ := htay x y hx hy hle
    rw [← hp x] at t1 t2
    have hpos : 0 < y - x := by grind
    -- the derivative outweighs the rest
    have hrest := lt_scale (u := k * e / 2) (Rat.le_of_lt hB) (show y - x ≤ d5 by grind) (by grind)
    have hrest2 := Rat.mul_nonneg (Rat.le_of_lt hpos) (show 0 ≤ k * e / 2 - B * (y - x) by grind)
    have hke := Rat.mul_pos hpos (Rat.mul_pos hk he)
    rcases hpe with hpe | hpe
    · obtain ⟨e1, e2⟩ := h4.1 hpe
      have h6 := Rat.mul_nonneg (Rat.le_of_lt hpos) (Rat.mul_nonneg (Rat.le_of_lt hk) (show 0 ≤ evR p x - e by grind))
      have hup : evR s x < evR s y := by grind
      have := s2 x y hx hy hle (by grind) 1 (.inl rfl) e1 e2
      simp only [sgs, List.map_cons] at this ⊢
      rw [e1, e2]
      rcases sgR_cases (evR s x) with ⟨c1, c2⟩ | ⟨c1, c2⟩ | ⟨c1, c2⟩ <;> rcases sgR_cases (evR s y) with ⟨c3, c4⟩ | ⟨c3, c4⟩ | ⟨c3, c4⟩ <;> rw [c1, c3] <;> simp [chc, this] <;> grind
    · obtain ⟨e1, e2⟩ := h4.2 hpe
      have h6 := Rat.mul_nonneg (Rat.le_of_lt hpos) (Rat.mul_nonneg (Rat.le_of_lt hk) (show 0 ≤ -e - evR p x by grind))
      have h7 : (y - x) * (k * evR p x) + (y - x) * (k * e) ≤ 0 := by grind
      have hup : evR s y < evR s x := by grind
      have := s2 x y hx hy hle (by grind) (-1) (.inr rfl) e1 e2
      simp only [sgs, List.map_cons] at this ⊢
      rw [e1, e2]
      rcases sgR_cases (evR s x) with ⟨c1, c2⟩ | ⟨c1, c2⟩ | ⟨c1, c2⟩ <;> rcases sgR_cases (evR s y) with ⟨c3, c4⟩ | ⟨c3, c4⟩ | ⟨c3, c4⟩ <;> rw [c1, c3] <;> simp [chc, this] <;> grind
end Go.Proofs.YtdmdagilopckgaaGreat

namespace Go.Proofs.YtdmdagilopckgaaGreat

theorem near_ex (a b : Rat) : ∃ R, 0 ≤ R ∧ InR R a ∧ InR R b := by
  rcases show 0 ≤ a ∨ a ≤ 0 by grind with h | h <;> rcases show 0 ≤ b ∨ b ≤ 0 by grind with h2 | h2
  · exact ⟨a + b, by grind, ⟨by grind, by grind⟩, ⟨by grind, by grind⟩⟩
  · exact ⟨a - b, by grind, ⟨by grind, by grind⟩, ⟨by grind, by grind⟩⟩
  · exact ⟨b - a, by grind, ⟨by grind, by grind⟩, ⟨by grind, by grind⟩⟩
  · exact ⟨-a - b, by grind, ⟨by grind, by grind⟩, ⟨by grind, by grind⟩⟩
theorem steps_ex {d c : Rat} (hd : 0 < d) (hc : 0 < c) : ∃ n : Nat, c ≤ n * d := by
  obtain ⟨u, hu, hm⟩ := div_ex hc hd
  refine ⟨u.ceil.toNat, ?_⟩
  have h1 : u ≤ (u.ceil.toNat : Rat) := Rat.le_trans (Rat.le_ceil (x := u)) (by exact_mod_cast Int.self_le_toNat _)
  have := Rat.mul_nonneg (show 0 ≤ (u.ceil.toNat : Rat) - u by grind) (Rat.le_of_lt hd)
  grind
/-- The changes along a list do not grow from left to right, and fall at a root of the first. -/
def Falls (s : List Int) (C : List (List Int)) : Prop := ∀ a b : Rat, a < b → Vr C b ≤ Vr C a ∧ (evR s b = 0 → Vr C b + 1 ≤ Vr C a)
theorem SC.falls {s p : List Int} {L : List (List Int)} {k : Rat} (h : SC s p L) (hk : 0 < k) (hp : ∀ x, k * evR p x = deR s x) : Falls s (s :: L) := by
  intro a b hab
  obtain ⟨R, hR, ha, hb⟩ := near_ex a b
  obtain ⟨d, hd, hs⟩ := step_small h hk hp hR
  obtain ⟨n, hn⟩ := steps_ex hd (show 0 < b - a by grind)
  have key : ∀ (n : Nat) (x y : Rat), InR R x → InR R y → x < y → y ≤ x + n * d → Vr (s :: L) y ≤ Vr (s :: L) x ∧ (evR s y = 0 → Vr (s :: L) y + 1 ≤ Vr (s :: L) x) := by
    intro n
    induction n with
    | zero =>
      intro x y _ _ h1 h2
      have : ((0 : Nat) : Rat) = 0 := rfl
      rw [this] at h2
      exfalso
      grind
    | succ n ih =>
      intro x y hx hy h1 h2
      rcases show y ≤ x + d ∨ x + d < y by grind with h3 | h3
      · exact hs x y hx hy h1 h3
      · have e : ((n + 1 : Nat) : Rat) = (n : Rat) + 1 := by norm_cast
        rw [e] at h2
        have hz : InR R (y - d) := ⟨by have := hx.1; grind, by have := hy.2; grind⟩
        obtain ⟨k1, _⟩ := ih x (y - d) hx hz (by grind) (by grind)
        obtain ⟨k2, k3⟩ := hs (y - d) y hz hy (by grind) (by grind)
        exact ⟨by omega, fun h0 => by have := k3 h0; omega⟩
  exact key n a b ha hb hab (by grind)

theorem Rel3.of {f g : List Int} (hi : ChI f g) : Rel3 f g (pp (ng (rs f g))) := by
  obtain ⟨a, b, q, ha, hb, hq⟩ := rs_ev (f := f) hi.norm' hi.ne
  obtain ⟨m, hm, hme⟩ := pp_ev (ng (rs f g))
  refine ⟨(a : Rat), (b * m : Int), q, by exact_mod_cast ha, by exact_mod_cast Int.mul_pos hb hm, fun x => ?_⟩
  have key : ∀ x : Int, ev ((pp (ng (rs f g))).map (· * (b * m))) x = ev (addL (mulL q g) (f.map (· * (-a)))) x := fun x => by
    have e1 := hq x
    have e2 := hme x
    rw [ng_ev] at e2
    rw [ev_map, ev_addL, ev_mulL, ev_map]
    grind
  have := evR_ext key x
  rw [evR_map, evR_addL, evR_mulL, evR_map] at this
  have hneg : ((-a : Int) : Rat) = -(a : Rat) := by norm_cast
  rw [hneg] at this
  grind
theorem one_const {g : List Int} (hg : tz g = g) (h1 : g.length = 1) : ∃ c : Rat, c ≠ 0 ∧ ∀ x, evR g x = c := by
  match g, h1 with
  | [c], _ =>
    have h0 := (tz_cons hg).2 rfl
    exact ⟨(c : Rat), by exact_mod_cast h0, fun x => by simp [evR]; grind⟩
theorem SC.of : ∀ (n : Nat) (f g : List Int), g.length ≤ n → ChI f g → SC f g (chn f g) := by
  intro n
  induction n with
  | zero => intro f g hl hi; exact absurd (List.eq_nil_of_length_eq_zero (Nat.le_zero.1 hl)) hi.ne
  | succ n ih =>
    intro f g hl hi
    have hpos := List.length_pos_iff.2 hi.ne
    rw [chn_eq]
    split
    · obtain ⟨c, hc, hg⟩ := one_const hi.norm' (by omega)
      exact SC.last hc hg
    · have := pp_ng_length f hpos
      exact SC.step (Rel3.of hi) (ih g _ (by omega) (hi.next (by omega)))

/-- The squarefree part of a good polynomial. -/
theorem sq_facts {t : List Int} (ht : tz t = t) (h0 : t ≠ []) : ∃ m : Int, m ≠ 0 ∧ (∀ x, m * ev (ps t) x = ev (eu (ps t) (dv (ps t))) x * ev (sq t) x) ∧ tz (sq t) = sq t ∧ sq t ≠ [] ∧ (2 ≤ (sq t).length → ChI (sq t) (pp (dv (sq t)))) := by
  have hpn := tz_ps t
  have hp0 := ps_ne ht h0
  obtain ⟨q, m, hq, hm, hme⟩ := sq_exists hpn hp0
  have hsq : sq t = q := by unfold sq; rw [hq]; rfl
  have hqt := ov_tz hq
  have hq0 : q ≠ [] := by
    rintro rfl
    have h1 := ev_ne hpn hp0 (x := sz (ps t) + 1) (by omega)
    have h2 := hme (sz (ps t) + 1)
    rw [ev_nil, Int.mul_zero] at h2
    rcases Int.mul_eq_zero.1 h2 with h3 | h3
    · exact hm h3
    · exact h1 h3
  rw [hsq]
  refine ⟨m, hm, hme, hqt.1, hq0, fun h2 => ?_⟩
  refine ⟨hqt.1, tz_pp _, h2, fun h h3 h4 => sf _ (ps t) hpn hp0 (Nat.le_refl _) q m hm hme h h3 ?_⟩
  obtain ⟨k, hk, hke⟩ := pp_ev (dv q)
  refine Dv.comb h4 h4 (k := 1) (u := [k]) (v := []) (by omega) fun x => ?_
  have := hke x
  simp only [ev]
  grind
theorem ch_falls {t : List Int} (ht : tz t = t) (h0 : t ≠ []) : Falls (sq t) (ch t) := by
  obtain ⟨m, hm, hme, hqt, hq0, hch⟩ := sq_facts ht h0
  have hpos := List.length_pos_iff.2 hq0
  unfold ch
  rw [chs_eq]
  split
  · obtain ⟨c, hc, hg⟩ := one_const hqt (by omega)
    intro a b hab
    refine ⟨?_, fun h => absurd h (by rw [hg]; exact hc)⟩
    simp only [Vr, sgs, List.map, hg]
    exact Int.le_refl _
  · have hi := hch (by omega)
    obtain ⟨k, hk, hke⟩ := pp_ev (dv (sq t))
    refine (SC.of _ _ _ (Nat.le_refl _) hi).falls (k := (k : Rat)) (by exact_mod_cast hk) fun x => ?_
    have := evR_ext (a := (pp (dv (sq t))).map (· * k)) (b := dv (sq t)) (fun x => by rw [ev_map, ← hke x]; grind) x
    rw [evR_map, evR_dv] at this
    grind

/-! The ends. -/
theorem ld_cons {c : Int} {r : List Int} (h : r ≠ []) : ld (c :: r) = ld r := by
  have := List.length_pos_iff.2 h
  unfold ld
  rw [List.length_cons, show r.length + 1 - 1 = (r.length - 1) + 1 by omega]
  rfl
theorem sgH_pos {p : List Int} : sgH p = 1 ↔ 0 < ld p := by unfold sgH cmpI; split <;> (try split) <;> omega
theorem sgH_neg {p : List Int} : sgH p = -1 ↔ ld p < 0 := by unfold sgH cmpI; split <;> (try split) <;> omega
theorem sgH_cons {c : Int} {r : List Int} (h : r ≠ []) : sgH (c :: r) = sgH r := by unfold sgH; rw [ld_cons h]
theorem sgLo_cons {c : Int} {r : List Int} (h : r ≠ []) : sgLo (c :: r) = -sgLo r := by
  unfold sgLo
  rw [sgH_cons h, List.length_cons]
  split <;> split <;> omega
theorem ends : ∀ (l : List Int), tz l = l → l ≠ [] → ∃ R m : Rat, 0 < R ∧ 0 < m ∧ (∀ x, R ≤ x → sgH l = 1 ∧ m ≤ evR l x ∨ sgH l = -1 ∧ evR l x ≤ -m) ∧ (∀ x, x ≤ -R → sgLo l = 1 ∧ m ≤ evR l x ∨ sgLo l = -1 ∧ evR l x ≤ -m)
  | [], _, h => absurd rfl h
  | c :: r, ht, _ => by
    obtain ⟨hr, hc⟩ := tz_cons ht
    by_cases h0 : r = []
    · subst h0
      have hc := hc rfl
      have hev : ∀ x, evR [c] x = (c : Rat) := fun x => by simp [evR]; grind
      have hld : ld [c] = c := rfl
      have hlo : sgLo [c] = sgH [c] := rfl
      rcases show 0 < c ∨ c < 0 by omega with h | h
      · have h1 : (0 : Rat) < c := by exact_mod_cast h
        exact ⟨1, c, by grind, h1, fun x _ => .inl ⟨sgH_pos.2 (by rw [hld]; exact h), by rw [hev]; grind⟩, fun x _ => .inl ⟨by rw [hlo]; exact sgH_pos.2 (by rw [hld]; exact h), by rw [hev]; grind⟩⟩
      · have h1 : (c : Rat) < 0 := by exact_mod_cast h
        exact ⟨1, -c, by grind, by grind, fun x _ => .inr ⟨sgH_neg.2 (by rw [hld]; exact h), by rw [hev]; grind⟩, fun x _ => .inr ⟨by rw [hlo]; exact sgH_neg.2 (by rw [hld]; exact h), by rw [hev]; grind⟩⟩
    · obtain ⟨R, m, hR, hm, hh, hl⟩ := ends r hr h0
      obtain ⟨C, hC, c1, c2⟩ := bd_int c
      obtain ⟨u, hu, hum⟩ := div_ex (b := C + m) (d := m) (by grind) hm
      refine ⟨R + u, m, by grind, hm, fun x hx => ?_, fun x hx => ?_⟩
      · have hx0 := Rat.mul_nonneg (show 0 ≤ x - u by grind) (Rat.le_of_lt hm)
        rw [sgH_cons h0, evR]
        rcases hh x (by grind) with ⟨h1, h2⟩ | ⟨h1, h2⟩
        · have := Rat.mul_nonneg (show 0 ≤ x by grind) (show 0 ≤ evR r x - m by grind)
          exact .inl ⟨h1, by grind⟩
        · have := Rat.mul_nonneg (show 0 ≤ x by grind) (show 0 ≤ -m - evR r x by grind)
          exact .inr ⟨h1, by grind⟩
      · have hx0 := Rat.mul_nonneg (show 0 ≤ -x - u by grind) (Rat.le_of_lt hm)
        rw [sgLo_cons h0, evR]
        rcases hl x (by grind) with ⟨h1, h2⟩ | ⟨h1, h2⟩
        · have := Rat.mul_nonneg (show 0 ≤ -x by grind) (show 0 ≤ evR r x - m by grind)
          exact .inr ⟨by omega, by grind⟩
        · have := Rat.mul_nonneg (show 0 ≤ -x by grind) (show 0 ≤ -m - evR r x by grind)
          exact .inl ⟨by omega, by grind⟩
theorem ends_all : ∀ (C : List (List Int)), (∀ p ∈ C, tz p = p ∧ p ≠ []) → ∃ R : Rat, 0 < R ∧ (∀ x, R ≤ x → sgs C x = C.map sgH) ∧ (∀ x, x ≤ -R → sgs C x = C.map sgLo)
  | [], _ => ⟨1, by grind, fun _ _ => rfl, fun _ _ => rfl⟩
  | p :: C, h => by
    obtain ⟨R, m, hR, hm, hh, hl⟩ := ends p (h p (List.mem_cons_self ..)).1 (h p (List.mem_cons_self ..)).2
    obtain ⟨R2, hR2, hh2, hl2⟩ := ends_all C fun q hq => h q (List.mem_cons_of_mem _ hq)
    refine ⟨R + R2, by grind, fun x hx => ?_, fun x hx => ?_⟩
    · have h2 := hh2 x (by grind)
      unfold sgs at h2 ⊢
      rw [List.map_cons, List.map_cons, h2]
      congr 1
      rcases hh x (by grind) with ⟨h1, h3⟩ | ⟨h1, h3⟩
      · rw [h1]; exact sgR_pos.2 (by grind)
      · rw [h1]; exact sgR_neg.2 (by grind)
    · have h2 := hl2 x (by grind)
      unfold sgs at h2 ⊢
      rw [List.map_cons, List.map_cons, h2]
      congr 1
      rcases hl x (by grind) with ⟨h1, h3⟩ | ⟨h1, h3⟩
      · rw [h1]; exact sgR_pos.2 (by grind)
      · rw [h1]; exact sgR_neg.2 (by grind)
/-- At the ends. -/
theorem Falls.ends {s : List Int} {C : List (List Int)} (h : Falls s C) (hC : ∀ p ∈ C, tz p = p ∧ p ≠ []) (x : Rat) : Vr C x ≤ chc 0 (C.map sgLo) ∧ chc 0 (C.map sgH) ≤ Vr C x := by
  obtain ⟨R, hR, hh, hl⟩ := ends_all C hC
  obtain ⟨R1, hR1, h1, _⟩ := near_ex x x
  unfold InR at h1
  have e1 := (h (-(R + R1 + 1)) x (by grind)).1
  have e2 := (h x (R + R1 + 1) (by grind)).1
  unfold Vr at *
  rw [hl (-(R + R1 + 1)) (by grind)] at e1
  rw [hh (R + R1 + 1) (by grind)] at e2
  exact ⟨e1, e2⟩
theorem chn_tz : ∀ (n : Nat) (f g : List Int), g.length ≤ n → tz g = g → ∀ h ∈ chn f g, tz h = h := by
  intro n
  induction n with
  | zero =>
    intro f g hl hg h hh
    rw [chn_eq, if_pos (by omega)] at hh
    rw [List.mem_singleton.1 hh]
    exact hg
  | succ n ih =>
    intro f g hl hg h hh
    rw [chn_eq] at hh
    rcases List.mem_cons.1 hh with rfl | hh
    · exact hg
    · split at hh
      · cases hh
      · rename_i h1
        have := pp_ng_length f (show 0 < g.length by omega)
        exact ih g _ (by omega) (tz_pp _) h hh
theorem ch_tz {t : List Int} (g : GoodP t) : ∀ p ∈ ch t, tz p = p ∧ p ≠ [] := fun p hp => by
  refine ⟨?_, g.ne p hp⟩
  unfold ch at hp
  rw [chs_eq] at hp
  rcases List.mem_cons.1 hp with rfl | hp
  · exact g.sqt
  · split at hp
    · cases hp
    · exact chn_tz _ _ _ (Nat.le_refl _) (tz_pp _) p hp
end Go.Proofs.YtdmdagilopckgaaGreat

namespace Go.Proofs.YtdmdagilopckgaaGreat

/-! A root of a polynomial is one of its squarefree part. -/
theorem fac (x0 : Int) : ∀ p : List Int, ∃ q : List Int, q.length ≤ p.length - 1 ∧ ∀ x, ev p x = (x - x0) * ev q x + ev p x0
  | [] => ⟨[], Nat.zero_le _, fun x => by simp [ev]⟩
  | [c] => ⟨[], Nat.zero_le _, fun x => by simp [ev]⟩
  | c :: b :: r => by
    obtain ⟨q, hq, h⟩ := fac x0 (b :: r)
    refine ⟨ev (b :: r) x0 :: q, by simp at hq ⊢; omega, fun x => ?_⟩
    rw [ev_cons c, ev_cons c, ev_cons (ev (b :: r) x0), h x]
    grind
theorem mlt (x0 : Int) : ∀ (n : Nat) (p : List Int), p.length ≤ n → tz p ≠ [] → ∃ (k : Nat) (r : List Int), (∀ x, ev p x = (x - x0) ^ k * ev r x) ∧ ev r x0 ≠ 0 ∧ (ev p x0 = 0 → 0 < k) := by
  intro n
  induction n with
  | zero =>
    intro p hl h0
    rw [List.eq_nil_of_length_eq_zero (Nat.le_zero.1 hl)] at h0
    exact absurd rfl h0
  | succ n ih =>
    intro p hl h0
    by_cases hp : ev p x0 = 0
    · obtain ⟨q, hq, h⟩ := fac x0 p
      have hq0 : tz q ≠ [] := fun e => h0 (by
        have h1 : ∀ x, ev p x = ev [] x := fun x => by rw [h x, ev_zero_tz e, hp, ev_nil]; omega
        rw [tz_ev h1]; rfl)
      have hpl : p ≠ [] := fun e => h0 (by rw [e]; rfl)
      have := List.length_pos_iff.2 hpl
      obtain ⟨k, r, h1, h2, _⟩ := ih q (by omega) hq0
      exact ⟨k + 1, r, fun x => by rw [h x, hp, h1 x, Int.pow_succ]; grind, h2, fun _ => by omega⟩
    · exact ⟨0, p, fun x => by simp, hp, fun h => absurd h hp⟩
/-- (x - x0) to the k-th. -/
def xk (x0 : Int) : Nat → List Int
  | 0 => [1]
  | k + 1 => mulL [-x0, 1] (xk x0 k)
theorem ev_xk (x0 : Int) (k : Nat) (x : Int) : ev (xk x0 k) x = (x - x0) ^ k := by
  induction k with
  | zero => simp [xk, ev]
  | succ k ih => rw [xk, ev_mulL, ih, Int.pow_succ]; simp only [ev]; grind
theorem de_xk (x0 : Int) (k : Nat) (x : Int) : de (xk x0 (k + 1)) x = (k + 1 : Nat) * (x - x0) ^ k := by
  induction k with
  | zero => simp [xk, mulL, addL, de, ev]
  | succ k ih =>
    rw [xk, de_mulL, ih, ev_xk, Int.pow_succ]
    simp only [ev, de]
    have : ((k + 1 + 1 : Nat) : Int) = (k + 1 : Nat) + 1 := by omega
    rw [this]
    grind
theorem xk_ne (x0 : Int) (k : Nat) : tz (xk x0 k) ≠ [] := tz_ne_of (x := x0 + 1) (by
  rw [ev_xk, show x0 + 1 - x0 = 1 by omega, Int.one_pow]
  omega)
theorem root_sq {p s : List Int} {m x0 : Int} (hp : tz p = p) (h0 : p ≠ []) (hm : m ≠ 0) (h : ∀ x, m * ev p x = ev (eu p (dv p)) x * ev s x) (hr : ev p x0 = 0) : ev s x0 = 0 := by
  rcases Classical.em (ev s x0 = 0) with h1 | hs
  · exact h1
  exfalso
  obtain ⟨hn, hz⟩ := eu_norm hp (tz_dv p) h0
  obtain ⟨_, ⟨c, q, hc, hq⟩, _⟩ := eu_ev (f := p) (tz_dv p)
  obtain ⟨k, r, hk, hr0, hkp⟩ := mlt x0 _ p (Nat.le_refl _) (by rw [hp]; exact h0)
  obtain ⟨j, e, hj, he0, _⟩ := mlt x0 _ (eu p (dv p)) (Nat.le_refl _) (by rw [hn]; exact hz)
  have hk1 := hkp hr
  -- the two multiplicities are the same
  have hjk : j = k := by
    rcases Nat.lt_trichotomy j k with hlt | heq | hlt
    · exfalso
      have h2 := ev_cancel (e := xk x0 j) (a := (mulL (xk x0 (k - j)) r).map (· * m)) (b := mulL e s) (xk_ne x0 j) (fun x => by
        rw [ev_map, ev_mulL, ev_mulL, ev_xk, ev_xk]
        have e1 := h x
        rw [hk x, hj x] at e1
        have e2 : (x - x0) ^ k = (x - x0) ^ j * (x - x0) ^ (k - j) := by rw [← Int.pow_add, show j + (k - j) = k by omega]
        rw [e2] at e1
        grind) x0
      rw [ev_map, ev_mulL, ev_mulL, ev_xk, Int.sub_self, Int.zero_pow (by omega), Int.zero_mul, Int.zero_mul] at h2
      rcases Int.mul_eq_zero.1 h2.symm with h3 | h3
      · exact he0 h3
      · exact hs h3
    · exact heq
    · exfalso
      have h2 := ev_cancel (e := xk x0 k) (a := r.map (· * m)) (b := mulL (mulL (xk x0 (j - k)) e) s) (xk_ne x0 k) (fun x => by
        rw [ev_map, ev_mulL, ev_mulL, ev_xk, ev_xk]
        have e1 := h x
        rw [hk x, hj x] at e1
        have e2 : (x - x0) ^ j = (x - x0) ^ k * (x - x0) ^ (j - k) := by rw [← Int.pow_add, show k + (j - k) = j by omega]
        rw [e2] at e1
        grind) x0
      rw [ev_map, ev_mulL, ev_mulL, ev_xk, Int.sub_self, Int.zero_pow (by omega), Int.zero_mul, Int.zero_mul] at h2
      rcases Int.mul_eq_zero.1 h2 with h3 | h3
      · exact hr0 h3
      · exact hm h3
  subst hjk
  obtain ⟨i, rfl⟩ : ∃ i, j = i + 1 := ⟨j - 1, by omega⟩
  have hder : ∀ x, de p x = ((i + 1 : Nat) : Int) * (x - x0) ^ i * ev r x + (x - x0) ^ (i + 1) * de r x := fun x => by
    rw [de_ev (a := p) (b := mulL (xk x0 (i + 1)) r) (fun x => by rw [ev_mulL, ev_xk, hk x]) x, de_mulL, de_xk, ev_xk]
  have h2 := ev_cancel (e := xk x0 i) (a := (addL (r.map (· * ((i + 1 : Nat) : Int))) (mulL [-x0, 1] (dv r))).map (· * c)) (b := mulL (mulL [-x0, 1] e) q) (xk_ne x0 i) (fun x => by
    have e1 := hq x
    rw [ev_dv, hder x, hj x] at e1
    rw [ev_map, ev_addL, ev_map, ev_mulL, ev_mulL, ev_mulL, ev_xk, ev_dv]
    rw [Int.pow_succ] at e1
    simp only [ev]
    grind) x0
  rw [ev_map, ev_addL, ev_map, ev_mulL, ev_mulL, ev_mulL, ev_dv] at h2
  simp only [ev] at h2
  have h3 : ev r x0 * (((i + 1 : Nat) : Int) * c) = 0 := by grind
  rcases Int.mul_eq_zero.1 h3 with h4 | h4
  · exact hr0 h4
  · rcases Int.mul_eq_zero.1 h4 with h5 | h5
    · omega
    · exact hc h5
theorem sq_root {t : List Int} (ht : tz t = t) (h0 : t ≠ []) {x0 : Int} (h : ev t x0 = 0) : ev (sq t) x0 = 0 := by
  obtain ⟨m, hm, hme, _⟩ := sq_facts ht h0
  obtain ⟨k, hk, hke⟩ := ps_ev t
  refine root_sq (tz_ps t) (ps_ne ht h0) hm hme ?_
  have := hke x0
  rw [h] at this
  rcases Int.mul_eq_zero.1 this with h1 | h1
  · exact absurd h1 hk
  · exact h1

/-! Signs at fractions. -/
theorem hv_evR {num den : Int} {x : Rat} (hx : x * den = num) (l : List Int) : ((hv num den l : Int) : Rat) * den = (den : Rat) ^ l.length * evR l x := by
  induction l with
  | nil => simp [hv, evR]
  | cons c r ih =>
    rw [hv, evR, Rat.intCast_add, Rat.intCast_mul, Rat.intCast_mul, List.length_cons, Rat.pow_succ]
    have hp : (((den ^ r.length : Int)) : Rat) = (den : Rat) ^ r.length := by
      induction r.length with
      | zero => simp
      | succ n ihn => rw [Int.pow_succ, Rat.intCast_mul, ihn, Rat.pow_succ]
    rw [hp, ← hx]
    grind
theorem sgA_R {num den : Int} {x : Rat} (hd : 0 < den) (hx : x * den = num) (l : List Int) : sgA' num den l = sgR (evR l x) := by
  have h := hv_evR hx l
  have hdR : (0 : Rat) < den := by exact_mod_cast hd
  have hp : (0 : Rat) < (den : Rat) ^ l.length := Rat.pow_pos hdR
  unfold sgA' cmpI
  rcases sgR_cases (evR l x) with ⟨h1, h2⟩ | ⟨h1, h2⟩ | ⟨h1, h2⟩
  · have h3 := Rat.mul_pos hp h2
    have h4 : (0 : Rat) < (hv num den l : Int) := by
      rcases show (0 : Rat) < (hv num den l : Int) ∨ ((hv num den l : Int) : Rat) ≤ 0 by grind with h5 | h5
      · exact h5
      · have := Rat.mul_nonneg (show 0 ≤ -((hv num den l : Int) : Rat) by grind) (Rat.le_of_lt hdR)
        exfalso; grind
    have h5 : 0 < hv num den l := by exact_mod_cast h4
    rw [h1, if_neg (by omega), if_neg (by omega)]
  · have h3 := Rat.mul_pos hp (show 0 < -evR l x by grind)
    have h4 : ((hv num den l : Int) : Rat) < 0 := by
      rcases show ((hv num den l : Int) : Rat) < 0 ∨ (0 : Rat) ≤ (hv num den l : Int) by grind with h5 | h5
      · exact h5
      · have := Rat.mul_nonneg h5 (Rat.le_of_lt hdR)
        exfalso; grind
    have h5 : hv num den l < 0 := by exact_mod_cast h4
    rw [h1, if_pos h5]
  · rw [h2] at h
    have h4 : ((hv num den l : Int) : Rat) = 0 := by
      rcases show ((hv num den l : Int) : Rat) = 0 ∨ (0 : Rat) < (hv num den l : Int) ∨ ((hv num den l : Int) : Rat) < 0 by grind with h5 | h5 | h5
      · exact h5
      · have := Rat.mul_pos h5 hdR
        exfalso; grind
      · have := Rat.mul_pos (show 0 < -((hv num den l : Int) : Rat) by grind) hdR
        exfalso; grind
    have h5 : hv num den l = 0 := by exact_mod_cast h4
    rw [h1, if_neg (by omega), if_pos h5]
theorem chA_R {num den : Int} {x : Rat} (hd : 0 < den) (hx : x * den = num) (C : List (List Int)) : chA num den C = Vr C x := by
  unfold chA Vr sgs
  congr 1
  exact List.map_congr_left fun p _ => sgA_R hd hx p
theorem lw_mul {k den : Int} (hd : 0 < den) : ∃ g, 0 < g ∧ lwN k den * g = k ∧ lwD k den * g = den ∧ 0 < lwD k den := by
  have hg : (Int.gcd k den : Int) ≠ 0 := fun h => by
    have h1 : Int.gcd k den = 0 := by omega
    rw [Int.gcd_eq_zero_iff] at h1
    omega
  have h1 : lwN k den * (Int.gcd k den : Int) = k := Int.ediv_mul_cancel (Int.gcd_dvd_left ..)
  have h2 : lwD k den * (Int.gcd k den : Int) = den := Int.ediv_mul_cancel (Int.gcd_dvd_right ..)
  refine ⟨Int.gcd k den, by omega, h1, h2, ?_⟩
  rcases show 0 < lwD k den ∨ lwD k den ≤ 0 by omega with h | h
  · exact h
  · have := Int.mul_nonpos_of_nonpos_of_nonneg h (show 0 ≤ (Int.gcd k den : Int) by omega)
    omega
theorem frac_ex (k : Int) {den : Int} (hd : 0 < den) : ∃ x : Rat, x * den = k := by
  have h : (den : Rat) ≠ 0 := by exact_mod_cast (show den ≠ 0 by omega)
  exact ⟨(k : Rat) / den, Rat.div_mul_cancel h⟩
theorem gat_R {t : List Int} {den k : Int} {x : Rat} (hd : 0 < den) (hx : x * den = k) : gat t den k = Vr (ch t) x := by
  obtain ⟨g, hg, h1, h2, h3⟩ := lw_mul (k := k) hd
  refine chA_R h3 ?_ _
  have hgR : (0 : Rat) < g := by exact_mod_cast hg
  have e1 : (lwN k den : Rat) * g = k := by exact_mod_cast h1
  have e2 : (lwD k den : Rat) * g = den := by exact_mod_cast h2
  have : (x * (lwD k den : Rat) - lwN k den) * g = 0 := by grind
  rcases Rat.mul_eq_zero.1 this with h | h <;> grind
theorem lw_lt {k j den : Int} (hd : 0 < den) : lwN k den * lwD j den < lwN j den * lwD k den ↔ k < j := by
  obtain ⟨g, hg, h1, h2, h3⟩ := lw_mul (k := k) hd
  obtain ⟨h, hh, h4, h5, h6⟩ := lw_mul (k := j) hd
  have e1 : lwN k den * lwD j den * (g * h) = k * den := by
    have : lwN k den * lwD j den * (g * h) = (lwN k den * g) * (lwD j den * h) := by grind
    rw [this, h1, h5]
  have e2 : lwN j den * lwD k den * (g * h) = j * den := by
    have : lwN j den * lwD k den * (g * h) = (lwN j den * h) * (lwD k den * g) := by grind
    rw [this, h4, h2]
  have hgh := Int.mul_pos hg hh
  rw [← Int.mul_lt_mul_right hgh, e1, e2, Int.mul_lt_mul_right hd]

/-! The enclosures. -/
theorem gat_falls {t : List Int} (g : GoodP t) {den k j : Int} (hd : 0 < den) (hkj : k < j) : gat t den j ≤ gat t den k := by
  obtain ⟨x, hx⟩ := frac_ex k hd
  obtain ⟨y, hy⟩ := frac_ex j hd
  have hdR : (0 : Rat) < den := by exact_mod_cast hd
  have hkR : (k : Rat) < j := by exact_mod_cast hkj
  rw [gat_R hd hx, gat_R hd hy]
  refine (ch_falls g.norm (List.length_pos_iff.1 g.pos) x y ?_).1
  rcases show x < y ∨ y ≤ x by grind with h | h
  · exact h
  · have := Rat.mul_nonneg (show 0 ≤ x - y by grind) (Rat.le_of_lt hdR)
    exfalso; grind
/-- The enclosure from k to k + 1. -/
def mkE (t : List Int) (den k : Int) : En := (lwN k den, lwD k den, lwN (k + 1) den, lwD (k + 1) den, gat t den k - gat t den (k + 1))
def Asc : Int → List Int → Int → Prop
  | lo, [], hi => lo ≤ hi
  | lo, k :: r, hi => lo ≤ k ∧ Asc (k + 1) r hi
theorem Asc.le : ∀ {r : List Int} {lo hi : Int}, Asc lo r hi → lo ≤ hi
  | [], _, _, h => h
  | _ :: _, _, _, h => by have := Asc.le h.2; have := h.1; omega
theorem Asc.append : ∀ {a b : List Int} {lo mid hi : Int}, Asc lo a mid → Asc mid b hi → Asc lo (a ++ b) hi
  | [], b, lo, mid, hi, h, h2 => by
    have h' : lo ≤ mid := h
    cases b with
    | nil => exact Int.le_trans h' h2
    | cons k r => exact ⟨Int.le_trans h' h2.1, h2.2⟩
  | k :: a, b, _, _, _, h, h2 => ⟨h.1, Asc.append h.2 h2⟩
theorem Asc.mem : ∀ {r : List Int} {lo hi : Int}, Asc lo r hi → ∀ k ∈ r, lo ≤ k ∧ k + 1 ≤ hi
  | [], _, _, _, _, hk => by cases hk
  | k :: r, lo, hi, h, j, hj => by
    rcases List.mem_cons.1 hj with rfl | hj
    · exact ⟨h.1, h.2.le⟩
    · have := Asc.mem h.2 j hj
      have := h.1
      omega
theorem enF_ks (t : List Int) (den : Int) : ∀ (d : Nat) (lo hi : Int), lo < hi → hi - lo ≤ 2 ^ d → ∃ ks : List Int, enF (gat t den) den d lo hi = ks.map (mkE t den) ∧ Asc lo ks hi ∧ (∀ k ∈ ks, gat t den k - gat t den (k + 1) ≠ 0) ∧ sumC (ks.map (mkE t den)) = gat t den lo - gat t den hi := by
  intro d
  induction d with
  | zero =>
    intro lo hi h1 h2
    by_cases h0 : gat t den lo - gat t den hi = 0
    · exact ⟨[], by rw [enF_zero _ h0]; rfl, show lo ≤ hi by omega, (fun k hk => by cases hk), by rw [h0]; rfl⟩
    · have e : hi = lo + 1 := by simp at h2; omega
      subst e
      exact ⟨[lo], by rw [enF_one _ h0 (by omega)]; rfl, ⟨Int.le_refl _, Int.le_refl _⟩, (fun k hk => by rw [List.mem_singleton.1 hk]; exact h0), by simp [sumC, mkE]⟩
  | succ d ih =>
    intro lo hi h1 h2
    by_cases h0 : gat t den lo - gat t den hi = 0
    · exact ⟨[], by rw [enF_zero _ h0]; rfl, show lo ≤ hi by omega, (fun k hk => by cases hk), by rw [h0]; rfl⟩
    · by_cases h3 : hi - lo = 1
      · have e : hi = lo + 1 := by omega
        subst e
        exact ⟨[lo], by rw [enF_one _ h0 (by omega)]; rfl, ⟨Int.le_refl _, Int.le_refl _⟩, (fun k hk => by rw [List.mem_singleton.1 hk]; exact h0), by simp [sumC, mkE]⟩
      · rw [Int.pow_succ] at h2
        obtain ⟨ka, a1, a2, a3, a4⟩ := ih lo (lo + (hi - lo) / 2) (by omega) (by omega)
        obtain ⟨kb, b1, b2, b3, b4⟩ := ih (lo + (hi - lo) / 2) hi (by omega) (by omega)
        refine ⟨ka ++ kb, by rw [enF_more _ h0 h3, a1, b1, List.map_append], a2.append b2, fun k hk => ?_, ?_⟩
        · rcases List.mem_append.1 hk with hk | hk
          · exact a3 k hk
          · exact b3 k hk
        · have : sumC ((ka ++ kb).map (mkE t den)) = sumC (ka.map (mkE t den)) + sumC (kb.map (mkE t den)) := by simp [sumC]
          rw [this, a4, b4]
          omega
theorem badF_mk {t : List Int} (g : GoodP t) {den : Int} (hd : 0 < den) : ∀ (ks : List Int) (lo hi : Int) (p : Option En), Asc lo ks hi → (∀ k ∈ ks, gat t den k - gat t den (k + 1) ≠ 0) → (p = none ∨ ∃ k, k + 1 ≤ lo ∧ p = some (mkE t den k)) → badF t p (ks.map (mkE t den)) = false
  | [], _, _, _, _, _, _ => rfl
  | k :: r, lo, hi, p, ha, hn, hp => by
    rw [List.map_cons, badF, badF_mk g hd r (k + 1) hi _ ha.2 (fun j hj => hn j (List.mem_cons_of_mem _ hj)) (.inr ⟨k, Int.le_refl _, rfl⟩), Bool.or_false]
    have e1 : b1 (mkE t den k) = false := by
      unfold b1 mkE
      rw [decide_eq_true ((lw_lt hd).2 (by omega : k < k + 1))]
      rfl
    have e3 : decide ((mkE t den k).2.2.2.2 < 1) = false := by
      have h1 := hn k (List.mem_cons_self ..)
      have h2 := gat_falls g hd (show k < k + 1 by omega)
      exact decide_eq_false (show ¬ gat t den k - gat t den (k + 1) < 1 by omega)
    have e4 : b4 t (mkE t den k) = false := by
      unfold b4 mkE
      simp [gat]
    unfold badQ
    rw [e1, e3, e4]
    rcases hp with rfl | ⟨j, hj, rfl⟩
    · rfl
    · have := ha.1
      have e2 : b2 (mkE t den j) (mkE t den k) = false := decide_eq_false (fun h => by have := (lw_lt hd).1 h; omega)
      simp only [e2]
      rfl
theorem sumC_len {t : List Int} (g : GoodP t) {den : Int} (hd : 0 < den) : ∀ ks : List Int, (∀ k ∈ ks, gat t den k - gat t den (k + 1) ≠ 0) → ((ks.map (mkE t den)).length : Int) ≤ sumC (ks.map (mkE t den))
  | [], _ => by simp [sumC]
  | k :: r, hn => by
    have ih := sumC_len g hd r fun j hj => hn j (List.mem_cons_of_mem _ hj)
    have h1 := hn k (List.mem_cons_self ..)
    have h2 := gat_falls g hd (show k < k + 1 by omega)
    have e : sumC ((k :: r).map (mkE t den)) = (gat t den k - gat t den (k + 1)) + sumC (r.map (mkE t den)) := by simp [sumC, mkE]
    rw [e, List.map_cons, List.length_cons]
    omega
theorem frE_mk {t : List Int} {den : Int} (hd : 0 < den) (hd2 : den ≤ 1000) : ∀ ks : List Int, (∀ k ∈ ks, k.natAbs ≤ 900000000) → frE (ks.map (mkE t den)) = 0
  | [], _ => rfl
  | k :: r, h => by
    have hk := h k (List.mem_cons_self ..)
    have c1 : ∀ j : Int, j.natAbs ≤ 1000000000 → cfE (lwN j den) (lwD j den) = 0 := fun j hj => by
      obtain ⟨a1, a2⟩ := lw_small hj hd (by omega)
      obtain ⟨_, _, _, _, h3⟩ := lw_mul (k := j) hd
      unfold cfE
      rw [if_neg (by omega), if_neg (by omega), if_neg (by omega), if_neg (by omega)]
    have h0 : twE (mkE t den k).1 (mkE t den k).2.1 (mkE t den k).2.2.1 (mkE t den k).2.2.2.1 = 0 := by
      unfold twE mkE
      rw [if_neg (by rw [c1 k (by omega)]; simp), c1 (k + 1) (by omega)]
    rw [List.map_cons, frE, if_neg (by rw [h0]; simp)]
    exact frE_mk hd hd2 r fun j hj => h j (List.mem_cons_of_mem _ hj)
theorem cast_zero {z : Int} (h : ((z : Int) : Rat) = 0) : z = 0 := by exact_mod_cast h
/-- What Enclose lists, CheckEnclosures accepts. -/
theorem enL_ok {l : List Int} {den : Int} (hg : rdE l = 0 → GoodP (tz l)) (he : enE l den = 0) (hd20 : den ≤ 20) : ceE l (enL (tz l) den) = 0 := by
  unfold enE at he
  split at he
  · rename_i h; exact absurd he h
  rename_i hrd
  have hrd' : rdE l = 0 := by omega
  split at he
  · cases he
  split at he
  · cases he
  split at he
  · rename_i h1 h2 hin
    have g := hg hrd'
    have hd : 0 < den := by omega
    generalize ht : tz l = t at *
    obtain ⟨ks, k1, k2, k3, k4⟩ := enF_ks t den 26 (-1000000 * den - 1) (1000000 * den) (by omega) (by omega)
    have hL : enL t den = ks.map (mkE t den) := k1
    have hlen := sumC_len g hd ks k3
    -- the ends
    obtain ⟨x, hx⟩ := frac_ex (-1000000 * den - 1) hd
    obtain ⟨y, hy⟩ := frac_ex (1000000 * den) hd
    have hF := ch_falls g.norm (List.length_pos_iff.1 g.pos)
    have hends := hF.ends (ch_tz g)
    have b1 := (hends x).1
    have b2 := (hends y).2
    rw [← gat_R hd hx] at b1
    rw [← gat_R hd hy] at b2
    have hz : (((-1000000 : Int) : Rat)) * den = ((-1000000 * den : Int) : Rat) := by rw [Rat.intCast_mul]
    have hdR : (0 : Rat) < den := by exact_mod_cast hd
    have hxz : x < ((-1000000 : Int) : Rat) := by
      have e : ((-1000000 * den - 1 : Int) : Rat) = ((-1000000 : Int) : Rat) * den - 1 := by
        rw [Rat.intCast_sub, Rat.intCast_mul]; rfl
      rw [e] at hx
      rcases show x < ((-1000000 : Int) : Rat) ∨ ((-1000000 : Int) : Rat) ≤ x by grind with h | h
      · exact h
      · have := Rat.mul_nonneg (show 0 ≤ x - ((-1000000 : Int) : Rat) by grind) (Rat.le_of_lt hdR)
        exfalso; grind
    have hstep := hF x ((-1000000 : Int) : Rat) hxz
    rw [← gat_R hd hx, ← gat_R hd hz] at hstep
    have hroot : gat t den (-1000000 * den) + (if sgA' (-1000000) 1 t = 0 then 1 else 0) ≤ gat t den (-1000000 * den - 1) := by
      split
      · rename_i h0
        refine hstep.2 ?_
        have h3 := sgA_R (x := ((-1000000 : Int) : Rat)) (num := -1000000) (den := 1) (by omega) (by rw [show ((1 : Int) : Rat) = 1 from rfl]; grind) t
        rw [h0] at h3
        have h4 := sgR_zero.1 h3.symm
        rw [evR_int] at h4
        have h5 : ev t (-1000000) = 0 := cast_zero h4
        rw [evR_int, sq_root g.norm (List.length_pos_iff.1 g.pos) h5]
        rfl
      · have := hstep.1
        omega
    have hsum : sumC (enL t den) = allR (ch t) := by
      rw [hL, k4]
      unfold insR allR at hin
      unfold allR
      have hfall : gat t den (1000000 * den) ≤ gat t den (-1000000 * den - 1) := gat_falls g hd (by omega)
      omega
    have h12 : sumC (enL t den) ≤ 12 := by
      rw [hL, k4]
      have c1 := chA_le (lwN (-1000000 * den - 1) den) (lwD (-1000000 * den - 1) den) g
      have c2 := chA_le (lwN (1000000 * den) den) (lwD (1000000 * den) den) g
      unfold gat
      omega
    unfold ceE
    rw [if_neg (by rw [hrd']; exact fun h => h rfl), if_neg (by rw [hL] at h12 ⊢; omega), if_neg (by rw [hL, frE_mk hd (by omega) ks (fun k hk => by have := k2.mem k hk; omega)]; exact fun h => h rfl), ht, if_neg (by rw [hL, badF_mk g hd ks _ _ none k2 k3 (.inl rfl)]; exact Bool.false_ne_true), if_pos hsum]
  · cases he
end Go.Proofs.YtdmdagilopckgaaGreat
