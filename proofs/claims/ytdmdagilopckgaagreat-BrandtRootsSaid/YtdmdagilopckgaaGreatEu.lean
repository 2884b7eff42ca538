/- Package brandt: greatest common divisors, squarefree parts, chains (plain). -/
import Derived.Test.YtdmdagilopckgaaGreatOvp
namespace Go.Proofs.YtdmdagilopckgaaGreat
open Go.RowKit

/-- The greatest common divisor, up to a factor. -/
def euF : Nat → List Int → List Int → List Int
  | 0, f, _ => f
  | k + 1, f, g => if 0 < g.length then euF k g (pp (rs f g)) else f
def eu (f g : List Int) : List Int := euF (g.length + 1) f g
theorem pp_rs_length (f : List Int) {g : List Int} (hg : 0 < g.length) : (pp (rs f g)).length < g.length := Nat.lt_of_le_of_lt (pp_length _) (rs_length f hg)
theorem euF_enough : ∀ (k m : Nat) (f g : List Int), g.length < k → g.length < m → euF k f g = euF m f g := by
  intro k
  induction k with
  | zero => intro m f g h; omega
  | succ k ih =>
    intro m f g h1 h2
    obtain ⟨m, rfl⟩ : ∃ j, m = j + 1 := ⟨m - 1, by omega⟩
    rw [euF, euF]
    split
    · rename_i h
      have := pp_rs_length f h
      exact ih _ _ _ (by omega) (by omega)
    · rfl
theorem eu_step {f g : List Int} (h : 0 < g.length) : eu f g = eu g (pp (rs f g)) := by
  have := pp_rs_length f h
  unfold eu
  conv => lhs; rw [euF, if_pos h]
  exact euF_enough _ _ _ _ (by omega) (by omega)
theorem eu_stop (f : List Int) {g : List Int} (h : ¬ 0 < g.length) : eu f g = f := by
  unfold eu
  rw [euF, if_neg h]

/-- The squarefree part; p is a primitive part with a positive leading coefficient. -/
def sqo (p : List Int) : Option (List Int) := ov p (ps (eu p (dv p)))
def sq (p : List Int) : List Int := (sqo (ps p)).getD []

/-- The chain behind f. -/
def chF : Nat → List Int → List Int → List (List Int)
  | 0, _, _ => []
  | k + 1, f, g => g :: if g.length ≤ 1 then [] else chF k g (pp (ng (rs f g)))
/-- The chain of a squarefree polynomial. -/
def chs (s : List Int) : List (List Int) := s :: if s.length ≤ 1 then [] else chF s.length s (pp (dv s))
def ch (p : List Int) : List (List Int) := chs (sq p)

theorem ng_length (l : List Int) : (ng l).length ≤ l.length := by
  have := tz_length_le (l.map (- ·))
  rw [List.length_map] at this
  exact this
theorem pp_ng_length (f : List Int) {g : List Int} (hg : 0 < g.length) : (pp (ng (rs f g))).length < g.length := Nat.lt_of_le_of_lt (Nat.le_trans (pp_length _) (ng_length _)) (rs_length f hg)
theorem dv_length (l : List Int) : (dv l).length ≤ l.length - 1 := by
  have := tz_length_le (dvF 1 (l.drop 1))
  rw [dvF_length, List.length_drop] at this
  exact this
theorem tz_dv (l : List Int) : tz (dv l) = dv l := tz_tz _
theorem tz_ng (l : List Int) : tz (ng l) = ng l := tz_tz _
theorem tz_ps (l : List Int) : tz (ps l) = ps l := by unfold ps; split <;> first | exact tz_ng _ | exact tz_pp _
theorem chF_enough : ∀ (k m : Nat) (f g : List Int), g.length ≤ k → g.length ≤ m → 0 < k → 0 < m → chF k f g = chF m f g := by
  intro k
  induction k with
  | zero => intro m f g _ _ h; omega
  | succ k ih =>
    intro m f g h1 h2 _ h4
    obtain ⟨m, rfl⟩ : ∃ j, m = j + 1 := ⟨m - 1, by omega⟩
    rw [chF, chF]
    split
    · rfl
    · rename_i h
      have := pp_ng_length f (show 0 < g.length by omega)
      rw [ih m _ _ (by omega) (by omega) (by omega) (by omega)]
/-- The chain from f, g on. -/
def chn (f g : List Int) : List (List Int) := chF (g.length + 1) f g
theorem chn_eq (f g : List Int) : chn f g = g :: if g.length ≤ 1 then [] else chn g (pp (ng (rs f g))) := by
  unfold chn
  rw [chF]
  split
  · rfl
  · rename_i h
    have := pp_ng_length f (show 0 < g.length by omega)
    rw [chF_enough g.length _ _ _ (by omega) (Nat.le_succ_of_le (Nat.le_refl _)) (by omega) (by omega)]
theorem chs_eq (s : List Int) : chs s = s :: if s.length ≤ 1 then [] else chn s (pp (dv s)) := by
  unfold chs chn
  split
  · rfl
  · rename_i h
    have h1 := pp_length (dv s)
    have h2 := dv_length s
    rw [chF_enough s.length _ _ _ (by omega) (Nat.le_succ_of_le (Nat.le_refl _)) (by omega) (by omega)]

/-- The bound of the words of a remainder, j steps down. -/
def Pt (c j w : Nat) : Prop := (w + 1) * 2 ^ j ≤ c * 5 ^ j
theorem Pt.mono {c j w v : Nat} (h : Pt c j w) (hv : v ≤ w) : Pt c j v := Nat.le_trans (Nat.mul_le_mul_right _ (by omega)) h
theorem Pt.up {c j w : Nat} (h : Pt c j w) (d : Nat) : Pt c (j + d) w := by
  unfold Pt at *
  induction d with
  | zero => exact h
  | succ d ih =>
    rw [← Nat.add_assoc, Nat.pow_succ, Nat.pow_succ, ← Nat.mul_assoc, ← Nat.mul_assoc]
    exact Nat.mul_le_mul ih (by omega)
theorem pow_gap (d : Nat) (h : 1 ≤ d) : 2 ^ d * (5 * d + 7) ≤ 5 ^ (d + 1) := by
  induction d with
  | zero => omega
  | succ d ih =>
    rcases Nat.eq_zero_or_pos d with h0 | h0
    · subst h0; decide
    · have := ih h0
      have e1 : 2 ^ (d + 1) * (5 * (d + 1) + 7) = 2 * (2 ^ d * (5 * d + 7)) + 10 * 2 ^ d := by rw [Nat.pow_succ]; grind
      have e2 : 5 ^ (d + 1 + 1) = 5 * 5 ^ (d + 1) := by rw [Nat.pow_succ, Nat.mul_comm]
      have h3 : 10 * 2 ^ d ≤ 3 * (2 ^ d * (5 * d + 7)) := by
        have : 10 * 2 ^ d ≤ 2 ^ d * (5 * d + 7) := by rw [Nat.mul_comm]; exact Nat.mul_le_mul_left _ (by omega)
        omega
      omega
theorem Pt.step {c j d B C : Nat} (hb : Pt c j B) (hc : Pt c (j + 1) C) (hd : 1 ≤ d) : Pt c (j + d + 1) (B + (d + 1) * (C + 1)) := by
  unfold Pt at *
  have e1 : (B + (d + 1) * (C + 1) + 1) * 2 ^ (j + d + 1) = (B + 1) * 2 ^ j * 2 ^ (d + 1) + (d + 1) * ((C + 1) * 2 ^ (j + 1)) * 2 ^ d := by
    rw [show j + d + 1 = j + (d + 1) by omega, Nat.pow_add, Nat.pow_succ 2 j, Nat.pow_succ 2 d]
    grind
  have h1 : (B + 1) * 2 ^ j * 2 ^ (d + 1) ≤ c * 5 ^ j * 2 ^ (d + 1) := Nat.mul_le_mul_right _ hb
  have h2 : (d + 1) * ((C + 1) * 2 ^ (j + 1)) * 2 ^ d ≤ (d + 1) * (c * 5 ^ (j + 1)) * 2 ^ d := Nat.mul_le_mul_right _ (Nat.mul_le_mul_left _ hc)
  have h3 : c * 5 ^ j * (2 ^ d * (5 * d + 7)) ≤ c * 5 ^ j * 5 ^ (d + 1) := Nat.mul_le_mul_left _ (pow_gap d hd)
  have e2 : c * 5 ^ (j + d + 1) = c * 5 ^ j * 5 ^ (d + 1) := by rw [show j + d + 1 = j + (d + 1) by omega, Nat.pow_add, Nat.mul_assoc]
  have e3 : c * 5 ^ j * 2 ^ (d + 1) + (d + 1) * (c * 5 ^ (j + 1)) * 2 ^ d = c * 5 ^ j * (2 ^ d * (5 * d + 7)) := by
    rw [Nat.pow_succ 2 d, Nat.pow_succ 5 j]
    grind
  omega
theorem Pt.le {c j w : Nat} (h : Pt c j w) (hj : j ≤ 12) : w + 1 ≤ c * 59605 := by
  have h1 := h.up (12 - j)
  rw [show j + (12 - j) = 12 by omega] at h1
  unfold Pt at h1
  omega
theorem ct_dvd {l : List Int} {x : Int} (h : x ∈ l) : ct l ∣ x := by
  have key : ∀ (l : List Int) (g : Int), l.foldl (fun g x => (Int.gcd g x : Int)) g ∣ g ∧ ∀ x ∈ l, l.foldl (fun g x => (Int.gcd g x : Int)) g ∣ x := by
    intro l
    induction l with
    | nil => intro g; exact ⟨Int.dvd_refl _, fun x hx => by cases hx⟩
    | cons y r ih =>
      intro g
      obtain ⟨h1, h2⟩ := ih (Int.gcd g y)
      refine ⟨Int.dvd_trans h1 (Int.gcd_dvd_left _ _), fun x hx => ?_⟩
      rcases List.mem_cons.1 hx with rfl | hx
      · exact Int.dvd_trans h1 (Int.gcd_dvd_right _ _)
      · exact h2 x hx
  exact (key l 0).2 x h
theorem pp_eq {l : List Int} (h : tz l = l) : pp l = l.map (· / ct l) := by
  refine tz_eq_self fun h0 => ?_
  have hl : l ≠ [] := fun e => h0 (by rw [e]; rfl)
  have hp : 0 < l.length := List.length_pos_iff.2 hl
  unfold ld
  rw [List.length_map, gz_map (by omega)]
  intro e
  obtain ⟨y, hy⟩ := ct_dvd (ld_mem hp)
  have h1 := ld_of_tz h hl
  have h2 := ct_of_tz h hl
  change ld l / ct l = 0 at e
  rw [hy, Int.mul_ediv_cancel_left _ h2] at e
  rw [hy, e, Int.mul_zero] at h1
  exact h1 rfl
theorem pp_len {l : List Int} (h : tz l = l) : (pp l).length = l.length := by rw [pp_eq h, List.length_map]
theorem ng_eq {l : List Int} (h : tz l = l) : ng l = l.map (- ·) := by
  refine tz_eq_self fun h0 => ?_
  have hl : l ≠ [] := fun e => h0 (by rw [e]; rfl)
  have hp : 0 < l.length := List.length_pos_iff.2 hl
  unfold ld
  rw [List.length_map, gz_map (by omega)]
  have := ld_of_tz h hl
  change -(ld l) ≠ 0
  omega
theorem ng_len {l : List Int} (h : tz l = l) : (ng l).length = l.length := by rw [ng_eq h, List.length_map]
theorem ps_len {l : List Int} (h : tz l = l) : (ps l).length = l.length := by
  unfold ps
  split
  · rw [ng_len (tz_pp _), pp_len h]
  · exact pp_len h
theorem Bd.ng {B : Nat} {l : List Int} (h : Bd B l) : Bd B (ng l) := Bd.tz fun x hx => by
  obtain ⟨y, hy, rfl⟩ := List.mem_map.1 hx
  rw [Int.natAbs_neg]
  exact h y hy
theorem Bd.ps {B : Nat} {l : List Int} (h : Bd B l) : Bd B (ps l) := by
  unfold Go.Proofs.YtdmdagilopckgaaGreat.ps
  split
  · exact h.pp.ng
  · exact h.pp
theorem mem_gz {l : List Int} {x : Int} (h : x ∈ l) : ∃ j, j < l.length ∧ gz l j = x := by
  obtain ⟨j, hj⟩ := List.getElem?_of_mem h
  have hlt : j < l.length := by
    rcases Nat.lt_or_ge j l.length with h1 | h1
    · exact h1
    · rw [List.getElem?_eq_none h1] at hj; cases hj
  rw [gz_lt hlt] at hj
  injection hj with hj
  exact ⟨j, hlt, hj⟩
theorem Bd.dv {B : Nat} {l : List Int} (h : Bd B l) (hn : l.length ≤ 1000000) : Bd (B + 1) (dv l) := Bd.tz (l := dvF 1 (l.drop 1)) fun x hx => by
  obtain ⟨j, hj, rfl⟩ := mem_gz hx
  rw [dvF_length, List.length_drop] at hj
  rw [dvF_gz, gz_drop, Int.natAbs_mul]
  have h1 := wl_mul ((1 + j : Nat) : Int).natAbs (gz l (1 + j)).natAbs
  have h2 := wl_small (k := 1 + j) (by omega)
  have h3 := h _ (gz_mem (show 1 + j < l.length by omega))
  rw [Int.natAbs_natCast] at *
  omega
theorem Bd.ovF {B C : Nat} {g : List Int} (hg : 0 < g.length) (hc : Bd C g) : ∀ (k : Nat) (p o : List Int) (D : Nat), p.length ≤ k → Bd D p → D + (p.length + 1 - g.length) * (C + 1) ≤ B → Bd B o → ∀ q, ovF g k p o = some q → Bd B q := by
  intro k
  induction k with
  | zero =>
    intro p o D h1 h2 h3 h4 q hq
    rw [Go.Proofs.YtdmdagilopckgaaGreat.ovF] at hq
    split at hq
    · injection hq with hq; subst hq; exact h4.tz
    · cases hq
  | succ k ih =>
    intro p o D h1 h2 h3 h4 q hq
    rw [Go.Proofs.YtdmdagilopckgaaGreat.ovF] at hq
    split at hq
    · rename_i hl
      split at hq
      · rename_i hd
        have h5 := ls_down hl hg hd
        have h6 := h2 _ (ld_mem (show 0 < p.length by omega))
        have h7 := Nat.le_trans (wl_div (ld p) (ld g)) h6
        obtain ⟨m, hm⟩ : ∃ m, p.length + 1 - g.length = m + 1 := ⟨p.length - g.length, by omega⟩
        rw [hm, Nat.succ_mul] at h3
        refine ih _ _ (D + (C + 1)) (by omega) (h2.ls hc h7 (by omega)) ?_ (h4.set (by omega)) q hq
        have h8 : ((Go.Proofs.YtdmdagilopckgaaGreat.ls p (ld p / ld g) g (p.length - g.length)).length + 1 - g.length) * (C + 1) ≤ m * (C + 1) := Nat.mul_le_mul_right _ (by omega)
        omega
      · cases hq
    · split at hq
      · injection hq with hq; subst hq; exact h4.tz
      · cases hq
theorem Bd.zeros (B n : Nat) : Bd B (List.replicate n (0 : Int)) := fun x hx => by
  rw [(List.mem_replicate.1 hx).2]
  exact Nat.zero_le _
theorem Bd.ov {B C : Nat} {p g q : List Int} (hp : Bd B p) (hc : Bd C g) (hg : 0 < g.length) (h : ov p g = some q) : Bd (B + (p.length + 1 - g.length) * (C + 1)) q :=
  Bd.ovF hg hc _ _ _ B (Nat.le_refl _) hp (Nat.le_refl _) (Bd.zeros _ _) q h
theorem ovF_tz {g : List Int} : ∀ (k : Nat) (p o q : List Int), ovF g k p o = some q → tz q = q ∧ q.length ≤ o.length := by
  intro k
  induction k with
  | zero =>
    intro p o q hq
    rw [ovF] at hq
    split at hq
    · injection hq with hq; subst hq; exact ⟨tz_tz _, tz_length_le _⟩
    · cases hq
  | succ k ih =>
    intro p o q hq
    rw [ovF] at hq
    split at hq
    · split at hq
      · have := ih _ _ _ hq
        rw [List.length_set] at this
        exact this
      · cases hq
    · split at hq
      · injection hq with hq; subst hq; exact ⟨tz_tz _, tz_length_le _⟩
      · cases hq
theorem ov_tz {p g q : List Int} (h : ov p g = some q) : tz q = q ∧ q.length ≤ p.length + 1 - g.length := by
  have := ovF_tz _ _ _ _ h
  rw [List.length_replicate] at this
  exact this

/-- What holds along a sequence of remainders. -/
def EuI (c : Nat) (f g : List Int) : Prop := ∃ B C, Bd B f ∧ Bd C g ∧ Pt c (12 - f.length) B ∧ Pt c (12 - f.length + 1) C ∧ g.length < f.length ∧ f.length ≤ 12 ∧ tz f = f ∧ tz g = g
theorem EuI.start {c B : Nat} {f : List Int} (h : tz f = f) (h0 : 0 < f.length) (h12 : f.length ≤ 12) (hb : Bd B f) (hc : B + 2 ≤ c) : EuI c f (dv f) := by
  have h2 : ∀ j w, w + 1 ≤ c → Pt c j w := fun j w hw => Nat.mul_le_mul hw (Nat.pow_le_pow_left (by omega) _)
  have := dv_length f
  exact ⟨B, B + 1, hb, hb.dv (by omega), h2 _ _ (by omega), h2 _ _ (by omega), by omega, h12, h, tz_dv _⟩
theorem EuI.pp {c : Nat} {f g : List Int} (h : EuI c f g) : EuI c f (pp g) := by
  obtain ⟨B, C, h1, h2, h3, h4, h5, h6, h7, h8⟩ := h
  exact ⟨B, C, h1, h2.pp, h3, h4, by rw [pp_len h8]; exact h5, h6, h7, tz_pp _⟩
theorem EuI.lim {c : Nat} {f g : List Int} (h : EuI c f g) (hg : 0 < g.length) : ∃ B C, Bd B f ∧ Bd C g ∧ B + (f.length + 1 - g.length) * (C + 1) + 1 ≤ c * 59605 ∧ C + 1 ≤ c * 59605 ∧ B + 1 ≤ c * 59605 ∧ Pt c (12 - g.length + 1) (B + (f.length + 1 - g.length) * (C + 1)) ∧ Pt c (12 - g.length) C := by
  obtain ⟨B, C, h1, h2, h3, h4, h5, h6, h7, h8⟩ := h
  have h9 := Pt.step h3 h4 (d := f.length - g.length) (by omega)
  rw [show 12 - f.length + (f.length - g.length) + 1 = 12 - g.length + 1 by omega, show f.length - g.length + 1 = f.length + 1 - g.length by omega] at h9
  have h10 := h4.up (f.length - g.length - 1)
  rw [show 12 - f.length + 1 + (f.length - g.length - 1) = 12 - g.length by omega] at h10
  exact ⟨B, C, h1, h2, h9.le (by omega), h10.le (by omega), h3.le (by omega), h9, h10⟩
theorem EuI.next {c : Nat} {f g : List Int} (h : EuI c f g) (hg : 0 < g.length) : EuI c g (rs f g) := by
  obtain ⟨B, C, h1, h2, _, _, _, h3, h4⟩ := h.lim hg
  obtain ⟨_, _, _, _, _, _, h5, h6, h7, h8⟩ := h
  exact ⟨C, _, h2, Bd.rs hg h2 h1, h4, h3, rs_length f hg, by omega, h8, tz_rs h7⟩
theorem EuI.ng {c : Nat} {f g : List Int} (h : EuI c f g) : EuI c f (ng g) := by
  obtain ⟨B, C, h1, h2, h3, h4, h5, h6, h7, h8⟩ := h
  exact ⟨B, C, h1, h2.ng, h3, h4, by rw [ng_len h8]; exact h5, h6, h7, tz_ng _⟩
theorem EuI.len {c : Nat} {f g : List Int} (h : EuI c f g) : g.length < f.length ∧ f.length ≤ 12 := by
  obtain ⟨_, _, _, _, _, _, h5, h6, _⟩ := h
  exact ⟨h5, h6⟩
theorem EuI.norm {c : Nat} {f g : List Int} (h : EuI c f g) : tz f = f ∧ tz g = g := by
  obtain ⟨_, _, _, _, _, _, _, _, h7, h8⟩ := h
  exact ⟨h7, h8⟩
theorem EuI.bd {c : Nat} {f g : List Int} (h : EuI c f g) : Bd (c * 59605) f ∧ Bd (c * 59605) g := by
  obtain ⟨B, C, h1, h2, h3, h4, h5, h6, _⟩ := h
  exact ⟨h1.mono (by have := h3.le (by omega); omega), h2.mono (by have := h4.le (by omega); omega)⟩
theorem EuI.euF {c : Nat} : ∀ (k : Nat) (f g : List Int), EuI c f g → ∃ e, EuI c (euF k f g) e
  | 0, f, g, h => ⟨g, h⟩
  | k + 1, f, g, h => by
    rw [Go.Proofs.YtdmdagilopckgaaGreat.euF]
    split
    · rename_i h0
      exact EuI.euF k g _ (h.next h0).pp
    · exact ⟨g, h⟩
theorem EuI.eu {c : Nat} {f g : List Int} (h : EuI c f g) : ∃ e, EuI c (eu f g) e := EuI.euF _ _ _ h
end Go.Proofs.YtdmdagilopckgaaGreat
