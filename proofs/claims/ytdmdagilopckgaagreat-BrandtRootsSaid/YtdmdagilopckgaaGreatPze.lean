/- What is known of every polynomial of at most 12 coefficients of three words (plain Lean). -/
import Derived.Test.YtdmdagilopckgaaGreatB3
import Derived.Test.YtdmdagilopckgaaGreatExa
namespace Go.Proofs.YtdmdagilopckgaaGreat
open Go.RowKit

theorem ct_pp {l : List Int} (h : tz l = l) (h0 : l ≠ []) : ct (pp l) = 1 := by
  have hc := ct_of_tz h h0
  have hn := ct_nonneg l
  have hn2 := ct_nonneg (pp l)
  have hpp := pp_eq h
  have h1 : ct l * ct (pp l) ∣ ct l := by
    refine dvd_ct fun x hx => ?_
    have h2 : x / ct l ∈ pp l := by rw [hpp]; exact List.mem_map.2 ⟨x, hx, rfl⟩
    have h3 := Int.mul_dvd_mul_left (ct l) (ct_dvd h2)
    rw [Int.mul_ediv_cancel' (ct_dvd hx)] at h3
    exact h3
  obtain ⟨k, hk⟩ := h1
  have h4 : ct (pp l) * k = 1 := by
    refine Int.eq_of_mul_eq_mul_left (a := ct l) hc ?_
    rw [← Int.mul_assoc, ← hk, Int.mul_one]
  exact Int.eq_one_of_mul_eq_one_right hn2 h4
theorem ct_neg (l : List Int) : ct (l.map (- ·)) = ct l := by
  have h1 : ct (l.map (- ·)) ∣ ct l := dvd_ct fun x hx => by
    have := ct_dvd (l := l.map (- ·)) (x := -x) (List.mem_map.2 ⟨x, hx, rfl⟩)
    exact Int.dvd_neg.1 this
  have h2 : ct l ∣ ct (l.map (- ·)) := dvd_ct fun x hx => by
    obtain ⟨y, hy, rfl⟩ := List.mem_map.1 hx
    exact Int.dvd_neg.2 (ct_dvd hy)
  exact Int.dvd_antisymm (ct_nonneg _) (ct_nonneg _) h1 h2
theorem pp_ne {l : List Int} (h : tz l = l) (h0 : l ≠ []) : pp l ≠ [] := fun e => h0 (List.eq_nil_of_length_eq_zero (by rw [← pp_len h, e]; rfl))
theorem ps_ne {l : List Int} (h : tz l = l) (h0 : l ≠ []) : ps l ≠ [] := fun e => h0 (List.eq_nil_of_length_eq_zero (by rw [← ps_len h, e]; rfl))
theorem ct_ps {l : List Int} (h : tz l = l) (h0 : l ≠ []) : ct (ps l) = 1 := by
  unfold ps
  split
  · rw [ng_eq (tz_pp l), ct_neg]; exact ct_pp h h0
  · exact ct_pp h h0
theorem ng_ev (l : List Int) (x : Int) : ev (ng l) x = - ev l x := by unfold ng; rw [ev_tz, ev_neg]
theorem ps_ev (l : List Int) : ∃ k : Int, k ≠ 0 ∧ ∀ x, k * ev (ps l) x = ev l x := by
  obtain ⟨k, hk, h⟩ := pp_ev l
  unfold ps
  split
  · exact ⟨-k, by omega, fun x => by rw [ng_ev, ← h x]; grind⟩
  · exact ⟨k, by omega, h⟩

/-- What a quotient is. -/
theorem ovF_ev {d : List Int} (h0 : 0 < d.length) : ∀ (k : Nat) (p o r : List Int), p.length ≤ k → ovF d k p o = some r → (∀ j, j < p.length + 1 - d.length → gz o j = 0) → p.length + 1 - d.length ≤ o.length → ∀ x, ev d x * ev r x = ev p x + ev d x * ev o x
  | 0, p, o, r, hk, h, _, _, x => by
    obtain rfl := List.eq_nil_of_length_eq_zero (Nat.le_zero.1 hk)
    rw [ovF, if_pos rfl] at h
    injection h with h
    rw [← h, ev_tz, ev_nil]; omega
  | k + 1, p, o, r, hk, h, hz, hl, x => by
    rw [ovF] at h
    split at h
    · rename_i hge
      split at h
      · rename_i hd
        have hdown := ls_down hge h0 hd
        have h1 := ovF_ev h0 k _ _ r (by omega) h (fun j hj => by
          rw [gz_set (by omega), if_neg (by omega)]
          exact hz j (by omega)) (by rw [List.length_set]; omega) x
        rw [h1]
        unfold ls
        rw [ev_tz, ev_lsF _ _ _ _ _ (by omega), ev_set _ _ _ _ (by omega), hz _ (by omega)]
        generalize x ^ (p.length - d.length) = z
        generalize ld p / ld d = y
        grind
      · cases h
    · split at h
      · rename_i hp
        subst hp
        injection h with h
        rw [← h, ev_tz, ev_nil]; omega
      · cases h
theorem ov_ev {d p r : List Int} (h0 : 0 < d.length) (h : ov p d = some r) (x : Int) : ev p x = ev d x * ev r x := by
  have h1 := ovF_ev h0 _ p _ r (Nat.le_refl _) h (fun j _ => gz_replicate _ _) (by rw [List.length_replicate]; exact Nat.le_refl _) x
  rw [h1]
  have hz : ev (List.replicate (p.length + 1 - d.length) 0) x = 0 := ev_gz (b := []) (fun j => by rw [gz_replicate, gz_nil]) x
  rw [hz]; omega

/-- The quotient by the greatest common divisor with the derivative is there. -/
theorem sq_exists {p : List Int} (hp : tz p = p) (h0 : p ≠ []) : ∃ (q : List Int) (m : Int), sqo p = some q ∧ m ≠ 0 ∧ ∀ x, m * ev p x = ev (eu p (dv p)) x * ev q x := by
  obtain ⟨hn, hz⟩ := eu_norm hp (tz_dv p) h0
  obtain ⟨⟨c, s, hc, hs⟩, _⟩ := eu_ev (f := p) (tz_dv p)
  obtain ⟨m, hm, hme⟩ := ps_ev (eu p (dv p))
  have hct := ct_ps hn hz
  have hpt := tz_ps (eu p (dv p))
  have hpn := ps_ne hn hz
  obtain ⟨q, hq⟩ := prim_div hct _ c p (s.map (· * m)) (Nat.le_refl _) hc (fun x => by
    have h1 := hs x
    have h2 := hme x
    rw [ev_map]
    grind)
  obtain ⟨r, hr⟩ := ov_exact hpt hpn _ p (List.replicate (p.length + 1 - (ps (eu p (dv p))).length) 0) q (Nat.le_refl _) hp hq
  have hr2 : ov p (ps (eu p (dv p))) = some r := hr
  have hrq := ov_ev (List.length_pos_iff.2 hpn) hr2
  exact ⟨r, m, hr2, hm, fun x => by
    have h1 := hrq x
    have h2 := hme x
    grind⟩

/-- Along a chain: only constants divide both. -/
structure ChI (f g : List Int) : Prop where
  norm : tz f = f
  norm' : tz g = g
  len : 2 ≤ f.length
  cop : ∀ h, Dv h f → Dv h g → (tz h).length ≤ 1
theorem ChI.ne {f g : List Int} (h : ChI f g) : g ≠ [] := by
  rintro rfl
  have h1 := h.cop f (Dv.refl f) (Dv.zero fun x => rfl)
  rw [h.norm] at h1
  have := h.len
  omega
theorem ChI.next {f g : List Int} (h : ChI f g) (hl : 2 ≤ g.length) : ChI g (pp (ng (rs f g))) := by
  refine ⟨h.norm', tz_pp _, hl, fun k h1 h2 => h.cop k ?_ h1⟩
  obtain ⟨a, b, q, ha, hb, hq⟩ := rs_ev (f := f) h.norm' h.ne
  obtain ⟨m, hm, hme⟩ := pp_ev (ng (rs f g))
  refine Dv.comb h2 h1 (k := a) (u := [-(b * m)]) (v := q) (by omega) fun x => ?_
  have e1 := hq x
  have e2 := hme x
  rw [ng_ev] at e2
  simp only [ev]
  grind
theorem chn_ne : ∀ (n : Nat) (f g : List Int), g.length ≤ n → ChI f g → ∀ h ∈ chn f g, h ≠ [] := by
  intro n
  induction n with
  | zero => intro f g hl hi; exact absurd (List.eq_nil_of_length_eq_zero (Nat.le_zero.1 hl)) hi.ne
  | succ n ih =>
    intro f g hl hi h hh
    rw [chn_eq] at hh
    rcases List.mem_cons.1 hh with rfl | hh
    · exact hi.ne
    · split at hh
      · cases hh
      · rename_i h1
        have := pp_ng_length f (show 0 < g.length by omega)
        exact ih g _ (by omega) (hi.next (by omega)) h hh
theorem chn_bd {c : Nat} : ∀ (n : Nat) (f g : List Int), g.length ≤ n → EuI c f g → ∀ h ∈ chn f g, h.length ≤ 12 ∧ Bd (c * 59605) h := by
  intro n
  induction n with
  | zero =>
    intro f g hl hi h hh
    rw [chn_eq, if_pos (by omega)] at hh
    rw [List.mem_singleton.1 hh]
    have := hi.len
    exact ⟨by omega, hi.bd.2⟩
  | succ n ih =>
    intro f g hl hi h hh
    rw [chn_eq] at hh
    rcases List.mem_cons.1 hh with rfl | hh
    · have := hi.len
      exact ⟨by omega, hi.bd.2⟩
    · split at hh
      · cases hh
      · rename_i h1
        have := pp_ng_length f (show 0 < g.length by omega)
        exact ih g _ (by omega) (hi.next (by omega)).ng.pp h hh
theorem chn_len : ∀ (n : Nat) (f g : List Int), g.length ≤ n → (chn f g).length ≤ max 1 g.length := by
  intro n
  induction n with
  | zero => intro f g hl; rw [chn_eq, if_pos (by omega), List.length_singleton]; omega
  | succ n ih =>
    intro f g hl
    rw [chn_eq]
    split
    · rw [List.length_singleton]; omega
    · rename_i h1
      have h2 := pp_ng_length f (show 0 < g.length by omega)
      have h3 := ih g (pp (ng (rs f g))) (by omega)
      rw [List.length_cons]
      omega

theorem goodP {t : List Int} (ht : tz t = t) (h0 : t ≠ []) (hl : t.length ≤ 12) (hB : Bd 3 t) : GoodP t := by
  have hlen := List.length_pos_iff.2 h0
  have hpn := tz_ps t
  have hp0 := ps_ne ht h0
  have hpl := ps_len ht
  obtain ⟨q, m, hq, hm, hme⟩ := sq_exists hpn hp0
  have hsq : sq t = q := by unfold sq; rw [hq]; rfl
  have hqt := ov_tz hq
  obtain ⟨hn, hz⟩ := eu_norm hpn (tz_dv (ps t)) hp0
  have hdl := List.length_pos_iff.2 (ps_ne hn hz)
  have hq12 : q.length ≤ 12 := by omega
  obtain ⟨e, heu⟩ := (EuI.start (c := 5) hpn (by omega) (by omega) hB.ps (by omega)).eu
  have hqb : Bd 4000000 q := by
    have h1 := Bd.ov hB.ps heu.bd.1.ps hdl hq
    refine h1.mono ?_
    have h2 : (ps t).length + 1 - (ps (eu (ps t) (dv (ps t)))).length ≤ 12 := by omega
    have h3 := Nat.mul_le_mul_right (5 * 59605 + 1) h2
    omega
  have hq0 : q ≠ [] := by
    rintro rfl
    have h1 := ev_ne hpn hp0 (x := sz (ps t) + 1) (by omega)
    have h2 := hme (sz (ps t) + 1)
    rw [ev_nil, Int.mul_zero] at h2
    rcases Int.mul_eq_zero.1 h2 with h3 | h3
    · exact hm h3
    · exact h1 h3
  have hch : 2 ≤ q.length → ChI q (pp (dv q)) := fun h2 => by
    refine ⟨hqt.1, tz_pp _, h2, fun h h3 h4 => sf _ (ps t) hpn hp0 (Nat.le_refl _) q m hm hme h h3 ?_⟩
    obtain ⟨k, hk, hke⟩ := pp_ev (dv q)
    refine Dv.comb h4 h4 (k := 1) (u := [k]) (v := []) (by omega) fun x => ?_
    have := hke x
    simp only [ev]
    grind
  have hdvl := dv_length q
  have hppl := pp_length (dv q)
  refine ⟨ht, hlen, hl, hB, by rw [hq, hsq], by rw [hsq]; exact hqt.1, by rw [hsq]; exact hq12, by rw [hsq]; exact hqb, ?_, ?_, ?_⟩ <;> rw [hsq, chs_eq]
  · intro h hh
    rcases List.mem_cons.1 hh with rfl | hh
    · exact hq0
    · split at hh
      · cases hh
      · exact chn_ne _ _ _ (Nat.le_refl _) (hch (by omega)) h hh
  · split
    · simp
    · have := chn_len _ q (pp (dv q)) (Nat.le_refl _)
      rw [List.length_cons]
      omega
  · intro h hh
    rcases List.mem_cons.1 hh with rfl | hh
    · exact ⟨hq12, hqb.mono (by omega)⟩
    · split at hh
      · cases hh
      · have h1 := chn_bd _ _ _ (Nat.le_refl _) (EuI.start (c := 4000002) hqt.1 (List.length_pos_iff.2 hq0) hq12 hqb (by omega)).pp h hh
        exact ⟨h1.1, h1.2.mono (by omega)⟩
end Go.Proofs.YtdmdagilopckgaaGreat
