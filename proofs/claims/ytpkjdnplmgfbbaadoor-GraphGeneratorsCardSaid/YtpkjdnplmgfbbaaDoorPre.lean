/- Plain numbers: the other tables of the strong test. No program in sight. -/
import Derived.Test.YtpkjdnplmgfbbaaDoorPrd
namespace Go.Proofs.YtpkjdnplmgfbbaaDoor

theorem n_split {p m : Nat} (hp : 0 < p) (hm : 0 < m) : p * m - 1 = (p - 1) * m + (m - 1) := by
  obtain ⟨q, rfl⟩ : ∃ q, p = q + 1 := ⟨p - 1, by omega⟩
  rw [Nat.add_sub_cancel, Nat.add_mul, Nat.one_mul]
  omega
theorem All.sub {p e f : Nat} (h : All p e) (k : All p (e + f)) : All p f := ⟨h.1.sub k.1, h.2.1.sub k.2.1, h.2.2.1.sub k.2.2.1, h.2.2.2.sub k.2.2.2⟩
theorem All.mul {p e : Nat} (h : All p e) (k : Nat) : All p (e * k) := ⟨h.1.mul k, h.2.1.mul k, h.2.2.1.mul k, h.2.2.2.mul k⟩
theorem Pr.all {p : Nat} (h : Pr p) (h7 : 7 < p) : All p (p - 1) := by
  have hn : ∀ a, 0 < a → a < p → ¬ p ∣ a := fun a h0 h1 hd => by have := Nat.le_of_dvd h0 hd; omega
  exact ⟨fermat_one h (hn 2 (by omega) (by omega)), fermat_one h (hn 3 (by omega) (by omega)), fermat_one h (hn 5 (by omega) (by omega)), fermat_one h (hn 7 (by omega) (by omega))⟩
/-- The cofactor. -/
theorem All.cof {p m : Nat} (hp : Pr p) (h7 : 7 < p) (hm : 0 < m) (h : All p (p * m - 1)) : All p (m - 1) := by
  rw [n_split (by omega) hm] at h
  exact ((hp.all h7).mul m).sub h

/-- No square. -/
def wf (p : Nat) : Bool := comp p || Nat.ble p 10 || Nat.ble 1000 p || (Nat.beq (pm 2 (p * (p - 1)) (p * p)) 1 && !(Nat.beq (pm 2 (p - 1) (p * p)) 1))
theorem wf_spec {p n : Nat} (h : wf p = true) (hp : Pr p) (h1 : 10 < p) (h2 : p < 1000) (hn : 0 < n) (hd : p * p ∣ n) (ho : One n 2 (n - 1)) : False := by
  unfold wf at h
  simp only [Bool.or_eq_true, Bool.and_eq_true] at h
  rcases h with ((h | h) | h) | ⟨h, h3⟩
  · exact comp_spec h hp
  · have := Nat.le_of_ble_eq_true h; omega
  · have := Nat.le_of_ble_eq_true h; omega
  · have hpp : 1 < p * p := by have := Nat.mul_le_mul (show 2 ≤ p by omega) (show 2 ≤ p by omega); omega
    have h4 := beq_iff.1 h
    rw [pm_eq] at h4 h3
    have o1 : One (p * p) 2 (p * (p - 1)) := by unfold One; rw [h4, Nat.mod_eq_of_lt hpp]
    have o2 : One (p * p) 2 (n - 1) := One.of_dvd hd ho
    have o3 := One.gcd _ _ o1 o2
    have hcop : Nat.Coprime (Nat.gcd (p * (p - 1)) (n - 1)) p := by
      refine (hp.cop fun h5 => ?_).symm
      have h6 : p ∣ n - 1 := Nat.dvd_trans h5 (Nat.gcd_dvd_right _ _)
      have h7 : p ∣ n := Nat.dvd_trans (Nat.dvd_mul_right p p) hd
      have h8 : p ∣ 1 := by
        have := Nat.dvd_sub h7 h6
        rwa [show n - (n - 1) = 1 by omega] at this
      have := Nat.le_of_dvd (by omega) h8
      omega
    have h9 := hcop.dvd_of_dvd_mul_left (Nat.gcd_dvd_left (p * (p - 1)) (n - 1))
    have o4 := o3.dvd h9
    unfold One at o4
    rw [beq_iff.2 (by rw [o4, Nat.mod_eq_of_lt hpp])] at h3
    cases h3

/-- The inverse. -/
def inv_ (l : Nat) : Nat → Nat → Nat → Nat → Nat → Nat
  | 0, _, _, _, _ => 0
  | f + 1, r0, r1, s0, s1 => bif Nat.beq r1 0 then s0 else inv_ l f r1 (r0 % r1) s1 ((s0 + (l - (r0 / r1) % l) * s1) % l)
/-- The numbers with the primes q and r. -/
def pairL (q r l t : Nat) : Bool := Nat.beq ((q * r * t) % l) (1 % l) && lp (q * r) bd l (bd / (q * r)) (t % l)
def pair (q r : Nat) : Bool := !(Nat.beq (Nat.gcd (q * r) (Nat.lcm (lam q) (lam r))) 1) || pairL q r (Nat.lcm (lam q) (lam r)) (inv_ (Nat.lcm (lam q) (lam r)) 60 ((q * r) % Nat.lcm (lam q) (lam r)) (Nat.lcm (lam q) (lam r)) 1 0)
theorem one_mod {l x : Nat} (hx : 0 < x) (h : l ∣ x - 1) : x % l = 1 % l := by
  obtain ⟨c, hc⟩ := h
  rw [show x = 1 + l * c by omega, Nat.add_mul_mod_self_left]
theorem pairL_spec {q r l t0 t : Nat} (h : pairL q r l t0 = true) (h1 : (q * r * t) % l = 1 % l) (hb : q * r * t ≤ bd) : fails (q * r * t) = true := by
  unfold pairL at h
  rw [Bool.and_eq_true] at h
  have h2 := beq_iff.1 h.1
  have h3 : t % l = t0 % l := by
    have e1 : (t * (q * r * t0)) % l = t % l := by rw [Nat.mul_mod, h2, ← Nat.mul_mod, Nat.mul_one]
    have e2 : (t0 * (q * r * t)) % l = t0 % l := by rw [Nat.mul_mod, h1, ← Nat.mul_mod, Nat.mul_one]
    rw [← e1, ← e2]
    congr 1
    rw [Nat.mul_left_comm t, Nat.mul_left_comm t0, Nat.mul_comm t t0]
  have e : t = t0 % l + t / l * l := by
    have := Nat.mod_add_div t l
    rw [Nat.mul_comm] at this
    omega
  rw [e] at hb ⊢
  exact lp_spec _ _ h.2 _ hb
theorem pair_spec {q r t : Nat} (h : pair q r = true) (h0 : 0 < q * r * t) (hq : lam q ∣ q * r * t - 1) (hr : lam r ∣ q * r * t - 1) (hb : q * r * t ≤ bd) : fails (q * r * t) = true := by
  have hl : Nat.lcm (lam q) (lam r) ∣ q * r * t - 1 := Nat.lcm_dvd hq hr
  unfold pair at h
  rw [Bool.or_eq_true] at h
  rcases h with h | h
  · exfalso
    have hg : Nat.gcd (q * r) (Nat.lcm (lam q) (lam r)) = 1 := by
      have h1 : Nat.gcd (q * r) (Nat.lcm (lam q) (lam r)) ∣ q * r * t := Nat.dvd_trans (Nat.gcd_dvd_left _ _) (Nat.dvd_mul_right _ _)
      have h2 : Nat.gcd (q * r) (Nat.lcm (lam q) (lam r)) ∣ q * r * t - 1 := Nat.dvd_trans (Nat.gcd_dvd_right _ _) hl
      have h3 := Nat.dvd_sub h1 h2
      rw [show q * r * t - (q * r * t - 1) = 1 by omega] at h3
      exact Nat.dvd_one.1 h3
    rw [beq_iff.2 hg] at h
    cases h
  · exact pairL_spec h (one_mod h0 hl) hb
def tB (q r : Nat) : Bool := Nat.ble r 10 || Nat.ble q r || comp r || pair q r
def tB2 (q : Nat) : Bool := Nat.ble q 100 || Nat.ble 1000 q || comp q || rg (tB q) 10 0
theorem tB2_spec {q r t : Nat} (h : tB2 q = true) (hq : Pr q) (h1 : 100 < q) (h2 : q < 1000) (hr : Pr r) (h3 : 10 < r) (h4 : r < q) (h0 : 0 < q * r * t) (h5 : lam q ∣ q * r * t - 1) (h6 : lam r ∣ q * r * t - 1) (hb : q * r * t ≤ bd) : fails (q * r * t) = true := by
  unfold tB2 at h
  simp only [Bool.or_eq_true] at h
  rcases h with ((h | h) | h) | h
  · have := Nat.le_of_ble_eq_true h; omega
  · have := Nat.le_of_ble_eq_true h; omega
  · exact absurd hq (comp_spec h)
  · have k := rg_spec 10 0 h r (Nat.zero_le _) (by omega)
    unfold tB at k
    simp only [Bool.or_eq_true] at k
    rcases k with ((k | k) | k) | k
    · have := Nat.le_of_ble_eq_true k; omega
    · have := Nat.le_of_ble_eq_true k; omega
    · exact absurd hr (comp_spec k)
    · exact pair_spec k h0 h5 h6 hb

/-- The product of the numbers up to 31622. -/
def pr_ : Nat → Nat → Nat
  | 0, lo => bif Nat.ble lo 31622 then lo else 1
  | d + 1, lo => pr_ d lo * pr_ d (lo + 2 ^ d)
theorem pr_no {p : Nat} (hp : Pr p) (h : 31622 < p) : ∀ d lo, 0 < lo → ¬ p ∣ pr_ d lo
  | 0, lo, h0, hd => by
    unfold pr_ at hd
    by_cases h1 : lo ≤ 31622
    · rw [Nat.ble_eq_true_of_le h1, cond_true] at hd
      have := Nat.le_of_dvd h0 hd; omega
    · have e : Nat.ble lo 31622 = false := by rw [Bool.eq_false_iff]; intro h2; exact h1 (Nat.le_of_ble_eq_true h2)
      rw [e, cond_false] at hd
      have := Nat.le_of_dvd (by omega) hd; omega
  | d + 1, lo, h0, hd => by
    unfold pr_ at hd
    rcases hp.mul hd with h1 | h1
    · exact pr_no hp h d lo h0 h1
    · exact pr_no hp h d _ (Nat.lt_of_lt_of_le h0 (Nat.le_add_right _ _)) h1
/-- What a number shares with K is taken out. -/
def strip (K : Nat) : Nat → Nat → Nat
  | 0, G => G
  | f + 1, G => bif Nat.beq (Nat.gcd G K) 1 then G else strip K f (G / Nat.gcd G K)
theorem strip_spec {K p : Nat} (hp : Pr p) (hK : ¬ p ∣ K) : ∀ f G, p ∣ G → p ∣ strip K f G
  | 0, G, h => h
  | f + 1, G, h => by
    unfold strip
    by_cases h1 : Nat.gcd G K = 1
    · rw [beq_iff.2 h1, cond_true]; exact h
    · have e : Nat.beq (Nat.gcd G K) 1 = false := by rw [Bool.eq_false_iff]; intro h2; exact h1 (beq_iff.1 h2)
      rw [e, cond_false]
      refine strip_spec hp hK f _ ?_
      have h2 : Nat.gcd G K * (G / Nat.gcd G K) = G := Nat.mul_div_cancel' (Nat.gcd_dvd_left G K)
      rw [← h2] at h
      rcases hp.mul h with h3 | h3
      · exact absurd (Nat.dvd_trans h3 (Nat.gcd_dvd_right G K)) hK
      · exact h3
def gcd4 (e : Nat) : Nat := Nat.gcd (Nat.gcd (2 ^ e - 1) (3 ^ e - 1)) (Nat.gcd (5 ^ e - 1) (7 ^ e - 1))
theorem One.dvd_sub {p x e : Nat} (h : One p x e) : p ∣ x ^ e - 1 := Nat.dvd_of_mod_eq_zero (Nat.sub_mod_eq_zero_of_mod_eq h)
theorem gcd4_spec {p e : Nat} (h : All p e) : p ∣ gcd4 e := Nat.dvd_gcd (Nat.dvd_gcd h.1.dvd_sub h.2.1.dvd_sub) (Nat.dvd_gcd h.2.2.1.dvd_sub h.2.2.2.dvd_sub)
/-- The large primes of R, one number after the other. -/
def lpP (R s : Nat) : Nat → Nat → Bool
  | 0, P => Nat.ble (bd + 1) (P * s)
  | f + 1, P => bif Nat.ble (bd + 1) (P * s) then true else (!(Nat.beq (R % P) 0) || fails (P * s)) && lpP R s f (P + 1)
theorem lpP_spec {R s P : Nat} (hR : P ∣ R) (hb : P * s ≤ bd) : ∀ f P0, P0 ≤ P → lpP R s f P0 = true → fails (P * s) = true
  | 0, P0, h0, h => by
    have h1 := Nat.le_of_ble_eq_true h
    have := Nat.mul_le_mul_right s h0
    omega
  | f + 1, P0, h0, h => by
    unfold lpP at h
    have h1 := Nat.mul_le_mul_right s h0
    have e : Nat.ble (bd + 1) (P0 * s) = false := by rw [Bool.eq_false_iff]; intro h2; have := Nat.le_of_ble_eq_true h2; omega
    rw [e, cond_false, Bool.and_eq_true, Bool.or_eq_true] at h
    rcases Nat.lt_or_ge P0 P with h3 | h3
    · exact lpP_spec hR hb f (P0 + 1) h3 h.2
    · obtain rfl : P0 = P := by omega
      rcases h.1 with h4 | h4
      · rw [beq_iff.2 (Nat.mod_eq_zero_of_dvd hR)] at h4; cases h4
      · exact h4
def tAR (K s R : Nat) : Bool := Nat.beq R 1 || (Nat.beq (Nat.gcd R K) 1 && Nat.ble 1 R && Nat.ble (R + 1) 1000014129 && (Nat.ble (bd + 1) (R * s) || fails (R * s))) || lpP R s (bd / s) 31623
def tA (K i : Nat) : Bool := Nat.beq ((2 * i + 1) % 3) 0 || Nat.beq ((2 * i + 1) % 5) 0 || Nat.beq ((2 * i + 1) % 7) 0 || Nat.ble (2 * i + 1) 10 || Nat.ble 31623 (2 * i + 1) || tAR K (2 * i + 1) (strip K 40 (gcd4 (2 * i)))
/-- The large prime is all of R. -/
theorem large_all {K R P : Nat} (hK2 : ∀ f, Pr f → f ≤ 31622 → f ∣ K) (hg : Nat.gcd R K = 1) (h0 : 1 ≤ R) (hb : R < 1000014129) (hP : P ∣ R) (h1 : 31622 < P) : P = R := by
  obtain ⟨k, hk⟩ := hP
  by_cases hk1 : k = 1
  · rw [hk, hk1, Nat.mul_one]
  · exfalso
    have hk0 : k ≠ 0 := fun e => by rw [e, Nat.mul_zero] at hk; omega
    obtain ⟨f, hf, hfk⟩ := pr_dvd k (by omega)
    have hfR : f ∣ R := Nat.dvd_trans hfk ⟨P, by rw [hk, Nat.mul_comm]⟩
    rcases Nat.lt_or_ge 31622 f with h2 | h2
    · have h3 := Nat.le_of_dvd (by omega) hfk
      have h4 := Nat.mul_le_mul (show 31623 ≤ P from h1) (show 31623 ≤ k by omega)
      omega
    · have h3 := Nat.dvd_gcd hfR (hK2 f hf h2)
      rw [hg] at h3
      have := Nat.le_of_dvd (by omega) h3
      have := hf.1
      omega
theorem pr_has : ∀ (d lo f : Nat), lo ≤ f → f < lo + 2 ^ d → f ≤ 31622 → f ∣ pr_ d lo
  | 0, lo, f, h1, h2, h3 => by
    obtain rfl : f = lo := by simp at h2; omega
    unfold pr_
    rw [Nat.ble_eq_true_of_le h3, cond_true]
    exact Nat.dvd_refl f
  | d + 1, lo, f, h1, h2, h3 => by
    unfold pr_
    rcases Nat.lt_or_ge f (lo + 2 ^ d) with h4 | h4
    · exact Nat.dvd_trans (pr_has d lo f h1 h4 h3) (Nat.dvd_mul_right _ _)
    · exact Nat.dvd_trans (pr_has d (lo + 2 ^ d) f h4 (by rw [Nat.pow_succ] at h2; omega) h3) (Nat.dvd_mul_left _ _)
theorem tA_spec {K i s P : Nat} (h : tA K i = true) (hi : s = 2 * i + 1) (hP : Pr P) (hK : ¬ P ∣ K) (hK2 : ∀ f, Pr f → f ≤ 31622 → f ∣ K) (h1 : 31622 < P) (h3 : s % 3 ≠ 0) (h5 : s % 5 ≠ 0) (h7 : s % 7 ≠ 0) (h10 : 10 < s) (hb : P * s ≤ bd) (ha : All P (s - 1)) : fails (P * s) = true := by
  unfold tA at h
  rw [← hi] at h
  simp only [Bool.or_eq_true, beq_iff] at h
  have hs : s ≤ 31622 := by
    have := Nat.mul_le_mul_right s (show 31623 ≤ P from h1)
    unfold bd at hb
    omega
  rcases h with ((((h | h) | h) | h) | h) | h
  · exact absurd h h3
  · exact absurd h h5
  · exact absurd h h7
  · have := Nat.le_of_ble_eq_true h; omega
  · have := Nat.le_of_ble_eq_true h; omega
  · have hR : P ∣ strip K 40 (gcd4 (2 * i)) := strip_spec hP hK _ _ (gcd4_spec (by rw [show 2 * i = s - 1 by omega]; exact ha))
    obtain ⟨R, hRd⟩ : ∃ R, R = strip K 40 (gcd4 (2 * i)) := ⟨_, rfl⟩
    rw [← hRd] at hR h
    unfold tAR at h
    simp only [Bool.or_eq_true, Bool.and_eq_true, beq_iff] at h
    rcases h with (h | ⟨⟨⟨k1, k2⟩, k3⟩, k4⟩) | h
    · rw [h] at hR
      have := Nat.le_of_dvd (by omega) hR
      omega
    · have e := large_all hK2 k1 (Nat.le_of_ble_eq_true k2) (by have := Nat.le_of_ble_eq_true k3; omega) hR h1
      rw [← e] at k4
      rcases k4 with k4 | k4
      · have := Nat.le_of_ble_eq_true k4; omega
      · exact k4
    · exact lpP_spec hR hb _ _ h1 h

/-- The products of small primes. -/
def tD (n : Nat) : Bool := Nat.ble n 100 || fails n
def dfs : List Nat → Nat → Bool
  | [], _ => true
  | p :: L, acc => Nat.ble (bd + 1) (acc * p) || ((tD (acc * p) && dfs L (acc * p)) && dfs L acc)
theorem dfs_spec : ∀ (L : List Nat) (acc x : Nat), L.Pairwise (· < ·) → (∀ p ∈ L, Pr p) → dfs L acc = true → 1 < x → (∀ p, Pr p → ¬ p * p ∣ x) → (∀ p, Pr p → p ∣ x → p ∈ L) → acc * x ≤ bd → tD (acc * x) = true
  | [], acc, x, _, _, _, hx, _, hall, _ => by
    obtain ⟨p, hp, hpx⟩ := pr_dvd x hx
    cases hall p hp hpx
  | p :: L, acc, x, hL, hPr, h, hx, hsq, hall, hb => by
    rw [List.pairwise_cons] at hL
    have hp := hPr p (by simp)
    have hp2 := hp.1
    unfold dfs at h
    rw [Bool.or_eq_true] at h
    by_cases hpx : p ∣ x
    · obtain ⟨y, rfl⟩ := hpx
      have hy0 : 0 < y := Nat.pos_of_ne_zero fun e => by subst e; omega
      have h1 : acc * p ≤ acc * (p * y) := Nat.mul_le_mul_left acc (Nat.le_mul_of_pos_right p hy0)
      rcases h with h | h
      · have := Nat.le_of_ble_eq_true h; omega
      · rw [Bool.and_eq_true, Bool.and_eq_true] at h
        by_cases hy : y = 1
        · rw [hy, Nat.mul_one]; exact h.1.1
        · rw [← Nat.mul_assoc] at hb ⊢
          refine dfs_spec L (acc * p) y hL.2 (fun q hq => hPr q (by simp [hq])) h.1.2 (by omega) (fun q hq hd => hsq q hq (Nat.dvd_trans hd (Nat.dvd_mul_left y p))) (fun q hq hd => ?_) hb
          rcases List.mem_cons.1 (hall q hq (Nat.dvd_trans hd (Nat.dvd_mul_left y p))) with e | e
          · subst e
            exact absurd (Nat.mul_dvd_mul_left q hd) (hsq q hq)
          · exact e
    · have hne : ∀ q, Pr q → q ∣ x → q ∈ L := fun q hq hd => by
        rcases List.mem_cons.1 (hall q hq hd) with e | e
        · subst e; exact absurd hd hpx
        · exact e
      rcases h with h | h
      · exfalso
        have h1 := Nat.le_of_ble_eq_true h
        obtain ⟨q, hq, hqx⟩ := pr_dvd x hx
        have h2 := hL.1 q (hne q hq hqx)
        have h3 := Nat.le_of_dvd (by omega) hqx
        have := Nat.mul_le_mul_left acc (show p ≤ x by omega)
        omega
      · rw [Bool.and_eq_true] at h
        exact dfs_spec L acc x hL.2 (fun q hq => hPr q (by simp [hq])) h.2 hx hsq hne hb
def smalls : List Nat := [11, 13, 17, 19, 23, 29, 31, 37, 41, 43, 47, 53, 59, 61, 67, 71, 73, 79, 83, 89, 97]
end Go.Proofs.YtpkjdnplmgfbbaaDoor
