/- Positive multiples have one primitive part; the remainders with and without primitive parts in between (plain Lean). -/
import Derived.Test.YtdmdagilopckgaaGreatPze
import Derived.Test.YtdmdagilopckgaaGreatRfe
namespace Go.Proofs.YtdmdagilopckgaaGreat
open Go.RowKit

/-- Positive multiples of one polynomial. -/
def Pr (a b : List Int) : Prop := ∃ α β : Int, 0 < α ∧ 0 < β ∧ ∀ x, α * ev a x = β * ev b x
theorem Pr.refl (a : List Int) : Pr a a := ⟨1, 1, by omega, by omega, fun _ => rfl⟩
theorem Pr.symm {a b : List Int} (h : Pr a b) : Pr b a := by
  obtain ⟨α, β, h1, h2, h3⟩ := h
  exact ⟨β, α, h2, h1, fun x => (h3 x).symm⟩
theorem Pr.trans {a b c : List Int} (h : Pr a b) (h' : Pr b c) : Pr a c := by
  obtain ⟨α, β, h1, h2, h3⟩ := h
  obtain ⟨γ, δ, h4, h5, h6⟩ := h'
  refine ⟨γ * α, β * δ, Int.mul_pos h4 h1, Int.mul_pos h2 h5, fun x => ?_⟩
  have e1 := h3 x
  have e2 := h6 x
  grind
theorem Pr.gz {a b : List Int} (h : Pr a b) : ∃ α β : Int, 0 < α ∧ 0 < β ∧ ∀ j, α * Go.Proofs.YtdmdagilopckgaaGreat.gz a j = β * Go.Proofs.YtdmdagilopckgaaGreat.gz b j := by
  obtain ⟨α, β, h1, h2, h3⟩ := h
  refine ⟨α, β, h1, h2, fun j => ?_⟩
  have h4 := ev_ext_ge 0 (a := a.map (· * α)) (b := b.map (· * β)) (fun x _ => by rw [ev_map, ev_map, Int.mul_comm, h3 x, Int.mul_comm]) j
  rw [gz_smul, gz_smul] at h4
  rw [Int.mul_comm, h4, Int.mul_comm]
theorem Pr.length {a b : List Int} (h : Pr a b) (ha : tz a = a) (hb : tz b = b) : a.length = b.length := by
  have key : ∀ {a b : List Int}, Pr a b → tz a = a → tz b = b → a.length ≤ b.length := by
    intro a b h ha hb
    obtain ⟨α, β, h1, h2, h3⟩ := h.gz
    rcases Nat.lt_or_ge b.length a.length with h4 | h4
    · have h5 := ld_of_tz ha (by intro e; rw [e] at h4; simp at h4)
      unfold ld at h5
      have h6 := h3 (a.length - 1)
      rw [gz_ge (l := b) (by omega), Int.mul_zero] at h6
      rcases Int.mul_eq_zero.1 h6 with h7 | h7
      · omega
      · exact absurd h7 h5
    · exact h4
  exact Nat.le_antisymm (key h ha hb) (key h.symm hb ha)
theorem ct_smul {s : Int} (hs : 0 < s) (l : List Int) : ct (l.map (· * s)) = ct l * s := by
  have h1 : ct l * s ∣ ct (l.map (· * s)) := dvd_ct fun x hx => by
    obtain ⟨y, hy, rfl⟩ := List.mem_map.1 hx
    exact Int.mul_dvd_mul_right s (ct_dvd hy)
  have hs2 : s ∣ ct (l.map (· * s)) := dvd_ct fun x hx => by
    obtain ⟨y, hy, rfl⟩ := List.mem_map.1 hx
    exact Int.dvd_mul_left _ _
  obtain ⟨k, hk⟩ := hs2
  have h3 : k ∣ ct l := dvd_ct fun x hx => by
    have h4 := ct_dvd (l := l.map (· * s)) (x := x * s) (List.mem_map.2 ⟨x, hx, rfl⟩)
    rw [hk, Int.mul_comm s k] at h4
    exact Int.dvd_of_mul_dvd_mul_right (by omega) h4
  have h5 : ct (l.map (· * s)) ∣ ct l * s := by rw [hk, Int.mul_comm s k]; exact Int.mul_dvd_mul_right s h3
  exact Int.dvd_antisymm (ct_nonneg _) (Int.mul_nonneg (ct_nonneg _) (by omega)) h5 h1
theorem Pr.pp {a b : List Int} (h : Pr a b) (ha : tz a = a) (hb : tz b = b) : Go.Proofs.YtdmdagilopckgaaGreat.pp a = Go.Proofs.YtdmdagilopckgaaGreat.pp b := by
  have hl := h.length ha hb
  obtain ⟨α, β, h1, h2, h3⟩ := h.gz
  have hm : a.map (· * α) = b.map (· * β) := gz_ext (by simp [hl]) fun j _ => by rw [gz_smul, gz_smul, Int.mul_comm, h3 j, Int.mul_comm]
  have hc := ct_smul h1 a
  rw [hm, ct_smul h2] at hc
  rw [pp_eq ha, pp_eq hb]
  refine gz_ext (by simp [hl]) fun j hj => ?_
  rw [List.length_map] at hj
  rw [gz_map hj, gz_map (by omega)]
  have e1 := Int.mul_ediv_mul_of_pos (Go.Proofs.YtdmdagilopckgaaGreat.gz a j) (ct a) h1
  have e2 := Int.mul_ediv_mul_of_pos (Go.Proofs.YtdmdagilopckgaaGreat.gz b j) (ct b) h2
  rw [← e1, ← e2, h3 j, Int.mul_comm α (ct a), ← hc, Int.mul_comm β (ct b)]
theorem Pr.ng {a b : List Int} (h : Pr a b) : Pr (a.map (- ·)) (Go.Proofs.YtdmdagilopckgaaGreat.ng b) := by
  obtain ⟨α, β, h1, h2, h3⟩ := h
  refine ⟨α, β, h1, h2, fun x => ?_⟩
  have := h3 x
  rw [ng_ev, ev_neg]
  grind
theorem Pr.stp {f f' g : List Int} (h : Pr f f') (hf : tz f = f) (hf' : tz f' = f') (hl : g.length ≤ f.length) : Pr (Go.Proofs.YtdmdagilopckgaaGreat.stp f g) (Go.Proofs.YtdmdagilopckgaaGreat.stp f' g) := by
  have hlen := h.length hf hf'
  obtain ⟨α, β, h1, h2, h3⟩ := h
  have h4 : α * ld f = β * ld f' := by
    have h5 := ev_ext_ge 0 (a := f.map (· * α)) (b := f'.map (· * β)) (fun x _ => by rw [ev_map, ev_map, Int.mul_comm, h3 x, Int.mul_comm]) (f.length - 1)
    rw [gz_smul, gz_smul] at h5
    unfold ld
    rw [Int.mul_comm, h5, Int.mul_comm, hlen]
  refine ⟨α, β, h1, h2, fun x => ?_⟩
  have h5 := h3 x
  rw [ev_stp hl, ev_stp (by omega), hlen]
  generalize x ^ (f'.length - g.length) = z
  split <;> grind
theorem Pr.rsF {r r' : List Int → List Int} (hr : ∀ l, Pr (r l) l) (hr' : ∀ l, Pr (r' l) l) (ht : ∀ l, tz l = l → tz (r l) = r l) (ht' : ∀ l, tz l = l → tz (r' l) = r' l) {g : List Int} : ∀ (k : Nat) (f f' : List Int), tz f = f → tz f' = f' → Pr f f' → Pr (Go.Proofs.YtdmdagilopckgaaGreat.rsF r k f g) (Go.Proofs.YtdmdagilopckgaaGreat.rsF r' k f' g)
  | 0, f, f', _, _, h => h
  | k + 1, f, f', hf, hf', h => by
    have hlen := h.length hf hf'
    rw [Go.Proofs.YtdmdagilopckgaaGreat.rsF, Go.Proofs.YtdmdagilopckgaaGreat.rsF, hlen]
    split
    · rename_i hl
      have hs := h.stp hf hf' (g := g) (by omega)
      exact Pr.rsF hr hr' ht ht' k _ _ (ht _ (tz_ls _ _ _ _)) (ht' _ (tz_ls _ _ _ _)) (((hr _).trans hs).trans (hr' _).symm)
    · exact h
theorem pp_pr (l : List Int) : Pr (Go.Proofs.YtdmdagilopckgaaGreat.pp l) l := by
  obtain ⟨k, hk, h⟩ := pp_ev l
  exact ⟨k, 1, hk, by omega, fun x => by rw [h x]; omega⟩
theorem rm_pr {f g : List Int} (hf : tz f = f) : Pr (rm f g) (rs f g) := Pr.rsF (fun _ => Pr.refl _) pp_pr (fun _ h => h) (fun _ _ => tz_pp _) _ _ _ hf hf (Pr.refl _)
/-- Primitive parts of the remainders. -/
theorem pp_rm {f g : List Int} (hf : tz f = f) : Go.Proofs.YtdmdagilopckgaaGreat.pp (rm f g) = Go.Proofs.YtdmdagilopckgaaGreat.pp (rs f g) := (rm_pr hf).pp (tz_rm hf) (tz_rs hf)
theorem pp_rm_ng {f g : List Int} (hf : tz f = f) : Go.Proofs.YtdmdagilopckgaaGreat.pp ((rm f g).map (- ·)) = Go.Proofs.YtdmdagilopckgaaGreat.pp (Go.Proofs.YtdmdagilopckgaaGreat.ng (rs f g)) := by
  have h1 : tz ((rm f g).map (- ·)) = (rm f g).map (- ·) := by
    have := ng_eq (tz_rm (g := g) hf)
    rw [← this]
    exact tz_ng _
  exact (rm_pr hf).ng.pp h1 (tz_ng _)
end Go.Proofs.YtdmdagilopckgaaGreat
