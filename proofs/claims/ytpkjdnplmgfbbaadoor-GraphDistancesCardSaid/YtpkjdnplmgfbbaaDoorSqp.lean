/- What is true of the square. -/
import Derived.Test.YtpkjdnplmgfbbaaDoorSq
namespace Go.Proofs.YtpkjdnplmgfbbaaDoor
open Go.RowKit

theorem toI_inj {E F : List (List Nat)} (h : toI E = toI F) : E = F := by
  have e : ∀ E : List (List Nat), (toI E).map (·.map Int.toNat) = E := by
    intro E
    unfold toI
    rw [List.map_map]
    refine (List.map_congr_left (g := id) fun l _ => ?_).trans (List.map_id _)
    show List.map _ (List.map _ l) = l
    rw [List.map_map]
    exact (List.map_congr_left (g := id) fun x _ => by simp).trans (List.map_id _)
  rw [← e E, h, e F]

theorem sq_name : ∀ s ∈ sqN, nameB s = true := by
  intro s hs
  refine nameB_true.2 ?_
  simp only [sqN, List.mem_cons, List.not_mem_nil, or_false] at hs
  rcases hs with rfl | rfl | rfl | rfl <;> exact ⟨by decide, by decide, by intro b hb; simp at hb; subst hb; exact ⟨by decide, by decide⟩⟩
theorem sq_chk : chk sqN (toI sqE) = 0 := by
  refine chk_ok rfl (by decide) fun i hi => ?_
  have hi4 : i < 4 := hi
  obtain ⟨x, hx⟩ : ∃ x, sqN[i]? = some x := ⟨_, List.getElem?_eq_getElem hi⟩
  have hr : ∀ l, (toI sqE)[i]? = some l → rowC sqN.length l = 0 := by
    intro l hl
    match i, hi4, hl with
    | 0, _, hl => injection hl with hl; subst hl; decide
    | 1, _, hl => injection hl with hl; subst hl; decide
    | 2, _, hl => injection hl with hl; subst hl; decide
    | 3, _, hl => injection hl with hl; subst hl; decide
  obtain ⟨l, hl⟩ : ∃ l, (toI sqE)[i]? = some l := ⟨_, List.getElem?_eq_getElem (show i < (toI sqE).length from hi4)⟩
  rw [atC_row hx (sq_name x (List.mem_of_getElem? hx)) hl, hr l hl]
  intro j hj he
  match i, j, hi4, hj, hx, he with
  | 1, 0, _, _, hx, he => injection hx with hx; injection he with he; rw [← hx] at he; cases he
  | 2, 0, _, _, hx, he => injection hx with hx; injection he with he; rw [← hx] at he; cases he
  | 2, 1, _, _, hx, he => injection hx with hx; injection he with he; rw [← hx] at he; cases he
  | 3, 0, _, _, hx, he => injection hx with hx; injection he with he; rw [← hx] at he; cases he
  | 3, 1, _, _, hx, he => injection hx with hx; injection he with he; rw [← hx] at he; cases he
  | 3, 2, _, _, hx, he => injection hx with hx; injection he with he; rw [← hx] at he; cases he
theorem sq_ok : Ok sqN sqE := by
  obtain ⟨E, h1, h2⟩ := ok_of_chk sq_chk
  rw [toI_inj h1]; exact h2
theorem sq_valid : Valid sqE := sq_ok.valid
theorem sq_sml : sml sqN (toI sqE) = 0 := by
  unfold sml
  rw [if_neg (by rw [sq_chk]; simp), if_neg (by decide)]

theorem dd_of {E : List (List Nat)} (hE : Valid E) {a k : Nat} {l : List Int} (ha : a < E.length) (hk : (bs E a k).q.length = k) (hp : ∀ i, i < k → ((bs E a i).q[i]?).isSome = true) (hl : dl E.length a (bs E a k).q = l) : dd E a = l := by
  rw [← hl]
  exact (dl_dists hE ha hk fun i hi => Option.isSome_iff_exists.1 (hp i hi)).eq.symm
theorem sq_dd0 : dd sqE 0 = [0, 1, 2, 1] := dd_of sq_valid (k := 4) (by decide) (by decide) (by decide) (by decide)
theorem sq_dd1 : dd sqE 1 = [1, 0, 1, 2] := dd_of sq_valid (k := 4) (by decide) (by decide) (by decide) (by decide)
theorem sq_dd2 : dd sqE 2 = [2, 1, 0, 1] := dd_of sq_valid (k := 4) (by decide) (by decide) (by decide) (by decide)
theorem sq_dd3 : dd sqE 3 = [1, 2, 1, 0] := dd_of sq_valid (k := 4) (by decide) (by decide) (by decide) (by decide)
theorem sq_dia : dia sqE = (2, 0) := by
  have h4 : sqE.length = 4 := rfl
  unfold dia
  rw [if_neg (by rw [h4]; decide), if_pos]
  · rw [h4]
    simp only [dm, sq_dd0, sq_dd1, sq_dd2, sq_dd3]
    rfl
  · rw [h4]
    intro i hi x hx
    match i, hi, hx with
    | 0, _, hx => rw [sq_dd0] at hx; simp at hx; omega
    | 1, _, hx => rw [sq_dd1] at hx; simp at hx; omega
    | 2, _, hx => rw [sq_dd2] at hx; simp at hx; omega
    | 3, _, hx => rw [sq_dd3] at hx; simp at hx; omega
theorem sq_far : far sqE 2 = fun v => [2, 1, 0, 1].getD v 0 := by
  funext v
  unfold far
  have e : bks sqE sqE.length = sqE := by decide
  rw [e, sq_dd2]
theorem sq_far0 : far sqE 2 0 = 2 := by rw [sq_far]; rfl
theorem sq_pth : pth sqE (far sqE 2) 0 2 = [0, 1, 2] := by rw [sq_far]; decide
theorem sq_tr : tr sqE 4 4 = 32 := by decide
theorem sq_prn : prn sqN sqE 4 = [97, 32, 49, 32, 51, 10, 98, 32, 48, 32, 50, 10, 99, 32, 49, 32, 51, 10, 100, 32, 48, 32, 50, 10] := by
  have d0 : Lib.decDigits 0 = [48] := by rw [Lib.decDigits]; rfl
  have d1 : Lib.decDigits 1 = [49] := by rw [Lib.decDigits]; rfl
  have d2 : Lib.decDigits 2 = [50] := by rw [Lib.decDigits]; rfl
  have d3 : Lib.decDigits 3 = [51] := by rw [Lib.decDigits]; rfl
  simp [prn, nums, sqN, sqE, gr, List.getD, d0, d1, d2, d3]
end Go.Proofs.YtpkjdnplmgfbbaaDoor
