/- The square of the examples. What is true of the square. A region that draws its order, in which two neighbours alone may change places. awake: the examples of the chapter. -/
import Derived.Test.YtpkjdnplmgfbbaaGreatDoorG9
import Derived.Test.YtpkjdnplmgfbbaaGreatDoorA1
import Derived.StillTailTactics
namespace Go.Proofs.YtpkjdnplmgfbbaaGreatDoor
open Go.RowKit

def sqN : List ByteArray := [⟨#[97]⟩, ⟨#[98]⟩, ⟨#[99]⟩, ⟨#[100]⟩]
def sqE : List (List Nat) := [[1, 3], [0, 2], [1, 3], [0, 2]]

theorem Rw.of_arr {w : World} {g n : Nat} {t : TypeId} {xs : List Value} (h : Arr w g t xs) (hn : xs.length = n) (hm : n ≤ maxLen) : Rw w (some ⟨g, 0, none⟩) n n xs :=
  ⟨hn, Nat.le_refl _, hm, fun _ => ⟨g, 0, rfl, fun j u hu => by rw [Nat.zero_add, h.cell]; exact hu⟩⟩
theorem Arr.at {w : World} {t : TypeId} {xs : List Value} {n : Nat} (h : w.heap.size = n) : Arr (w.alloc (.cells xs.toArray t)) n t xs := by subst h; exact Arr.new w t xs

theorem Il.of_arr {w : World} {g : Nat} {t : TypeId} {l : List Int} (h : Arr w g t (l.map (Value.int .i64))) (hs : ∀ x ∈ l, -9223372036854775808 ≤ x ∧ x ≤ 9223372036854775807) (hm : l.length ≤ maxLen) : Il w (some ⟨g, 0, none⟩) l.length l.length l :=
  ⟨Rw.of_arr h (by simp) hm, hs⟩
theorem alloc_size {w : World} {o : Obj} {n : Nat} (h : w.heap.size = n) : (w.alloc o).heap.size = n + 1 := by simp [h]

/-- The square in memory. -/
theorem sq_gr {w W : World} {n : Nat} (o0 : Obj) (hn : w.heap.size = n)
    (hW : W = (((((((w.alloc o0).alloc (.cells #[.string ⟨#[97]⟩, .string ⟨#[98]⟩, .string ⟨#[99]⟩, .string ⟨#[100]⟩] 9)).alloc (.cells #[.int .i64 1, .int .i64 3] 3)).alloc (.cells #[.int .i64 0, .int .i64 2] 3)).alloc (.cells #[.int .i64 1, .int .i64 3] 3)).alloc (.cells #[.int .i64 0, .int .i64 2] 3)).alloc
      (.cells #[.slice (some ⟨n + 1 + 1, 0, none⟩) 2 2, .slice (some ⟨n + 1 + 1 + 1, 0, none⟩) 2 2, .slice (some ⟨n + 1 + 1 + 1 + 1, 0, none⟩) 2 2, .slice (some ⟨n + 1 + 1 + 1 + 1 + 1, 0, none⟩) 2 2] 55))) :
    GrV W (.agg #[.slice (some ⟨n + 1, 0, none⟩) 4 4, .slice (some ⟨n + 1 + 1 + 1 + 1 + 1 + 1, 0, none⟩) 4 4]) sqN (toI sqE) ∧ Below n w W := by
  obtain ⟨w1, h1⟩ : ∃ w1, w1 = w.alloc o0 := ⟨_, rfl⟩
  rw [← h1] at hW
  have s1 : w1.heap.size = n + 1 := by rw [h1]; exact alloc_size hn
  have b1 : Below n w w1 := by rw [h1]; exact (Below.refl _ _).alloc (by omega) _
  obtain ⟨w2, h2⟩ : ∃ w2, w2 = w1.alloc (.cells #[.string ⟨#[97]⟩, .string ⟨#[98]⟩, .string ⟨#[99]⟩, .string ⟨#[100]⟩] 9) := ⟨_, rfl⟩
  rw [← h2] at hW
  have s2 : w2.heap.size = n + 1 + 1 := by rw [h2]; exact alloc_size s1
  have b2 : Below n w w2 := by rw [h2]; exact b1.alloc (by omega) _
  have a2 : Arr w2 (n + 1) 9 (sqN.map Value.string) := by rw [h2]; exact Arr.at s1
  obtain ⟨w3, h3⟩ : ∃ w3, w3 = w2.alloc (.cells #[.int .i64 1, .int .i64 3] 3) := ⟨_, rfl⟩
  rw [← h3] at hW
  have s3 : w3.heap.size = n + 1 + 1 + 1 := by rw [h3]; exact alloc_size s2
  have b3 : Below n w w3 := by rw [h3]; exact b2.alloc (by omega) _
  have a3 : Arr w3 (n + 1 + 1) 3 (([1, 3] : List Int).map (Value.int .i64)) := by rw [h3]; exact Arr.at s2
  have a23 : Arr w3 (n + 1) 9 (sqN.map Value.string) := by rw [h3]; exact a2.alloc _
  obtain ⟨w4, h4⟩ : ∃ w4, w4 = w3.alloc (.cells #[.int .i64 0, .int .i64 2] 3) := ⟨_, rfl⟩
  rw [← h4] at hW
  have s4 : w4.heap.size = n + 1 + 1 + 1 + 1 := by rw [h4]; exact alloc_size s3
  have b4 : Below n w w4 := by rw [h4]; exact b3.alloc (by omega) _
  have a4 : Arr w4 (n + 1 + 1 + 1) 3 (([0, 2] : List Int).map (Value.int .i64)) := by rw [h4]; exact Arr.at s3
  obtain ⟨w5, h5⟩ : ∃ w5, w5 = w4.alloc (.cells #[.int .i64 1, .int .i64 3] 3) := ⟨_, rfl⟩
  rw [← h5] at hW
  have s5 : w5.heap.size = n + 1 + 1 + 1 + 1 + 1 := by rw [h5]; exact alloc_size s4
  have b5 : Below n w w5 := by rw [h5]; exact b4.alloc (by omega) _
  have a5 : Arr w5 (n + 1 + 1 + 1 + 1) 3 (([1, 3] : List Int).map (Value.int .i64)) := by rw [h5]; exact Arr.at s4
  obtain ⟨w6, h6⟩ : ∃ w6, w6 = w5.alloc (.cells #[.int .i64 0, .int .i64 2] 3) := ⟨_, rfl⟩
  rw [← h6] at hW
  have s6 : w6.heap.size = n + 1 + 1 + 1 + 1 + 1 + 1 := by rw [h6]; exact alloc_size s5
  have b6 : Below n w w6 := by rw [h6]; exact b5.alloc (by omega) _
  have a6 : Arr w6 (n + 1 + 1 + 1 + 1 + 1) 3 (([0, 2] : List Int).map (Value.int .i64)) := by rw [h6]; exact Arr.at s5
  have k34 : Below w3.heap.size w3 w4 := by rw [h4]; exact (Below.refl _ _).alloc (Nat.le_refl _) _
  have k45 : Below w4.heap.size w4 w5 := by rw [h5]; exact (Below.refl _ _).alloc (Nat.le_refl _) _
  have k56 : Below w5.heap.size w5 w6 := by rw [h6]; exact (Below.refl _ _).alloc (Nat.le_refl _) _
  have k6 : Below w6.heap.size w6 W := by rw [hW]; exact (Below.refl _ _).alloc (Nat.le_refl _) _
  have a7 : Arr W (n + 1 + 1 + 1 + 1 + 1 + 1) 55 [.slice (some ⟨n + 1 + 1, 0, none⟩) 2 2, .slice (some ⟨n + 1 + 1 + 1, 0, none⟩) 2 2, .slice (some ⟨n + 1 + 1 + 1 + 1, 0, none⟩) 2 2, .slice (some ⟨n + 1 + 1 + 1 + 1 + 1, 0, none⟩) 2 2] := by rw [hW]; exact Arr.at s6
  have r1 := ((((a23.below' k34).below' k45).below' k56).below' k6)
  have q3 := ((((a3.below' k34).below' k45).below' k56).below' k6)
  have q4 := (((a4.below' k45).below' k56).below' k6)
  have q5 := ((a5.below' k56).below' k6)
  have q6 := (a6.below' k6)
  have sm : ∀ l : List Int, (∀ x ∈ l, x = 0 ∨ x = 1 ∨ x = 2 ∨ x = 3) → ∀ x ∈ l, -9223372036854775808 ≤ x ∧ x ≤ 9223372036854775807 := fun l h x hx => by have := h x hx; omega
  refine ⟨⟨_, 4, _, 4, rfl, ⟨Rw.of_arr r1 rfl (by unfold maxLen; decide), ?_⟩, ⟨_, Rw.of_arr a7 rfl (by unfold maxLen; decide), rfl, ?_⟩⟩, b6.trans (k6.mono (by omega))⟩
  · intro s hs
    simp only [sqN, List.mem_cons, List.not_mem_nil, or_false] at hs
    rcases hs with rfl | rfl | rfl | rfl <;> (unfold maxLen; decide)
  · intro i v l hv hl
    match i, hv, hl with
    | 0, hv, hl =>
      injection hv with hv; injection hl with hl; subst hv hl
      exact ⟨_, 2, rfl, Il.of_arr q3 (sm _ (by simp)) (by unfold maxLen; decide)⟩
    | 1, hv, hl =>
      injection hv with hv; injection hl with hl; subst hv hl
      exact ⟨_, 2, rfl, Il.of_arr q4 (sm _ (by simp)) (by unfold maxLen; decide)⟩
    | 2, hv, hl =>
      injection hv with hv; injection hl with hl; subst hv hl
      exact ⟨_, 2, rfl, Il.of_arr q5 (sm _ (by simp)) (by unfold maxLen; decide)⟩
    | 3, hv, hl =>
      injection hv with hv; injection hl with hl; subst hv hl
      exact ⟨_, 2, rfl, Il.of_arr q6 (sm _ (by simp)) (by unfold maxLen; decide)⟩
    | i + 4, hv, hl => simp at hv

set_option maxHeartbeats 1000000 in
theorem Square_any {w : World} : Calls Tryz.prog 23 #[] w (Gives w fun w' v => GrV w' v sqN (toI sqE)) := by
  obtain ⟨h1, h2⟩ := sq_gr (w := w) (W := _) (.cells #[.slice (some ⟨w.heap.size + 1, 0, none⟩) 4 4, .slice (some ⟨w.heap.size + 1 + 1 + 1 + 1 + 1 + 1, 0, none⟩) 4 4] 25) rfl rfl
  go_enter Tryz.func23, Tryz.ntmps23
  go_wp2_with fail
  exact bodyPost_ret (v := .agg #[.slice (some ⟨w.heap.size + 1, 0, none⟩) 4 4, .slice (some ⟨w.heap.size + 1 + 1 + 1 + 1 + 1 + 1, 0, none⟩) 4 4]) (by simp [results, Tryz.results23, go_sem]) rfl ⟨_, rfl, h1, h2⟩
end Go.Proofs.YtpkjdnplmgfbbaaGreatDoor

namespace Go.Proofs.YtpkjdnplmgfbbaaGreatDoor
open Go.RowKit

theorem toI_inj {E F : List (List Nat)} (h : toI E = toI F) : E = F := by
  have e : ∀ E : List (List Nat), (toI E).map (·.map Int.toNat) = E := by
    intro E
    unfold toI
    rw [List.map_map]
    refine (List.map_congr_left (g := id) fun l _ => ?_).trans (List.map_id _)
    show List.map _ (List.map _ l) = l
    rw [List.map_map]
    exact (List.map_congr_left (g := id) fun x _ => by simp).trans (List.map_id _)
  rw [← e E, h, e F]

theorem sq_name : ∀ s ∈ sqN, nameB s = true := by
  intro s hs
  refine nameB_true.2 ?_
  simp only [sqN, List.mem_cons, List.not_mem_nil, or_false] at hs
  rcases hs with rfl | rfl | rfl | rfl <;> exact ⟨by decide, by decide, by intro b hb; simp at hb; subst hb; exact ⟨by decide, by decide⟩⟩
theorem sq_chk : chk sqN (toI sqE) = 0 := by
  refine chk_ok rfl (by decide) fun i hi => ?_
  have hi4 : i < 4 := hi
  obtain ⟨x, hx⟩ : ∃ x, sqN[i]? = some x := ⟨_, List.getElem?_eq_getElem hi⟩
  have hr : ∀ l, (toI sqE)[i]? = some l → rowC sqN.length l = 0 := by
    intro l hl
    match i, hi4, hl with
    | 0, _, hl => injection hl with hl; subst hl; decide
    | 1, _, hl => injection hl with hl; subst hl; decide
    | 2, _, hl => injection hl with hl; subst hl; decide
    | 3, _, hl => injection hl with hl; subst hl; decide
  obtain ⟨l, hl⟩ : ∃ l, (toI sqE)[i]? = some l := ⟨_, List.getElem?_eq_getElem (show i < (toI sqE).length from hi4)⟩
  rw [atC_row hx (sq_name x (List.mem_of_getElem? hx)) hl, hr l hl]
  intro j hj he
  match i, j, hi4, hj, hx, he with
  | 1, 0, _, _, hx, he => injection hx with hx; injection he with he; rw [← hx] at he; cases he
  | 2, 0, _, _, hx, he => injection hx with hx; injection he with he; rw [← hx] at he; cases he
  | 2, 1, _, _, hx, he => injection hx with hx; injection he with he; rw [← hx] at he; cases he
  | 3, 0, _, _, hx, he => injection hx with hx; injection he with he; rw [← hx] at he; cases he
  | 3, 1, _, _, hx, he => injection hx with hx; injection he with he; rw [← hx] at he; cases he
  | 3, 2, _, _, hx, he => injection hx with hx; injection he with he; rw [← hx] at he; cases he
theorem sq_ok : Ok sqN sqE := by
  obtain ⟨E, h1, h2⟩ := ok_of_chk sq_chk
  rw [toI_inj h1]; exact h2
theorem sq_valid : Valid sqE := sq_ok.valid
theorem sq_sml : sml sqN (toI sqE) = 0 := by
  unfold sml
  rw [if_neg (by rw [sq_chk]; simp), if_neg (by decide)]

theorem dd_of {E : List (List Nat)} (hE : Valid E) {a k : Nat} {l : List Int} (ha : a < E.length) (hk : (bs E a k).q.length = k) (hp : ∀ i, i < k → ((bs E a i).q[i]?).isSome = true) (hl : dl E.length a (bs E a k).q = l) : dd E a = l := by
  rw [← hl]
  exact (dl_dists hE ha hk fun i hi => Option.isSome_iff_exists.1 (hp i hi)).eq.symm
theorem sq_dd0 : dd sqE 0 = [0, 1, 2, 1] := dd_of sq_valid (k := 4) (by decide) (by decide) (by decide) (by decide)
theorem sq_dd1 : dd sqE 1 = [1, 0, 1, 2] := dd_of sq_valid (k := 4) (by decide) (by decide) (by decide) (by decide)
theorem sq_dd2 : dd sqE 2 = [2, 1, 0, 1] := dd_of sq_valid (k := 4) (by decide) (by decide) (by decide) (by decide)
theorem sq_dd3 : dd sqE 3 = [1, 2, 1, 0] := dd_of sq_valid (k := 4) (by decide) (by decide) (by decide) (by decide)
theorem sq_dia : dia sqE = (2, 0) := by
  have h4 : sqE.length = 4 := rfl
  unfold dia
  rw [if_neg (by rw [h4]; decide), if_pos]
  · rw [h4]
    simp only [dm, sq_dd0, sq_dd1, sq_dd2, sq_dd3]
    rfl
  · rw [h4]
    intro i hi x hx
    match i, hi, hx with
    | 0, _, hx => rw [sq_dd0] at hx; simp at hx; omega
    | 1, _, hx => rw [sq_dd1] at hx; simp at hx; omega
    | 2, _, hx => rw [sq_dd2] at hx; simp at hx; omega
    | 3, _, hx => rw [sq_dd3] at hx; simp at hx; omega
theorem sq_far : far sqE 2 = fun v => [2, 1, 0, 1].getD v 0 := by
  funext v
  unfold far
  have e : bks sqE sqE.length = sqE := by decide
  rw [e, sq_dd2]
theorem sq_far0 : far sqE 2 0 = 2 := by rw [sq_far]; rfl
theorem sq_pth : pth sqE (far sqE 2) 0 2 = [0, 1, 2] := by rw [sq_far]; decide
theorem sq_tr : tr sqE 4 4 = 32 := by decide
theorem sq_prn : prn sqN sqE 4 = [97, 32, 49, 32, 51, 10, 98, 32, 48, 32, 50, 10, 99, 32, 49, 32, 51, 10, 100, 32, 48, 32, 50, 10] := by
  have d0 : Lib.decDigits 0 = [48] := by rw [Lib.decDigits]; rfl
  have d1 : Lib.decDigits 1 = [49] := by rw [Lib.decDigits]; rfl
  have d2 : Lib.decDigits 2 = [50] := by rw [Lib.decDigits]; rfl
  have d3 : Lib.decDigits 3 = [51] := by rw [Lib.decDigits]; rfl
  simp [prn, nums, sqN, sqE, gr, List.getD, d0, d1, d2, d3]
end Go.Proofs.YtpkjdnplmgfbbaaGreatDoor

namespace Go.Proofs.YtpkjdnplmgfbbaaGreatDoor
open Go.RowKit

def swap2 {α : Type} : List α → List α
  | a :: b :: r => b :: a :: r
  | l => l
def seqN (md : Region.Mode) (ops : Array Oper) : Nat → Nat → Array Bool → Bool
  | 0, _, _ => true
  | f + 1, k, listed => decide (Region.ready md ops listed = [k]) && seqN md ops f (k + 1) (listed.setIfInBounds k true)
def aft : Nat → Nat → Array Bool → Array Bool
  | 0, _, listed => listed
  | f + 1, k, listed => aft f (k + 1) (listed.setIfInBounds k true)

section
variable {P : Program} {ops : Array Oper} {Q : Exit → Act → World → Prop} {md : Region.Mode}
theorem upon_then (o : Oper) (a : Act) (next R : Act → World → Prop) (r : Result Next) (h : o.upon P a next (Exit.then R Q) r) : o.upon P a next Q r := by
  unfold Oper.upon at h ⊢
  split at h <;> first | exact h | skip
  all_goals
    refine Calls.mono h ?_
    intro e w'' hh
    cases e <;> exact hh
theorem wpOp_of_list {o : Oper} {k : Nat} {a : Act} {w : World} {R : Act → World → Prop} {rest : List Oper} (ho : ops[k]? = some o) (h : wpList P ops (Exit.then R Q) (o :: rest) a w) : wpOp P ops Q k (wpList P ops (Exit.then R Q) rest) a w := by
  unfold wpOp
  simp only [ho]
  unfold wpList at h
  split
  · rename_i hw
    rw [if_pos hw] at h
    rcases h with h | ⟨h1, h2⟩
    · exact .inl (upon_then o a _ R _ h)
    · exact .inr ⟨h1, h2⟩
  · rename_i hw
    rw [if_neg hw] at h
    exact h
theorem wpAny_pre {g : Nat} : ∀ (pre : List Oper) (k : Nat) (listed : Array Bool) (a : Act) (w : World), (∀ j, j < pre.length → pre[j]? = ops[k + j]?) → seqN md ops pre.length k listed = true →
    wpList P ops (Exit.then (fun a' w' => wpAny P md ops Q g (aft pre.length k listed) a' w') Q) pre a w → wpAny P md ops Q (g + pre.length) listed a w
  | [], _, _, _, _, _, _, h => h
  | o :: l, k, listed, a, w, hl, hB, h => by
    have h0 : ops[k]? = some o := by simpa using (hl 0 (by simp)).symm
    simp only [List.length_cons, seqN, Bool.and_eq_true, decide_eq_true_eq] at hB
    refine ⟨fun h1 => (by rw [hB.1] at h1; cases h1), fun i hi => ?_⟩
    rw [hB.1] at hi
    have hik : i = k := by simpa using hi
    subst hik
    exact wpOp_mono (fun a' w' h' => wpAny_pre l (i + 1) _ a' w' (fun j hj => by have := hl (j + 1) (by simp; omega); simpa [Nat.add_assoc, Nat.add_comm 1 j] using this) hB.2 h') (wpOp_of_list h0 h)

theorem then_upon (o : Oper) (a : Act) (next R : Act → World → Prop) (r : Result Next) (h : o.upon P a next Q r) : o.upon P a next (Exit.then R Q) r := by
  unfold Oper.upon at h ⊢
  split at h <;> first | exact h | skip
  all_goals
    refine Calls.mono h ?_
    intro e w'' hh
    cases e <;> exact hh
theorem wpList_then_mono {R R' : Act → World → Prop} (hR : ∀ a w, R a w → R' a w) : ∀ (l' : List Oper) (a' : Act) (w' : World), wpList P ops (Exit.then R Q) l' a' w' → wpList P ops (Exit.then R' Q) l' a' w'
  | [], _, _, hh => hR _ _ hh
  | o :: l', a', w', hh => by
    unfold wpList at hh ⊢
    split
    · rename_i hw
      rw [if_pos hw] at hh
      rcases hh with hh | ⟨hh, hh2⟩
      · exact .inl (then_upon o a' _ R' _ (Oper.wp_mono (fun a w hh => wpList_then_mono hR l' a w hh) (upon_then o a' _ R _ hh)))
      · exact .inr ⟨hh, hh2⟩
    · rename_i hw
      rw [if_neg hw] at hh
      exact wpList_then_mono hR l' _ _ hh

/-- Two neighbours that may change places. -/
theorem wpAny_dia {g n : Nat} {listed : Array Bool} {o1 o2 : Oper} {a : Act} {w : World} (g1 : ops[n]? = some o1) (g2 : ops[n + 1]? = some o2) (hr : Region.ready md ops listed = [n, n + 1]) (hr1 : Region.ready md ops (listed.setIfInBounds n true) = [n + 1]) (hr2 : Region.ready md ops (listed.setIfInBounds (n + 1) true) = [n])
    (h1 : wpList P ops (Exit.then (fun a' w' => wpAny P md ops Q g ((listed.setIfInBounds n true).setIfInBounds (n + 1) true) a' w') Q) [o1, o2] a w)
    (h2 : wpList P ops (Exit.then (fun a' w' => wpAny P md ops Q g ((listed.setIfInBounds n true).setIfInBounds (n + 1) true) a' w') Q) [o2, o1] a w) : wpAny P md ops Q (g + 2) listed a w := by
  refine ⟨fun hh => (by rw [hr] at hh; cases hh), fun i hi => ?_⟩
  rw [hr] at hi
  simp only [List.mem_cons, List.not_mem_nil, or_false] at hi
  rcases hi with rfl | rfl
  · refine wpOp_mono (fun a2 w2 hw2 => ?_) (wpOp_of_list g1 h1)
    refine ⟨fun hh => (by rw [hr1] at hh; cases hh), fun j hj => ?_⟩
    rw [hr1] at hj
    have hin : j = i + 1 := by simpa using hj
    subst hin
    exact wpOp_mono (fun a3 w3 hw3 => hw3) (wpOp_of_list g2 hw2)
  · refine wpOp_mono (fun a2 w2 hw2 => ?_) (wpOp_of_list g2 h2)
    refine ⟨fun hh => (by rw [hr2] at hh; cases hh), fun j hj => ?_⟩
    rw [hr2] at hj
    have hin : j = n := by simpa using hj
    subst hin
    refine wpOp_mono (fun a3 w3 hw3 => ?_) (wpOp_of_list g1 hw2)
    rw [Array.setIfInBounds_comm _ _ (show j + 1 ≠ j by omega)]
    exact hw3

/-- A region in pieces: each is gone through in its order; of those that are marked, the two operations in either order. -/
def planW (P : Program) (ops : Array Oper) (Q : Exit → Act → World → Prop) : List (List Oper × Bool) → Act → World → Prop
  | [], a, w => Q .normal a w
  | (seg, b) :: r, a, w => wpList P ops (Exit.then (planW P ops Q r) Q) seg a w ∧ (b = true → wpList P ops (Exit.then (planW P ops Q r) Q) (swap2 seg) a w)
def planB (md : Region.Mode) (ops : Array Oper) : List (Nat × Bool) → Nat → Array Bool → Bool
  | [], _, listed => (Region.ready md ops listed).isEmpty
  | (n, false) :: r, k, listed => seqN md ops n k listed && planB md ops r (k + n) (aft n k listed)
  | (n, true) :: r, k, listed => decide (n = 2) && decide (Region.ready md ops listed = [k, k + 1]) && decide (Region.ready md ops (listed.setIfInBounds k true) = [k + 1]) && decide (Region.ready md ops (listed.setIfInBounds (k + 1) true) = [k]) && planB md ops r (k + n) (aft n k listed)
def total : List (List Oper × Bool) → Nat
  | [] => 0
  | p :: r => total r + p.1.length
theorem flat_tail {seg : List Oper} {b : Bool} {r : List (List Oper × Bool)} {k : Nat} (hl : ∀ j, (((seg, b) :: r).flatMap (·.1))[j]? = ops[k + j]?) : ∀ j, (r.flatMap (·.1))[j]? = ops[k + seg.length + j]? := by
  intro j
  have h := hl (seg.length + j)
  rw [List.flatMap_cons] at h
  have h2 : (seg ++ r.flatMap (·.1))[seg.length + j]? = (r.flatMap (·.1))[j]? := by rw [List.getElem?_append_right (by omega), Nat.add_sub_cancel_left]
  rw [← h2, Nat.add_assoc]
  exact h
theorem flat_head {seg : List Oper} {b : Bool} {r : List (List Oper × Bool)} {k : Nat} (hl : ∀ j, (((seg, b) :: r).flatMap (·.1))[j]? = ops[k + j]?) : ∀ j, j < seg.length → seg[j]? = ops[k + j]? := by
  intro j hj
  have h := hl j
  rw [List.flatMap_cons] at h
  have h2 : (seg ++ r.flatMap (·.1))[j]? = seg[j]? := List.getElem?_append_left hj
  rw [← h2]
  exact h
theorem two_of {seg : List Oper} (h : seg.length = 2) : ∃ o1 o2, seg = [o1, o2] := by
  rcases seg with _ | ⟨o1, _ | ⟨o2, _ | ⟨o3, r⟩⟩⟩
  · simp at h
  · simp at h
  · exact ⟨o1, o2, rfl⟩
  · simp at h
theorem wpAny_plan (pl : List (List Oper × Bool)) : ∀ (k : Nat) (listed : Array Bool) (a : Act) (w : World), (∀ j, (pl.flatMap (·.1))[j]? = ops[k + j]?) → planB md ops (pl.map fun p => (p.1.length, p.2)) k listed = true → planW P ops Q pl a w → wpAny P md ops Q (total pl) listed a w := by
  induction pl with
  | nil => intro k listed a w _ hB h; exact ⟨by simpa [planB] using hB, h⟩
  | cons p r ih =>
    intro k listed a w hl hB h
    obtain ⟨seg, b⟩ := p
    have ht := flat_tail hl
    have hh := flat_head hl
    rw [planW] at h
    rw [total]
    cases b with
    | false =>
      simp only [List.map_cons, planB, Bool.and_eq_true] at hB
      exact wpAny_pre seg k listed a w hh hB.1 (wpList_then_mono (fun a' w' h' => ih _ _ a' w' ht hB.2 h') seg a w h.1)
    | true =>
      simp only [List.map_cons, planB, Bool.and_eq_true, decide_eq_true_eq] at hB
      obtain ⟨⟨⟨⟨h2, hr⟩, hr1⟩, hr2⟩, hB⟩ := hB
      obtain ⟨o1, o2, rfl⟩ := two_of h2
      have himp : ∀ a' w', planW P ops Q r a' w' → wpAny P md ops Q (total r) ((listed.setIfInBounds k true).setIfInBounds (k + 1) true) a' w' := fun a' w' h' => ih _ _ a' w' ht hB h'
      exact wpAny_dia (hh 0 (by simp)).symm (hh 1 (by simp)).symm hr hr1 hr2 (wpList_then_mono himp _ a w h.1) (wpList_then_mono himp _ a w (h.2 rfl))

def segs : List Oper → List (Nat × Bool) → List (List Oper × Bool)
  | _, [] => []
  | l, (n, b) :: r => (l.take n, b) :: segs (l.drop n) r
def covers : List (Nat × Bool) → Nat → Bool
  | [], n => n == 0
  | (m, _) :: r, n => decide (m ≤ n) && covers r (n - m)
theorem segs_flat : ∀ (pl : List (Nat × Bool)) (l : List Oper), covers pl l.length = true → (segs l pl).flatMap (·.1) = l ∧ total (segs l pl) = l.length ∧ (segs l pl).map (fun p => (p.1.length, p.2)) = pl
  | [], l, h => by
    have : l = [] := by cases l with
      | nil => rfl
      | cons a r => simp [covers] at h
    subst this; exact ⟨rfl, rfl, rfl⟩
  | (m, b) :: r, l, h => by
    simp only [covers, Bool.and_eq_true, decide_eq_true_eq] at h
    obtain ⟨i1, i2, i3⟩ := segs_flat r (l.drop m) (by rw [List.length_drop]; exact h.2)
    have hlen : (l.take m).length = m := by rw [List.length_take]; omega
    refine ⟨by simp only [segs, List.flatMap_cons, i1, List.take_append_drop], ?_, ?_⟩
    · simp only [segs, total, i2, hlen, List.length_drop]; omega
    · simp only [segs, List.map_cons, i3, hlen]

/-- A region that draws its order, by a plan: the lengths of its pieces, those marked in which two neighbours may change places. -/
theorem wp_region_plan {id : Nat} {a : Act} {w : World} {l : List Oper} (pl : List (Nat × Bool)) (hm : P.follows .mixedOrders = true) (hc : covers pl l.length = true) (hB : planB .any l.toArray pl 0 (Array.replicate l.length false) = true)
    (h : planW P l.toArray Q (segs l pl) a { w with drawn := w.drawn + 1 }) : (Code.region id l.toArray true).wp P Q a w := by
  obtain ⟨h1, h2, h3⟩ := segs_flat pl l hc
  refine wp_region_any hm ?_
  have hsz : l.toArray.size = l.length := by simp
  have := wpAny_plan (P := P) (Q := Q) (md := .any) (ops := l.toArray) (segs l pl) 0 (Array.replicate l.length false) a { w with drawn := w.drawn + 1 } (fun j => by rw [h1]; simp) (by rw [h3]; exact hB) h
  rw [h2] at this
  rw [hsz]
  exact this
theorem planW_seg {seg : List Oper} {r : List (List Oper × Bool)} {a : Act} {w : World} (h : wpList P ops (Exit.then (planW P ops Q r) Q) seg a w) : planW P ops Q ((seg, false) :: r) a w := ⟨h, fun h => by cases h⟩
theorem planW_two {o1 o2 : Oper} {r : List (List Oper × Bool)} {a : Act} {w : World} (h1 : wpList P ops (Exit.then (planW P ops Q r) Q) [o1, o2] a w) (h2 : wpList P ops (Exit.then (planW P ops Q r) Q) [o2, o1] a w) : planW P ops Q (([o1, o2], true) :: r) a w := ⟨h1, fun _ => h2⟩
theorem planW_nil {a : Act} {w : World} (h : Q .normal a w) : planW P ops Q [] a w := h
end
end Go.Proofs.YtpkjdnplmgfbbaaGreatDoor

namespace Go.Proofs.YtpkjdnplmgfbbaaGreatDoor
open Go.RowKit

theorem sq_Diameter {w : World} {v : Value} (h : GrV w v sqN (toI sqE)) : Calls Tryz.prog 22 #[v] w fun e w' => e = .returned (.tuple #[.int .i64 2, .int .i64 0]) ∧ Below w.heap.size w w' := by
  refine (Diameter_ok h sq_chk sq_ok).mono ?_
  rintro e w' ⟨rfl, hb⟩
  rw [sq_dia]
  exact ⟨rfl, hb⟩
theorem sq_Path {w : World} {v : Value} (h : GrV w v sqN (toI sqE)) : Calls Tryz.prog 24 #[v, .int .i64 0, .int .i64 2] w fun e w' => ∃ A c, e = .returned (.tuple #[.slice A 3 c, .int .i64 0]) ∧ Il w' A 3 c [0, 1, 2] ∧ Below w.heap.size w w' := by
  refine (Path_ok h sq_chk sq_ok (a := 0) (t := 2) (by decide) (by decide)).mono ?_
  rintro e w' ⟨⟨h1, _⟩ | ⟨_, A, c, rfl, h3⟩, hb⟩
  · rw [sq_far0] at h1; omega
  · rw [sq_far0] at h3 ⊢
    have e2 : (2 : Int).toNat = 2 := rfl
    rw [e2, sq_pth] at h3
    exact ⟨A, c, rfl, h3, hb⟩
theorem sq_Closed {w : World} {v : Value} (h : GrV w v sqN (toI sqE)) : Calls Tryz.prog 25 #[v, .int .i64 4] w fun e w' => ∃ neg A m c, e = .returned (.tuple #[.agg #[.bool neg, .slice A m c], .int .i64 0]) ∧ NIntV w' (fun _ => True) (.agg #[.bool neg, .slice A m c]) 32 ∧ Below w.heap.size w w' := by
  refine (Closed_ok h sq_sml sq_ok (n := 4) (by omega)).mono ?_
  rintro e w' ⟨v', rfl, h2, hb⟩
  have e4 : sqE.length = 4 := rfl
  rw [e4, sq_tr] at h2
  obtain ⟨A, c, rfl, h3⟩ := h2
  exact ⟨_, A, _, c, rfl, ⟨A, c, rfl, h3.mono fun _ _ _ => trivial⟩, hb⟩
theorem sq_Print {w : World} {v : Value} (h : GrV w v sqN (toI sqE)) : Calls Tryz.prog 20 #[v] w fun e w' => e = .returned (.tuple #[.string ⟨#[97, 32, 49, 32, 51, 10, 98, 32, 48, 32, 50, 10, 99, 32, 49, 32, 51, 10, 100, 32, 48, 32, 50, 10]⟩, .int .i64 0]) ∧ Below w.heap.size w w' := by
  refine (Print_ok h sq_chk sq_ok (by decide)).mono ?_
  rintro e w' ⟨rfl, hb⟩
  have e4 : sqE.length = 4 := rfl
  rw [e4, sq_prn]
  exact ⟨rfl, hb⟩
theorem ints012 {w : World} {A B : Option Addr} {c c' : Nat} (h : Il w A 3 c [0, 1, 2]) (h' : Il w B 3 c' [0, 1, 2]) : Calls Tryz.prog 26 #[.slice A 3 c, .slice B 3 c'] w fun e w' => e = .returned (.bool true) ∧ Below w.heap.size w w' := by
  refine (Ints_any h h').mono ?_
  rintro e w' ⟨rfl, hb⟩
  exact ⟨rfl, hb⟩
theorem same32 {w : World} {D D' : Nat → Prop} {v v' : Value} (h : NIntV w D v 32) (h' : NIntV w D' v' 32) : Calls Tryz.prog 16 #[v, v'] w fun e w' => e = .returned (.bool true) ∧ Below w.heap.size w w' := by
  refine (SameInt_any h h').mono ?_
  rintro e w' ⟨rfl, hb⟩
  exact ⟨rfl, hb⟩

theorem of32 {w : World} : Calls Tryz.prog 12 #[.int .i64 32] w fun e w' => ∃ neg A m c, e = .returned (.agg #[.bool neg, .slice A m c]) ∧ NIntV w' (fun _ => True) (.agg #[.bool neg, .slice A m c]) 32 ∧ Below w.heap.size w w' := by
  refine (rOf_any 32 w (by omega) (by omega)).mono ?_
  rintro e w' ⟨v', rfl, ⟨A, c, rfl, h3⟩, hb⟩
  exact ⟨_, A, _, c, rfl, ⟨A, c, rfl, h3.mono fun _ _ _ => trivial⟩, hb⟩

set_option maxHeartbeats 4000000 in
set_option maxRecDepth 100000 in
theorem awake_any {w : World} : Calls Tryz.prog 7 #[] w fun e w' => e = .returned (.bool true) ∧ Below w.heap.size w w' := by
  go_enter Tryz.func7, Tryz.ntmps7
  go_wp2_with fail
  refine Square_any.mono ?_
  rintro e w1 ⟨v1, rfl, hg1, hb1⟩
  obtain ⟨A1, c1, B1, d1, rfl, _, _⟩ := id hg1
  go_wp2_with fail
  refine (sq_Diameter hg1).mono ?_
  rintro e w2 ⟨rfl, hb2⟩
  replace hb2 := hb1.trans (hb2.mono hb1.size)
  clear hg1 hb1
  go_wp2_with fail
  refine Square_any.mono ?_
  rintro e w3 ⟨v3, rfl, hg3, hb3⟩
  obtain ⟨A3, c3, B3, d3, rfl, _, _⟩ := id hg3
  replace hb3 := hb2.trans (hb3.mono hb2.size)
  go_wp2_with fail
  refine (sq_Path hg3).mono ?_
  rintro e w4 ⟨P4, p4, rfl, hil4, hb4⟩
  replace hb4 := hb3.trans (hb4.mono hb3.size)
  clear hg3 hb3 hb2
  go_wp2_with fail
  refine Square_any.mono ?_
  rintro e w5 ⟨v5, rfl, hg5, hb5⟩
  obtain ⟨A5, c5, B5, d5, rfl, _, _⟩ := id hg5
  replace hil4 := hil4.below hb5
  replace hb5 := hb4.trans (hb5.mono hb4.size)
  go_wp2_with fail
  refine (sq_Closed hg5).mono ?_
  rintro e w6 ⟨neg, A6, m6, c6, rfl, hn6, hb6⟩
  replace hil4 := hil4.below hb6
  replace hb6 := hb5.trans (hb6.mono hb5.size)
  clear hg5 hb5 hb4
  obtain ⟨w7, N, hw7, hN⟩ : ∃ w7 N, w7 = w6.alloc (.cells #[.bool neg, .slice A6 m6 c6] 39) ∧ N = w6.heap.size := ⟨_, _, rfl, rfl⟩
  have x0 : w7.cell? ⟨N, 0, none⟩ = some (.bool neg) := by rw [hw7, hN]; go_simp
  have x1 : w7.cell? ⟨N, 1, none⟩ = some (.slice A6 m6 c6) := by rw [hw7, hN]; go_simp
  have hb67 : Below w6.heap.size w6 w7 := by rw [hw7]; exact (Below.refl _ _).alloc (Nat.le_refl _) _
  replace hil4 := hil4.below hb67
  replace hn6 := hn6.below hb67
  replace hb6 := hb6.trans (hb67.mono hb6.size)
  go_wp2_with fail
  rw [← hw7, ← hN]
  clear hw7 hN hb67
  refine Square_any.mono ?_
  rintro e w8 ⟨v8, rfl, hg8, hb8⟩
  obtain ⟨A8, c8, B8, d8, rfl, _, _⟩ := id hg8
  replace hil4 := hil4.below hb8
  replace hn6 := hn6.below hb8
  replace x0 := (hb8.cell (p := ⟨N, 0, none⟩) (cell_some_lt x0)).trans x0
  replace x1 := (hb8.cell (p := ⟨N, 1, none⟩) (cell_some_lt x1)).trans x1
  replace hb8 := hb6.trans (hb8.mono hb6.size)
  go_wp2_with fail
  refine (sq_Print hg8).mono ?_
  rintro e w9 ⟨rfl, hb9⟩
  replace hil4 := hil4.below hb9
  replace hn6 := hn6.below hb9
  replace x0 := (hb9.cell (p := ⟨N, 0, none⟩) (cell_some_lt x0)).trans x0
  replace x1 := (hb9.cell (p := ⟨N, 1, none⟩) (cell_some_lt x1)).trans x1
  replace hb9 := hb8.trans (hb9.mono hb8.size)
  clear hg8 hb8 hb6
  have hN9 := cell_some_lt x0
  go_wp2_with fail
  have HIL := Lib.hid hil4
  have HN6 := Lib.hid hn6
  clear hil4 hn6
  refine wp_region_plan [(11, false), (2, true), (7, false), (2, true), (11, false)] (by kernel_rfl) (by decide) (by kernel_rfl) ?_
  simp only [segs, List.take_succ_cons, List.take_zero, List.drop_succ_cons, List.drop_zero, List.take_nil]
  have hil9 : Il w9.drew P4 3 p4 [0, 1, 2] := HIL.out.below ((Below.refl _ _).drew)
  have hn9 : NIntV w9.drew (fun _ => True) (.agg #[.bool neg, .slice A6 m6 c6]) 32 := HN6.out.below ((Below.refl _ _).drew)
  have y0 : w9.drew.cell? ⟨N, 0, none⟩ = some (.bool neg) := x0
  have y1 : w9.drew.cell? ⟨N, 1, none⟩ = some (.slice A6 m6 c6) := x1
  have hb10 : Below w.heap.size w w9.drew := hb9.drew
  have hN10 : N < w9.drew.heap.size := hN9
  change planW _ _ _ _ _ w9.drew
  clear HIL HN6 x0 x1 hb9 hN9
  generalize w9.drew = w10 at *
  obtain ⟨W9, hW9⟩ : ∃ W9, W9 = w10.alloc (.cells #[.int .i64 0, .int .i64 1, .int .i64 2] 3) := ⟨_, rfl⟩
  have hb11 : Below w10.heap.size w10 W9 := by rw [hW9]; exact (Below.refl _ _).alloc (Nat.le_refl _) _
  have har10 : Arr W9 w10.heap.size 3 (([0, 1, 2] : List Int).map (Value.int .i64)) := by rw [hW9]; exact Arr.at rfl
  have HI := Lib.hid (ints012 (hil9.below hb11) (Il.of_arr har10 (by simp) (by unfold maxLen; decide)))
  have HW9 := Lib.hid hW9
  have HN9 := Lib.hid hn9
  clear hW9 hil9 hn9 har10
  refine planW_seg ?_
  go_wp2_with fail
  refine planW_two ?_ ?_
  all_goals
    go_wp2_with fail
    refine planW_seg ?_
    go_wp2_with (go_at_call 26; rw [← HW9.out]; refine HI.out.mono ?_; rintro e w11 ⟨rfl, hb12⟩)
    have hB11 := hb11.trans (hb12.mono hb11.size)
    have u0 := (hB11.cell (p := ⟨N, 0, none⟩) hN10).trans y0
    have u1 := (hB11.cell (p := ⟨N, 1, none⟩) hN10).trans y1
    have hN11 := Nat.lt_of_lt_of_le hN10 hB11.size
    refine planW_two ?_ ?_
    all_goals
      go_wp2_with (go_at_call 12; refine of32.mono ?_; rintro e w12 ⟨n12, A12, m12, c12, rfl, hn12, hb13⟩; have hB12 := hB11.trans (hb13.mono hB11.size); have t0 := (hb13.cell (p := ⟨N, 0, none⟩) hN11).trans u0; have t1 := (hb13.cell (p := ⟨N, 1, none⟩) hN11).trans u1)
      refine planW_seg ?_
      go_wp2_with (go_at_call 16; refine (same32 (HN9.out.below hB12) hn12).mono ?_; rintro e w13 ⟨rfl, hb14⟩)
      refine planW_nil ?_
      go_wp2_with fail
      go_ret
      exact ⟨rfl, (hb10.trans (hB12.mono hb10.size)).trans (hb14.mono (Nat.le_trans hb10.size hB12.size))⟩
end Go.Proofs.YtpkjdnplmgfbbaaGreatDoor
