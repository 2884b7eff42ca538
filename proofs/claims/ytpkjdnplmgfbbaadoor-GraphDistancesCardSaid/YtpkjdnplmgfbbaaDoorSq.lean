/- The square of the examples. -/
import Derived.Test.YtpkjdnplmgfbbaaDoorSam
namespace Go.Proofs.YtpkjdnplmgfbbaaDoor
open Go.RowKit

def sqN : List ByteArray := [⟨#[97]⟩, ⟨#[98]⟩, ⟨#[99]⟩, ⟨#[100]⟩]
def sqE : List (List Nat) := [[1, 3], [0, 2], [1, 3], [0, 2]]

theorem Rw.of_arr {w : World} {g n : Nat} {t : TypeId} {xs : List Value} (h : Arr w g t xs) (hn : xs.length = n) (hm : n ≤ maxLen) : Rw w (some ⟨g, 0, none⟩) n n xs :=
  ⟨hn, Nat.le_refl _, hm, fun _ => ⟨g, 0, rfl, fun j u hu => by rw [Nat.zero_add, h.cell]; exact hu⟩⟩
theorem Arr.at {w : World} {t : TypeId} {xs : List Value} {n : Nat} (h : w.heap.size = n) : Arr (w.alloc (.cells xs.toArray t)) n t xs := by subst h; exact Arr.new w t xs

theorem Il.of_arr {w : World} {g : Nat} {t : TypeId} {l : List Int} (h : Arr w g t (l.map (Value.int .i64))) (hs : ∀ x ∈ l, -9223372036854775808 ≤ x ∧ x ≤ 9223372036854775807) (hm : l.length ≤ maxLen) : Il w (some ⟨g, 0, none⟩) l.length l.length l :=
  ⟨Rw.of_arr h (by simp) hm, hs⟩
theorem alloc_size {w : World} {o : Obj} {n : Nat} (h : w.heap.size = n) : (w.alloc o).heap.size = n + 1 := by simp [h]

/-- The square in memory. -/
theorem sq_gr {w W : World} {n : Nat} (o0 : Obj) (hn : w.heap.size = n)
    (hW : W = (((((((w.alloc o0).alloc (.cells #[.string ⟨#[97]⟩, .string ⟨#[98]⟩, .string ⟨#[99]⟩, .string ⟨#[100]⟩] 9)).alloc (.cells #[.int .i64 1, .int .i64 3] 3)).alloc (.cells #[.int .i64 0, .int .i64 2] 3)).alloc (.cells #[.int .i64 1, .int .i64 3] 3)).alloc (.cells #[.int .i64 0, .int .i64 2] 3)).alloc
      (.cells #[.slice (some ⟨n + 1 + 1, 0, none⟩) 2 2, .slice (some ⟨n + 1 + 1 + 1, 0, none⟩) 2 2, .slice (some ⟨n + 1 + 1 + 1 + 1, 0, none⟩) 2 2, .slice (some ⟨n + 1 + 1 + 1 + 1 + 1, 0, none⟩) 2 2] 28))) :
    GrV W (.agg #[.slice (some ⟨n + 1, 0, none⟩) 4 4, .slice (some ⟨n + 1 + 1 + 1 + 1 + 1 + 1, 0, none⟩) 4 4]) sqN (toI sqE) ∧ Below n w W := by
  obtain ⟨w1, h1⟩ : ∃ w1, w1 = w.alloc o0 := ⟨_, rfl⟩
  rw [← h1] at hW
  have s1 : w1.heap.size = n + 1 := by rw [h1]; exact alloc_size hn
  have b1 : Below n w w1 := by rw [h1]; exact (Below.refl _ _).alloc (by omega) _
  obtain ⟨w2, h2⟩ : ∃ w2, w2 = w1.alloc (.cells #[.string ⟨#[97]⟩, .string ⟨#[98]⟩, .string ⟨#[99]⟩, .string ⟨#[100]⟩] 9) := ⟨_, rfl⟩
  rw [← h2] at hW
  have s2 : w2.heap.size = n + 1 + 1 := by rw [h2]; exact alloc_size s1
  have b2 : Below n w w2 := by rw [h2]; exact b1.alloc (by omega) _
  have a2 : Arr w2 (n + 1) 9 (sqN.map Value.string) := by rw [h2]; exact Arr.at s1
  obtain ⟨w3, h3⟩ : ∃ w3, w3 = w2.alloc (.cells #[.int .i64 1, .int .i64 3] 3) := ⟨_, rfl⟩
  rw [← h3] at hW
  have s3 : w3.heap.size = n + 1 + 1 + 1 := by rw [h3]; exact alloc_size s2
  have b3 : Below n w w3 := by rw [h3]; exact b2.alloc (by omega) _
  have a3 : Arr w3 (n + 1 + 1) 3 (([1, 3] : List Int).map (Value.int .i64)) := by rw [h3]; exact Arr.at s2
  have a23 : Arr w3 (n + 1) 9 (sqN.map Value.string) := by rw [h3]; exact a2.alloc _
  obtain ⟨w4, h4⟩ : ∃ w4, w4 = w3.alloc (.cells #[.int .i64 0, .int .i64 2] 3) := ⟨_, rfl⟩
  rw [← h4] at hW
  have s4 : w4.heap.size = n + 1 + 1 + 1 + 1 := by rw [h4]; exact alloc_size s3
  have b4 : Below n w w4 := by rw [h4]; exact b3.alloc (by omega) _
  have a4 : Arr w4 (n + 1 + 1 + 1) 3 (([0, 2] : List Int).map (Value.int .i64)) := by rw [h4]; exact Arr.at s3
  obtain ⟨w5, h5⟩ : ∃ w5, w5 = w4.alloc (.cells #[.int .i64 1, .int .i64 3] 3) := ⟨_, rfl⟩
  rw [← h5] at hW
  have s5 : w5.heap.size = n + 1 + 1 + 1 + 1 + 1 := by rw [h5]; exact alloc_size s4
  have b5 : Below n w w5 := by rw [h5]; exact b4.alloc (by omega) _
  have a5 : Arr w5 (n + 1 + 1 + 1 + 1) 3 (([1, 3] : List Int).map (Value.int .i64)) := by rw [h5]; exact Arr.at s4
  obtain ⟨w6, h6⟩ : ∃ w6, w6 = w5.alloc (.cells #[.int .i64 0, .int .i64 2] 3) := ⟨_, rfl⟩
  rw [← h6] at hW
  have s6 : w6.heap.size = n + 1 + 1 + 1 + 1 + 1 + 1 := by rw [h6]; exact alloc_size s5
  have b6 : Below n w w6 := by rw [h6]; exact b5.alloc (by omega) _
  have a6 : Arr w6 (n + 1 + 1 + 1 + 1 + 1) 3 (([0, 2] : List Int).map (Value.int .i64)) := by rw [h6]; exact Arr.at s5
  have k34 : Below w3.heap.size w3 w4 := by rw [h4]; exact (Below.refl _ _).alloc (Nat.le_refl _) _
  have k45 : Below w4.heap.size w4 w5 := by rw [h5]; exact (Below.refl _ _).alloc (Nat.le_refl _) _
  have k56 : Below w5.heap.size w5 w6 := by rw [h6]; exact (Below.refl _ _).alloc (Nat.le_refl _) _
  have k6 : Below w6.heap.size w6 W := by rw [hW]; exact (Below.refl _ _).alloc (Nat.le_refl _) _
  have a7 : Arr W (n + 1 + 1 + 1 + 1 + 1 + 1) 28 [.slice (some ⟨n + 1 + 1, 0, none⟩) 2 2, .slice (some ⟨n + 1 + 1 + 1, 0, none⟩) 2 2, .slice (some ⟨n + 1 + 1 + 1 + 1, 0, none⟩) 2 2, .slice (some ⟨n + 1 + 1 + 1 + 1 + 1, 0, none⟩) 2 2] := by rw [hW]; exact Arr.at s6
  have r1 := ((((a23.below' k34).below' k45).below' k56).below' k6)
  have q3 := ((((a3.below' k34).below' k45).below' k56).below' k6)
  have q4 := (((a4.below' k45).below' k56).below' k6)
  have q5 := ((a5.below' k56).below' k6)
  have q6 := (a6.below' k6)
  have sm : ∀ l : List Int, (∀ x ∈ l, x = 0 ∨ x = 1 ∨ x = 2 ∨ x = 3) → ∀ x ∈ l, -9223372036854775808 ≤ x ∧ x ≤ 9223372036854775807 := fun l h x hx => by have := h x hx; omega
  refine ⟨⟨_, 4, _, 4, rfl, ⟨Rw.of_arr r1 rfl (by unfold maxLen; decide), ?_⟩, ⟨_, Rw.of_arr a7 rfl (by unfold maxLen; decide), rfl, ?_⟩⟩, b6.trans (k6.mono (by omega))⟩
  · intro s hs
    simp only [sqN, List.mem_cons, List.not_mem_nil, or_false] at hs
    rcases hs with rfl | rfl | rfl | rfl <;> (unfold maxLen; decide)
  · intro i v l hv hl
    match i, hv, hl with
    | 0, hv, hl =>
      injection hv with hv; injection hl with hl; subst hv hl
      exact ⟨_, 2, rfl, Il.of_arr q3 (sm _ (by simp)) (by unfold maxLen; decide)⟩
    | 1, hv, hl =>
      injection hv with hv; injection hl with hl; subst hv hl
      exact ⟨_, 2, rfl, Il.of_arr q4 (sm _ (by simp)) (by unfold maxLen; decide)⟩
    | 2, hv, hl =>
      injection hv with hv; injection hl with hl; subst hv hl
      exact ⟨_, 2, rfl, Il.of_arr q5 (sm _ (by simp)) (by unfold maxLen; decide)⟩
    | 3, hv, hl =>
      injection hv with hv; injection hl with hl; subst hv hl
      exact ⟨_, 2, rfl, Il.of_arr q6 (sm _ (by simp)) (by unfold maxLen; decide)⟩
    | i + 4, hv, hl => simp at hv

set_option maxHeartbeats 1000000 in
theorem Square_any {w : World} : Calls Tryd.prog 55 #[] w (Gives w fun w' v => GrV w' v sqN (toI sqE)) := by
  obtain ⟨h1, h2⟩ := sq_gr (w := w) (W := _) (.cells #[.slice (some ⟨w.heap.size + 1, 0, none⟩) 4 4, .slice (some ⟨w.heap.size + 1 + 1 + 1 + 1 + 1 + 1, 0, none⟩) 4 4] 25) rfl rfl
  go_enter Tryd.func55, Tryd.ntmps55
  go_wp2_with fail
  exact bodyPost_ret (v := .agg #[.slice (some ⟨w.heap.size + 1, 0, none⟩) 4 4, .slice (some ⟨w.heap.size + 1 + 1 + 1 + 1 + 1 + 1, 0, none⟩) 4 4]) (by simp [results, Tryd.results55, go_sem]) rfl ⟨_, rfl, h1, h2⟩
end Go.Proofs.YtpkjdnplmgfbbaaDoor
