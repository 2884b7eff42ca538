/- GraphTexts: long texts, uniqueness, both readers. -/
import Derived.Test.YtpkjdnplmgfbbaaGreatDoorTxq
namespace Go.Proofs.YtpkjdnplmgfbbaaGreatDoor
open Go.RowKit

/-- Too long a text. -/
def LongR (w : World) (e : Ending) (w' : World) : Prop := e = .returned (.tuple #[.agg #[.slice none 0 0, .slice none 0 0], .int .i64 8]) ∧ Below w.heap.size w w'
set_option maxHeartbeats 1000000 in
theorem rParse_long {w : World} (s : ByteArray) (hs : 20000 < s.size) (hs2 : s.size ≤ 1000000) : Calls Tryz.prog 18 #[.string s] w (LongR w) := by
  have z1 : decide ((20000 : Int) < (s.size : Int)) = true := decide_eq_true (by omega)
  obtain ⟨W, N, hW, hN⟩ : ∃ W N, W = w.alloc (.cells #[.slice none 0 0, .slice none 0 0] 25) ∧ N = w.heap.size := ⟨_, _, rfl, rfl⟩
  have k0 : W.heap[N]? = some (.cells #[.slice none 0 0, .slice none 0 0] 25 (0, 0)) := by rw [hW, hN]; exact World.alloc_heap_new _ _
  have hb0 : Below N w W := by rw [hW, hN]; exact (Below.refl _ _).alloc (Nat.le_refl _) _
  have n0 : W.cell? ⟨N, 0, none⟩ = some (.slice none 0 0) := by rw [Lib.cell_of_heap k0]; rfl
  have n1 : W.cell? ⟨N, 1, none⟩ = some (.slice none 0 0) := by rw [Lib.cell_of_heap k0]; rfl
  have f0 := Lib.frozen_of_heap k0 0
  have f1 := Lib.frozen_of_heap k0 1
  have HW := Lib.hid hW
  have HN := Lib.hid hN
  clear hW hN k0
  go_enter Tryz.func18, Tryz.ntmps18
  go_wp2_with fail
  rw [← HW.out, ← HN.out]
  (try simp only [Exit.inBlock, Exit.then])
  refine bodyPost_ret (v := .tuple #[.agg #[.slice none 0 0, .slice none 0 0], .int .i64 8]) (by simp [results, Tryz.results18, go_sem, n0, n1]) rfl ?_
  exact ⟨rfl, by rw [← HN.out]; exact hb0⟩
set_option maxHeartbeats 1000000 in
theorem Parse_long {w : World} (s : ByteArray) (hs : 20000 < s.size) (hs2 : s.size ≤ 1000000) : Calls Tryz.prog 17 #[.string s] w (LongR w) := by
  have z1 : decide ((20000 : Int) < (s.size : Int)) = true := decide_eq_true (by omega)
  refine (callsIn_wide (n := 3)).1 (callsIn_of_wp_marks Tryz.func17 rfl trivial ?_ rfl)
  simp only [Tryz.ntmps17, List.size_toArray, List.length_cons, List.length_nil, Nat.reduceAdd, Nat.reduceSub, Array.replicate_succ, Array.replicate_zero, List.push_toArray, List.append_toArray, List.nil_append, List.cons_append]
  obtain ⟨W, N, hW, hN⟩ : ∃ W N, W = (w.alloc (.cells #[.slice none 0 0, .slice none 0 0] 25)).alloc (.cells #[.int .i64 8] 30) ∧ N = w.heap.size := ⟨_, _, rfl, rfl⟩
  have k0 : W.heap[N]? = some (.cells #[.slice none 0 0, .slice none 0 0] 25 (0, 0)) := by
    rw [hW, hN, Below.heap_alloc _ _ _ (by simp)]; exact World.alloc_heap_new _ _
  have k1 : W.heap[N + 1]? = some (.cells #[.int .i64 8] 30 (0, 0)) := by
    have h := World.alloc_heap_new (w.alloc (.cells #[.slice none 0 0, .slice none 0 0] 25)) (.cells #[.int .i64 8] 30)
    rw [World.size_alloc] at h
    rw [hW, hN]; exact h
  have hb0 : Below N w W := by rw [hW, hN]; exact ((Below.refl _ _).alloc (Nat.le_refl _) _).alloc (by simp) _
  have a0 : W.cell? ⟨N, 0, none⟩ = some (.slice none 0 0) := by rw [Lib.cell_of_heap k0]; rfl
  have a1 : W.cell? ⟨N, 1, none⟩ = some (.slice none 0 0) := by rw [Lib.cell_of_heap k0]; rfl
  have a2 : W.cell? ⟨N + 1, 0, none⟩ = some (.int .i64 8) := by rw [Lib.cell_of_heap k1]; rfl
  have HW := Lib.hid hW
  have HN := Lib.hid hN
  clear hW hN k0 k1
  gi_wp2
  rw [← HW.out, ← HN.out]
  refine ⟨.tuple #[.agg #[.slice none 0 0, .slice none 0 0], .int .i64 8], by simp [results, Tryz.results17, go_sem, a0, a1, a2], rfl, by rw [← HN.out]; exact hb0⟩

/-- A good text is what Print writes of one graph. -/
theorem good_one {s : ByteArray} {n1 n2 : List ByteArray} {E1 E2 : List (List Nat)} (h1 : Good s n1 E1) (h2 : Good s n2 E2) : n1 = n2 ∧ E1 = E2 := by
  have h := (good_read h1).symm.trans (good_read h2)
  injection h with h
  injection h with e1 e2
  exact ⟨e1, toI_inj e2⟩
/-- A light graph's text is short. -/
theorem light_short {names : List ByteArray} {E : List (List Nat)} (hk : Ok names E) (hl : LightP names (toI E)) : (prn names E E.length).length ≤ 2000 := by
  obtain ⟨h1, _, _, _, h5⟩ := hl
  have hs := hk.small
  have hln := hk.len
  have hE : E.length ≤ 9 := by omega
  have key : ∀ k, k ≤ E.length → (prn names E k).length ≤ k * 200 := by
    intro k
    induction k with
    | zero => intro _; simp [prn]
    | succ k ih =>
      intro hk1
      have hkn : k < names.length := by omega
      have ih := ih (by omega)
      have hg := h5 _ (List.mem_of_getElem? (toI_get (E := E) (v := k) (by omega)))
      rw [List.length_map] at hg
      have hd := hk.deg k
      have h2 : (nums (gr E k)).length ≤ 5 * (gr E k).length := nums_shortT fun v hv => by have := hk.valid k (by omega) v hv; omega
      have h4 : (names.getD k ByteArray.empty).data.toList.length ≤ 40 := by
        rw [getD_some (List.getElem?_eq_getElem hkn), ← Lib.size_eq]
        exact (hk.name _ (List.getElem_mem hkn)).2.1
      rw [prn]
      simp only [List.length_append, List.length_singleton]
      omega
  have := key E.length (Nat.le_refl _)
  omega

/-- A graph read, and a code. -/
def RdR (n : List ByteArray) (E : List (List Nat)) (q : Nat) (w : World) (e : Ending) (w' : World) : Prop :=
  ∃ A c A' c', e = .returned (.tuple #[.agg #[.slice A n.length c, .slice A' E.length c'], .int .i64 (q : Nat)]) ∧ GrV w' (.agg #[.slice A n.length c, .slice A' E.length c']) n (toI E) ∧ Below w.heap.size w w'
theorem nil_gr (w : World) : GrV w (.agg #[.slice none 0 0, .slice none 0 0]) [] (toI []) := (GB.nil w 0).gr
theorem RdR.of {n : List ByteArray} {E : List (List Nat)} {q : Nat} {w w' : World} {e : Ending} {v : Value} (he : e = .returned (.tuple #[v, .int .i64 (q : Nat)])) (h : GrV w' v n (toI E)) (hb : Below w.heap.size w w') : RdR n E q w e w' := by
  have h0 := h
  obtain ⟨A, c, A', c', rfl, _⟩ := h
  rw [toI_length] at *
  exact ⟨A, c, A', c', he, h0, hb⟩
theorem reads (s : ByteArray) (hs : s.size ≤ 2000 ∨ (20000 < s.size ∧ s.size ≤ 1000000)) :
    ∃ (n : List ByteArray) (E : List (List Nat)) (q : Nat), (∀ w, Vrs w → Calls Tryz.prog 17 #[.string s] w (RdR n E q w)) ∧ (∀ w, Calls Tryz.prog 18 #[.string s] w (RdR n E q w)) ∧ (s.size ≤ 2000 → ∀ n' E', Good s n' E' → n = n' ∧ E = E' ∧ q = 0) := by
  rcases hs with hs | ⟨h1, h2⟩
  · by_cases hg : ∃ n E, Good s n E
    · obtain ⟨n, E, hg⟩ := hg
      refine ⟨n, E, 0, fun w hv => (Parse_any hv s hs).mono ?_, fun w => (rParse_any s hs).mono ?_, fun _ n' E' h => ⟨(good_one hg h).1, (good_one hg h).2, rfl⟩⟩
      all_goals
        rintro e w' (⟨v, n2, E2, he, hv, hg2, hb⟩ | ⟨_, hno, _⟩)
        · obtain ⟨rfl, rfl⟩ := good_one hg hg2
          exact .of he hv hb
        · exact absurd hg (hno n E)
    · refine ⟨[], [], 7, fun w hv => (Parse_any hv s hs).mono ?_, fun w => (rParse_any s hs).mono ?_, fun _ n' E' h => absurd ⟨n', E', h⟩ hg⟩
      all_goals
        rintro e w' (⟨v, n2, E2, he, hv, hg2, hb⟩ | ⟨he, hno, hb⟩)
        · exact absurd ⟨n2, E2, hg2⟩ hg
        · exact .of he (nil_gr w') hb
  · refine ⟨[], [], 8, fun w hv => (Parse_long s h1 h2).mono ?_, fun w => (rParse_long s h1 h2).mono ?_, fun h => by omega⟩
    all_goals
      rintro e w' ⟨he, hb⟩
      exact .of he (nil_gr w') hb
end Go.Proofs.YtpkjdnplmgfbbaaGreatDoor
