/- The references' integers of machine integers. -/
import Derived.Test.YtpkjdnplmgfbbaaDoorRmade
namespace Go.Proofs.YtpkjdnplmgfbbaaDoor
open Go.RowKit

theorem few_digits {V k a N : Nat} (h : V + 65536 ^ k * a = N) (ha : 0 < a) (hN : N < 18446744073709551616) : k < 4 := by
  rcases Nat.lt_or_ge k 4 with h4 | h4
  · exact h4
  · exfalso
    have h1 : 65536 ^ 4 ≤ 65536 ^ k := Nat.pow_le_pow_right (by omega) h4
    have h2 : 65536 ^ k * 1 ≤ 65536 ^ k * a := Nat.mul_le_mul_left _ ha
    omega
theorem of_step {V k a N : Nat} (h : V + 65536 ^ k * a = N) : V + 65536 ^ k * (a % 65536) + 65536 ^ (k + 1) * (a / 65536) = N := by
  have e : 65536 ^ (k + 1) * (a / 65536) = 65536 ^ k * (65536 * (a / 65536)) := by rw [Nat.pow_succ, Nat.mul_assoc]
  rw [e, Nat.add_assoc, ← Nat.mul_add, Nat.mod_add_div, h]

set_option maxHeartbeats 1000000 in
theorem rOf_any (n : Int) (w : World) (h : -9223372036854775808 ≤ n) (h' : n ≤ 9223372036854775807) :
    Calls Tryd.prog 45 #[.int .i64 n] w (Gives w fun w' v => NIntV w' (w.heap.size ≤ ·) v n) := by
  have HLT := Lib.hid (show n.natAbs < 18446744073709551616 by omega)
  obtain ⟨W, hW⟩ : ∃ W, W = w.alloc (.cells #[.bool false, .slice none 0 0] 46) := ⟨_, rfl⟩
  have hbW : Below w.heap.size w W := by rw [hW]; exact (Below.refl _ _).alloc (Nat.le_refl _) _
  have HR : Hid (W.heap[w.heap.size]? = some (.cells #[.bool false, .slice none 0 0] 46 (0, 0))) := by rw [hW]; exact heap_alloc_new _ _
  have HWW := Lib.hid hW
  clear hW
  have HRW : Held w.heap.size W W := Held.self HR.out
  obtain ⟨N, hN⟩ : ∃ N, N = n.natAbs := ⟨_, rfl⟩
  have HN := Lib.hid hN
  by_cases h0 : n < 0
  · obtain rfl : n = -(N : Int) := by omega
    have hb63 : N ≤ 9223372036854775808 := by omega
    have hNpos : 0 < N := by omega
    clear h h' hN
    go_enter Tryd.func45, Tryd.ntmps45
    go_wp2_with fail
    rw [← HWW.out]
    go_loopg [0, 3] N (fun a nv ov wr => ∃ (k : Nat) (o : List Nat), nv = .int .i64 (-(a : Int)) ∧ a ≤ N ∧ wr.ownsRow W.heap.size 3 1 ov k (o.map fun x : Nat => Value.int .i64 (x : Int)) ∧ (∀ y ∈ o, y < 65536) ∧ Hid (val 65536 o + 65536 ^ k * a = N) ∧ Below W.heap.size W wr ∧ k ≤ 4)
    case atStart => exact ⟨0, [], rfl, Nat.le_refl _, World.ownsRow_nil _ _ _ _, fun y hy => (by cases hy), by simp [Hid, val], Below.refl _ _, by omega⟩
    case round =>
      obtain ⟨k, o, rfl, ha, hown, hsm, hinv, hbr, hk⟩ := hrel
      rcases Nat.eq_zero_or_pos gk with h1 | h1
      · subst h1
        rw [show (-((0 : Nat) : Int)) = 0 from rfl]
        obtain ⟨A1, c1, rfl, hd⟩ := hd_of_own hown hsm
        go_wp2_with (go_at_call 90; go_must (refine (rmade_any hd (by omega)).mono ?_); rintro e w2 ⟨v2, rfl, ⟨A2, c2, rfl, hwd2⟩, hb2⟩; have hh1 := (Held.call hbr HRW).2; have hl2 := hh1.lt; have hh := (Held.call hb2 hh1).2; obtain ⟨u0, u1, hr0, hr1, hf0, hf1⟩ := hh.cells)
        refine bodyPost_ret (v := .agg #[.bool _, .slice A2 _ c2]) (by simp [results, Tryd.results45, go_sem, hr0, hr1]; exact ⟨rfl, rfl⟩) rfl ⟨_, rfl, ?_, hh.put hbW (Nat.le_refl _) _ _⟩
        exact (nint_put (w := w) hl2 hwd2 (Nat.le_refl _) _ _).cast (by have := hinv.out; rw [Nat.mul_zero, Nat.add_zero] at this; rw [this]; rfl)
      · have t1 : ((-(gk : Int)) != 0) = true := by rw [bne_iff_ne]; omega
        have hk5 : k ≤ 4 := hk
        rcases Nat.eq_zero_or_pos (gk % 65536) with h2 | h2
        · have h3 : (gk : Int) % 65536 ≤ 0 := by omega
          have H2 := Lib.hid h2
          clear h2
          go_wp2_with (at_builtin; go_must (refine wpList_push _ rfl _ _ _ _ rfl W.heap.size 3 3 (.int .i64 0) 1 8 Tryd.underlying28 Tryd.underlying28 info_int rfl (by omega) u3 k _ rfl hown [_] rfl rfl (by simp [Value.oneCell']) (by unfold maxLen; omega) (by omega) hbr.size ?_); intro A2 c2 w2 hown2 hgr2 hb2)
          go_roundg (gk / 65536)
          case measure => exact Nat.div_lt_self h1 (by omega)
          case rel =>
            have hk4 := few_digits hinv.out h1 (by have := HLT.out; omega)
            refine ⟨k + 1, o ++ [gk % 65536], by go_num, by have := Nat.div_le_self gk 65536; omega, ?_, fun y hy => ?_, ?_, hbr.trans (hb2.mono (Nat.le_refl _)), by omega⟩
            · rw [List.map_append]
              simp only [List.map_cons, List.map_nil]
              have e : (((gk % 65536 : Nat) : Int)) = -((gk : Int) % 65536) := by have := H2.out; omega
              rw [e]
              exact hown2
            · rcases List.mem_append.1 hy with hy | hy
              · exact hsm y hy
              · rw [List.mem_singleton.1 hy]; omega
            · show _ = _
              have hl : o.length = k := by have := hown.1; rw [List.length_map] at this; omega
              rw [val_snoc, hl]
              exact of_step hinv.out
        · have h3 : 0 < (gk : Int) % 65536 := by omega
          go_wp2_with (at_builtin; go_must (refine wpList_push _ rfl _ _ _ _ rfl W.heap.size 3 3 (.int .i64 0) 1 8 Tryd.underlying28 Tryd.underlying28 info_int rfl (by omega) u3 k _ rfl hown [_] rfl rfl (by simp [Value.oneCell']) (by unfold maxLen; omega) (by omega) hbr.size ?_); intro A2 c2 w2 hown2 hgr2 hb2)
          go_roundg (gk / 65536)
          case measure => exact Nat.div_lt_self h1 (by omega)
          case rel =>
            have hk4 := few_digits hinv.out h1 (by have := HLT.out; omega)
            refine ⟨k + 1, o ++ [gk % 65536], by go_num, by have := Nat.div_le_self gk 65536; omega, ?_, fun y hy => ?_, ?_, hbr.trans (hb2.mono (Nat.le_refl _)), by omega⟩
            · rw [List.map_append]
              simp only [List.map_cons, List.map_nil]
              have e : (((gk % 65536 : Nat) : Int)) = ((gk : Int) % 65536) := by omega
              rw [e]
              exact hown2
            · rcases List.mem_append.1 hy with hy | hy
              · exact hsm y hy
              · rw [List.mem_singleton.1 hy]; omega
            · show _ = _
              have hl : o.length = k := by have := hown.1; rw [List.length_map] at this; omega
              rw [val_snoc, hl]
              exact of_step hinv.out
  · obtain rfl : n = (N : Int) := by omega
    have hb63 : N ≤ 9223372036854775807 := by omega
    clear h h' hN
    go_enter Tryd.func45, Tryd.ntmps45
    go_wp2_with fail
    rw [← HWW.out]
    go_loopg [0, 3] N (fun a nv ov wr => ∃ (k : Nat) (o : List Nat), nv = .int .i64 (a : Int) ∧ a ≤ N ∧ wr.ownsRow W.heap.size 3 1 ov k (o.map fun x : Nat => Value.int .i64 (x : Int)) ∧ (∀ y ∈ o, y < 65536) ∧ Hid (val 65536 o + 65536 ^ k * a = N) ∧ Below W.heap.size W wr ∧ k ≤ 4)
    case atStart => exact ⟨0, [], rfl, Nat.le_refl _, World.ownsRow_nil _ _ _ _, fun y hy => (by cases hy), by simp [Hid, val], Below.refl _ _, by omega⟩
    case round =>
      obtain ⟨k, o, rfl, ha, hown, hsm, hinv, hbr, hk⟩ := hrel
      rcases Nat.eq_zero_or_pos gk with h1 | h1
      · subst h1
        rw [show (((0 : Nat) : Int)) = 0 from rfl]
        obtain ⟨A1, c1, rfl, hd⟩ := hd_of_own hown hsm
        go_wp2_with (go_at_call 90; go_must (refine (rmade_any hd (by omega)).mono ?_); rintro e w2 ⟨v2, rfl, ⟨A2, c2, rfl, hwd2⟩, hb2⟩; have hh1 := (Held.call hbr HRW).2; have hl2 := hh1.lt; have hh := (Held.call hb2 hh1).2; obtain ⟨u0, u1, hr0, hr1, hf0, hf1⟩ := hh.cells)
        refine bodyPost_ret (v := .agg #[.bool _, .slice A2 _ c2]) (by simp [results, Tryd.results45, go_sem, hr0, hr1]; exact ⟨rfl, rfl⟩) rfl ⟨_, rfl, ?_, hh.put hbW (Nat.le_refl _) _ _⟩
        exact (nint_put (w := w) hl2 hwd2 (Nat.le_refl _) _ _).cast (by have := hinv.out; rw [Nat.mul_zero, Nat.add_zero] at this; rw [this]; rfl)
      · have t1 : (((gk : Int)) != 0) = true := by rw [bne_iff_ne]; omega
        · go_wp2_with (at_builtin; go_must (refine wpList_push _ rfl _ _ _ _ rfl W.heap.size 3 3 (.int .i64 0) 1 8 Tryd.underlying28 Tryd.underlying28 info_int rfl (by omega) u3 k _ rfl hown [_] rfl rfl (by simp [Value.oneCell']) (by unfold maxLen; omega) (by omega) hbr.size ?_); intro A2 c2 w2 hown2 hgr2 hb2)
          go_roundg (gk / 65536)
          case measure => exact Nat.div_lt_self h1 (by omega)
          case rel =>
            have hk4 := few_digits hinv.out h1 (by have := HLT.out; omega)
            refine ⟨k + 1, o ++ [gk % 65536], by go_num, by have := Nat.div_le_self gk 65536; omega, ?_, fun y hy => ?_, ?_, hbr.trans (hb2.mono (Nat.le_refl _)), by omega⟩
            · rw [List.map_append]
              simp only [List.map_cons, List.map_nil]
              have e : (((gk % 65536 : Nat) : Int)) = ((gk : Int) % 65536) := by omega
              rw [e]
              exact hown2
            · rcases List.mem_append.1 hy with hy | hy
              · exact hsm y hy
              · rw [List.mem_singleton.1 hy]; omega
            · show _ = _
              have hl : o.length = k := by have := hown.1; rw [List.length_map] at this; omega
              rw [val_snoc, hl]
              exact of_step hinv.out

end Go.Proofs.YtpkjdnplmgfbbaaDoor
