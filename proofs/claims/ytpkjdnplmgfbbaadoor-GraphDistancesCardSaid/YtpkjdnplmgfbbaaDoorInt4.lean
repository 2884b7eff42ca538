/- Package integer: machine integers; package wide's small functions. -/
import Derived.Test.YtpkjdnplmgfbbaaDoorInt3
namespace Go.Proofs.YtpkjdnplmgfbbaaDoor
open Go.RowKit

theorem neg_wrap {n : Int} (h : -9223372036854775808 ≤ n) (h0 : n < 0) : IntKind.u64.wrap (-(IntKind.u64.wrap n)) = (n.natAbs : Int) := by
  simp [IntKind.wrap, IntKind.bits, IntKind.signed]
  omega
theorem pos_wrap {n : Int} (h : n ≤ 9223372036854775807) (h0 : 0 ≤ n) : IntKind.u64.wrap n = (n.natAbs : Int) := by
  simp [IntKind.wrap, IntKind.bits, IntKind.signed]
  omega

theorem NIntV.cast {w : World} {D : Nat → Prop} {v : Value} {x y : Int} (h : NIntV w D v x) (e : x = y) : NIntV w D v y := e ▸ h

theorem wl_word {m : Nat} (h : m < 18446744073709551616) : wl m ≤ 2 := dig_length_le (by omega) (by omega)

set_option maxHeartbeats 1000000 in
theorem Of_any (n : Int) (w : World) (h : -9223372036854775808 ≤ n) (h' : n ≤ 9223372036854775807) :
    Calls Tryd.prog 42 #[.int .i64 n] w (Gives w fun w' v => NIntV w' (w.heap.size ≤ ·) v n) := by
  have HLT := Lib.hid (show n.natAbs < 18446744073709551616 by omega)
  obtain ⟨W, hW⟩ : ∃ W, W = w.alloc (.cells #[.bool false, .slice none 0 0] 46) := ⟨_, rfl⟩
  have hbW : Below w.heap.size w W := by rw [hW]; exact (Below.refl _ _).alloc (Nat.le_refl _) _
  have HR : Hid (W.heap[w.heap.size]? = some (.cells #[.bool false, .slice none 0 0] 46 (0, 0))) := by rw [hW]; exact heap_alloc_new _ _
  have HWW := Lib.hid hW
  clear hW
  by_cases h0 : n < 0
  · have HW := Lib.hid (neg_wrap h h0)
    clear h h'
    go_enter Tryd.func42, Tryd.ntmps42
    go_wp2_with (first
      | (go_at_call 87; rw [← HWW.out, HW.out]; go_must (refine (of_any _ _ HLT.out).mono ?_); rintro e w1 ⟨v1, rfl, ⟨A1, c1, rfl, hwd1⟩, hb1⟩; have hh1 := (Held.call hb1 (Held.self HR.out)).2)
      | (go_at_call 86; go_must (refine (made_any hwd1 ?_).mono ?_); (rw [wl_trim hwd1.small, val_dig (by omega)]; have := wl_word HLT.out; omega); rintro e w2 ⟨v2, rfl, ⟨A2, c2, rfl, hwd2⟩, hb2⟩; have hh := (Held.call hb2 hh1).2; have hl2 := hh1.lt; obtain ⟨u0, u1, hr0, hr1, hf0, hf1⟩ := hh.cells))
    refine bodyPost_ret (v := .agg #[.bool _, .slice A2 _ c2]) (by simp [results, Tryd.results42, go_sem, hr0, hr1]; exact ⟨rfl, rfl⟩) rfl ⟨_, rfl, ?_, hh.put hbW (by omega) _ _⟩
    exact (nint_put (w := w) hl2 hwd2 (Nat.le_refl _) _ _).cast (by rw [val_dig (by omega)]; simp [sg]; omega)
  · have HW := Lib.hid (pos_wrap h' (by omega))
    clear h h'
    go_enter Tryd.func42, Tryd.ntmps42
    go_wp2_with (first
      | (go_at_call 87; rw [← HWW.out, HW.out]; go_must (refine (of_any _ _ HLT.out).mono ?_); rintro e w1 ⟨v1, rfl, ⟨A1, c1, rfl, hwd1⟩, hb1⟩; have hh1 := (Held.call hb1 (Held.self HR.out)).2)
      | (go_at_call 86; go_must (refine (made_any hwd1 ?_).mono ?_); (rw [wl_trim hwd1.small, val_dig (by omega)]; have := wl_word HLT.out; omega); rintro e w2 ⟨v2, rfl, ⟨A2, c2, rfl, hwd2⟩, hb2⟩; have hh := (Held.call hb2 hh1).2; have hl2 := hh1.lt; obtain ⟨u0, u1, hr0, hr1, hf0, hf1⟩ := hh.cells))
    refine bodyPost_ret (v := .agg #[.bool _, .slice A2 _ c2]) (by simp [results, Tryd.results42, go_sem, hr0, hr1]; exact ⟨rfl, rfl⟩) rfl ⟨_, rfl, ?_, hh.put hbW (by omega) _ _⟩
    exact (nint_put (w := w) hl2 hwd2 (Nat.le_refl _) _ _).cast (by rw [val_dig (by omega)]; simp [sg]; omega)

end Go.Proofs.YtpkjdnplmgfbbaaDoor
