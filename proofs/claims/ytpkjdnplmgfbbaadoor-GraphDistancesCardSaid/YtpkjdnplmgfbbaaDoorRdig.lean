/- The references' digits of an integer. -/
import Derived.Test.YtpkjdnplmgfbbaaDoorHd
namespace Go.Proofs.YtpkjdnplmgfbbaaDoor
open Go.RowKit

/-- The half words of words. -/
def halves : List Nat → List Nat
  | [] => []
  | x :: r => x % 65536 :: x / 65536 :: halves r
theorem halves_length (l : List Nat) : (halves l).length = 2 * l.length := by
  induction l with
  | nil => rfl
  | cons x r ih => simp [halves, ih]; omega
theorem halves_append (l m : List Nat) : halves (l ++ m) = halves l ++ halves m := by
  induction l with
  | nil => rfl
  | cons x r ih => simp [halves, ih]
theorem halves_val (l : List Nat) : val 65536 (halves l) = val 4294967296 l := by
  induction l with
  | nil => rfl
  | cons x r ih => simp only [halves, val, ih]; omega
theorem halves_small {l : List Nat} (h : ∀ x ∈ l, x < 4294967296) : ∀ x ∈ halves l, x < 65536 := by
  induction l with
  | nil => intro x hx; cases hx
  | cons y r ih =>
    intro x hx
    have hy := h y (List.mem_cons_self ..)
    simp only [halves, List.mem_cons] at hx
    rcases hx with rfl | rfl | hx
    · omega
    · omega
    · exact ih (fun z hz => h z (List.mem_cons_of_mem _ hz)) x hx
theorem halves_trim {l : List Nat} (h : ∀ x ∈ l, x < 4294967296) : trim (halves l) = dig 65536 (val 4294967296 l) := by
  rw [trim_eq_dig (by omega) (halves_small h), halves_val]

/-- An api.Int that reads as x, whose list of words is not too long. -/
def IntB (w : World) (v : Value) (x : Int) : Prop :=
  ∃ neg A n c l, v = .agg #[.bool neg, .slice A n c] ∧ Wd w (fun _ => True) A n c l ∧ x = sg neg (val 4294967296 l) ∧ n ≤ 1000000000000
theorem IntB.int {w : World} {v : Value} {x : Int} (h : IntB w v x) : IntV w (fun _ => True) v x := by
  obtain ⟨neg, A, n, c, l, e, h, hx, _⟩ := h
  exact ⟨neg, A, n, c, l, e, h, hx⟩
theorem IntB.wl {w : World} {v : Value} {x : Int} (h : IntB w v x) : wl x.natAbs ≤ 1000000000000 := by
  obtain ⟨neg, A, n, c, l, e, h, rfl, hn⟩ := h
  rw [sg_natAbs]
  have := val_lt h.small
  have := dig_length_le (b := 4294967296) (by omega) this
  unfold Go.Proofs.YtpkjdnplmgfbbaaDoor.wl
  rw [h.len] at this
  omega
theorem NIntV.b {w : World} {D : Nat → Prop} {v : Value} {x : Int} (h : NIntV w D v x) (hl : Go.Proofs.YtpkjdnplmgfbbaaDoor.wl x.natAbs ≤ 1000000000000) : IntB w v x := by
  replace h := h.mono (D' := fun _ => True) (fun _ _ _ => trivial)
  obtain ⟨A, c, rfl, h⟩ := h
  exact ⟨_, A, _, c, _, rfl, h, by rw [val_dig (by omega), sg_abs], hl⟩
theorem IntB.below {w w' : World} {v : Value} {x : Int} (h : IntB w v x) (hb : Below w.heap.size w w') : IntB w' v x := by
  obtain ⟨neg, A, n, c, l, e, h, hx, hn⟩ := h
  exact ⟨neg, A, n, c, l, e, h.below hb, hx, hn⟩

set_option maxRecDepth 100000 in
set_option maxHeartbeats 1000000 in
theorem digits_any {v : Value} {x : Int} {w : World} (h : IntB w v x) :
    Calls Tryd.prog 110 #[v] w (Gives w fun w' v => HdV w' (w.heap.size ≤ ·) v (dig 65536 x.natAbs)) := by
  obtain ⟨neg, A, n, c, l, rfl, h, rfl, hn⟩ := h
  rw [sg_natAbs]
  go_enter Tryd.func110, Tryd.ntmps110
  go_wp2_with fail
  obtain ⟨W, hW⟩ : ∃ W, W = w.alloc (.cells #[.bool neg, .slice A n c] 46) := ⟨_, rfl⟩
  rw [← hW]
  have hbW : Below w.heap.size w W := by rw [hW]; exact (Below.refl _ _).alloc (Nat.le_refl _) _
  have hcW : W.cell? ⟨w.heap.size, 1, none⟩ = some (.slice A n c) := by rw [hW]; go_simp
  have hsW : W.heap.size = w.heap.size + 1 := by rw [hW]; simp
  have HSW := Lib.hid hsW
  clear hW hsW
  go_loopw [3, 4] (fun o i wr => ∃ k : Nat, k ≤ n ∧ i = .int .i64 k ∧ wr.ownsRow W.heap.size 3 1 o (2 * k) ((halves (l.take k)).map fun x : Nat => Value.int .i64 (x : Int)) ∧ Below W.heap.size W wr) (fun _ i _ => n - (intOf i).toNat)
  case atStart => exact ⟨0, by omega, rfl, World.ownsRow_nil _ _ _ _, Below.refl _ _⟩
  case round =>
    obtain ⟨k, hk, rfl, hown, hbr⟩ := hrel
    have hlt : w.heap.size < W.heap.size := by have := HSW.out; omega
    have hbox : wr.cell? ⟨w.heap.size, 1, none⟩ = some (.slice A n c) := by rw [hbr.cell (p := ⟨w.heap.size, 1, none⟩) hlt]; exact hcW
    rcases Nat.lt_or_ge k n with hkn | hkn
    · obtain ⟨b, off, rfl, hbD, hcl⟩ := h.cells (by omega)
      have hbl := cell_lt (hcl 0 (by omega))
      have hc1 : wr.cell? ⟨b, off + k, none⟩ = some (.int .u32 (gw l k)) := by
        rw [hbr.cell (p := ⟨b, off + k, none⟩) (by show b < _; omega), hbW.cell (p := ⟨b, off + k, none⟩) hbl]
        exact hcl k hkn
      clear hcl
      have g1 := gw_bound h.small (by omega) k
      have hk0 : (0 : Int) ≤ (k : Int) := by omega
      have hk1 : (k : Int) < (n : Int) := by omega
      have hsz := hbr.size
      have hob : ∀ g, u3.ownBlock = some g → W.heap.size ≤ g := fun g hg => (hown.lt g hg).1
      have HOB := Lib.hid hob
      clear hob
      have a1 : IntKind.i64.wrap ((gw l k : Int).tmod 65536) = ((gw l k : Int) % 65536) := by
        rw [Int.tmod_eq_emod_of_nonneg (by omega), IntWalk.i64_in _ (by omega)]
      have a2 : IntKind.u32.wrap ((gw l k : Int) / 65536) = ((gw l k : Int) / 65536) := by
        rw [IntWalk.u32_in _ (by omega)]
      have a4 : IntKind.i64.wrap ((gw l k : Int) / 65536) = ((gw l k : Int) / 65536) := IntWalk.i64_in _ (by omega)
      go_wp2_with fail
      go_region_held3 (fun w' => w'.cell? ⟨w.heap.size, 1, none⟩ = some (.slice (some ⟨b, off, none⟩) n c) ∧ w'.cell? ⟨b, off + k, none⟩ = some (.int .u32 (gw l k)))
        (first
          | go_keep
          | (go_split_ands
             refine ⟨?_, ?_⟩
             · (rw [hgrow.cell_far _ (by simp; omega) (fun e => by have := HOB.out _ e.symm; simp at this; omega)]; assumption)
             · (rw [hgrow.cell_far _ (by simp; omega) (fun e => by have := HOB.out _ e.symm; simp at this; omega)]; assumption)))
        ((go_must (refine step_app _ (by rfl) _ _ _ _ (by rfl) W.heap.size 3 3 (.int .i64 0) 1 8 Tryd.underlying28 Tryd.underlying28 info_int rfl (by omega) u3 (2 * k) _ (by rfl) ((hown.alloc _).drew) (some ⟨wr.heap.size, 0, none⟩) 2 2 [.int .i64 ((gw l k : Int) % 65536), .int .i64 ((gw l k : Int) / 65536)] (by rfl) (by exact src_block (cs := [.int .i64 ((gw l k : Int) % 65536), .int .i64 ((gw l k : Int) / 65536)]) (t := 3) (heap_alloc_new wr _) 2 1 rfl) (by simp [Value.oneCell']) (by unfold maxLen; omega) (by omega) (by simp; omega) ?_); intro v1 w1 hown1 hgrow hat))
      clear a1 a2 a4
      go_split_ands
      go_wp2_with fail
      go_roundw
      case rel =>
        refine ⟨k + 1, by omega, by go_num, ?_, (hbr.alloc hsz _).drew.grown hgrow (by simp; omega) HOB.out⟩
        have e : (halves (l.take (k + 1))).map (fun x : Nat => Value.int .i64 (x : Int)) = (halves (l.take k)).map (fun x : Nat => Value.int .i64 (x : Int)) ++ [.int .i64 ((gw l k : Int) % 65536), .int .i64 ((gw l k : Int) / 65536)] := by
          rw [take_succ_gw (by rw [h.len]; exact hkn), halves_append, List.map_append]; simp [halves]
        rw [e]
        exact hown1
      case measure => simp [intOf]; omega
    · obtain rfl : k = n := by omega
      rw [List.take_of_length_le (by rw [h.len]; exact Nat.le_refl _)] at hown
      obtain ⟨A1, c1, rfl, hd⟩ := hd_of_own hown (halves_small h.small)
      go_wp2_with (go_at_call 122; ((with_reducible refine (rtrim_any hd (by omega)).mono ?_)); rintro e w1 ⟨v1, rfl, hv1, hb1⟩)
      go_ret
      rw [halves_trim h.small] at hv1
      refine ⟨_, rfl, ?_, (hbW.trans (hbr.mono (by omega))).trans (hb1.mono (by have := hbr.size; omega))⟩
      obtain ⟨A2, c2, rfl, hd2⟩ := hv1
      exact ⟨A2, c2, rfl, hd2.mono (fun b hb _ => by have : wr.heap.size ≤ b := hb; have := hbr.size; show w.heap.size ≤ b; omega)⟩

end Go.Proofs.YtpkjdnplmgfbbaaDoor
