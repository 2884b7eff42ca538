/- slices.Backward over integers: its iterator; what a range over it does. -/
import Derived.Test.YtdmdagilopckgaaGreatMxb
import Derived.Test.YtdmdagilopckgaaGreatRst
import Derived.Test.YtdmdagilopckgaaGreatRg
import Derived.RangeFuncNested
import Derived.RangeFuncBound
import Derived.RangeFuncCalls
import Derived.RangeFuncLeaves
import Derived.Shelf.Abstract
import Derived.Shelf.RegionOpen
import Derived.WalkKit
import Derived.OwnWalkIn
import Derived.TacticsInMore
import Derived.LoopNIn
import Derived.LoopIn
namespace Go.Proofs.YtdmdagilopckgaaGreat
open Go.RowKit Go.Shelf
attribute [local go_sem] Oper.semAt_some

set_option maxHeartbeats 2000000 in
set_option maxRecDepth 100000 in
theorem Backward_any {A : Option Addr} {n c : Nat} {w : World} : Calls Tryz.prog 77 #[.slice A n c] w fun e w' => e = .returned (.func (.func 110) #[] #[.pointer (some ⟨w.heap.size, 0, none⟩)]) ∧ w' = w.alloc (.cells #[.slice A n c] 66) := by
  go_enter Tryz.func77, Tryz.ntmps77
  go_wp2_with fail
  go_ret
  exact ⟨rfl, rfl⟩

set_option maxHeartbeats 8000000 in
set_option maxRecDepth 100000 in
theorem bkw1_in (n l Bn : Nat) (A : Option Addr) (m c : Nat) (L : List Int) (J : Nat → World → Prop)
    (hJc : ∀ j W, J j W → W.cell? ⟨Bn, 0, none⟩ = some (.slice A m c) ∧ Pl NI W (fun _ => True) A m c L)
    (hY : ∀ j neg B k q W, j < m → J (j + 1) W → NI W (.agg #[.bool neg, .slice B k q]) (gz L j) → YieldAt Fence.wide (n - 1) Tryz.prog l #[.int .i64 (j : Nat), .agg #[.bool neg, .slice B k q]] W fun e W' => e = .returned (.bool true) ∧ J j W')
    (W : World) (h0 : J m W) :
    CallsIn Fence.wide n Tryz.prog 110 #[.func (.yield l) #[] #[], .pointer (some ⟨Bn, 0, none⟩)] W fun e W' => (∃ v, e = .returned v) ∧ J 0 W' := by
  refine callsIn_of_wp Tryz.func110 rfl trivial ?_ rfl
  simp only [Tryz.ntmps110, List.size_toArray, List.length_cons, List.length_nil, Nat.reduceAdd, Nat.reduceSub, Array.replicate_succ, Array.replicate_zero, List.push_toArray, List.append_toArray, List.nil_append, List.cons_append]
  obtain ⟨hc0, hp0⟩ := hJc _ _ h0
  have hr := hp0.room
  unfold maxLen at hr
  have hcc := hp0.cap
  have HJ := Lib.hid hJc
  have HY := Lib.hid hY
  clear hp0 hJc hY
  gi_wp2
  gi_loopw [3] (fun iv wr => ∃ j : Nat, j ≤ m ∧ iv = .int .i64 ((j : Int) - 1) ∧ J j wr) (fun iv _ => (intOf iv + 1).toNat)
  case atStart => exact ⟨m, Nat.le_refl _, rfl, h0⟩
  case round =>
    obtain ⟨j, hj, rfl, hJ⟩ := hrel
    rcases Nat.eq_zero_or_pos j with h | h
    · subst h
      gi_wp2
      go_end0
      exact ⟨⟨_, rfl⟩, hJ⟩
    · obtain ⟨i, rfl⟩ : ∃ i, j = i + 1 := ⟨j - 1, by omega⟩
      obtain ⟨hc1, hp1⟩ := HJ.out _ _ hJ
      obtain ⟨b, off, rfl, _, hcell⟩ := hp1.cells (by omega)
      obtain ⟨neg, B, k, q, e0, e1, e2⟩ := hcell i (by omega)
      clear hcell hp1
      have HYI := Lib.hid (HY.out i neg B k q wr (by omega) hJ e2)
      have ei : (((i + 1 : Nat) : Int) - 1) = (i : Nat) := by omega
      rw [ei]
      clear ei hJ e2
      obtain ⟨fn, tmps, assign, body, hy, hR⟩ := HYI.out
      have HR := Lib.hid hR
      clear hR HYI
      gi_wp2
      refine ⟨fun h => (by cases h), HR.out.mono ?_⟩
      rintro e W3 ⟨rfl, hJ3⟩
      gi_wp2
      go_roundw
      case rel => exact ⟨i, by omega, by go_num, hJ3⟩
      case measure => simp [intOf]
end Go.Proofs.YtdmdagilopckgaaGreat
