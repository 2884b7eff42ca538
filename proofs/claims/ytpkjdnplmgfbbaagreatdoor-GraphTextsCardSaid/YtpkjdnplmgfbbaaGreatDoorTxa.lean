/- strings.Lines: its iterator keeps what is left of the text in a cell of its own; what a range over it does. -/
import Derived.Test.YtpkjdnplmgfbbaaGreatDoorG10
import Derived.RangeFuncNested
import Derived.RangeFuncBound
import Derived.RangeFuncCalls
import Derived.RangeFuncLeaves
import Derived.Shelf.Abstract
import Derived.Shelf.RegionOpen
import Derived.WalkKit
import Derived.OwnWalkIn
import Derived.TacticsInMore
import Derived.LoopNIn
import Derived.LoopIn
namespace Go.Proofs.YtpkjdnplmgfbbaaGreatDoor
open Go.RowKit Go.Shelf
attribute [local go_sem] Oper.semAt_some

/-- The lines of a text, each with the newline behind it. -/
def lnF : Nat → ByteArray → List ByteArray
  | 0, _ => []
  | f + 1, s => if s.size = 0 then [] else if Lib.indexByte s.data.toList 10 < 0 then [s] else s.extract 0 ((Lib.indexByte s.data.toList 10).toNat + 1) :: lnF f (s.extract ((Lib.indexByte s.data.toList 10).toNat + 1) s.size)
def lnB (s : ByteArray) : List ByteArray := lnF s.size s
theorem ix_lt {s : ByteArray} {q : Nat} (h : Lib.indexByte s.data.toList 10 = (q : Int)) : q < s.size := by
  have h1 := (Lib.indexByte_some h).1
  rw [Lib.size_eq]
  exact lt_of_some h1
theorem lnF_more : ∀ (f g : Nat) (s : ByteArray), s.size ≤ f → s.size ≤ g → lnF f s = lnF g s
  | 0, 0, _, _, _ => rfl
  | 0, g + 1, s, h, _ => by unfold lnF; rw [if_pos (by omega)]
  | f + 1, 0, s, _, h => by unfold lnF; rw [if_pos (by omega)]
  | f + 1, g + 1, s, h1, h2 => by
    unfold lnF
    split
    · rfl
    · split
      · rfl
      · rw [lnF_more f g]
        all_goals
          rw [ByteArray.size_extract]
          omega
theorem lnB_nil {s : ByteArray} (h : s.size = 0) : lnB s = [] := by unfold lnB; rw [h]; rfl
theorem lnB_last {s : ByteArray} (h : s.size ≠ 0) (hi : Lib.indexByte s.data.toList 10 < 0) : lnB s = [s] := by
  unfold lnB
  obtain ⟨f, hf⟩ : ∃ f, s.size = f + 1 := ⟨s.size - 1, by omega⟩
  rw [hf]
  unfold lnF
  rw [if_neg h, if_pos hi]
theorem lnB_cons {s : ByteArray} {q : Nat} (hi : Lib.indexByte s.data.toList 10 = (q : Int)) : lnB s = s.extract 0 (q + 1) :: lnB (s.extract (q + 1) s.size) := by
  have h := ix_lt hi
  unfold lnB
  obtain ⟨f, hf⟩ : ∃ f, s.size = f + 1 := ⟨s.size - 1, by omega⟩
  rw [hf]
  conv => lhs; unfold lnF
  rw [if_neg (by omega), if_neg (by omega), hi, Int.toNat_natCast, hf]
  congr 1
  refine lnF_more _ _ _ ?_ (Nat.le_refl _)
  rw [ByteArray.size_extract]
  omega

/-- What keeps: the cell that holds what is left. -/
def Cells (b : Nat) (w w' : World) : Prop := w'.cell? ⟨b, 0, none⟩ = w.cell? ⟨b, 0, none⟩ ∧ w'.frozen? ⟨b, 0, none⟩ = w.frozen? ⟨b, 0, none⟩

set_option maxHeartbeats 2000000 in
set_option maxRecDepth 100000 in
theorem Lines_any {w : World} (s : ByteArray) : Calls Tryz.prog 47 #[.string s] w fun e w' => e = .returned (.func (.func 76) #[] #[.pointer (some ⟨w.heap.size, 0, none⟩)]) ∧ w' = w.alloc (.cells #[.string s] 9) := by
  go_enter Tryz.func47, Tryz.ntmps47
  go_wp2_with fail
  go_ret
  exact ⟨rfl, rfl⟩

/-- How much is left. -/
def lft (b : Nat) (w : World) : Nat := match w.cell? ⟨b, 0, none⟩ with | some (.string r) => r.size | _ => 0
theorem lft_eq {b : Nat} {w : World} {r : ByteArray} (h : w.cell? ⟨b, 0, none⟩ = some (.string r)) : lft b w = r.size := by unfold lft; rw [h]

set_option maxHeartbeats 8000000 in
set_option maxRecDepth 100000 in
theorem lines1_in (n l Bn : Nat) (s : ByteArray) (hs : s.size ≤ 1000000) (J Jx : List ByteArray → World → Prop)
    (hJs : ∀ pre W v, J pre W → J pre (W.setCell ⟨Bn, 0, none⟩ v)) (hJd : ∀ pre W, J pre W → J pre W.drew)
    (hY : ∀ pre x W, J pre W → pre ++ [x] <+: lnB s → YieldAt Fence.wide (n - 1) Tryz.prog l #[.string x] W fun e W' =>
      (e = .returned (.bool true) ∧ J (pre ++ [x]) W' ∧ Cells Bn W W') ∨ (e = .returned (.bool false) ∧ Jx (pre ++ [x]) W'))
    (W : World) (hBn : W.cell? ⟨Bn, 0, none⟩ = some (.string s)) (hfz : W.frozen? ⟨Bn, 0, none⟩ = false) (h0 : J [] W) :
    CallsIn Fence.wide n Tryz.prog 76 #[.func (.yield l) #[] #[], .pointer (some ⟨Bn, 0, none⟩)] W fun e W' => (∃ v, e = .returned v) ∧
      (J (lnB s) W' ∨ (∃ pre, pre <+: lnB s ∧ Jx pre W')) := by
  refine callsIn_of_wp Tryz.func76 rfl trivial ?_ rfl
  simp only [Tryz.ntmps76, List.size_toArray, List.length_cons, List.length_nil, Nat.reduceAdd, Nat.reduceSub, Array.replicate_succ, Array.replicate_zero, List.push_toArray, List.append_toArray, List.nil_append, List.cons_append]
  gi_wp2
  gi_loopw [3, 4] (fun _ _ wr => ∃ (pre : List ByteArray) (r : ByteArray), Hid (lnB s = pre ++ lnB r) ∧ r.size ≤ 1000000 ∧ wr.cell? ⟨Bn, 0, none⟩ = some (.string r) ∧ wr.frozen? ⟨Bn, 0, none⟩ = false ∧ J pre wr) (fun _ _ wr => lft Bn wr)
  case atStart => exact ⟨[], s, Lib.hid rfl, hs, hBn, hfz, h0⟩
  case round =>
    obtain ⟨pre, r, HL, hr, hc, hf, hJ⟩ := hrel
    by_cases hz : r.size = 0
    · have HN := Lib.hid (lnB_nil hz)
      gi_wp2
      go_end0
      exact ⟨⟨_, rfl⟩, .inl (by rw [HL.out, HN.out, List.append_nil]; exact hJ)⟩
    · have hpos : 0 < r.size := by omega
      have HC := Lib.hid (fun w => callsIn_wide (n := n - 1).2 (Tryz.strings_IndexByte r 10 w))
      by_cases hi : Lib.indexByte r.data.toList 10 < 0
      · have hi1 := Lib.indexByte_ge r.data.toList 10
        have HLA := Lib.hid (lnB_last (by omega) hi)
        have e1 : Lib.indexByte r.data.toList 10 = -1 := by omega
        have HC2 : ∀ w, CallsIn Fence.wide (n - 1) Tryz.prog 77 #[.string r, .int .u8 10] w fun e w' => e = .returned (.int .i64 (-1)) ∧ w = w' := fun w => by
          have h := HC.out w
          rw [show (10 : Int).toNat.toUInt8 = 10 from rfl, e1] at h
          exact h.mono fun e w' ⟨h1, h2⟩ => ⟨h1, h2.symm⟩
        have HC3 := Lib.hid HC2
        clear HC2 HC hi hi1 e1 hz
        gi_wp2
        refine ⟨trivial, fun h => (by cases h), (HC3.out _).mono ?_⟩
        rintro e w' ⟨rfl, rfl⟩
        have hcx : (wr.setCell ⟨Bn, 0, none⟩ (.string ⟨#[]⟩)).cell? ⟨Bn, 0, none⟩ = some (.string ⟨#[]⟩) := World.cell?_setCell_same' _ _ _ (by rw [hc]; rfl)
        have hfx : (wr.setCell ⟨Bn, 0, none⟩ (.string ⟨#[]⟩)).frozen? ⟨Bn, 0, none⟩ = false := by
          rw [World.frozen?_setCell]
          exact hf
        have hJ2 := hJs _ _ (.string ⟨#[]⟩) hJ
        have hpx : pre ++ [r] <+: lnB s := by
          rw [HL.out, HLA.out]
          exact ⟨[], by simp⟩
        have HL' := Lib.hid (show lnB s = (pre ++ [r]) ++ lnB ⟨#[]⟩ by rw [HL.out, HLA.out, lnB_nil (s := ⟨#[]⟩) rfl]; simp)
        have HMS := Lib.hid (lft_eq hc)
        have HY2 := hY _ _ _ hJ2 hpx
        have HPX := Lib.hid hpx
        clear hpx hJ2
        obtain ⟨fn, tmps, assign, body, hy, hR⟩ := HY2
        gi_wp2
        refine ⟨fun h => (by cases h), hR.mono ?_⟩
        clear hJ hc hf
        generalize wr.setCell ⟨Bn, 0, none⟩ (.string ⟨#[]⟩) = W2 at *
        rintro e W3 (⟨rfl, hJ3, hk3⟩ | ⟨rfl, hJx3⟩)
        · have hc3 := hk3.1.trans hcx
          have hf3 := hk3.2.trans hfx
          have HM3 := Lib.hid (lft_eq hc3)
          gi_wp2
          go_roundw
          case rel => exact ⟨_, _, HL', by decide, hc3, hf3, hJ3⟩
          case measure => rw [HM3.out, HMS.out]; exact hpos
        · gi_wp2
          refine bodyPost_ret (results_none rfl _ _ _) rfl ?_
          exact ⟨⟨_, rfl⟩, .inr ⟨_, HPX.out, hJx3⟩⟩
      · obtain ⟨q, hq⟩ : ∃ q : Nat, Lib.indexByte r.data.toList 10 = (q : Int) := ⟨(Lib.indexByte r.data.toList 10).toNat, by omega⟩
        have hql := ix_lt hq
        have HCO := Lib.hid (lnB_cons hq)
        have HC2 : ∀ w, CallsIn Fence.wide (n - 1) Tryz.prog 77 #[.string r, .int .u8 10] w fun e w' => e = .returned (.int .i64 (q : Int)) ∧ w = w' := fun w => by
          have h := HC.out w
          rw [show (10 : Int).toNat.toUInt8 = 10 from rfl, hq] at h
          exact h.mono fun e w' ⟨h1, h2⟩ => ⟨h1, h2.symm⟩
        have HC3 := Lib.hid HC2
        clear HC2 HC hi hq hz
        gi_wp2
        refine ⟨trivial, fun h => (by cases h), (HC3.out _).mono ?_⟩
        rintro e w' ⟨rfl, rfl⟩
        gi_wp2
        have hq0 : (0 : Int) ≤ (q : Int) + 1 := by omega
        have hq1 : (q : Int) + 1 ≤ (r.size : Int) := by omega
        have hq2 : ((q : Int) + 1).toNat = q + 1 := by omega
        have hcx : ((wr.setCell ⟨Bn, 0, none⟩ (.string (r.extract (q + 1) r.size))).drew).cell? ⟨Bn, 0, none⟩ = some (.string (r.extract (q + 1) r.size)) := by
          rw [cell_drew_own]
          exact World.cell?_setCell_same' _ _ _ (by rw [hc]; rfl)
        have hfx : ((wr.setCell ⟨Bn, 0, none⟩ (.string (r.extract (q + 1) r.size))).drew).frozen? ⟨Bn, 0, none⟩ = false := by
          rw [frozen_drew_own, World.frozen?_setCell]
          exact hf
        have hJ2 := hJd _ _ (hJs _ _ (.string (r.extract (q + 1) r.size)) hJ)
        have hpx : pre ++ [r.extract 0 (q + 1)] <+: lnB s := by
          rw [HL.out, HCO.out]
          exact ⟨lnB (r.extract (q + 1) r.size), by simp⟩
        have HL' := Lib.hid (show lnB s = (pre ++ [r.extract 0 (q + 1)]) ++ lnB (r.extract (q + 1) r.size) by rw [HL.out, HCO.out]; simp)
        have hrs : (r.extract (q + 1) r.size).size ≤ 1000000 := by rw [ByteArray.size_extract]; omega
        have hms : lft Bn wr = r.size := lft_eq hc
        have HMS := Lib.hid hms
        have hms2 : (r.extract (q + 1) r.size).size < r.size := by rw [ByteArray.size_extract]; omega
        have HY2 := hY _ _ _ hJ2 hpx
        have HPX := Lib.hid hpx
        clear hms hpx hJ2
        refine wpIn_wide.2 ?_
        go_region
        obtain ⟨fn, tmps, assign, body, hy, hR⟩ := HY2
        clear hJ hc hf
        generalize (wr.setCell ⟨Bn, 0, none⟩ (.string (r.extract (q + 1) r.size))).drew = W2 at *
        gi_wp2
        refine ⟨fun h => (by cases h), hR.mono ?_⟩
        rintro e W3 (⟨rfl, hJ3, hk3⟩ | ⟨rfl, hJx3⟩)
        · have hc3 := hk3.1.trans hcx
          have hf3 := hk3.2.trans hfx
          have HM3 := Lib.hid (lft_eq hc3)
          gi_wp2
          go_roundw
          case rel => exact ⟨_, _, HL', hrs, hc3, hf3, hJ3⟩
          case measure => rw [HM3.out, HMS.out]; exact hms2
        · gi_wp2
          refine bodyPost_ret (results_none rfl _ _ _) rfl ?_
          exact ⟨⟨_, rfl⟩, .inr ⟨_, HPX.out, hJx3⟩⟩
end Go.Proofs.YtpkjdnplmgfbbaaGreatDoor
