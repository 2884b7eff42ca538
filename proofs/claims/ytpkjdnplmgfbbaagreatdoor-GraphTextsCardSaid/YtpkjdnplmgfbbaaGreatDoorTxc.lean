/- strings.TrimSuffix of a newline, strings.Split at spaces, strconv.Atoi; graph.Print of any valid graph. -/
import Derived.Test.YtpkjdnplmgfbbaaGreatDoorTxb
import Derived.Test.YtpkjdnplmgfbbaaGreatDoorShelg
import Derived.Lib.SmallJoins
import Derived.Lib.AtoiTie
import Derived.Shelf.Strconv.ErrVarAll
namespace Go.Proofs.YtpkjdnplmgfbbaaGreatDoor
open Go.RowKit Go.Shelf

/-- The package's variables read as they were laid. -/
structure Vrs (w : World) : Prop where
  tab : Lib.TabIs Tryz.prog w "internal/strconv.uint64pow10" .u64 Lib.pow10Tab
  syn : ∃ tp p, w.var? Tryz.prog "strconv.ErrSyntax" = some #[.iface tp p]
  rng : ∃ tp p, w.var? Tryz.prog "strconv.ErrRange" = some #[.iface tp p]
theorem named_tab : ∃ g, Tryz.prog.globalNamed "internal/strconv.uint64pow10" = some g := Option.isSome_iff_exists.1 (by kernel_rfl)
theorem named_syn : ∃ g, Tryz.prog.globalNamed "strconv.ErrSyntax" = some g := Option.isSome_iff_exists.1 (by kernel_rfl)
theorem named_rng : ∃ g, Tryz.prog.globalNamed "strconv.ErrRange" = some g := Option.isSome_iff_exists.1 (by kernel_rfl)
theorem Vrs.below {w w' : World} (h : Vrs w) (hb : Below w.heap.size w w') : Vrs w' := by
  obtain ⟨g1, h1⟩ := named_tab
  obtain ⟨g2, h2⟩ := named_syn
  obtain ⟨g3, h3⟩ := named_rng
  obtain ⟨a, b, c⟩ := h
  obtain ⟨tp, p, hb2⟩ := b
  obtain ⟨tp', p', hc2⟩ := c
  exact ⟨Go.Joins.tab_stays h1 a hb (Nat.le_refl _), ⟨tp, p, Go.Joins.var_stays h2 hb2 hb (Nat.le_refl _)⟩, ⟨tp', p', Go.Joins.var_stays h3 hc2 hb (Nat.le_refl _)⟩⟩

/-- Does a newline stand at the end? -/
def endNL (s : ByteArray) : Bool := (s.extract (s.size - 1) s.size).toList == [10]
theorem endNL_nil {s : ByteArray} (h : s.size = 0) : endNL s = false := by
  unfold endNL
  have e : (s.extract (s.size - 1) s.size).size = 0 := by rw [ByteArray.size_extract]; omega
  have e2 : (s.extract (s.size - 1) s.size).toList = [] := List.eq_nil_of_length_eq_zero (by rw [Lib.toList_data, ← Lib.size_eq]; exact e)
  rw [e2]
  rfl
/-- Without a newline at the end. -/
def trn (s : ByteArray) : ByteArray := if endNL s = true then s.extract 0 (s.size - 1) else s

set_option maxHeartbeats 2000000 in
set_option maxRecDepth 100000 in
theorem HasSuffix_nl {w : World} (s : ByteArray) (hs : s.size ≤ 1000000) : Calls Tryz.prog 102 #[.string s, .string ⟨#[10]⟩] w fun e w' => e = .returned (.bool (endNL s)) ∧ w = w' := by
  by_cases h1 : 1 ≤ s.size
  · have z1 : decide ((1 : Int) ≤ (s.size : Int)) = true := decide_eq_true (by omega)
    have hs1 : (0 : Int) ≤ (s.size : Int) - 1 := by omega
    have hs2 : (s.size : Int) - 1 ≤ (s.size : Int) := by omega
    have hs3 : ((s.size : Int) - 1).toNat = s.size - 1 := by omega
    go_enter Tryz.func102, Tryz.ntmps102
    go_wp2_with fail
    go_ret
    exact ⟨rfl, rfl⟩
  · have z1 : decide ((1 : Int) ≤ (s.size : Int)) = false := decide_eq_false (by omega)
    have HE := Lib.hid (endNL_nil (s := s) (by omega))
    go_enter Tryz.func102, Tryz.ntmps102
    go_wp2_with fail
    go_ret
    exact ⟨by rw [HE.out]; rfl, rfl⟩
set_option maxHeartbeats 2000000 in
set_option maxRecDepth 100000 in
theorem TrimSuffix_nl {w : World} (s : ByteArray) (hs : s.size ≤ 1000000) : Calls Tryz.prog 49 #[.string s, .string ⟨#[10]⟩] w fun e w' => e = .returned (.string (trn s)) ∧ w = w' := by
  have HP := Lib.hid (fun w => @HasSuffix_nl w s hs)
  have key : ∀ w : World, Calls Tryz.prog 79 #[.string s, .string ⟨#[10]⟩] w fun e w' => e = .returned (.string (trn s)) ∧ w = w' := by
    intro w
    cases hb : endNL s
    · have HT := Lib.hid (show trn s = s by unfold trn; rw [hb]; rfl)
      rw [hb] at HP
      clear hb
      go_enter Tryz.func79, Tryz.ntmps79
      go_wp2_with fail
      refine (HP.out _).mono ?_
      rintro e w' ⟨rfl, rfl⟩
      go_wp2_with fail
      go_ret
      exact ⟨by rw [HT.out]; rfl, rfl⟩
    · have HT := Lib.hid (show trn s = s.extract 0 (s.size - 1) by unfold trn; rw [if_pos hb])
      have h1 : 1 ≤ s.size := by
        rcases Nat.eq_zero_or_pos s.size with h | h
        · rw [endNL_nil h] at hb; cases hb
        · exact h
      rw [hb] at HP
      have hs1 : (0 : Int) ≤ (s.size : Int) - 1 := by omega
      have hs2 : (s.size : Int) - 1 ≤ (s.size : Int) := by omega
      have hs3 : ((s.size : Int) - 1).toNat = s.size - 1 := by omega
      clear hb
      go_enter Tryz.func79, Tryz.ntmps79
      go_wp2_with fail
      refine (HP.out _).mono ?_
      rintro e w' ⟨rfl, rfl⟩
      go_wp2_with fail
      go_ret
      exact ⟨by rw [HT.out]; rfl, rfl⟩
  have HK := Lib.hid key
  clear key HP
  go_enter Tryz.func49, Tryz.ntmps49
  go_wp2_with fail
  refine (HK.out _).mono ?_
  rintro e w' ⟨rfl, rfl⟩
  go_wp2_with fail
  go_ret
  exact ⟨rfl, rfl⟩

/-- The words of a line. -/
def spl (s : ByteArray) : List ByteArray := Lib.splitB ⟨#[32]⟩ 0 (Lib.countB s ⟨#[32]⟩) s
theorem spl_length (s : ByteArray) : (spl s).length = Lib.countB s ⟨#[32]⟩ + 1 := Lib.splitB_all ⟨#[32]⟩ (by decide) 0 _ s rfl
theorem indexB_sp (s : ByteArray) : Lib.indexB s ⟨#[32]⟩ = Lib.indexByte s.data.toList 32 := Lib.index_one _ _
theorem countB_sp (s : ByteArray) : Lib.countB s ⟨#[32]⟩ = Lib.countByte s.data.toList 32 := Lib.count_one _ _
set_option maxHeartbeats 2000000 in
set_option maxRecDepth 100000 in
theorem Split_sp {w : World} (s : ByteArray) (hs : s.size ≤ 1000000) : Calls Tryz.prog 48 #[.string s, .string ⟨#[32]⟩] w fun e w' => e = .returned (.slice (some ⟨w.heap.size, 0, none⟩) (spl s).length (spl s).length) ∧ w' = w.alloc (.cells ((spl s).map Value.string).toArray 9) := by
  have hle := Lib.countB_le ⟨#[32]⟩ (by decide) s.size s (Nat.le_refl _)
  have c := Any.strings_genSplit_core Tryz.lays221 (by kernel_rfl) s ⟨#[32]⟩ 0 (-1) (Lib.countB s ⟨#[32]⟩ + 1) w (by omega) (by decide) (Nat.zero_le _)
    (fun x c _ => by have h := Tryz.strings_Index_one x 32 (w.alloc (.cells c 9)); rw [← indexB_sp] at h; exact h)
    (by have h := Tryz.strings_Count_one s 32 w; rw [← countB_sp] at h; exact h)
    (by decide) (by decide) (by rw [if_pos (by decide)]; omega)
  rw [Nat.add_sub_cancel] at c
  have e2 : Lib.cellsOf (Lib.splitB ⟨#[32]⟩ 0 (Lib.countB s ⟨#[32]⟩) s) (Lib.countB s ⟨#[32]⟩ + 1) = ((spl s).map Value.string).toArray := by rw [← spl_length]; exact Lib.cellsOf_full _
  have c2 : Calls Tryz.prog 78 #[.string s, .string ⟨#[32]⟩, .int .i64 0, .int .i64 (-1)] w fun e w' => e = .returned (.slice (some ⟨w.heap.size, 0, none⟩) (spl s).length (spl s).length) ∧ w' = w.alloc (.cells ((spl s).map Value.string).toArray 9) := by
    refine Calls.mono c ?_
    rintro e w' ⟨h1, h2⟩
    refine ⟨?_, ?_⟩
    · rw [h1, spl_length s]
      have := spl_length s
      unfold spl at this
      rw [this]
    · rw [h2, e2]; rfl
  have HC := Lib.hid c2
  clear c c2 e2 hle
  go_enter Tryz.func48, Tryz.ntmps48
  go_wp2_with fail
  refine HC.out.mono ?_
  rintro e w' ⟨rfl, rfl⟩
  go_wp2_with fail
  go_ret
  exact ⟨rfl, rfl⟩

/-- What a word spells. -/
def ato (s : ByteArray) : Option Int := match Lib.atoiAll s.data.toList with | .ok v => some v | _ => none
def AtoR (s : ByteArray) (w : World) (e : Ending) (w' : World) : Prop :=
  (∃ v, ato s = some v ∧ (-9223372036854775808 ≤ v ∧ v ≤ 9223372036854775807) ∧ e = .returned (.tuple #[.int .i64 v, .nilIface]) ∧ Below w.heap.size w w') ∨
  (ato s = none ∧ (∃ v T q, e = .returned (.tuple #[.int .i64 v, .iface T q])) ∧ Below w.heap.size w w')
theorem Atoi_any {w : World} (h : Vrs w) (s : ByteArray) (hs : s.size ≤ 1000000) : Calls Tryz.prog 50 #[.string s] w (AtoR s w) := by
  rcases hr : Lib.atoiAll s.data.toList with v | _ | _
  · refine (Tryz.strconv_Atoi_ok s (by omega) v hr w).mono ?_
    rintro e w' ⟨rfl, hw⟩
    refine .inl ⟨v, by unfold ato; rw [hr], Lib.atoiAll_bounds hr, rfl, ?_⟩
    rcases hw with rfl | ⟨t, rfl⟩
    · exact Below.refl _ _
    · exact Lib.bytesWorld_below _ _ _
  · obtain ⟨tp, p, hv⟩ := h.syn
    refine (Tryz.strconv_Atoi_syntax_var s (by omega) hr tp p w hv).mono ?_
    rintro e w' ⟨N, rfl, _, _, hb⟩
    exact .inr ⟨by unfold ato; rw [hr], ⟨_, _, _, rfl⟩, hb⟩
  · obtain ⟨tp, p, hv⟩ := h.rng
    refine (Tryz.strconv_Atoi_range_var s (by omega) hr tp p w hv).mono ?_
    rintro e w' ⟨N, rfl, _, _, hb⟩
    exact .inr ⟨by unfold ato; rw [hr], ⟨_, _, _, rfl⟩, hb⟩
end Go.Proofs.YtpkjdnplmgfbbaaGreatDoor
