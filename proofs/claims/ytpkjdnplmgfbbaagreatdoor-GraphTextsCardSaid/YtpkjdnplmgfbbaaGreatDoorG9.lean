/- strings.Builder: WriteString, WriteByte. graph.Print of a small graph. base.SameInt of integers in normal form. -/
import Derived.Test.YtpkjdnplmgfbbaaGreatDoorG8
import Derived.Lib.Builder
import Derived.Lib.AppendStr
import Derived.Lib.UnsafeStr
import Derived.Laws.Externs
namespace Go.Proofs.YtpkjdnplmgfbbaaGreatDoor
open Go.RowKit

/-- A builder of the call's own (block b, from B on) that holds the bytes l. -/
def Bld (w : World) (B b : Nat) (l : List UInt8) : Prop := Lib.IsBuilder 100 5 B b (Lib.byteCells l) w

theorem bld_size : (Tryz.prog.info? 100).map (·.size) = some 2 := by kernel_rfl
theorem bld_lies : liesAt Tryz.prog Tryz.prog.depth 100 (2 / Tryz.prog.cellsOf 100) 0 100 1 = true := by kernel_rfl
theorem bld_byte : (Tryz.prog.info? 5).map (fun i => (i.zero, i.size, i.bytes)) = some (some (.int .u8 0), 1, 1) := by kernel_rfl

set_option maxHeartbeats 1000000 in
set_option maxRecDepth 100000 in
theorem copyCheck_used (b : Nat) (w : World) (h0 : w.cell? ⟨b, 0, none⟩ = some (.pointer (some ⟨b, 0, none⟩))) :
    Calls Tryz.prog 84 #[.pointer (some ⟨b, 0, none⟩)] w fun e w' => e = .returned (.tuple #[]) ∧ w = w' := by
  obtain ⟨j, hj, _⟩ := Option.map_eq_some_iff.1 bld_size
  go_enter Tryz.func84, Tryz.ntmps84
  go_wp2
  rw [Lib.run_neq_ptr_same w _ Tryz.underlying97 hj]
  go_wp2
  go_end0
  exact ⟨rfl, rfl⟩

set_option maxHeartbeats 1000000 in
set_option maxRecDepth 100000 in
theorem copyCheck_fresh (b : Nat) (w : World) (h0 : w.cell? ⟨b, 0, none⟩ = some (.pointer none)) (hsh : w.shape? b = some (100, 2)) (hfz : w.frozen? ⟨b, 0, none⟩ = false) :
    Calls Tryz.prog 84 #[.pointer (some ⟨b, 0, none⟩)] w fun e w' => e = .returned (.tuple #[]) ∧ w' = w.setCell ⟨b, 0, none⟩ (.pointer (some ⟨b, 0, none⟩)) := by
  obtain ⟨j, hj, hjs⟩ := Option.map_eq_some_iff.1 bld_size
  go_enter Tryz.func84, Tryz.ntmps84
  go_wp2
  rw [Lib.run_to_unsafe w ⟨b, 0, none⟩ Tryz.underlying97 Tryz.underlying138 hj (by rw [hjs]; decide) hsh (Nat.zero_lt_succ 1)]
  simp only [Result.andThen]
  rw [Oper.upon_value]
  go_wp2
  rw [run_callFunc_extern Tryz.func109 (by kernel_rfl) (by kernel_rfl) (by kernel_rfl) (e := Extern.AbiNoEscape.same) (by kernel_rfl)]
  rw [Lib.run_noEscape]
  simp only [Result.andThen]
  rw [Oper.upon_value]
  go_wp2
  rw [Lib.run_from_unsafe w ⟨b, 0, none⟩ Tryz.underlying138 Tryz.underlying97 hj hsh bld_lies]
  simp only [Result.andThen]
  rw [Oper.upon_value]
  go_wp2
  go_end0
  exact ⟨rfl, rfl⟩

theorem copyCheck_any (B b : Nat) (bs : List Value) (w : World) (h : Lib.IsBuilder 100 5 B b bs w) :
    Calls Tryz.prog 84 #[.pointer (some ⟨b, 0, none⟩)] w fun e w' => e = .returned (.tuple #[]) ∧ Lib.BuilderAt 100 5 B b (.pointer (some ⟨b, 0, none⟩)) bs w' ∧ Below B w w' := by
  rcases h with h | h
  · refine (copyCheck_fresh b w h.cell0 h.shape h.frozen0).mono ?_
    rintro e w' ⟨rfl, rfl⟩
    exact ⟨rfl, h.used _, (Below.refl B w).setCell (p := ⟨b, 0, none⟩) h.1 _⟩
  · refine (copyCheck_used b w h.cell0).mono ?_
    rintro e w' ⟨rfl, rfl⟩
    exact ⟨rfl, h, Below.refl B _⟩

set_option maxHeartbeats 2000000 in
set_option maxRecDepth 100000 in
theorem WriteByte_any {B b : Nat} {l : List UInt8} (x : UInt8) {w : World} (h : Bld w B b l) (hlen : l.length + 1 ≤ 140737488355328) (hBw : B ≤ w.heap.size) :
    Calls Tryz.prog 58 #[.pointer (some ⟨b, 0, none⟩), .int .u8 (x.toNat : Int)] w fun e w' => e = .returned .nilIface ∧ Bld w' B b (l ++ [x]) ∧ Below B w w' := by
  obtain ⟨i0, hi, hz0, hz1, hz2⟩ := info_parts bld_byte
  have hll : (Lib.byteCells l).length = l.length := by simp [Lib.byteCells]
  have hbl : Lib.byteCells (l ++ [x]) = Lib.byteCells l ++ [.int .u8 (x.toNat : Int)] := by simp [Lib.byteCells]
  unfold Bld at h ⊢
  rw [hbl]
  generalize Lib.byteCells l = bs at *
  generalize (x.toNat : Int) = c at *
  rw [← hll] at hlen
  clear hll hbl
  go_enter Tryz.func58, Tryz.ntmps58
  go_wp2_with (go_at_call 84; refine (copyCheck_any B b bs _ h).mono ?_)
  rintro e w1 ⟨rfl, h1, hb1⟩
  obtain ⟨hB, v, hbk, hown, hne⟩ := h1
  have c0 : w1.cell? ⟨b, 0, none⟩ = some (.pointer (some ⟨b, 0, none⟩)) := by rw [Lib.cell_of_heap hbk]; rfl
  have c1 : w1.cell? ⟨b, 1, none⟩ = some v := by rw [Lib.cell_of_heap hbk]; rfl
  go_wp2_with (at_builtin; refine wpList_append_own _ rfl _ _ 98 rfl B 5 i0 (.int .u8 0) 1 1 Tryz.underlying98 hi hz0 hz1 hz2 rfl (by decide) _ _ _ rfl (hown.alloc _) ⟨w1.heap.size, 0, none⟩ 1 1 [.int .u8 c] rfl rfl ?c1 ?c2 ?c3 ?c4 ?c5 ?_)
  case c1 =>
    intro j u hj
    match j, hj with
    | 0, hj => simp at hj; subst hj; simp [Addr.add]
  case c2 => intro u hu; simp at hu; subst hu; rfl
  case c3 => unfold maxLen; omega
  case c4 => omega
  case c5 => have := hb1.size; simp; omega
  intro v' w2 hown' hgrow _
  have hlt : b < w1.heap.size := by
    rcases Nat.lt_or_ge b w1.heap.size with h' | h'
    · exact h'
    · simp [Array.getElem?_eq_none h'] at hbk
  have hb2 : w2.heap[b]? = some (.cells #[.pointer (some ⟨b, 0, none⟩), v] 100 (0, 0)) := by
    rw [hgrow.block b (by simp; omega) (fun e => hne e.symm), Lib.alloc_old w1 _ b hlt]
    exact hbk
  have d0 : w2.cell? ⟨b, 0, none⟩ = some (.pointer (some ⟨b, 0, none⟩)) := by rw [Lib.cell_of_heap hb2]; rfl
  have d1 : w2.cell? ⟨b, 1, none⟩ = some v := by rw [Lib.cell_of_heap hb2]; rfl
  have f1 : w2.frozen? ⟨b, 1, none⟩ = false := Lib.frozen_of_heap hb2 1
  obtain ⟨g, cap, rfl⟩ : ∃ g cap, v' = .slice (some ⟨g, 0, none⟩) (bs.length + 1) cap := by
    rcases hown'.2 with ⟨_, h0⟩ | ⟨g, cap, cur, hv, _⟩
    · omega
    · exact ⟨g, cap, hv⟩
  go_wp2
  go_ret
  refine ⟨rfl, .inr ?_, ?_⟩
  · exact Lib.BuilderAt.put (T := 100) (e := 5) hB hb2 (bs' := bs ++ [.int .u8 c]) (by simpa using hown') (by decide)
  · exact ((hb1.alloc (by have := hb1.size; omega) _).grown hgrow (by have := hb1.size; simp; omega) (fun k hk => (hown.lt k hk).1)).setCell (p := ⟨b, 1, none⟩) hB _

set_option maxHeartbeats 2000000 in
set_option maxRecDepth 100000 in
theorem WriteString_any {B b : Nat} {l : List UInt8} (s : ByteArray) {w : World} (h : Bld w B b l) (hlen : l.length + s.size ≤ 140737488355328) (hBw : B ≤ w.heap.size) :
    Calls Tryz.prog 56 #[.pointer (some ⟨b, 0, none⟩), .string s] w fun e w' => e = .returned (.tuple #[.int .i64 s.size, .nilIface]) ∧ Bld w' B b (l ++ s.data.toList) ∧ Below B w w' := by
  obtain ⟨i0, hi, hz0, hz1, hz2⟩ := info_parts bld_byte
  have hll : (Lib.byteCells l).length = l.length := by simp [Lib.byteCells]
  have hbl : Lib.byteCells (l ++ s.data.toList) = Lib.byteCells l ++ Lib.strCells s := by simp [Lib.byteCells, Lib.strCells]
  unfold Bld at h ⊢
  rw [hbl]
  generalize Lib.byteCells l = bs at *
  rw [← hll] at hlen
  clear hll hbl
  go_enter Tryz.func56, Tryz.ntmps56
  go_wp2_with (go_at_call 84; refine (copyCheck_any B b bs _ h).mono ?_)
  rintro e w1 ⟨rfl, h1, hb1⟩
  obtain ⟨hB, v, hbk, hown, hne⟩ := h1
  have c0 : w1.cell? ⟨b, 0, none⟩ = some (.pointer (some ⟨b, 0, none⟩)) := by rw [Lib.cell_of_heap hbk]; rfl
  have c1 : w1.cell? ⟨b, 1, none⟩ = some v := by rw [Lib.cell_of_heap hbk]; rfl
  go_wp2_with (at_builtin; refine Lib.wpList_append_own_string _ rfl _ _ 98 9 rfl B 5 i0 Tryz.underlying98 Tryz.underlying9 hi hz0 hz1 hz2 _ _ _ rfl hown s rfl ?c3 ?c4 ?c5 ?_)
  case c3 => unfold maxLen; omega
  case c4 => omega
  case c5 => have := hb1.size; omega
  intro v' w2 hown' hgrow _
  have hlt : b < w1.heap.size := by
    rcases Nat.lt_or_ge b w1.heap.size with h' | h'
    · exact h'
    · simp [Array.getElem?_eq_none h'] at hbk
  have hb2 : w2.heap[b]? = some (.cells #[.pointer (some ⟨b, 0, none⟩), v] 100 (0, 0)) := by
    rw [hgrow.block b hlt (fun e => hne e.symm)]
    exact hbk
  have d0 : w2.cell? ⟨b, 0, none⟩ = some (.pointer (some ⟨b, 0, none⟩)) := by rw [Lib.cell_of_heap hb2]; rfl
  have d1 : w2.cell? ⟨b, 1, none⟩ = some v := by rw [Lib.cell_of_heap hb2]; rfl
  have f1 : w2.frozen? ⟨b, 1, none⟩ = false := Lib.frozen_of_heap hb2 1
  obtain ⟨ao, n', cap, rfl⟩ : ∃ ao n' cap, v' = .slice ao n' cap := by
    rcases hown'.2 with ⟨hv, _⟩ | ⟨g, cap, cur, hv, _⟩
    · exact ⟨_, _, _, hv⟩
    · exact ⟨_, _, _, hv⟩
  go_wp2
  go_ret2
  refine ⟨rfl, .inr ?_, ?_⟩
  · exact Lib.BuilderAt.put (T := 100) (e := 5) hB hb2 (bs' := bs ++ Lib.strCells s) (by simpa [Lib.strCells_length] using hown') (by decide)
  · exact (hb1.grown hgrow (by have := hb1.size; omega) (fun k hk => (hown.lt k hk).1)).setCell (p := ⟨b, 1, none⟩) hB _
end Go.Proofs.YtpkjdnplmgfbbaaGreatDoor

namespace Go.Proofs.YtpkjdnplmgfbbaaGreatDoor
open Go.RowKit

/-- The numbers of a line, each behind a space. -/
def nums (l : List Nat) : List UInt8 := l.flatMap fun v => 32 :: Lib.decDigits v
/-- The first k lines of a graph. -/
def prn (names : List ByteArray) (E : List (List Nat)) : Nat → List UInt8
  | 0 => []
  | k + 1 => prn names E k ++ (names.getD k ByteArray.empty).data.toList ++ nums (gr E k) ++ [10]
theorem nums_snoc (l : List Nat) (v : Nat) : nums (l ++ [v]) = nums l ++ (32 :: Lib.decDigits v) := by simp [nums]
theorem dec_short : ∀ v, v < 100 → (Lib.decDigits v).length ≤ 2 := by
  intro v hv
  rw [Lib.decDigits]
  split
  · simp
  · rw [Lib.decDigits, dif_pos (by omega)]; simp
theorem nums_short {l : List Nat} (h : ∀ v ∈ l, v < 100) : (nums l).length ≤ 3 * l.length := by
  induction l with
  | nil => simp [nums]
  | cons x r ih =>
    have h1 := dec_short x (h x (by simp))
    have h2 := ih fun v hv => h v (by simp [hv])
    have e : nums (x :: r) = (32 :: Lib.decDigits x) ++ nums r := by simp [nums]
    rw [e]
    simp only [List.length_append, List.length_cons]
    omega
theorem prn_short {names : List ByteArray} {E : List (List Nat)} (hk : Ok names E) (h100 : E.length ≤ 100) : ∀ k, k ≤ E.length → (prn names E k).length ≤ k * 2000 := by
  intro k
  induction k with
  | zero => intro _; simp [prn]
  | succ k ih =>
    intro hkl
    have h1 := ih (by omega)
    have h2 : (nums (gr E k)).length ≤ 3 * (gr E k).length := nums_short fun v hv => by have := hk.valid k (by omega) v hv; omega
    have h3 := hk.deg k
    have hkn : k < names.length := by rw [hk.len]; omega
    have h4 := (hk.name _ (List.mem_of_getElem? (List.getElem?_eq_getElem hkn))).2.1
    have h5 : (names.getD k ByteArray.empty).data.toList.length ≤ 40 := by
      rw [getD_some (List.getElem?_eq_getElem hkn), ← Lib.size_eq]; exact h4
    rw [prn]
    simp only [List.length_append, List.length_singleton]
    omega

set_option maxHeartbeats 1000000 in
theorem Print_bad {w : World} {v : Value} {names : List ByteArray} {E : List (List Int)} (h : GrV w v names E) (hc : chk names E ≠ 0) :
    Calls Tryz.prog 20 #[v] w fun e w' => e = .returned (.tuple #[.string ⟨#[]⟩, .int .i64 (chk names E : Nat)]) ∧ Below w.heap.size w w' := by
  have HC := Lib.hid (fun w' hb => Check_any (h.at w' hb))
  generalize chk names E = q at *
  have hz : (((q : Nat) : Int) != 0) = true := by simp [hc]
  clear hc
  obtain ⟨A, c, A', c', rfl, hs, hg⟩ := h
  obtain ⟨W, G, hW, hG, hbW, c0, c1, hGl, hwG⟩ := gbox w (.slice A names.length c) (.slice A' E.length c')
  have HW := Lib.hid hW
  have HG := Lib.hid hG
  clear hW hG
  go_enter Tryz.func20, Tryz.ntmps20
  go_wp2_with (go_at_call 55; rw [← HW.out]; refine (HC.out _ hbW).mono ?_; rintro e w1 ⟨rfl, hb1⟩)
  go_ret2
  exact ⟨rfl, hbW.trans (hb1.mono hbW.size)⟩

set_option maxHeartbeats 4000000 in
set_option maxRecDepth 100000 in
theorem Print_ok {w : World} {v : Value} {names : List ByteArray} {E : List (List Nat)} (h : GrV w v names (toI E)) (hc : chk names (toI E) = 0) (hk : Ok names E) (h100 : E.length ≤ 100) :
    Calls Tryz.prog 20 #[v] w fun e w' => e = .returned (.tuple #[.string ⟨(prn names E E.length).toArray⟩, .int .i64 0]) ∧ Below w.heap.size w w' := by
  have HC := Lib.hid (fun w' hb => Check_any (h.at w' hb))
  rw [hc] at HC
  have hsm := hk.small
  have HPS := Lib.hid (prn_short hk h100)
  obtain ⟨A, c, A', c', rfl, hs, hg⟩ := h
  rw [toI_length] at *
  obtain ⟨W, G, hW, hG, hbW, c0, c1, hGl, hwG⟩ := gbox w (.slice A names.length c) (.slice A' E.length c')
  replace hg := hg.below hbW
  replace hs := hs.below hbW
  have hr := hg.room
  have hr' := hs.room
  have hln := hk.len
  unfold maxLen at hr hr'
  have HW := Lib.hid hW
  have HG := Lib.hid hG
  have HK := Lib.hid hk
  have HLN := Lib.hid hln
  have hnl : names.length ≤ 100 := by omega
  clear hW hG hc hk hln
  go_enter Tryz.func20, Tryz.ntmps20
  go_wp2_with (go_at_call 55; rw [← HW.out, ← HG.out]; refine (HC.out _ hbW).mono ?_; rintro e w1 ⟨rfl, hb1⟩; have hb2 := hbW.trans (hb1.mono hbW.size); have d0 := ((bcell hb1).1 _ 0 hGl).trans c0; have d1 := ((bcell hb1).1 _ 1 hGl).trans c1; have hGl2 := Nat.lt_of_lt_of_le hGl hb1.size)
  obtain ⟨w2, B, hw2, hB⟩ : ∃ w2 B, w2 = w1.alloc (.cells #[.pointer none, .slice none 0 0] 100) ∧ B = w1.heap.size := ⟨_, _, rfl, rfl⟩
  have hbl : Bld w2 B B [] := by rw [hw2, hB]; exact Lib.fresh_isBuilder _ _ w1
  have hb3 : Below B w1 w2 := by rw [hw2, hB]; exact (Below.refl _ _).alloc (Nat.le_refl _) _
  have hBw : w1.heap.size ≤ B := by omega
  replace hg := hg.below hb1
  replace hs := hs.below hb1
  have HB := Lib.hid hB
  rw [← hw2, ← hB]
  clear hw2 hB hb1 c0 c1
  go_loopw [18] (fun i wr => ∃ k : Nat, k ≤ names.length ∧ i = .int .i64 (k : Nat) ∧ Bld wr B B (prn names E k) ∧ Below B w1 wr) (fun i _ => names.length - (intOf i).toNat)
  case atStart => exact ⟨0, Nat.zero_le _, rfl, hbl, hb3⟩
  case round =>
    clear hbl hb3
    obtain ⟨k, hkl, rfl, hbl, hbr⟩ := hrel
    have hbr' : Below w1.heap.size w1 wr := by rw [← HB.out]; exact hbr
    have hBr : B ≤ wr.heap.size := by rw [HB.out]; exact hbr.size
    by_cases hlt : k < names.length
    · have hkE : k < E.length := by rw [← HLN.out]; exact hlt
      obtain ⟨b1, off1, rfl, hcell⟩ := hs.cell (by omega)
      obtain ⟨x, hx⟩ : ∃ x, names[k]? = some x := ⟨_, List.getElem?_eq_getElem hlt⟩
      have hcx' := hcell k x hx
      have hcx := ((bcell hbr').1 _ _ (cell_some_lt hcx')).trans hcx'
      have hxm := (HK.out.name x (List.mem_of_getElem? hx)).2.1
      obtain ⟨b2, off2, A2, c2, rfl, hrow', hr3, hr4, hil⟩ := hg.row hkE
      have f1' := d1
      have hpl := HPS.out k (by omega)
      have HX := Lib.hid hx
      have HPL := Lib.hid hpl
      clear hcell hx hpl
      have HBB := Lib.hid (fun w' (hb : Below B w1 w') => show Below w1.heap.size w1 w' by rw [← HB.out]; exact hb)
      go_wp2_with fail
      refine (WriteString_any x hbl (by have := HPL.out; omega) hBr).mono ?_
      rintro e w3 ⟨rfl, hbl3, hb3⟩
      have hb4 := hbr.trans hb3
      have hb4' := HBB.out _ hb4
      have g1 := ((bcell hb4').1 _ 1 hGl2).trans d1
      have hrow := ((bcell hb4').1 _ _ (cell_some_lt hrow')).trans hrow'
      have hki : (k : Int) < (E.length : Int) := by omega
      clear hb3 hbr hbr' hcx hcx' hbl f1' hBr
      go_wp2_with fail
      clear hb4' g1 hrow
      go_loopw [31] (fun i wr => ∃ t : Nat, t ≤ (gr E k).length ∧ i = .int .i64 (t : Nat) ∧ Bld wr B B (prn names E k ++ x.data.toList ++ nums ((gr E k).take t)) ∧ Below B w1 wr) (fun i _ => (gr E k).length - (intOf i).toNat)
      case atStart => exact ⟨0, Nat.zero_le _, rfl, by simpa [nums] using hbl3, hb4⟩
      case round =>
        clear hbl3 hb4
        obtain ⟨t, htl, rfl, hbl, hbr⟩ := hrel
        have hBr : B ≤ wr.heap.size := by rw [HB.out]; exact hbr.size
        have hlen : (prn names E k ++ x.data.toList ++ nums ((gr E k).take t)).length ≤ 1000000 := by
          have h1 := HPL.out
          have h2 : (nums ((gr E k).take t)).length ≤ 3 * ((gr E k).take t).length := nums_short fun v hv => by have := HK.out.valid k hkE v (List.mem_of_mem_take hv); omega
          have h3 := HK.out.deg k
          have h4 : x.data.toList.length ≤ 40 := by rw [← Lib.size_eq]; exact hxm
          rw [List.length_take] at h2
          simp only [List.length_append]
          omega
        have HLEN := Lib.hid hlen
        clear hlen
        by_cases htt : t < (gr E k).length
        · obtain ⟨y, hy⟩ : ∃ y, (gr E k)[t]? = some y := ⟨_, List.getElem?_eq_getElem htt⟩
          have hyl : y < E.length := HK.out.valid k hkE y (List.mem_of_getElem? hy)
          obtain ⟨b3, off3, rfl, hcy⟩ := (hil.below (HBB.out _ hbr)).num hy
          have et : nums ((gr E k).take (t + 1)) = nums ((gr E k).take t) ++ (32 :: Lib.decDigits y) := by rw [List.take_add_one, hy]; exact nums_snoc _ _
          have HET := Lib.hid et
          have hdl := dec_short y (by omega)
          have hsd : (({ data := #[32] } : ByteArray) ++ ({ data := (Lib.decDigits y).toArray } : ByteArray)).data.toList = 32 :: Lib.decDigits y := by simp
          have hss : (({ data := #[32] } : ByteArray) ++ ({ data := (Lib.decDigits y).toArray } : ByteArray)).size ≤ 3 := by rw [Lib.size_eq, hsd, List.length_cons]; omega
          have HSD := Lib.hid hsd
          clear et hy hsd
          go_wp2_with (go_at_call 57; refine (Tryz.strconv_Itoa_small y (by omega) _).mono ?_; rintro e w5 ⟨rfl, rfl⟩)
          refine (WriteString_any _ hbl (by have := HLEN.out; omega) hBr).mono ?_
          rintro e w6 ⟨rfl, hbl6, hb6⟩
          rw [HSD.out] at hbl6
          have hbl7 : Bld w6 B B (prn names E k ++ x.data.toList ++ nums ((gr E k).take (t + 1))) := by rw [HET.out, ← List.append_assoc]; exact hbl6
          have hb7 := hbr.trans hb6
          clear hbl6 hb6 hbl hbr
          go_wp2_with fail
          go_roundw
          case rel => exact ⟨t + 1, by omega, by go_num, hbl7, hb7⟩
          case measure => simp [intOf]; omega
        · obtain rfl : t = (gr E k).length := by omega
          rw [List.take_length] at hbl HLEN
          go_wp2_with fail
          have hwb := WriteByte_any 10 hbl (by have := HLEN.out; omega) hBr
          refine hwb.mono ?_
          rintro e w6 ⟨rfl, hbl6, hb6⟩
          have hb7 := hbr.trans hb6
          have hbl7 : Bld w6 B B (prn names E (k + 1)) := by rw [prn, getD_some HX.out]; exact hbl6
          clear hbl6 hb6 hbl hbr hwb
          go_wp2_with fail
          go_roundw
          case rel => exact ⟨k + 1, by omega, by go_num, hbl7, hb7⟩
          case measure => simp [intOf]; omega
    · have hke : k = E.length := by have := HLN.out; omega
      subst hke
      go_wp2_with fail
      refine (Tryz.Builder_String_any B B _ _ hbl hBr).mono ?_
      rintro e w6 ⟨rfl, hb6⟩
      go_wp2_with fail
      go_ret2
      exact ⟨rfl, (hb2.trans (hbr.mono (by have := hb2.size; omega))).trans (hb6.mono (by have := hb2.size; omega))⟩
end Go.Proofs.YtpkjdnplmgfbbaaGreatDoor

namespace Go.Proofs.YtpkjdnplmgfbbaaGreatDoor
open Go.RowKit

def SamR (w : World) (x y : Int) (e : Ending) (w' : World) : Prop := e = .returned (.bool (decide (x = y))) ∧ Below w.heap.size w w'
theorem samR {w w' : World} {x y : Int} {b : Bool} (h : decide (x = y) = b) (hb : Below w.heap.size w w') : SamR w x y (.returned (.bool b)) w' := ⟨by rw [h], hb⟩

/-- The boxes of two integers. -/
theorem sbox (w : World) (a0 a1 b0 b1 : Value) : ∃ W P Q, W = (w.alloc (.cells #[a0, a1] 39)).alloc (.cells #[b0, b1] 39) ∧ P = w.heap.size ∧ Q = w.heap.size + 1 ∧ Below w.heap.size w W ∧ W.cell? ⟨P, 0, none⟩ = some a0 ∧ W.cell? ⟨P, 1, none⟩ = some a1 ∧ W.cell? ⟨Q, 0, none⟩ = some b0 ∧ W.cell? ⟨Q, 1, none⟩ = some b1 :=
  ⟨_, _, _, rfl, rfl, rfl, ((Below.refl _ _).alloc (Nat.le_refl _) _).alloc (by simp) _, by go_simp, by go_simp, by go_simp, by go_simp⟩

theorem gw_get {l : List Nat} {j : Nat} (h : j < l.length) : l[j]? = some (gw l j) := gw_lt h

set_option maxHeartbeats 1000000 in
set_option maxRecDepth 100000 in
theorem SameInt_any {w : World} {D D' : Nat → Prop} {v v' : Value} {x y : Int} (h : NIntV w D v x) (h' : NIntV w D' v' y) : Calls Tryz.prog 16 #[v, v'] w (SamR w x y) := by
  have hxy : ∀ (n1 : decide (x < 0) = decide (y < 0)) (n2 : dig 4294967296 x.natAbs = dig 4294967296 y.natAbs), x = y := by
    intro n1 n2
    have h1 : x.natAbs = y.natAbs := by
      have e1 := val_dig (b := 4294967296) (by omega) x.natAbs
      have e2 := val_dig (b := 4294967296) (by omega) y.natAbs
      rw [← e1, n2, e2]
    rw [← sg_abs x, ← sg_abs y, n1, h1]
  have HXY := Lib.hid hxy
  clear hxy
  obtain ⟨A, c, rfl, hw⟩ := h
  obtain ⟨A', c', rfl, hw'⟩ := h'
  have hr := hw.room
  have hr' := hw'.room
  have hc := hw.cap
  have hc' := hw'.cap
  unfold maxLen at hr hr'
  obtain ⟨W, P, Q, hW, hP, hQ, hbW, p0, p1, q0, q1⟩ := sbox w (.bool (decide (x < 0))) (.slice A (wl x.natAbs) c) (.bool (decide (y < 0))) (.slice A' (wl y.natAbs) c')
  have HW := Lib.hid hW
  have HP := Lib.hid hP
  have HQ := Lib.hid hQ
  clear hW hP hQ
  replace hw := hw.below hbW
  replace hw' := hw'.below hbW
  by_cases hneg : decide (x < 0) = decide (y < 0)
  · obtain ⟨neg, hn⟩ : ∃ neg, neg = decide (y < 0) := ⟨_, rfl⟩
    have HN := Lib.hid (hneg.trans hn.symm)
    have HN' := Lib.hid hn
    rw [hneg] at p0 ⊢
    rw [hneg] at HW
    rw [← hn] at p0 q0 HW ⊢
    clear hneg hn
    have hbn : (neg != neg) = false := by simp
    by_cases hln : wl x.natAbs = wl y.natAbs
    · obtain ⟨n, hn⟩ : ∃ n, n = wl y.natAbs := ⟨_, rfl⟩
      rw [hln] at p1 HW hw hc ⊢
      rw [← hn] at p1 q1 HW hw hw' hc hc' ⊢
      have hll : ((n : Int) != (n : Int)) = false := by simp
      have hlx : (dig 4294967296 x.natAbs).length = n := hw.len
      have hly : (dig 4294967296 y.natAbs).length = n := hw'.len
      obtain ⟨l, hl⟩ : ∃ l, l = dig 4294967296 x.natAbs := ⟨_, rfl⟩
      obtain ⟨l', hl'⟩ : ∃ l, l = dig 4294967296 y.natAbs := ⟨_, rfl⟩
      rw [← hl] at hw hlx
      rw [← hl'] at hw' hly
      have HL := Lib.hid hl
      have HL' := Lib.hid hl'
      have HLX := Lib.hid hlx
      have HLY := Lib.hid hly
      clear hl hl' hln hn hlx hly
      go_enter Tryz.func16, Tryz.ntmps16
      go_wp2_with fail
      rw [← HW.out, ← HQ.out, ← HP.out]
      go_loopw [5] (fun i wr => ∃ (k q : Nat), k ≤ n ∧ i = .int .i64 (k : Nat) ∧ l.take k = l'.take k ∧ wr = W.drewN q) (fun i _ => n - (intOf i).toNat)
      case atStart => exact ⟨0, 0, Nat.zero_le _, rfl, rfl, rfl⟩
      case round =>
        obtain ⟨k, q, hk, rfl, ht, rfl⟩ := hrel
        have HT := Lib.hid ht
        clear ht
        by_cases hlt : k < n
        · obtain ⟨b, off, rfl, _, hcell⟩ := hw.cells (by omega)
          obtain ⟨b', off', rfl, _, hcell'⟩ := hw'.cells (by omega)
          have cx := hcell k hlt
          have cy := hcell' k hlt
          clear hcell hcell'
          have hx : l[k]? = some (gw l k) := gw_lt (by rw [HLX.out]; exact hlt)
          have hy : l'[k]? = some (gw l' k) := gw_lt (by rw [HLY.out]; exact hlt)
          generalize gw l k = a at *
          generalize gw l' k = b2 at *
          have hki : (k : Int) < (n : Int) := by omega
          have hk0 : (0 : Int) ≤ (k : Int) := by omega
          by_cases hab : a = b2
          · have hbx : ((a : Int) != (b2 : Int)) = false := by simp [hab]
            have ht2 : l.take (k + 1) = l'.take (k + 1) := by rw [List.take_add_one, List.take_add_one, hx, hy, HT.out, hab]
            have HT2 := Lib.hid ht2
            clear hx hy hab ht2
            go_wp2_with fail
            go_quiet (fail)
            go_wp2_with fail
            exact ⟨⟨k + 1, q + nq, by omega, by go_num, HT2.out, rfl⟩, by simp [intOf]; omega⟩
          · have hbx : ((a : Int) != (b2 : Int)) = true := by rw [bne_iff_ne]; omega
            have e : decide (x = y) = false := by
              simp only [decide_eq_false_iff_not]
              intro e
              have h1 := HL.out
              have h2 := HL'.out
              rw [e, ← h2] at h1
              rw [h1, hy] at hx
              injection hx with hx
              exact hab hx.symm
            have HE := Lib.hid e
            clear hx hy hab e
            go_wp2_with fail
            go_quiet (fail)
            go_wp2_with fail
            go_ret
            exact samR HE.out (below_drewN' (below_drewN' hbW _) _)
        · have e : decide (x = y) = true := by
            have h1 := HT.out
            rw [List.take_of_length_le (by rw [HLX.out]; omega), List.take_of_length_le (by rw [HLY.out]; omega)] at h1
            simp only [decide_eq_true_eq]
            refine HXY.out (HN.out.trans HN'.out) ?_
            rw [← HL.out, ← HL'.out, h1]
          have HE := Lib.hid e
          clear e
          go_wp2_with fail
          go_ret
          exact samR HE.out (below_drewN' hbW _)
    · have hll : ((wl x.natAbs : Int) != (wl y.natAbs : Int)) = true := by rw [bne_iff_ne]; omega
      have e : decide (x = y) = false := by simp only [decide_eq_false_iff_not]; intro e; exact hln (by rw [e])
      have HE := Lib.hid e
      clear e hln
      go_enter Tryz.func16, Tryz.ntmps16
      go_wp2_with fail
      rw [← HW.out]
      go_ret
      exact samR HE.out hbW
  · have e : decide (x = y) = false := by simp only [decide_eq_false_iff_not]; intro e; exact hneg (by rw [e])
    have HE := Lib.hid e
    have hbn : (decide (x < 0) != decide (y < 0)) = true := by rw [bne_iff_ne]; exact hneg
    clear e
    generalize decide (x < 0) = n1 at *
    generalize decide (y < 0) = n2 at *
    clear hneg
    obtain ⟨rfl, rfl⟩ | ⟨rfl, rfl⟩ : (n1 = true ∧ n2 = false) ∨ (n1 = false ∧ n2 = true) := by cases n1 <;> cases n2 <;> simp at hbn ⊢
    all_goals
      clear hbn
      go_enter Tryz.func16, Tryz.ntmps16
      go_wp2_with fail
      rw [← HW.out]
      go_ret
      exact samR HE.out hbW
end Go.Proofs.YtpkjdnplmgfbbaaGreatDoor
