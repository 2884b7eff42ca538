/- strings.Builder: WriteString, WriteByte. graph.Print of a small graph. base.SameInt of integers in normal form. The square of the examples. What is true of the square. A region that draws its order, in which two neighbours alone may change places. awake: the examples of the chapter. The law GraphDistances: its walk. -/
import Derived.Test.YtefcdclmabdmbaaGreatDoorKd
import Derived.Lib.Builder
import Derived.Lib.AppendStr
import Derived.Lib.UnsafeStr
import Derived.Laws.Externs
import Derived.Test.YtefcdclmabdmbaaGreatDoorKa
import Derived.StillTailTactics
namespace Go.Proofs.YtefcdclmabdmbaaGreatDoor
open Go.RowKit

/-- A builder of the call's own (block b, from B on) that holds the bytes l. -/
def Bld (w : World) (B b : Nat) (l : List UInt8) : Prop := Lib.IsBuilder 129 5 B b (Lib.byteCells l) w

theorem bld_size : (Tryz.prog.info? 129).map (·.size) = some 2 := by kernel_rfl
theorem bld_lies : liesAt Tryz.prog Tryz.prog.depth 129 (2 / Tryz.prog.cellsOf 129) 0 129 1 = true := by kernel_rfl
theorem bld_byte : (Tryz.prog.info? 5).map (fun i => (i.zero, i.size, i.bytes)) = some (some (.int .u8 0), 1, 1) := by kernel_rfl

set_option maxHeartbeats 1000000 in
set_option maxRecDepth 100000 in
theorem copyCheck_used (b : Nat) (w : World) (h0 : w.cell? ⟨b, 0, none⟩ = some (.pointer (some ⟨b, 0, none⟩))) :
    Calls Tryz.prog 149 #[.pointer (some ⟨b, 0, none⟩)] w fun e w' => e = .returned (.tuple #[]) ∧ w = w' := by
  obtain ⟨j, hj, _⟩ := Option.map_eq_some_iff.1 bld_size
  go_enter Tryz.func149, Tryz.ntmps149
  go_wp2
  rw [Lib.run_neq_ptr_same w _ Tryz.underlying126 hj]
  go_wp2
  go_end0
  exact ⟨rfl, rfl⟩

set_option maxHeartbeats 1000000 in
set_option maxRecDepth 100000 in
theorem copyCheck_fresh (b : Nat) (w : World) (h0 : w.cell? ⟨b, 0, none⟩ = some (.pointer none)) (hsh : w.shape? b = some (129, 2)) (hfz : w.frozen? ⟨b, 0, none⟩ = false) :
    Calls Tryz.prog 149 #[.pointer (some ⟨b, 0, none⟩)] w fun e w' => e = .returned (.tuple #[]) ∧ w' = w.setCell ⟨b, 0, none⟩ (.pointer (some ⟨b, 0, none⟩)) := by
  obtain ⟨j, hj, hjs⟩ := Option.map_eq_some_iff.1 bld_size
  go_enter Tryz.func149, Tryz.ntmps149
  go_wp2
  rw [Lib.run_to_unsafe w ⟨b, 0, none⟩ Tryz.underlying126 Tryz.underlying225 hj (by rw [hjs]; decide) hsh (Nat.zero_lt_succ 1)]
  simp only [Result.andThen]
  rw [Oper.upon_value]
  go_wp2
  rw [run_callFunc_extern Tryz.func203 (by kernel_rfl) (by kernel_rfl) (by kernel_rfl) (e := Extern.AbiNoEscape.same) (by kernel_rfl)]
  rw [Lib.run_noEscape]
  simp only [Result.andThen]
  rw [Oper.upon_value]
  go_wp2
  rw [Lib.run_from_unsafe w ⟨b, 0, none⟩ Tryz.underlying225 Tryz.underlying126 hj hsh bld_lies]
  simp only [Result.andThen]
  rw [Oper.upon_value]
  go_wp2
  go_end0
  exact ⟨rfl, rfl⟩

theorem copyCheck_any (B b : Nat) (bs : List Value) (w : World) (h : Lib.IsBuilder 129 5 B b bs w) :
    Calls Tryz.prog 149 #[.pointer (some ⟨b, 0, none⟩)] w fun e w' => e = .returned (.tuple #[]) ∧ Lib.BuilderAt 129 5 B b (.pointer (some ⟨b, 0, none⟩)) bs w' ∧ Below B w w' := by
  rcases h with h | h
  · refine (copyCheck_fresh b w h.cell0 h.shape h.frozen0).mono ?_
    rintro e w' ⟨rfl, rfl⟩
    exact ⟨rfl, h.used _, (Below.refl B w).setCell (p := ⟨b, 0, none⟩) h.1 _⟩
  · refine (copyCheck_used b w h.cell0).mono ?_
    rintro e w' ⟨rfl, rfl⟩
    exact ⟨rfl, h, Below.refl B _⟩

set_option maxHeartbeats 2000000 in
set_option maxRecDepth 100000 in
theorem WriteByte_any {B b : Nat} {l : List UInt8} (x : UInt8) {w : World} (h : Bld w B b l) (hlen : l.length + 1 ≤ 140737488355328) (hBw : B ≤ w.heap.size) :
    Calls Tryz.prog 99 #[.pointer (some ⟨b, 0, none⟩), .int .u8 (x.toNat : Int)] w fun e w' => e = .returned .nilIface ∧ Bld w' B b (l ++ [x]) ∧ Below B w w' := by
  obtain ⟨i0, hi, hz0, hz1, hz2⟩ := info_parts bld_byte
  have hll : (Lib.byteCells l).length = l.length := by simp [Lib.byteCells]
  have hbl : Lib.byteCells (l ++ [x]) = Lib.byteCells l ++ [.int .u8 (x.toNat : Int)] := by simp [Lib.byteCells]
  unfold Bld at h ⊢
  rw [hbl]
  generalize Lib.byteCells l = bs at *
  generalize (x.toNat : Int) = c at *
  rw [← hll] at hlen
  clear hll hbl
  go_enter Tryz.func99, Tryz.ntmps99
  go_wp2_with (go_at_call 149; refine (copyCheck_any B b bs _ h).mono ?_)
  rintro e w1 ⟨rfl, h1, hb1⟩
  obtain ⟨hB, v, hbk, hown, hne⟩ := h1
  have c0 : w1.cell? ⟨b, 0, none⟩ = some (.pointer (some ⟨b, 0, none⟩)) := by rw [Lib.cell_of_heap hbk]; rfl
  have c1 : w1.cell? ⟨b, 1, none⟩ = some v := by rw [Lib.cell_of_heap hbk]; rfl
  go_wp2_with (at_builtin; refine wpList_append_own _ rfl _ _ 127 rfl B 5 i0 (.int .u8 0) 1 1 Tryz.underlying127 hi hz0 hz1 hz2 rfl (by decide) _ _ _ rfl (hown.alloc _) ⟨w1.heap.size, 0, none⟩ 1 1 [.int .u8 c] rfl rfl ?c1 ?c2 ?c3 ?c4 ?c5 ?_)
  case c1 =>
    intro j u hj
    match j, hj with
    | 0, hj => simp at hj; subst hj; simp [Addr.add]
  case c2 => intro u hu; simp at hu; subst hu; rfl
  case c3 => unfold maxLen; omega
  case c4 => omega
  case c5 => have := hb1.size; simp; omega
  intro v' w2 hown' hgrow _
  have hlt : b < w1.heap.size := by
    rcases Nat.lt_or_ge b w1.heap.size with h' | h'
    · exact h'
    · simp [Array.getElem?_eq_none h'] at hbk
  have hb2 : w2.heap[b]? = some (.cells #[.pointer (some ⟨b, 0, none⟩), v] 129 (0, 0)) := by
    rw [hgrow.block b (by simp; omega) (fun e => hne e.symm), Lib.alloc_old w1 _ b hlt]
    exact hbk
  have d0 : w2.cell? ⟨b, 0, none⟩ = some (.pointer (some ⟨b, 0, none⟩)) := by rw [Lib.cell_of_heap hb2]; rfl
  have d1 : w2.cell? ⟨b, 1, none⟩ = some v := by rw [Lib.cell_of_heap hb2]; rfl
  have f1 : w2.frozen? ⟨b, 1, none⟩ = false := Lib.frozen_of_heap hb2 1
  obtain ⟨g, cap, rfl⟩ : ∃ g cap, v' = .slice (some ⟨g, 0, none⟩) (bs.length + 1) cap := by
    rcases hown'.2 with ⟨_, h0⟩ | ⟨g, cap, cur, hv, _⟩
    · omega
    · exact ⟨g, cap, hv⟩
  go_wp2
  go_ret
  refine ⟨rfl, .inr ?_, ?_⟩
  · exact Lib.BuilderAt.put (T := 129) (e := 5) hB hb2 (bs' := bs ++ [.int .u8 c]) (by simpa using hown') (by decide)
  · exact ((hb1.alloc (by have := hb1.size; omega) _).grown hgrow (by have := hb1.size; simp; omega) (fun k hk => (hown.lt k hk).1)).setCell (p := ⟨b, 1, none⟩) hB _

set_option maxHeartbeats 2000000 in
set_option maxRecDepth 100000 in
theorem WriteString_any {B b : Nat} {l : List UInt8} (s : ByteArray) {w : World} (h : Bld w B b l) (hlen : l.length + s.size ≤ 140737488355328) (hBw : B ≤ w.heap.size) :
    Calls Tryz.prog 97 #[.pointer (some ⟨b, 0, none⟩), .string s] w fun e w' => e = .returned (.tuple #[.int .i64 s.size, .nilIface]) ∧ Bld w' B b (l ++ s.data.toList) ∧ Below B w w' := by
  obtain ⟨i0, hi, hz0, hz1, hz2⟩ := info_parts bld_byte
  have hll : (Lib.byteCells l).length = l.length := by simp [Lib.byteCells]
  have hbl : Lib.byteCells (l ++ s.data.toList) = Lib.byteCells l ++ Lib.strCells s := by simp [Lib.byteCells, Lib.strCells]
  unfold Bld at h ⊢
  rw [hbl]
  generalize Lib.byteCells l = bs at *
  rw [← hll] at hlen
  clear hll hbl
  go_enter Tryz.func97, Tryz.ntmps97
  go_wp2_with (go_at_call 149; refine (copyCheck_any B b bs _ h).mono ?_)
  rintro e w1 ⟨rfl, h1, hb1⟩
  obtain ⟨hB, v, hbk, hown, hne⟩ := h1
  have c0 : w1.cell? ⟨b, 0, none⟩ = some (.pointer (some ⟨b, 0, none⟩)) := by rw [Lib.cell_of_heap hbk]; rfl
  have c1 : w1.cell? ⟨b, 1, none⟩ = some v := by rw [Lib.cell_of_heap hbk]; rfl
  go_wp2_with (at_builtin; refine Lib.wpList_append_own_string _ rfl _ _ 127 9 rfl B 5 i0 Tryz.underlying127 Tryz.underlying9 hi hz0 hz1 hz2 _ _ _ rfl hown s rfl ?c3 ?c4 ?c5 ?_)
  case c3 => unfold maxLen; omega
  case c4 => omega
  case c5 => have := hb1.size; omega
  intro v' w2 hown' hgrow _
  have hlt : b < w1.heap.size := by
    rcases Nat.lt_or_ge b w1.heap.size with h' | h'
    · exact h'
    · simp [Array.getElem?_eq_none h'] at hbk
  have hb2 : w2.heap[b]? = some (.cells #[.pointer (some ⟨b, 0, none⟩), v] 129 (0, 0)) := by
    rw [hgrow.block b hlt (fun e => hne e.symm)]
    exact hbk
  have d0 : w2.cell? ⟨b, 0, none⟩ = some (.pointer (some ⟨b, 0, none⟩)) := by rw [Lib.cell_of_heap hb2]; rfl
  have d1 : w2.cell? ⟨b, 1, none⟩ = some v := by rw [Lib.cell_of_heap hb2]; rfl
  have f1 : w2.frozen? ⟨b, 1, none⟩ = false := Lib.frozen_of_heap hb2 1
  obtain ⟨ao, n', cap, rfl⟩ : ∃ ao n' cap, v' = .slice ao n' cap := by
    rcases hown'.2 with ⟨hv, _⟩ | ⟨g, cap, cur, hv, _⟩
    · exact ⟨_, _, _, hv⟩
    · exact ⟨_, _, _, hv⟩
  go_wp2
  go_ret2
  refine ⟨rfl, .inr ?_, ?_⟩
  · exact Lib.BuilderAt.put (T := 129) (e := 5) hB hb2 (bs' := bs ++ Lib.strCells s) (by simpa [Lib.strCells_length] using hown') (by decide)
  · exact (hb1.grown hgrow (by have := hb1.size; omega) (fun k hk => (hown.lt k hk).1)).setCell (p := ⟨b, 1, none⟩) hB _
end Go.Proofs.YtefcdclmabdmbaaGreatDoor

namespace Go.Proofs.YtefcdclmabdmbaaGreatDoor
open Go.RowKit

/-- The numbers of a line, each behind a space. -/
def nums (l : List Nat) : List UInt8 := l.flatMap fun v => 32 :: Lib.decDigits v
/-- The first k lines of a graph. -/
def prn (names : List ByteArray) (E : List (List Nat)) : Nat → List UInt8
  | 0 => []
  | k + 1 => prn names E k ++ (names.getD k ByteArray.empty).data.toList ++ nums (gr E k) ++ [10]
theorem nums_snoc (l : List Nat) (v : Nat) : nums (l ++ [v]) = nums l ++ (32 :: Lib.decDigits v) := by simp [nums]
theorem dec_short : ∀ v, v < 100 → (Lib.decDigits v).length ≤ 2 := by
  intro v hv
  rw [Lib.decDigits]
  split
  · simp
  · rw [Lib.decDigits, dif_pos (by omega)]; simp
theorem nums_short {l : List Nat} (h : ∀ v ∈ l, v < 100) : (nums l).length ≤ 3 * l.length := by
  induction l with
  | nil => simp [nums]
  | cons x r ih =>
    have h1 := dec_short x (h x (by simp))
    have h2 := ih fun v hv => h v (by simp [hv])
    have e : nums (x :: r) = (32 :: Lib.decDigits x) ++ nums r := by simp [nums]
    rw [e]
    simp only [List.length_append, List.length_cons]
    omega
theorem prn_short {names : List ByteArray} {E : List (List Nat)} (hk : Ok names E) (h100 : E.length ≤ 100) : ∀ k, k ≤ E.length → (prn names E k).length ≤ k * 2000 := by
  intro k
  induction k with
  | zero => intro _; simp [prn]
  | succ k ih =>
    intro hkl
    have h1 := ih (by omega)
    have h2 : (nums (gr E k)).length ≤ 3 * (gr E k).length := nums_short fun v hv => by have := hk.valid k (by omega) v hv; omega
    have h3 := hk.deg k
    have hkn : k < names.length := by rw [hk.len]; omega
    have h4 := (hk.name _ (List.mem_of_getElem? (List.getElem?_eq_getElem hkn))).2.1
    have h5 : (names.getD k ByteArray.empty).data.toList.length ≤ 40 := by
      rw [getD_some (List.getElem?_eq_getElem hkn), ← Lib.size_eq]; exact h4
    rw [prn]
    simp only [List.length_append, List.length_singleton]
    omega

set_option maxHeartbeats 4000000 in
set_option maxRecDepth 100000 in
theorem Print_ok {w : World} {v : Value} {names : List ByteArray} {E : List (List Nat)} (h : GrV w v names (toI E)) (hc : chk names (toI E) = 0) (hk : Ok names E) (h100 : E.length ≤ 100) :
    Calls Tryz.prog 29 #[v] w fun e w' => e = .returned (.tuple #[.string ⟨(prn names E E.length).toArray⟩, .int .i64 0]) ∧ Below w.heap.size w w' := by
  have HC := Lib.hid (fun w' hb => Check_any (h.at w' hb))
  rw [hc] at HC
  have hsm := hk.small
  have HPS := Lib.hid (prn_short hk h100)
  obtain ⟨A, c, A', c', rfl, hs, hg⟩ := h
  rw [toI_length] at *
  obtain ⟨W, G, hW, hG, hbW, c0, c1, hGl, hwG⟩ := gbox w (.slice A names.length c) (.slice A' E.length c')
  replace hg := hg.below hbW
  replace hs := hs.below hbW
  have hr := hg.room
  have hr' := hs.room
  have hln := hk.len
  unfold maxLen at hr hr'
  have HW := Lib.hid hW
  have HG := Lib.hid hG
  have HK := Lib.hid hk
  have HLN := Lib.hid hln
  have hnl : names.length ≤ 100 := by omega
  clear hW hG hc hk hln
  go_enter Tryz.func29, Tryz.ntmps29
  go_wp2_with (go_at_call 83; rw [← HW.out, ← HG.out]; refine (HC.out _ hbW).mono ?_; rintro e w1 ⟨rfl, hb1⟩; have hb2 := hbW.trans (hb1.mono hbW.size); have d0 := ((bcell hb1).1 _ 0 hGl).trans c0; have d1 := ((bcell hb1).1 _ 1 hGl).trans c1; have hGl2 := Nat.lt_of_lt_of_le hGl hb1.size)
  obtain ⟨w2, B, hw2, hB⟩ : ∃ w2 B, w2 = w1.alloc (.cells #[.pointer none, .slice none 0 0] 129) ∧ B = w1.heap.size := ⟨_, _, rfl, rfl⟩
  have hbl : Bld w2 B B [] := by rw [hw2, hB]; exact Lib.fresh_isBuilder _ _ w1
  have hb3 : Below B w1 w2 := by rw [hw2, hB]; exact (Below.refl _ _).alloc (Nat.le_refl _) _
  have hBw : w1.heap.size ≤ B := by omega
  replace hg := hg.below hb1
  replace hs := hs.below hb1
  have HB := Lib.hid hB
  rw [← hw2, ← hB]
  clear hw2 hB hb1 c0 c1
  go_loopw [18] (fun i wr => ∃ k : Nat, k ≤ names.length ∧ i = .int .i64 (k : Nat) ∧ Bld wr B B (prn names E k) ∧ Below B w1 wr) (fun i _ => names.length - (intOf i).toNat)
  case atStart => exact ⟨0, Nat.zero_le _, rfl, hbl, hb3⟩
  case round =>
    clear hbl hb3
    obtain ⟨k, hkl, rfl, hbl, hbr⟩ := hrel
    have hbr' : Below w1.heap.size w1 wr := by rw [← HB.out]; exact hbr
    have hBr : B ≤ wr.heap.size := by rw [HB.out]; exact hbr.size
    by_cases hlt : k < names.length
    · have hkE : k < E.length := by rw [← HLN.out]; exact hlt
      obtain ⟨b1, off1, rfl, hcell⟩ := hs.cell (by omega)
      obtain ⟨x, hx⟩ : ∃ x, names[k]? = some x := ⟨_, List.getElem?_eq_getElem hlt⟩
      have hcx' := hcell k x hx
      have hcx := ((bcell hbr').1 _ _ (cell_some_lt hcx')).trans hcx'
      have hxm := (HK.out.name x (List.mem_of_getElem? hx)).2.1
      obtain ⟨b2, off2, A2, c2, rfl, hrow', hr3, hr4, hil⟩ := hg.row hkE
      have f1' := d1
      have hpl := HPS.out k (by omega)
      have HX := Lib.hid hx
      have HPL := Lib.hid hpl
      clear hcell hx hpl
      have HBB := Lib.hid (fun w' (hb : Below B w1 w') => show Below w1.heap.size w1 w' by rw [← HB.out]; exact hb)
      go_wp2_with fail
      refine (WriteString_any x hbl (by have := HPL.out; omega) hBr).mono ?_
      rintro e w3 ⟨rfl, hbl3, hb3⟩
      have hb4 := hbr.trans hb3
      have hb4' := HBB.out _ hb4
      have g1 := ((bcell hb4').1 _ 1 hGl2).trans d1
      have hrow := ((bcell hb4').1 _ _ (cell_some_lt hrow')).trans hrow'
      have hki : (k : Int) < (E.length : Int) := by omega
      clear hb3 hbr hbr' hcx hcx' hbl f1' hBr
      go_wp2_with fail
      clear hb4' g1 hrow
      go_loopw [31] (fun i wr => ∃ t : Nat, t ≤ (gr E k).length ∧ i = .int .i64 (t : Nat) ∧ Bld wr B B (prn names E k ++ x.data.toList ++ nums ((gr E k).take t)) ∧ Below B w1 wr) (fun i _ => (gr E k).length - (intOf i).toNat)
      case atStart => exact ⟨0, Nat.zero_le _, rfl, by simpa [nums] using hbl3, hb4⟩
      case round =>
        clear hbl3 hb4
        obtain ⟨t, htl, rfl, hbl, hbr⟩ := hrel
        have hBr : B ≤ wr.heap.size := by rw [HB.out]; exact hbr.size
        have hlen : (prn names E k ++ x.data.toList ++ nums ((gr E k).take t)).length ≤ 1000000 := by
          have h1 := HPL.out
          have h2 : (nums ((gr E k).take t)).length ≤ 3 * ((gr E k).take t).length := nums_short fun v hv => by have := HK.out.valid k hkE v (List.mem_of_mem_take hv); omega
          have h3 := HK.out.deg k
          have h4 : x.data.toList.length ≤ 40 := by rw [← Lib.size_eq]; exact hxm
          rw [List.length_take] at h2
          simp only [List.length_append]
          omega
        have HLEN := Lib.hid hlen
        clear hlen
        by_cases htt : t < (gr E k).length
        · obtain ⟨y, hy⟩ : ∃ y, (gr E k)[t]? = some y := ⟨_, List.getElem?_eq_getElem htt⟩
          have hyl : y < E.length := HK.out.valid k hkE y (List.mem_of_getElem? hy)
          obtain ⟨b3, off3, rfl, hcy⟩ := (hil.below (HBB.out _ hbr)).num hy
          have et : nums ((gr E k).take (t + 1)) = nums ((gr E k).take t) ++ (32 :: Lib.decDigits y) := by rw [List.take_add_one, hy]; exact nums_snoc _ _
          have HET := Lib.hid et
          have hdl := dec_short y (by omega)
          have hsd : (({ data := #[32] } : ByteArray) ++ ({ data := (Lib.decDigits y).toArray } : ByteArray)).data.toList = 32 :: Lib.decDigits y := by simp
          have hss : (({ data := #[32] } : ByteArray) ++ ({ data := (Lib.decDigits y).toArray } : ByteArray)).size ≤ 3 := by rw [Lib.size_eq, hsd, List.length_cons]; omega
          have HSD := Lib.hid hsd
          clear et hy hsd
          go_wp2_with (go_at_call 98; refine (Tryz.strconv_Itoa_small y (by omega) _).mono ?_; rintro e w5 ⟨rfl, rfl⟩)
          refine (WriteString_any _ hbl (by have := HLEN.out; omega) hBr).mono ?_
          rintro e w6 ⟨rfl, hbl6, hb6⟩
          rw [HSD.out] at hbl6
          have hbl7 : Bld w6 B B (prn names E k ++ x.data.toList ++ nums ((gr E k).take (t + 1))) := by rw [HET.out, ← List.append_assoc]; exact hbl6
          have hb7 := hbr.trans hb6
          clear hbl6 hb6 hbl hbr
          go_wp2_with fail
          go_roundw
          case rel => exact ⟨t + 1, by omega, by go_num, hbl7, hb7⟩
          case measure => simp [intOf]; omega
        · obtain rfl : t = (gr E k).length := by omega
          rw [List.take_length] at hbl HLEN
          go_wp2_with fail
          have hwb := WriteByte_any 10 hbl (by have := HLEN.out; omega) hBr
          refine hwb.mono ?_
          rintro e w6 ⟨rfl, hbl6, hb6⟩
          have hb7 := hbr.trans hb6
          have hbl7 : Bld w6 B B (prn names E (k + 1)) := by rw [prn, getD_some HX.out]; exact hbl6
          clear hbl6 hb6 hbl hbr hwb
          go_wp2_with fail
          go_roundw
          case rel => exact ⟨k + 1, by omega, by go_num, hbl7, hb7⟩
          case measure => simp [intOf]; omega
    · have hke : k = E.length := by have := HLN.out; omega
      subst hke
      go_wp2_with fail
      refine (Tryz.Builder_String_any B B _ _ hbl hBr).mono ?_
      rintro e w6 ⟨rfl, hb6⟩
      go_wp2_with fail
      go_ret2
      exact ⟨rfl, (hb2.trans (hbr.mono (by have := hb2.size; omega))).trans (hb6.mono (by have := hb2.size; omega))⟩
end Go.Proofs.YtefcdclmabdmbaaGreatDoor

namespace Go.Proofs.YtefcdclmabdmbaaGreatDoor
open Go.RowKit

def SamR (w : World) (x y : Int) (e : Ending) (w' : World) : Prop := e = .returned (.bool (decide (x = y))) ∧ Below w.heap.size w w'
theorem samR {w w' : World} {x y : Int} {b : Bool} (h : decide (x = y) = b) (hb : Below w.heap.size w w') : SamR w x y (.returned (.bool b)) w' := ⟨by rw [h], hb⟩

/-- The boxes of two integers. -/
theorem sbox (w : World) (a0 a1 b0 b1 : Value) : ∃ W P Q, W = (w.alloc (.cells #[a0, a1] 42)).alloc (.cells #[b0, b1] 42) ∧ P = w.heap.size ∧ Q = w.heap.size + 1 ∧ Below w.heap.size w W ∧ W.cell? ⟨P, 0, none⟩ = some a0 ∧ W.cell? ⟨P, 1, none⟩ = some a1 ∧ W.cell? ⟨Q, 0, none⟩ = some b0 ∧ W.cell? ⟨Q, 1, none⟩ = some b1 :=
  ⟨_, _, _, rfl, rfl, rfl, ((Below.refl _ _).alloc (Nat.le_refl _) _).alloc (by simp) _, by go_simp, by go_simp, by go_simp, by go_simp⟩

set_option maxHeartbeats 1000000 in
set_option maxRecDepth 100000 in
theorem SameInt_any {w : World} {D D' : Nat → Prop} {v v' : Value} {x y : Int} (h : NIntV w D v x) (h' : NIntV w D' v' y) : Calls Tryz.prog 31 #[v, v'] w (SamR w x y) := by
  have hxy : ∀ (n1 : decide (x < 0) = decide (y < 0)) (n2 : dig 4294967296 x.natAbs = dig 4294967296 y.natAbs), x = y := by
    intro n1 n2
    have h1 : x.natAbs = y.natAbs := by
      have e1 := val_dig (b := 4294967296) (by omega) x.natAbs
      have e2 := val_dig (b := 4294967296) (by omega) y.natAbs
      rw [← e1, n2, e2]
    rw [← sg_abs x, ← sg_abs y, n1, h1]
  have HXY := Lib.hid hxy
  clear hxy
  obtain ⟨A, c, rfl, hw⟩ := h
  obtain ⟨A', c', rfl, hw'⟩ := h'
  have hr := hw.room
  have hr' := hw'.room
  have hc := hw.cap
  have hc' := hw'.cap
  unfold maxLen at hr hr'
  obtain ⟨W, P, Q, hW, hP, hQ, hbW, p0, p1, q0, q1⟩ := sbox w (.bool (decide (x < 0))) (.slice A (wl x.natAbs) c) (.bool (decide (y < 0))) (.slice A' (wl y.natAbs) c')
  have HW := Lib.hid hW
  have HP := Lib.hid hP
  have HQ := Lib.hid hQ
  clear hW hP hQ
  replace hw := hw.below hbW
  replace hw' := hw'.below hbW
  by_cases hneg : decide (x < 0) = decide (y < 0)
  · obtain ⟨neg, hn⟩ : ∃ neg, neg = decide (y < 0) := ⟨_, rfl⟩
    have HN := Lib.hid (hneg.trans hn.symm)
    have HN' := Lib.hid hn
    rw [hneg] at p0 ⊢
    rw [hneg] at HW
    rw [← hn] at p0 q0 HW ⊢
    clear hneg hn
    have hbn : (neg != neg) = false := by simp
    by_cases hln : wl x.natAbs = wl y.natAbs
    · obtain ⟨n, hn⟩ : ∃ n, n = wl y.natAbs := ⟨_, rfl⟩
      rw [hln] at p1 HW hw hc ⊢
      rw [← hn] at p1 q1 HW hw hw' hc hc' ⊢
      have hll : ((n : Int) != (n : Int)) = false := by simp
      have hlx : (dig 4294967296 x.natAbs).length = n := hw.len
      have hly : (dig 4294967296 y.natAbs).length = n := hw'.len
      obtain ⟨l, hl⟩ : ∃ l, l = dig 4294967296 x.natAbs := ⟨_, rfl⟩
      obtain ⟨l', hl'⟩ : ∃ l, l = dig 4294967296 y.natAbs := ⟨_, rfl⟩
      rw [← hl] at hw hlx
      rw [← hl'] at hw' hly
      have HL := Lib.hid hl
      have HL' := Lib.hid hl'
      have HLX := Lib.hid hlx
      have HLY := Lib.hid hly
      clear hl hl' hln hn hlx hly
      go_enter Tryz.func31, Tryz.ntmps31
      go_wp2_with fail
      rw [← HW.out, ← HQ.out, ← HP.out]
      go_loopw [5] (fun i wr => ∃ (k q : Nat), k ≤ n ∧ i = .int .i64 (k : Nat) ∧ l.take k = l'.take k ∧ wr = W.drewN q) (fun i _ => n - (intOf i).toNat)
      case atStart => exact ⟨0, 0, Nat.zero_le _, rfl, rfl, rfl⟩
      case round =>
        obtain ⟨k, q, hk, rfl, ht, rfl⟩ := hrel
        have HT := Lib.hid ht
        clear ht
        by_cases hlt : k < n
        · obtain ⟨b, off, rfl, _, hcell⟩ := hw.cells (by omega)
          obtain ⟨b', off', rfl, _, hcell'⟩ := hw'.cells (by omega)
          have cx := hcell k hlt
          have cy := hcell' k hlt
          clear hcell hcell'
          have hx : l[k]? = some (gw l k) := gw_lt (by rw [HLX.out]; exact hlt)
          have hy : l'[k]? = some (gw l' k) := gw_lt (by rw [HLY.out]; exact hlt)
          generalize gw l k = a at *
          generalize gw l' k = b2 at *
          have hki : (k : Int) < (n : Int) := by omega
          have hk0 : (0 : Int) ≤ (k : Int) := by omega
          by_cases hab : a = b2
          · have hbx : ((a : Int) != (b2 : Int)) = false := by simp [hab]
            have ht2 : l.take (k + 1) = l'.take (k + 1) := by rw [List.take_add_one, List.take_add_one, hx, hy, HT.out, hab]
            have HT2 := Lib.hid ht2
            clear hx hy hab ht2
            go_wp2_with fail
            go_quiet (fail)
            go_wp2_with fail
            exact ⟨⟨k + 1, q + nq, by omega, by go_num, HT2.out, rfl⟩, by simp [intOf]; omega⟩
          · have hbx : ((a : Int) != (b2 : Int)) = true := by rw [bne_iff_ne]; omega
            have e : decide (x = y) = false := by
              simp only [decide_eq_false_iff_not]
              intro e
              have h1 := HL.out
              have h2 := HL'.out
              rw [e, ← h2] at h1
              rw [h1, hy] at hx
              injection hx with hx
              exact hab hx.symm
            have HE := Lib.hid e
            clear hx hy hab e
            go_wp2_with fail
            go_quiet (fail)
            go_wp2_with fail
            go_ret
            exact samR HE.out (below_drewN' (below_drewN' hbW _) _)
        · have e : decide (x = y) = true := by
            have h1 := HT.out
            rw [List.take_of_length_le (by rw [HLX.out]; omega), List.take_of_length_le (by rw [HLY.out]; omega)] at h1
            simp only [decide_eq_true_eq]
            refine HXY.out (HN.out.trans HN'.out) ?_
            rw [← HL.out, ← HL'.out, h1]
          have HE := Lib.hid e
          clear e
          go_wp2_with fail
          go_ret
          exact samR HE.out (below_drewN' hbW _)
    · have hll : ((wl x.natAbs : Int) != (wl y.natAbs : Int)) = true := by rw [bne_iff_ne]; omega
      have e : decide (x = y) = false := by simp only [decide_eq_false_iff_not]; intro e; exact hln (by rw [e])
      have HE := Lib.hid e
      clear e hln
      go_enter Tryz.func31, Tryz.ntmps31
      go_wp2_with fail
      rw [← HW.out]
      go_ret
      exact samR HE.out hbW
  · have e : decide (x = y) = false := by simp only [decide_eq_false_iff_not]; intro e; exact hneg (by rw [e])
    have HE := Lib.hid e
    have hbn : (decide (x < 0) != decide (y < 0)) = true := by rw [bne_iff_ne]; exact hneg
    clear e
    generalize decide (x < 0) = n1 at *
    generalize decide (y < 0) = n2 at *
    clear hneg
    obtain ⟨rfl, rfl⟩ | ⟨rfl, rfl⟩ : (n1 = true ∧ n2 = false) ∨ (n1 = false ∧ n2 = true) := by cases n1 <;> cases n2 <;> simp at hbn ⊢
    all_goals
      clear hbn
      go_enter Tryz.func31, Tryz.ntmps31
      go_wp2_with fail
      rw [← HW.out]
      go_ret
      exact samR HE.out hbW
end Go.Proofs.YtefcdclmabdmbaaGreatDoor

namespace Go.Proofs.YtefcdclmabdmbaaGreatDoor
open Go.RowKit

def sqN : List ByteArray := [⟨#[97]⟩, ⟨#[98]⟩, ⟨#[99]⟩, ⟨#[100]⟩]
def sqE : List (List Nat) := [[1, 3], [0, 2], [1, 3], [0, 2]]

theorem Rw.of_arr {w : World} {g n : Nat} {t : TypeId} {xs : List Value} (h : Arr w g t xs) (hn : xs.length = n) (hm : n ≤ maxLen) : Rw w (some ⟨g, 0, none⟩) n n xs :=
  ⟨hn, Nat.le_refl _, hm, fun _ => ⟨g, 0, rfl, fun j u hu => by rw [Nat.zero_add, h.cell]; exact hu⟩⟩
theorem Arr.at {w : World} {t : TypeId} {xs : List Value} {n : Nat} (h : w.heap.size = n) : Arr (w.alloc (.cells xs.toArray t)) n t xs := by subst h; exact Arr.new w t xs

theorem Il.of_arr {w : World} {g : Nat} {t : TypeId} {l : List Int} (h : Arr w g t (l.map (Value.int .i64))) (hs : ∀ x ∈ l, -9223372036854775808 ≤ x ∧ x ≤ 9223372036854775807) (hm : l.length ≤ maxLen) : Il w (some ⟨g, 0, none⟩) l.length l.length l :=
  ⟨Rw.of_arr h (by simp) hm, hs⟩
theorem alloc_size {w : World} {o : Obj} {n : Nat} (h : w.heap.size = n) : (w.alloc o).heap.size = n + 1 := by simp [h]

/-- The square in memory. -/
theorem sq_gr {w W : World} {n : Nat} (o0 : Obj) (hn : w.heap.size = n)
    (hW : W = (((((((w.alloc o0).alloc (.cells #[.string ⟨#[97]⟩, .string ⟨#[98]⟩, .string ⟨#[99]⟩, .string ⟨#[100]⟩] 9)).alloc (.cells #[.int .i64 1, .int .i64 3] 3)).alloc (.cells #[.int .i64 0, .int .i64 2] 3)).alloc (.cells #[.int .i64 1, .int .i64 3] 3)).alloc (.cells #[.int .i64 0, .int .i64 2] 3)).alloc
      (.cells #[.slice (some ⟨n + 1 + 1, 0, none⟩) 2 2, .slice (some ⟨n + 1 + 1 + 1, 0, none⟩) 2 2, .slice (some ⟨n + 1 + 1 + 1 + 1, 0, none⟩) 2 2, .slice (some ⟨n + 1 + 1 + 1 + 1 + 1, 0, none⟩) 2 2] 55))) :
    GrV W (.agg #[.slice (some ⟨n + 1, 0, none⟩) 4 4, .slice (some ⟨n + 1 + 1 + 1 + 1 + 1 + 1, 0, none⟩) 4 4]) sqN (toI sqE) ∧ Below n w W := by
  obtain ⟨w1, h1⟩ : ∃ w1, w1 = w.alloc o0 := ⟨_, rfl⟩
  rw [← h1] at hW
  have s1 : w1.heap.size = n + 1 := by rw [h1]; exact alloc_size hn
  have b1 : Below n w w1 := by rw [h1]; exact (Below.refl _ _).alloc (by omega) _
  obtain ⟨w2, h2⟩ : ∃ w2, w2 = w1.alloc (.cells #[.string ⟨#[97]⟩, .string ⟨#[98]⟩, .string ⟨#[99]⟩, .string ⟨#[100]⟩] 9) := ⟨_, rfl⟩
  rw [← h2] at hW
  have s2 : w2.heap.size = n + 1 + 1 := by rw [h2]; exact alloc_size s1
  have b2 : Below n w w2 := by rw [h2]; exact b1.alloc (by omega) _
  have a2 : Arr w2 (n + 1) 9 (sqN.map Value.string) := by rw [h2]; exact Arr.at s1
  obtain ⟨w3, h3⟩ : ∃ w3, w3 = w2.alloc (.cells #[.int .i64 1, .int .i64 3] 3) := ⟨_, rfl⟩
  rw [← h3] at hW
  have s3 : w3.heap.size = n + 1 + 1 + 1 := by rw [h3]; exact alloc_size s2
  have b3 : Below n w w3 := by rw [h3]; exact b2.alloc (by omega) _
  have a3 : Arr w3 (n + 1 + 1) 3 (([1, 3] : List Int).map (Value.int .i64)) := by rw [h3]; exact Arr.at s2
  have a23 : Arr w3 (n + 1) 9 (sqN.map Value.string) := by rw [h3]; exact a2.alloc _
  obtain ⟨w4, h4⟩ : ∃ w4, w4 = w3.alloc (.cells #[.int .i64 0, .int .i64 2] 3) := ⟨_, rfl⟩
  rw [← h4] at hW
  have s4 : w4.heap.size = n + 1 + 1 + 1 + 1 := by rw [h4]; exact alloc_size s3
  have b4 : Below n w w4 := by rw [h4]; exact b3.alloc (by omega) _
  have a4 : Arr w4 (n + 1 + 1 + 1) 3 (([0, 2] : List Int).map (Value.int .i64)) := by rw [h4]; exact Arr.at s3
  obtain ⟨w5, h5⟩ : ∃ w5, w5 = w4.alloc (.cells #[.int .i64 1, .int .i64 3] 3) := ⟨_, rfl⟩
  rw [← h5] at hW
  have s5 : w5.heap.size = n + 1 + 1 + 1 + 1 + 1 := by rw [h5]; exact alloc_size s4
  have b5 : Below n w w5 := by rw [h5]; exact b4.alloc (by omega) _
  have a5 : Arr w5 (n + 1 + 1 + 1 + 1) 3 (([1, 3] : List Int).map (Value.int .i64)) := by rw [h5]; exact Arr.at s4
  obtain ⟨w6, h6⟩ : ∃ w6, w6 = w5.alloc (.cells #[.int .i64 0, .int .i64 2] 3) := ⟨_, rfl⟩
  rw [← h6] at hW
  have s6 : w6.heap.size = n + 1 + 1 + 1 + 1 + 1 + 1 := by rw [h6]; exact alloc_size s5
  have b6 : Below n w w6 := by rw [h6]; exact b5.alloc (by omega) _
  have a6 : Arr w6 (n + 1 + 1 + 1 + 1 + 1) 3 (([0, 2] : List Int).map (Value.int .i64)) := by rw [h6]; exact Arr.at s5
  have k34 : Below w3.heap.size w3 w4 := by rw [h4]; exact (Below.refl _ _).alloc (Nat.le_refl _) _
  have k45 : Below w4.heap.size w4 w5 := by rw [h5]; exact (Below.refl _ _).alloc (Nat.le_refl _) _
  have k56 : Below w5.heap.size w5 w6 := by rw [h6]; exact (Below.refl _ _).alloc (Nat.le_refl _) _
  have k6 : Below w6.heap.size w6 W := by rw [hW]; exact (Below.refl _ _).alloc (Nat.le_refl _) _
  have a7 : Arr W (n + 1 + 1 + 1 + 1 + 1 + 1) 55 [.slice (some ⟨n + 1 + 1, 0, none⟩) 2 2, .slice (some ⟨n + 1 + 1 + 1, 0, none⟩) 2 2, .slice (some ⟨n + 1 + 1 + 1 + 1, 0, none⟩) 2 2, .slice (some ⟨n + 1 + 1 + 1 + 1 + 1, 0, none⟩) 2 2] := by rw [hW]; exact Arr.at s6
  have r1 := ((((a23.below' k34).below' k45).below' k56).below' k6)
  have q3 := ((((a3.below' k34).below' k45).below' k56).below' k6)
  have q4 := (((a4.below' k45).below' k56).below' k6)
  have q5 := ((a5.below' k56).below' k6)
  have q6 := (a6.below' k6)
  have sm : ∀ l : List Int, (∀ x ∈ l, x = 0 ∨ x = 1 ∨ x = 2 ∨ x = 3) → ∀ x ∈ l, -9223372036854775808 ≤ x ∧ x ≤ 9223372036854775807 := fun l h x hx => by have := h x hx; omega
  refine ⟨⟨_, 4, _, 4, rfl, ⟨Rw.of_arr r1 rfl (by unfold maxLen; decide), ?_⟩, ⟨_, Rw.of_arr a7 rfl (by unfold maxLen; decide), rfl, ?_⟩⟩, b6.trans (k6.mono (by omega))⟩
  · intro s hs
    simp only [sqN, List.mem_cons, List.not_mem_nil, or_false] at hs
    rcases hs with rfl | rfl | rfl | rfl <;> (unfold maxLen; decide)
  · intro i v l hv hl
    match i, hv, hl with
    | 0, hv, hl =>
      injection hv with hv; injection hl with hl; subst hv hl
      exact ⟨_, 2, rfl, Il.of_arr q3 (sm _ (by simp)) (by unfold maxLen; decide)⟩
    | 1, hv, hl =>
      injection hv with hv; injection hl with hl; subst hv hl
      exact ⟨_, 2, rfl, Il.of_arr q4 (sm _ (by simp)) (by unfold maxLen; decide)⟩
    | 2, hv, hl =>
      injection hv with hv; injection hl with hl; subst hv hl
      exact ⟨_, 2, rfl, Il.of_arr q5 (sm _ (by simp)) (by unfold maxLen; decide)⟩
    | 3, hv, hl =>
      injection hv with hv; injection hl with hl; subst hv hl
      exact ⟨_, 2, rfl, Il.of_arr q6 (sm _ (by simp)) (by unfold maxLen; decide)⟩
    | i + 4, hv, hl => simp at hv

set_option maxHeartbeats 1000000 in
theorem Square_any {w : World} : Calls Tryz.prog 27 #[] w (Gives w fun w' v => GrV w' v sqN (toI sqE)) := by
  obtain ⟨h1, h2⟩ := sq_gr (w := w) (W := _) (.cells #[.slice (some ⟨w.heap.size + 1, 0, none⟩) 4 4, .slice (some ⟨w.heap.size + 1 + 1 + 1 + 1 + 1 + 1, 0, none⟩) 4 4] 25) rfl rfl
  go_enter Tryz.func27, Tryz.ntmps27
  go_wp2_with fail
  exact bodyPost_ret (v := .agg #[.slice (some ⟨w.heap.size + 1, 0, none⟩) 4 4, .slice (some ⟨w.heap.size + 1 + 1 + 1 + 1 + 1 + 1, 0, none⟩) 4 4]) (by simp [results, Tryz.results27, go_sem]) rfl ⟨_, rfl, h1, h2⟩
end Go.Proofs.YtefcdclmabdmbaaGreatDoor

namespace Go.Proofs.YtefcdclmabdmbaaGreatDoor
open Go.RowKit

theorem toI_inj {E F : List (List Nat)} (h : toI E = toI F) : E = F := by
  have e : ∀ E : List (List Nat), (toI E).map (·.map Int.toNat) = E := by
    intro E
    unfold toI
    rw [List.map_map]
    refine (List.map_congr_left (g := id) fun l _ => ?_).trans (List.map_id _)
    show List.map _ (List.map _ l) = l
    rw [List.map_map]
    exact (List.map_congr_left (g := id) fun x _ => by simp).trans (List.map_id _)
  rw [← e E, h, e F]

theorem sq_name : ∀ s ∈ sqN, nameB s = true := by
  intro s hs
  refine nameB_true.2 ?_
  simp only [sqN, List.mem_cons, List.not_mem_nil, or_false] at hs
  rcases hs with rfl | rfl | rfl | rfl <;> exact ⟨by decide, by decide, by intro b hb; simp at hb; subst hb; exact ⟨by decide, by decide⟩⟩
theorem sq_chk : chk sqN (toI sqE) = 0 := by
  refine chk_ok rfl (by decide) fun i hi => ?_
  have hi4 : i < 4 := hi
  obtain ⟨x, hx⟩ : ∃ x, sqN[i]? = some x := ⟨_, List.getElem?_eq_getElem hi⟩
  have hr : ∀ l, (toI sqE)[i]? = some l → rowC sqN.length l = 0 := by
    intro l hl
    match i, hi4, hl with
    | 0, _, hl => injection hl with hl; subst hl; decide
    | 1, _, hl => injection hl with hl; subst hl; decide
    | 2, _, hl => injection hl with hl; subst hl; decide
    | 3, _, hl => injection hl with hl; subst hl; decide
  obtain ⟨l, hl⟩ : ∃ l, (toI sqE)[i]? = some l := ⟨_, List.getElem?_eq_getElem (show i < (toI sqE).length from hi4)⟩
  rw [atC_row hx (sq_name x (List.mem_of_getElem? hx)) hl, hr l hl]
  intro j hj he
  match i, j, hi4, hj, hx, he with
  | 1, 0, _, _, hx, he => injection hx with hx; injection he with he; rw [← hx] at he; cases he
  | 2, 0, _, _, hx, he => injection hx with hx; injection he with he; rw [← hx] at he; cases he
  | 2, 1, _, _, hx, he => injection hx with hx; injection he with he; rw [← hx] at he; cases he
  | 3, 0, _, _, hx, he => injection hx with hx; injection he with he; rw [← hx] at he; cases he
  | 3, 1, _, _, hx, he => injection hx with hx; injection he with he; rw [← hx] at he; cases he
  | 3, 2, _, _, hx, he => injection hx with hx; injection he with he; rw [← hx] at he; cases he
theorem sq_ok : Ok sqN sqE := by
  obtain ⟨E, h1, h2⟩ := ok_of_chk sq_chk
  rw [toI_inj h1]; exact h2
theorem sq_valid : Valid sqE := sq_ok.valid
theorem sq_sml : sml sqN (toI sqE) = 0 := by
  unfold sml
  rw [if_neg (by rw [sq_chk]; simp), if_neg (by decide)]

theorem dd_of {E : List (List Nat)} (hE : Valid E) {a k : Nat} {l : List Int} (ha : a < E.length) (hk : (bs E a k).q.length = k) (hp : ∀ i, i < k → ((bs E a i).q[i]?).isSome = true) (hl : dl E.length a (bs E a k).q = l) : dd E a = l := by
  rw [← hl]
  exact (dl_dists hE ha hk fun i hi => Option.isSome_iff_exists.1 (hp i hi)).eq.symm
theorem sq_dd0 : dd sqE 0 = [0, 1, 2, 1] := dd_of sq_valid (k := 4) (by decide) (by decide) (by decide) (by decide)
theorem sq_dd1 : dd sqE 1 = [1, 0, 1, 2] := dd_of sq_valid (k := 4) (by decide) (by decide) (by decide) (by decide)
theorem sq_dd2 : dd sqE 2 = [2, 1, 0, 1] := dd_of sq_valid (k := 4) (by decide) (by decide) (by decide) (by decide)
theorem sq_dd3 : dd sqE 3 = [1, 2, 1, 0] := dd_of sq_valid (k := 4) (by decide) (by decide) (by decide) (by decide)
theorem sq_dia : dia sqE = (2, 0) := by
  have h4 : sqE.length = 4 := rfl
  unfold dia
  rw [if_neg (by rw [h4]; decide), if_pos]
  · rw [h4]
    simp only [dm, sq_dd0, sq_dd1, sq_dd2, sq_dd3]
    rfl
  · rw [h4]
    intro i hi x hx
    match i, hi, hx with
    | 0, _, hx => rw [sq_dd0] at hx; simp at hx; omega
    | 1, _, hx => rw [sq_dd1] at hx; simp at hx; omega
    | 2, _, hx => rw [sq_dd2] at hx; simp at hx; omega
    | 3, _, hx => rw [sq_dd3] at hx; simp at hx; omega
theorem sq_far : far sqE 2 = fun v => [2, 1, 0, 1].getD v 0 := by
  funext v
  unfold far
  have e : bks sqE sqE.length = sqE := by decide
  rw [e, sq_dd2]
theorem sq_far0 : far sqE 2 0 = 2 := by rw [sq_far]; rfl
theorem sq_pth : pth sqE (far sqE 2) 0 2 = [0, 1, 2] := by rw [sq_far]; decide
theorem sq_tr : tr sqE 4 4 = 32 := by decide
theorem sq_prn : prn sqN sqE 4 = [97, 32, 49, 32, 51, 10, 98, 32, 48, 32, 50, 10, 99, 32, 49, 32, 51, 10, 100, 32, 48, 32, 50, 10] := by
  have d0 : Lib.decDigits 0 = [48] := by rw [Lib.decDigits]; rfl
  have d1 : Lib.decDigits 1 = [49] := by rw [Lib.decDigits]; rfl
  have d2 : Lib.decDigits 2 = [50] := by rw [Lib.decDigits]; rfl
  have d3 : Lib.decDigits 3 = [51] := by rw [Lib.decDigits]; rfl
  simp [prn, nums, sqN, sqE, gr, List.getD, d0, d1, d2, d3]
end Go.Proofs.YtefcdclmabdmbaaGreatDoor

namespace Go.Proofs.YtefcdclmabdmbaaGreatDoor
open Go.RowKit

def swap2 {α : Type} : List α → List α
  | a :: b :: r => b :: a :: r
  | l => l
def seqN (md : Region.Mode) (ops : Array Oper) : Nat → Nat → Array Bool → Bool
  | 0, _, _ => true
  | f + 1, k, listed => decide (Region.ready md ops listed = [k]) && seqN md ops f (k + 1) (listed.setIfInBounds k true)
def aft : Nat → Nat → Array Bool → Array Bool
  | 0, _, listed => listed
  | f + 1, k, listed => aft f (k + 1) (listed.setIfInBounds k true)

section
variable {P : Program} {ops : Array Oper} {Q : Exit → Act → World → Prop} {md : Region.Mode}
theorem upon_then (o : Oper) (a : Act) (next R : Act → World → Prop) (r : Result Next) (h : o.upon P a next (Exit.then R Q) r) : o.upon P a next Q r := by
  unfold Oper.upon at h ⊢
  split at h <;> first | exact h | skip
  all_goals
    refine Calls.mono h ?_
    intro e w'' hh
    cases e <;> exact hh
theorem wpOp_of_list {o : Oper} {k : Nat} {a : Act} {w : World} {R : Act → World → Prop} {rest : List Oper} (ho : ops[k]? = some o) (h : wpList P ops (Exit.then R Q) (o :: rest) a w) : wpOp P ops Q k (wpList P ops (Exit.then R Q) rest) a w := by
  unfold wpOp
  simp only [ho]
  unfold wpList at h
  split
  · rename_i hw
    rw [if_pos hw] at h
    rcases h with h | ⟨h1, h2⟩
    · exact .inl (upon_then o a _ R _ h)
    · exact .inr ⟨h1, h2⟩
  · rename_i hw
    rw [if_neg hw] at h
    exact h
theorem wpAny_pre {g : Nat} : ∀ (pre : List Oper) (k : Nat) (listed : Array Bool) (a : Act) (w : World), (∀ j, j < pre.length → pre[j]? = ops[k + j]?) → seqN md ops pre.length k listed = true →
    wpList P ops (Exit.then (fun a' w' => wpAny P md ops Q g (aft pre.length k listed) a' w') Q) pre a w → wpAny P md ops Q (g + pre.length) listed a w
  | [], _, _, _, _, _, _, h => h
  | o :: l, k, listed, a, w, hl, hB, h => by
    have h0 : ops[k]? = some o := by simpa using (hl 0 (by simp)).symm
    simp only [List.length_cons, seqN, Bool.and_eq_true, decide_eq_true_eq] at hB
    refine ⟨fun h1 => (by rw [hB.1] at h1; cases h1), fun i hi => ?_⟩
    rw [hB.1] at hi
    have hik : i = k := by simpa using hi
    subst hik
    exact wpOp_mono (fun a' w' h' => wpAny_pre l (i + 1) _ a' w' (fun j hj => by have := hl (j + 1) (by simp; omega); simpa [Nat.add_assoc, Nat.add_comm 1 j] using this) hB.2 h') (wpOp_of_list h0 h)

theorem then_upon (o : Oper) (a : Act) (next R : Act → World → Prop) (r : Result Next) (h : o.upon P a next Q r) : o.upon P a next (Exit.then R Q) r := by
  unfold Oper.upon at h ⊢
  split at h <;> first | exact h | skip
  all_goals
    refine Calls.mono h ?_
    intro e w'' hh
    cases e <;> exact hh
theorem wpList_then_mono {R R' : Act → World → Prop} (hR : ∀ a w, R a w → R' a w) : ∀ (l' : List Oper) (a' : Act) (w' : World), wpList P ops (Exit.then R Q) l' a' w' → wpList P ops (Exit.then R' Q) l' a' w'
  | [], _, _, hh => hR _ _ hh
  | o :: l', a', w', hh => by
    unfold wpList at hh ⊢
    split
    · rename_i hw
      rw [if_pos hw] at hh
      rcases hh with hh | ⟨hh, hh2⟩
      · exact .inl (then_upon o a' _ R' _ (Oper.wp_mono (fun a w hh => wpList_then_mono hR l' a w hh) (upon_then o a' _ R _ hh)))
      · exact .inr ⟨hh, hh2⟩
    · rename_i hw
      rw [if_neg hw] at hh
      exact wpList_then_mono hR l' _ _ hh

/-- Two neighbours that may change places. -/
theorem wpAny_dia {g n : Nat} {listed : Array Bool} {o1 o2 : Oper} {a : Act} {w : World} (g1 : ops[n]? = some o1) (g2 : ops[n + 1]? = some o2) (hr : Region.ready md ops listed = [n, n + 1]) (hr1 : Region.ready md ops (listed.setIfInBounds n true) = [n + 1]) (hr2 : Region.ready md ops (listed.setIfInBounds (n + 1) true) = [n])
    (h1 : wpList P ops (Exit.then (fun a' w' => wpAny P md ops Q g ((listed.setIfInBounds n true).setIfInBounds (n + 1) true) a' w') Q) [o1, o2] a w)
    (h2 : wpList P ops (Exit.then (fun a' w' => wpAny P md ops Q g ((listed.setIfInBounds n true).setIfInBounds (n + 1) true) a' w') Q) [o2, o1] a w) : wpAny P md ops Q (g + 2) listed a w := by
  refine ⟨fun hh => (by rw [hr] at hh; cases hh), fun i hi => ?_⟩
  rw [hr] at hi
  simp only [List.mem_cons, List.not_mem_nil, or_false] at hi
  rcases hi with rfl | rfl
  · refine wpOp_mono (fun a2 w2 hw2 => ?_) (wpOp_of_list g1 h1)
    refine ⟨fun hh => (by rw [hr1] at hh; cases hh), fun j hj => ?_⟩
    rw [hr1] at hj
    have hin : j = i + 1 := by simpa using hj
    subst hin
    exact wpOp_mono (fun a3 w3 hw3 => hw3) (wpOp_of_list g2 hw2)
  · refine wpOp_mono (fun a2 w2 hw2 => ?_) (wpOp_of_list g2 h2)
    refine ⟨fun hh => (by rw [hr2] at hh; cases hh), fun j hj => ?_⟩
    rw [hr2] at hj
    have hin : j = n := by simpa using hj
    subst hin
    refine wpOp_mono (fun a3 w3 hw3 => ?_) (wpOp_of_list g1 hw2)
    rw [Array.setIfInBounds_comm _ _ (show j + 1 ≠ j by omega)]
    exact hw3

/-- A region in pieces: each is gone through in its order; of those that are marked, the two operations in either order. -/
def planW (P : Program) (ops : Array Oper) (Q : Exit → Act → World → Prop) : List (List Oper × Bool) → Act → World → Prop
  | [], a, w => Q .normal a w
  | (seg, b) :: r, a, w => wpList P ops (Exit.then (planW P ops Q r) Q) seg a w ∧ (b = true → wpList P ops (Exit.then (planW P ops Q r) Q) (swap2 seg) a w)
def planB (md : Region.Mode) (ops : Array Oper) : List (Nat × Bool) → Nat → Array Bool → Bool
  | [], _, listed => (Region.ready md ops listed).isEmpty
  | (n, false) :: r, k, listed => seqN md ops n k listed && planB md ops r (k + n) (aft n k listed)
  | (n, true) :: r, k, listed => decide (n = 2) && decide (Region.ready md ops listed = [k, k + 1]) && decide (Region.ready md ops (listed.setIfInBounds k true) = [k + 1]) && decide (Region.ready md ops (listed.setIfInBounds (k + 1) true) = [k]) && planB md ops r (k + n) (aft n k listed)
def total : List (List Oper × Bool) → Nat
  | [] => 0
  | p :: r => total r + p.1.length
theorem flat_tail {seg : List Oper} {b : Bool} {r : List (List Oper × Bool)} {k : Nat} (hl : ∀ j, (((seg, b) :: r).flatMap (·.1))[j]? = ops[k + j]?) : ∀ j, (r.flatMap (·.1))[j]? = ops[k + seg.length + j]? := by
  intro j
  have h := hl (seg.length + j)
  rw [List.flatMap_cons] at h
  have h2 : (seg ++ r.flatMap (·.1))[seg.length + j]? = (r.flatMap (·.1))[j]? := by rw [List.getElem?_append_right (by omega), Nat.add_sub_cancel_left]
  rw [← h2, Nat.add_assoc]
  exact h
theorem flat_head {seg : List Oper} {b : Bool} {r : List (List Oper × Bool)} {k : Nat} (hl : ∀ j, (((seg, b) :: r).flatMap (·.1))[j]? = ops[k + j]?) : ∀ j, j < seg.length → seg[j]? = ops[k + j]? := by
  intro j hj
  have h := hl j
  rw [List.flatMap_cons] at h
  have h2 : (seg ++ r.flatMap (·.1))[j]? = seg[j]? := List.getElem?_append_left hj
  rw [← h2]
  exact h
theorem two_of {seg : List Oper} (h : seg.length = 2) : ∃ o1 o2, seg = [o1, o2] := by
  rcases seg with _ | ⟨o1, _ | ⟨o2, _ | ⟨o3, r⟩⟩⟩
  · simp at h
  · simp at h
  · exact ⟨o1, o2, rfl⟩
  · simp at h
theorem wpAny_plan (pl : List (List Oper × Bool)) : ∀ (k : Nat) (listed : Array Bool) (a : Act) (w : World), (∀ j, (pl.flatMap (·.1))[j]? = ops[k + j]?) → planB md ops (pl.map fun p => (p.1.length, p.2)) k listed = true → planW P ops Q pl a w → wpAny P md ops Q (total pl) listed a w := by
  induction pl with
  | nil => intro k listed a w _ hB h; exact ⟨by simpa [planB] using hB, h⟩
  | cons p r ih =>
    intro k listed a w hl hB h
    obtain ⟨seg, b⟩ := p
    have ht := flat_tail hl
    have hh := flat_head hl
    rw [planW] at h
    rw [total]
    cases b with
    | false =>
      simp only [List.map_cons, planB, Bool.and_eq_true] at hB
      exact wpAny_pre seg k listed a w hh hB.1 (wpList_then_mono (fun a' w' h' => ih _ _ a' w' ht hB.2 h') seg a w h.1)
    | true =>
      simp only [List.map_cons, planB, Bool.and_eq_true, decide_eq_true_eq] at hB
      obtain ⟨⟨⟨⟨h2, hr⟩, hr1⟩, hr2⟩, hB⟩ := hB
      obtain ⟨o1, o2, rfl⟩ := two_of h2
      have himp : ∀ a' w', planW P ops Q r a' w' → wpAny P md ops Q (total r) ((listed.setIfInBounds k true).setIfInBounds (k + 1) true) a' w' := fun a' w' h' => ih _ _ a' w' ht hB h'
      exact wpAny_dia (hh 0 (by simp)).symm (hh 1 (by simp)).symm hr hr1 hr2 (wpList_then_mono himp _ a w h.1) (wpList_then_mono himp _ a w (h.2 rfl))

def segs : List Oper → List (Nat × Bool) → List (List Oper × Bool)
  | _, [] => []
  | l, (n, b) :: r => (l.take n, b) :: segs (l.drop n) r
def covers : List (Nat × Bool) → Nat → Bool
  | [], n => n == 0
  | (m, _) :: r, n => decide (m ≤ n) && covers r (n - m)
theorem segs_flat : ∀ (pl : List (Nat × Bool)) (l : List Oper), covers pl l.length = true → (segs l pl).flatMap (·.1) = l ∧ total (segs l pl) = l.length ∧ (segs l pl).map (fun p => (p.1.length, p.2)) = pl
  | [], l, h => by
    have : l = [] := by cases l with
      | nil => rfl
      | cons a r => simp [covers] at h
    subst this; exact ⟨rfl, rfl, rfl⟩
  | (m, b) :: r, l, h => by
    simp only [covers, Bool.and_eq_true, decide_eq_true_eq] at h
    obtain ⟨i1, i2, i3⟩ := segs_flat r (l.drop m) (by rw [List.length_drop]; exact h.2)
    have hlen : (l.take m).length = m := by rw [List.length_take]; omega
    refine ⟨by simp only [segs, List.flatMap_cons, i1, List.take_append_drop], ?_, ?_⟩
    · simp only [segs, total, i2, hlen, List.length_drop]; omega
    · simp only [segs, List.map_cons, i3, hlen]

/-- A region that draws its order, by a plan: the lengths of its pieces, those marked in which two neighbours may change places. -/
theorem wp_region_plan {id : Nat} {a : Act} {w : World} {l : List Oper} (pl : List (Nat × Bool)) (hm : P.follows .mixedOrders = true) (hc : covers pl l.length = true) (hB : planB .any l.toArray pl 0 (Array.replicate l.length false) = true)
    (h : planW P l.toArray Q (segs l pl) a { w with drawn := w.drawn + 1 }) : (Code.region id l.toArray true).wp P Q a w := by
  obtain ⟨h1, h2, h3⟩ := segs_flat pl l hc
  refine wp_region_any hm ?_
  have hsz : l.toArray.size = l.length := by simp
  have := wpAny_plan (P := P) (Q := Q) (md := .any) (ops := l.toArray) (segs l pl) 0 (Array.replicate l.length false) a { w with drawn := w.drawn + 1 } (fun j => by rw [h1]; simp) (by rw [h3]; exact hB) h
  rw [h2] at this
  rw [hsz]
  exact this
theorem planW_seg {seg : List Oper} {r : List (List Oper × Bool)} {a : Act} {w : World} (h : wpList P ops (Exit.then (planW P ops Q r) Q) seg a w) : planW P ops Q ((seg, false) :: r) a w := ⟨h, fun h => by cases h⟩
theorem planW_two {o1 o2 : Oper} {r : List (List Oper × Bool)} {a : Act} {w : World} (h1 : wpList P ops (Exit.then (planW P ops Q r) Q) [o1, o2] a w) (h2 : wpList P ops (Exit.then (planW P ops Q r) Q) [o2, o1] a w) : planW P ops Q (([o1, o2], true) :: r) a w := ⟨h1, fun _ => h2⟩
theorem planW_nil {a : Act} {w : World} (h : Q .normal a w) : planW P ops Q [] a w := h
end
end Go.Proofs.YtefcdclmabdmbaaGreatDoor

namespace Go.Proofs.YtefcdclmabdmbaaGreatDoor
open Go.RowKit

theorem sq_Diameter {w : World} {v : Value} (h : GrV w v sqN (toI sqE)) : Calls Tryz.prog 26 #[v] w fun e w' => e = .returned (.tuple #[.int .i64 2, .int .i64 0]) ∧ Below w.heap.size w w' := by
  refine (Diameter_ok h sq_chk sq_ok).mono ?_
  rintro e w' ⟨rfl, hb⟩
  rw [sq_dia]
  exact ⟨rfl, hb⟩
theorem sq_Path {w : World} {v : Value} (h : GrV w v sqN (toI sqE)) : Calls Tryz.prog 28 #[v, .int .i64 0, .int .i64 2] w fun e w' => ∃ A c, e = .returned (.tuple #[.slice A 3 c, .int .i64 0]) ∧ Il w' A 3 c [0, 1, 2] ∧ Below w.heap.size w w' := by
  refine (Path_ok h sq_chk sq_ok (a := 0) (t := 2) (by decide) (by decide)).mono ?_
  rintro e w' ⟨⟨h1, _⟩ | ⟨_, A, c, rfl, h3⟩, hb⟩
  · rw [sq_far0] at h1; omega
  · rw [sq_far0] at h3 ⊢
    have e2 : (2 : Int).toNat = 2 := rfl
    rw [e2, sq_pth] at h3
    exact ⟨A, c, rfl, h3, hb⟩
theorem sq_Closed {w : World} {v : Value} (h : GrV w v sqN (toI sqE)) : Calls Tryz.prog 13 #[v, .int .i64 4] w fun e w' => ∃ neg A m c, e = .returned (.tuple #[.agg #[.bool neg, .slice A m c], .int .i64 0]) ∧ NIntV w' (fun _ => True) (.agg #[.bool neg, .slice A m c]) 32 ∧ Below w.heap.size w w' := by
  refine (Closed_ok h sq_sml sq_ok (n := 4) (by omega)).mono ?_
  rintro e w' ⟨v', rfl, h2, hb⟩
  have e4 : sqE.length = 4 := rfl
  rw [e4, sq_tr] at h2
  obtain ⟨A, c, rfl, h3⟩ := h2
  exact ⟨_, A, _, c, rfl, ⟨A, c, rfl, h3.mono fun _ _ _ => trivial⟩, hb⟩
theorem sq_Print {w : World} {v : Value} (h : GrV w v sqN (toI sqE)) : Calls Tryz.prog 29 #[v] w fun e w' => e = .returned (.tuple #[.string ⟨#[97, 32, 49, 32, 51, 10, 98, 32, 48, 32, 50, 10, 99, 32, 49, 32, 51, 10, 100, 32, 48, 32, 50, 10]⟩, .int .i64 0]) ∧ Below w.heap.size w w' := by
  refine (Print_ok h sq_chk sq_ok (by decide)).mono ?_
  rintro e w' ⟨rfl, hb⟩
  have e4 : sqE.length = 4 := rfl
  rw [e4, sq_prn]
  exact ⟨rfl, hb⟩
theorem ints012 {w : World} {A B : Option Addr} {c c' : Nat} (h : Il w A 3 c [0, 1, 2]) (h' : Il w B 3 c' [0, 1, 2]) : Calls Tryz.prog 30 #[.slice A 3 c, .slice B 3 c'] w fun e w' => e = .returned (.bool true) ∧ Below w.heap.size w w' := by
  refine (Ints_any h h').mono ?_
  rintro e w' ⟨rfl, hb⟩
  exact ⟨rfl, hb⟩
theorem same32 {w : World} {D D' : Nat → Prop} {v v' : Value} (h : NIntV w D v 32) (h' : NIntV w D' v' 32) : Calls Tryz.prog 31 #[v, v'] w fun e w' => e = .returned (.bool true) ∧ Below w.heap.size w w' := by
  refine (SameInt_any h h').mono ?_
  rintro e w' ⟨rfl, hb⟩
  exact ⟨rfl, hb⟩

theorem of32 {w : World} : Calls Tryz.prog 32 #[.int .i64 32] w fun e w' => ∃ neg A m c, e = .returned (.agg #[.bool neg, .slice A m c]) ∧ NIntV w' (fun _ => True) (.agg #[.bool neg, .slice A m c]) 32 ∧ Below w.heap.size w w' := by
  refine (rOf_any 32 w (by omega) (by omega)).mono ?_
  rintro e w' ⟨v', rfl, ⟨A, c, rfl, h3⟩, hb⟩
  exact ⟨_, A, _, c, rfl, ⟨A, c, rfl, h3.mono fun _ _ _ => trivial⟩, hb⟩

set_option maxHeartbeats 4000000 in
set_option maxRecDepth 100000 in
theorem awake_any {w : World} : Calls Tryz.prog 6 #[] w fun e w' => e = .returned (.bool true) ∧ Below w.heap.size w w' := by
  go_enter Tryz.func6, Tryz.ntmps6
  go_wp2_with fail
  refine Square_any.mono ?_
  rintro e w1 ⟨v1, rfl, hg1, hb1⟩
  obtain ⟨A1, c1, B1, d1, rfl, _, _⟩ := id hg1
  go_wp2_with fail
  refine (sq_Diameter hg1).mono ?_
  rintro e w2 ⟨rfl, hb2⟩
  replace hb2 := hb1.trans (hb2.mono hb1.size)
  clear hg1 hb1
  go_wp2_with fail
  refine Square_any.mono ?_
  rintro e w3 ⟨v3, rfl, hg3, hb3⟩
  obtain ⟨A3, c3, B3, d3, rfl, _, _⟩ := id hg3
  replace hb3 := hb2.trans (hb3.mono hb2.size)
  go_wp2_with fail
  refine (sq_Path hg3).mono ?_
  rintro e w4 ⟨P4, p4, rfl, hil4, hb4⟩
  replace hb4 := hb3.trans (hb4.mono hb3.size)
  clear hg3 hb3 hb2
  go_wp2_with fail
  refine Square_any.mono ?_
  rintro e w5 ⟨v5, rfl, hg5, hb5⟩
  obtain ⟨A5, c5, B5, d5, rfl, _, _⟩ := id hg5
  replace hil4 := hil4.below hb5
  replace hb5 := hb4.trans (hb5.mono hb4.size)
  go_wp2_with fail
  refine (sq_Closed hg5).mono ?_
  rintro e w6 ⟨neg, A6, m6, c6, rfl, hn6, hb6⟩
  replace hil4 := hil4.below hb6
  replace hb6 := hb5.trans (hb6.mono hb5.size)
  clear hg5 hb5 hb4
  obtain ⟨w7, N, hw7, hN⟩ : ∃ w7 N, w7 = w6.alloc (.cells #[.bool neg, .slice A6 m6 c6] 42) ∧ N = w6.heap.size := ⟨_, _, rfl, rfl⟩
  have x0 : w7.cell? ⟨N, 0, none⟩ = some (.bool neg) := by rw [hw7, hN]; go_simp
  have x1 : w7.cell? ⟨N, 1, none⟩ = some (.slice A6 m6 c6) := by rw [hw7, hN]; go_simp
  have hb67 : Below w6.heap.size w6 w7 := by rw [hw7]; exact (Below.refl _ _).alloc (Nat.le_refl _) _
  replace hil4 := hil4.below hb67
  replace hn6 := hn6.below hb67
  replace hb6 := hb6.trans (hb67.mono hb6.size)
  go_wp2_with fail
  rw [← hw7, ← hN]
  clear hw7 hN hb67
  refine Square_any.mono ?_
  rintro e w8 ⟨v8, rfl, hg8, hb8⟩
  obtain ⟨A8, c8, B8, d8, rfl, _, _⟩ := id hg8
  replace hil4 := hil4.below hb8
  replace hn6 := hn6.below hb8
  replace x0 := (hb8.cell (p := ⟨N, 0, none⟩) (cell_some_lt x0)).trans x0
  replace x1 := (hb8.cell (p := ⟨N, 1, none⟩) (cell_some_lt x1)).trans x1
  replace hb8 := hb6.trans (hb8.mono hb6.size)
  go_wp2_with fail
  refine (sq_Print hg8).mono ?_
  rintro e w9 ⟨rfl, hb9⟩
  replace hil4 := hil4.below hb9
  replace hn6 := hn6.below hb9
  replace x0 := (hb9.cell (p := ⟨N, 0, none⟩) (cell_some_lt x0)).trans x0
  replace x1 := (hb9.cell (p := ⟨N, 1, none⟩) (cell_some_lt x1)).trans x1
  replace hb9 := hb8.trans (hb9.mono hb8.size)
  clear hg8 hb8 hb6
  have hN9 := cell_some_lt x0
  go_wp2_with fail
  have HIL := Lib.hid hil4
  have HN6 := Lib.hid hn6
  clear hil4 hn6
  refine wp_region_plan [(11, false), (2, true), (7, false), (2, true), (11, false)] (by kernel_rfl) (by decide) (by kernel_rfl) ?_
  simp only [segs, List.take_succ_cons, List.take_zero, List.drop_succ_cons, List.drop_zero, List.take_nil]
  have hil9 : Il w9.drew P4 3 p4 [0, 1, 2] := HIL.out.below ((Below.refl _ _).drew)
  have hn9 : NIntV w9.drew (fun _ => True) (.agg #[.bool neg, .slice A6 m6 c6]) 32 := HN6.out.below ((Below.refl _ _).drew)
  have y0 : w9.drew.cell? ⟨N, 0, none⟩ = some (.bool neg) := x0
  have y1 : w9.drew.cell? ⟨N, 1, none⟩ = some (.slice A6 m6 c6) := x1
  have hb10 : Below w.heap.size w w9.drew := hb9.drew
  have hN10 : N < w9.drew.heap.size := hN9
  change planW _ _ _ _ _ w9.drew
  clear HIL HN6 x0 x1 hb9 hN9
  generalize w9.drew = w10 at *
  obtain ⟨W9, hW9⟩ : ∃ W9, W9 = w10.alloc (.cells #[.int .i64 0, .int .i64 1, .int .i64 2] 3) := ⟨_, rfl⟩
  have hb11 : Below w10.heap.size w10 W9 := by rw [hW9]; exact (Below.refl _ _).alloc (Nat.le_refl _) _
  have har10 : Arr W9 w10.heap.size 3 (([0, 1, 2] : List Int).map (Value.int .i64)) := by rw [hW9]; exact Arr.at rfl
  have HI := Lib.hid (ints012 (hil9.below hb11) (Il.of_arr har10 (by simp) (by unfold maxLen; decide)))
  have HW9 := Lib.hid hW9
  have HN9 := Lib.hid hn9
  clear hW9 hil9 hn9 har10
  refine planW_seg ?_
  go_wp2_with fail
  refine planW_two ?_ ?_
  all_goals
    go_wp2_with fail
    refine planW_seg ?_
    go_wp2_with (go_at_call 30; rw [← HW9.out]; refine HI.out.mono ?_; rintro e w11 ⟨rfl, hb12⟩)
    have hB11 := hb11.trans (hb12.mono hb11.size)
    have u0 := (hB11.cell (p := ⟨N, 0, none⟩) hN10).trans y0
    have u1 := (hB11.cell (p := ⟨N, 1, none⟩) hN10).trans y1
    have hN11 := Nat.lt_of_lt_of_le hN10 hB11.size
    refine planW_two ?_ ?_
    all_goals
      go_wp2_with (go_at_call 32; refine of32.mono ?_; rintro e w12 ⟨n12, A12, m12, c12, rfl, hn12, hb13⟩; have hB12 := hB11.trans (hb13.mono hB11.size); have t0 := (hb13.cell (p := ⟨N, 0, none⟩) hN11).trans u0; have t1 := (hb13.cell (p := ⟨N, 1, none⟩) hN11).trans u1)
      refine planW_seg ?_
      go_wp2_with (go_at_call 31; refine (same32 (HN9.out.below hB12) hn12).mono ?_; rintro e w13 ⟨rfl, hb14⟩)
      refine planW_nil ?_
      go_wp2_with fail
      go_ret
      exact ⟨rfl, (hb10.trans (hB12.mono hb10.size)).trans (hb14.mono (Nat.le_trans hb10.size hB12.size))⟩
end Go.Proofs.YtefcdclmabdmbaaGreatDoor

namespace Go.Proofs.YtefcdclmabdmbaaGreatDoor
open Go.RowKit

theorem DistsAt.il {w w' : World} {E : List (List Nat)} {a : Nat} {v : Value} (h : DistsAt w E a w' v) (hE : Valid E) (ha : a < E.length) (hn : E.length ≤ 2500) : ∃ A, v = .slice A E.length E.length ∧ Il w' A E.length E.length (dd E a) := by
  obtain ⟨G, _, rfl, h3⟩ := h
  have hl := (dd_is hE ha).1
  have := h3.il (fun x hx => by have := dd_small hE ha hx; omega) (by rw [hl]; unfold maxLen; omega)
  rw [hl] at this
  exact ⟨_, rfl, this⟩
/-- The boxed graph, through a call that only makes new memory. -/
theorem keep2 {w w' : World} {G : Nat} {a b : Value} (hb : Below w.heap.size w w') (h0 : w.cell? ⟨G, 0, none⟩ = some a) (h1 : w.cell? ⟨G, 1, none⟩ = some b) : w'.cell? ⟨G, 0, none⟩ = some a ∧ w'.cell? ⟨G, 1, none⟩ = some b :=
  ⟨(hb.cell (p := ⟨G, 0, none⟩) (cell_some_lt h0)).trans h0, (hb.cell (p := ⟨G, 1, none⟩) (cell_some_lt h1)).trans h1⟩

end Go.Proofs.YtefcdclmabdmbaaGreatDoor
