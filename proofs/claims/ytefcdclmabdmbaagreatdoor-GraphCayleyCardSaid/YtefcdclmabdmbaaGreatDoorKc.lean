/- strings.ContainsAny of whatever text with a blank and a new line. graph.Check. A queue of edges in memory; what a function may have written. graph.search, with whatever function it tells the vertices. Arrays of ints; slices.Repeat of one number. graph.distances: the distances from a vertex, along lists of neighbours. What it says of a graph that it has no error. graph.Distances and graph.Diameter. graph.Diameter. -/
import Derived.Test.YtefcdclmabdmbaaGreatDoorShelf
import Derived.Test.YtefcdclmabdmbaaGreatDoorKb
import Derived.Lib.OthersKept
import Derived.Laws.RangeAny
import Derived.Maps.OwnOps
import Derived.Maps.Views
import Derived.ArgAppend
import Derived.Shelf.Abstract
import Derived.Deep.LoopGhost
import Derived.Laws.CopyOwn
import Derived.IntWalk
namespace Go.Proofs.YtefcdclmabdmbaaGreatDoor
open Go.RowKit Go.Lib

theorem get_bang (s : ByteArray) (pos : Nat) (h : pos < s.size) : s.get! pos = s[pos]'h := by
  have := get_at s pos h
  simpa using this

/-- What a byte that is no ASCII byte begins has no ASCII byte in it. -/
theorem decode_skip (s : ByteArray) (pos : Nat) (h : pos < s.size) (ha : 128 ≤ (s[pos]'h).toNat) : ∀ k, k < (Utf8.decode s pos).2 → ∃ hk : pos + k < s.size, 128 ≤ (s[pos + k]'hk).toNat := by
  have hn : ¬ (s[pos]'h).toNat < 128 := by omega
  have hc : ∀ k, (decide (pos + k < s.size) && (s.get! (pos + k)).toNat / 64 == 2) = true → ∃ hk : pos + k < s.size, 128 ≤ (s[pos + k]'hk).toNat := by
    intro k hk
    simp only [Bool.and_eq_true, decide_eq_true_eq, beq_iff_eq] at hk
    refine ⟨hk.1, ?_⟩
    rw [get_bang s _ hk.1] at hk
    omega
  have h0 : ∃ hk : pos + 0 < s.size, 128 ≤ (s[pos + 0]'hk).toNat := ⟨h, ha⟩
  simp only [Utf8.decode, get_at s pos h, hn, if_false]
  intro k hk
  split at hk
  · rename_i h1
    simp only [Bool.and_eq_true] at h1
    split at hk
    · have : k = 0 ∨ k = 1 := by simp at hk; omega
      rcases this with rfl | rfl
      · exact h0
      · exact hc 1 (by simp; exact ⟨by simpa using h1.2.1, by simpa using h1.2.2⟩)
    · have : k = 0 := by simp at hk; omega
      subst this; exact h0
  · split at hk
    · rename_i h1
      simp only [Bool.and_eq_true] at h1
      split at hk
      · have : k = 0 ∨ k = 1 ∨ k = 2 := by simp at hk; omega
        rcases this with rfl | rfl | rfl
        · exact h0
        · exact hc 1 (by simp; exact ⟨by simpa using h1.1.2.1, by simpa using h1.1.2.2⟩)
        · exact hc 2 (by simp; exact ⟨by simpa using h1.2.1, by simpa using h1.2.2⟩)
      · have : k = 0 := by simp at hk; omega
        subst this; exact h0
    · split at hk
      · rename_i h1
        simp only [Bool.and_eq_true] at h1
        split at hk
        · have : k = 0 ∨ k = 1 ∨ k = 2 ∨ k = 3 := by simp at hk; omega
          rcases this with rfl | rfl | rfl | rfl
          · exact h0
          · exact hc 1 (by simp; exact ⟨by simpa using h1.1.1.2.1, by simpa using h1.1.1.2.2⟩)
          · exact hc 2 (by simp; exact ⟨by simpa using h1.1.2.1, by simpa using h1.1.2.2⟩)
          · exact hc 3 (by simp; exact ⟨by simpa using h1.2.1, by simpa using h1.2.2⟩)
        · have : k = 0 := by simp at hk; omega
          subst this; exact h0
      · have : k = 0 := by simp at hk; omega
        subst this; exact h0

theorem decode_valid (s : ByteArray) (pos : Nat) (h : pos < s.size) (ha : 128 ≤ (s[pos]'h).toNat) : Utf8.valid ((Utf8.decode s pos).1 : Nat) = true := by
  have hn : ¬ (s[pos]'h).toNat < 128 := by omega
  have hb : ∀ k, (s.get! (pos + k)).toNat < 256 := fun k => (s.get! (pos + k)).toNat_lt
  have h1 := hb 1
  have h0 : (s[pos]'h).toNat < 256 := (s[pos]'h).toNat_lt
  simp only [Utf8.decode, get_at s pos h, hn, if_false]
  split
  · split
    · simp [Utf8.valid]; omega
    · decide
  · split
    · split
      · rename_i h2; simp only [Bool.and_eq_true] at h2; exact h2.2
      · decide
    · split
      · split
        · rename_i h2; simp only [Bool.and_eq_true] at h2; exact h2.2
        · decide
      · decide

set_option maxHeartbeats 1000000 in
set_option maxRecDepth 1000000 in
theorem IndexRune_err (w : World) : Calls Tryz.prog 230 #[.string ⟨#[32, 10]⟩, .int .i32 65533] w fun e w' => e = .returned (.int .i64 (-1)) ∧ Below w.heap.size w w' := by
  have n0 := fun ty => run_next_ascii (P := Tryz.prog) w ⟨#[32, 10]⟩ 0 ty (by decide) (by decide)
  have n1 := fun ty => run_next_ascii (P := Tryz.prog) w ⟨#[32, 10]⟩ 1 ty (by decide) (by decide)
  have n2 := fun ty => run_next_end (P := Tryz.prog) w ⟨#[32, 10]⟩ 2 ty (by decide)
  go_enter Tryz.func230, Tryz.ntmps230
  go_wp2_with fail
  go_loopg [5, 6] 2 (fun g _ _ wx => ∃ i : Nat, i + g = 2 ∧ wx = w.iter ⟨#[32, 10]⟩ i)
  case atStart => exact ⟨0, by omega, rfl⟩
  case round =>
    obtain ⟨i, hig, rfl⟩ := hrel
    have : gk = 0 ∨ gk = 1 ∨ gk = 2 := by omega
    rcases this with rfl | rfl | rfl
    · obtain rfl : i = 2 := by omega
      go_wp2_with fail
      go_ret
      exact ⟨rfl, (Below.refl _ _).alloc (Nat.le_refl _) _⟩
    · obtain rfl : i = 1 := by omega
      go_wp2_with fail
      go_roundg 0
      case measure => omega
      case rel => exact ⟨2, by omega, rfl⟩
    · obtain rfl : i = 0 := by omega
      go_wp2_with fail
      go_roundg 1
      case measure => omega
      case rel => exact ⟨1, by omega, rfl⟩

theorem encode_two {r : Int} (h1 : 128 ≤ r) (h2 : Utf8.valid r = true) (h3 : r < 2048) : ∃ a b : UInt8, Utf8.encode r = ⟨#[a, b]⟩ ∧ 128 ≤ b.toNat := by
  have hc : ¬ r.toNat < 128 := by omega
  have hc2 : r.toNat < 2048 := by omega
  refine ⟨_, _, by simp only [Utf8.encode, h2, if_true, hc, hc2, if_false]; rfl, ?_⟩
  simp [UInt8.toNat_ofNat']
  omega
theorem encode_more {r : Int} (h2 : Utf8.valid r = true) (h3 : 2048 ≤ r) : 3 ≤ (Utf8.encode r).size ∧ (Utf8.encode r).size ≤ 4 := by
  have hc : ¬ r.toNat < 128 := by omega
  have hc2 : ¬ r.toNat < 2048 := by omega
  simp only [Utf8.encode, h2, if_true, hc, hc2, if_false]
  split
  · exact ⟨Nat.le_refl 3, Nat.le_succ 3⟩
  · exact ⟨Nat.le_succ 3, Nat.le_refl 4⟩

set_option maxHeartbeats 2000000 in
set_option maxRecDepth 1000000 in
theorem IndexRune_two (r : Int) (w : World) (h1 : 128 ≤ r) (h2 : Utf8.valid r = true) (h3 : r < 2048) : Calls Tryz.prog 230 #[.string ⟨#[32, 10]⟩, .int .i32 r] w fun e w' => e = .returned (.int .i64 (-1)) ∧ Below w.heap.size w w' := by
  obtain ⟨a, b, he, hb⟩ := encode_two h1 h2 h3
  have hv : Lib.validRune r = true := by
    have := h2
    simp [Utf8.valid] at this
    simp [Lib.validRune]
    omega
  have HV := Lib.hid hv
  have h5 : (r == 65533) = false := beq_eq_false_iff_ne.2 (by omega)
  have h6 : decide (r < 128) = false := by simp; omega
  have h7 : decide (0 ≤ r) = true := by simp; omega
  clear hv h2
  go_enter Tryz.func230, Tryz.ntmps230
  go_wp2_with (go_at_call 247; refine (Tryz.utf8_ValidRune _ _).mono ?_; rintro e w' ⟨rfl, hw⟩; rw [hw, HV.out])
  go_step3
  go_wp2_with fail
  have hne : ((((⟨#[32, 10]⟩ : ByteArray)[1]'(by decide)).toNat : Int) != (((⟨#[a, b]⟩ : ByteArray)[1]'(by exact Nat.lt_succ_self 1)).toNat : Int)) = true := by
    show ((10 : Int) != (b.toNat : Int)) = true
    rw [bne_iff_ne]; omega
  have hbn : b.toNat < 256 := b.toNat_lt
  refine wp_loop_rounds 1 ?_
  rw [rounds_succ]
  go_wp2_with fail
  go_step3
  go_wp2_with fail
  go_quiet (fail)
  go_wp2_with fail
  have hq1 : Below w.heap.size w (w.drewN nq) := below_drewN' (Below.refl _ _) _
  generalize w.drewN nq = w2 at *
  have hsl : ∀ w, (Instr.slice 9 (.string ⟨#[32, 10]⟩) (some (.int .i64 2)) none none).run Tryz.prog w = .ok (.string ⟨#[]⟩) w := fun _ => by kernel_rfl
  have hwr : IntKind.i64.wrap 2 = 2 := by decide
  go_still_tail 7, (by kernel_rfl)
  have hq2 : Below w.heap.size w w2.drew := hq1.drew
  change wpList _ _ _ _ _ w2.drew
  generalize w2.drew = w3 at *
  go_wp2_with (go_at_call 246; refine (Tryz.strings_IndexByte _ _ _).mono ?_; rintro e w' ⟨rfl, hw⟩; rw [hw])
  go_simp
  go_ret
  exact ⟨rfl, hq2⟩

set_option maxHeartbeats 2000000 in
set_option maxRecDepth 1000000 in
theorem IndexRune_more (r : Int) (w : World) (h2 : Utf8.valid r = true) (h3 : 2048 ≤ r) (hr : r ≠ 65533) : Calls Tryz.prog 230 #[.string ⟨#[32, 10]⟩, .int .i32 r] w fun e w' => e = .returned (.int .i64 (-1)) ∧ Below w.heap.size w w' := by
  obtain ⟨hs1, hs2⟩ := encode_more h2 h3
  have hv : Lib.validRune r = true := by
    have := h2
    simp [Utf8.valid] at this
    simp [Lib.validRune]
    omega
  have HV := Lib.hid hv
  have h5 : (r == 65533) = false := beq_eq_false_iff_ne.2 hr
  have h6 : decide (r < 128) = false := by simp; omega
  have h7 : decide (0 ≤ r) = true := by simp; omega
  clear hv h2
  generalize hg : Utf8.encode r = rs at *
  have HG := Lib.hid hg
  go_enter Tryz.func230, Tryz.ntmps230
  go_wp2_with (go_at_call 247; refine (Tryz.utf8_ValidRune _ _).mono ?_; rintro e w' ⟨rfl, hw⟩; rw [hw, HV.out])
  go_step3
  go_wp2_with fail
  refine wp_loop_rounds 1 ?_
  rw [rounds_succ]
  go_wp2_with fail
  go_simp
  go_ret
  exact ⟨rfl, Below.refl _ _⟩

theorem IndexRune_hi (r : Int) (w : World) (h1 : 128 ≤ r) (h2 : Utf8.valid r = true) : Calls Tryz.prog 230 #[.string ⟨#[32, 10]⟩, .int .i32 r] w fun e w' => e = .returned (.int .i64 (-1)) ∧ Below w.heap.size w w' := by
  by_cases hr : r = 65533
  · subst hr; exact IndexRune_err w
  · by_cases h3 : r < 2048
    · exact IndexRune_two r w h1 h2 h3
    · exact IndexRune_more r w h2 (by omega) hr

/-- Some byte is a blank or a new line. -/
def hasBl (s : ByteArray) : Prop := ∃ b ∈ s.data.toList, b = 32 ∨ b = 10
noncomputable def blB (s : ByteArray) : Bool := @decide (hasBl s) (Classical.propDecidable _)
theorem blB_true {s : ByteArray} : blB s = true ↔ hasBl s := by unfold blB; exact @decide_eq_true_iff _ (Classical.propDecidable _)
theorem blB_false {s : ByteArray} : blB s = false ↔ ¬ hasBl s := by unfold blB; exact @decide_eq_false_iff_not _ (Classical.propDecidable _)

theorem indexByte_blanks (x : UInt8) : (x = 32 ∨ x = 10) ∧ 0 ≤ Lib.indexByte [32, 10] x ∨ (¬ (x = 32 ∨ x = 10)) ∧ Lib.indexByte [32, 10] x < 0 := by
  by_cases h : x = 32
  · subst h; exact .inl ⟨.inl rfl, by decide⟩
  · by_cases h' : x = 10
    · subst h'; exact .inl ⟨.inr rfl, by decide⟩
    · refine .inr ⟨by simp [h, h'], ?_⟩
      have e := Lib.contains_iff_indexByte [32, 10] x
      have e2 : ([32, 10] : List UInt8).contains x = false := by simp [h, h']
      rw [e2] at e
      have := of_decide_eq_false e.symm
      omega

set_option maxHeartbeats 2000000 in
set_option maxRecDepth 1000000 in
theorem IndexAny_small (s : ByteArray) (w : World) (h8 : s.size ≤ 8) :
    Calls Tryz.prog 201 #[.string s, .string ⟨#[32, 10]⟩] w fun e w' => (∃ i : Int, e = .returned (.int .i64 i) ∧ decide (0 ≤ i) = blB s) ∧ Below w.heap.size w w' := by
  have h8z : decide ((8 : Int) < (s.size : Int)) = false := decide_eq_false (by omega)
  go_enter Tryz.func201, Tryz.ntmps201
  go_wp2_with (go_at_call 231; refine (Tryz.strings_shouldUseASCIISet _ _).mono ?_; rintro e w' ⟨rfl, hw⟩; rw [hw, h8z])
  obtain ⟨K, hK⟩ : ∃ K, K = w.heap.size := ⟨_, rfl⟩
  have hi0 : (w.iter s 0).heap[K]? = some (.stringIter s 0) := by rw [hK]; exact World.iter_heap w s 0
  have hb0 : Below K w (w.iter s 0) := by rw [hK]; exact (Below.refl _ _).alloc (Nat.le_refl _) _
  rw [← hK]
  have HK := Lib.hid hK
  clear hK
  generalize w.iter s 0 = W0 at *
  have HI0 := Lib.hid hi0; clear hi0
  go_loopg [9, 10] s.size (fun g _ _ wx => ∃ i : Nat, i + g = s.size ∧ wx.heap[K]? = some (.stringIter s i) ∧ Below K w wx ∧ ∀ j b, j < i → s.data.toList[j]? = some b → b ≠ 32 ∧ b ≠ 10)
  case atStart => exact ⟨0, by omega, HI0.out, hb0, fun j b hj => by omega⟩
  case round =>
    obtain ⟨i, hig, hit, hbw, hno⟩ := hrel
    have HN := Lib.hid hno; clear hno
    by_cases hlt : i < s.size
    · obtain ⟨x, hx⟩ : ∃ x : UInt8, s[i]'hlt = x := ⟨_, rfl⟩
      have hxl : s.data.toList[i]? = some x := by rw [← hx]; exact Lib.data_getElem? s i hlt
      have HX := Lib.hid hxl; clear hxl
      by_cases h128 : x.toNat < 128
      · have hnx := fun ty => run_next_ascii_at (P := Tryz.prog) wr K s i ty hit hlt (by rw [hx]; exact h128)
        rw [hx] at hnx
        have hb1 := below_iterAt (w := wr) hbw (Nat.le_refl K) s (i + 1)
        have hit1 := iterAt_heap wr K s i (i + 1) hit
        have HIT := Lib.hid hit1
        clear hit1 hit hx
        generalize wr.iterAt K s (i + 1) = w1 at *
        have hback : ((x.toNat : Int)).toNat.toUInt8 = x := by simp
        rcases indexByte_blanks x with ⟨hx1, hx2⟩ | ⟨hx1, hx2⟩
        · have hbl : blB s = true := blB_true.2 ⟨x, List.mem_of_getElem? HX.out, hx1⟩
          have HBL := Lib.hid hbl; clear hbl hx1
          go_wp2_with (go_at_call 230; refine (Tryz.strings_IndexRune_ascii _ _ _ (by omega) (by omega)).mono ?_; rintro e w' ⟨rfl, hw⟩; rw [hw, hback])
          go_ret
          exact ⟨⟨_, rfl, by rw [HBL.out]; simp⟩, HK.out ▸ hb1⟩
        · have hx3 : ¬ (0 ≤ Lib.indexByte [32, 10] x) := by omega
          have HX1 := Lib.hid hx1; clear hx1
          go_wp2_with (go_at_call 230; refine (Tryz.strings_IndexRune_ascii _ _ _ (by omega) (by omega)).mono ?_; rintro e w' ⟨rfl, hw⟩; rw [hw, hback])
          go_roundg (s.size - (i + 1))
          case measure => omega
          case rel =>
            refine ⟨i + 1, by omega, HIT.out, hb1, fun j b hj hjb => ?_⟩
            rcases Nat.lt_or_ge j i with h2 | h2
            · exact HN.out j b h2 hjb
            · obtain rfl : j = i := by omega
              have := HX.out.symm.trans hjb
              cases this
              have := HX1.out
              exact ⟨fun e => this (.inl e), fun e => this (.inr e)⟩
      · have hnx := fun ty => run_next_any_at (P := Tryz.prog) wr K s i ty hit hlt
        have hsk := decode_skip s i hlt (by rw [hx]; omega)
        have hvl := decode_valid s i hlt (by rw [hx]; omega)
        have hhi := decode_high s i hlt (by rw [hx]; omega)
        have hle := decode_le s i
        generalize Utf8.decode s i = d at *
        obtain ⟨r, n⟩ := d
        simp only at hnx hsk hvl hhi hle
        have hb1 := below_iterAt (w := wr) hbw (Nat.le_refl K) s (i + n)
        have hit1 := iterAt_heap wr K s i (i + n) hit
        have HIT := Lib.hid hit1
        have HSK := Lib.hid hsk
        have HVL := Lib.hid hvl
        have hin : i + n ≤ s.size := by
          obtain ⟨h3, _⟩ := hsk (n - 1) (by omega)
          omega
        clear hit1 hit hx hsk hvl
        generalize wr.iterAt K s (i + n) = w1 at *
        go_wp2_with (go_at_call 230; refine (IndexRune_hi _ _ (by omega) HVL.out).mono ?_; rintro e w2 ⟨rfl, hb2⟩)
        have hb3 := hb1.trans (hb2.mono (Nat.le_of_lt (Array.getElem?_eq_some_iff.1 HIT.out).1))
        have hit2 : w2.heap[K]? = _ := (hb2.block K (Array.getElem?_eq_some_iff.1 HIT.out).1).trans HIT.out
        have HIT2 := Lib.hid hit2; clear hit2
        go_roundg (s.size - (i + n))
        case measure => omega
        case rel =>
          refine ⟨i + n, by omega, HIT2.out, hb3, fun j b hj hjb => ?_⟩
          rcases Nat.lt_or_ge j i with h2 | h2
          · exact HN.out j b h2 hjb
          · obtain ⟨h4, h5⟩ := HSK.out (j - i) (by omega)
            have e1 : i + (j - i) = j := by omega
            simp only [e1] at h4 h5
            have h6 := Lib.data_getElem? s j h4
            rw [hjb] at h6
            injection h6 with h6
            rw [← h6] at h5
            constructor
            · rintro rfl; simp at h5
            · rintro rfl; simp at h5
    · obtain rfl : i = s.size := by omega
      have hnx := fun ty => run_next_end_at (P := Tryz.prog) wr K s s.size ty hit hlt
      have hbl : blB s = false := blB_false.2 fun ⟨b, hb, h⟩ => by
        obtain ⟨j, hj, hj2⟩ := mem_getElem hb
        rw [← Lib.size_eq] at hj
        have := HN.out j b hj hj2
        rcases h with h | h
        · exact this.1 h
        · exact this.2 h
      have HBL := Lib.hid hbl; clear hbl hit
      go_wp2_with fail
      go_ret
      exact ⟨⟨_, rfl, by rw [HBL.out]; decide⟩, HK.out ▸ hbw⟩

theorem indexAny_bl (s : ByteArray) : decide (0 ≤ Lib.indexAny s.data.toList [32, 10]) = blB s := by
  have h : ∀ l : List UInt8, (0 ≤ Lib.indexAny l [32, 10] ↔ ∃ b ∈ l, b = 32 ∨ b = 10) := by
    intro l
    induction l with
    | nil => simp [Lib.indexAny]
    | cons x r ih =>
      have hg := Lib.indexAny_ge [32, 10] r
      by_cases hx : x = 32 ∨ x = 10
      · have hc : ([32, 10] : List UInt8).contains x = true := by simp; exact hx
        simp only [Lib.indexAny, hc, if_true]
        exact ⟨fun _ => ⟨x, by simp, hx⟩, fun _ => by omega⟩
      · have hc : ([32, 10] : List UInt8).contains x = false := by simpa using hx
        have e : (∃ b ∈ x :: r, b = 32 ∨ b = 10) ↔ ∃ b ∈ r, b = 32 ∨ b = 10 := by
          constructor
          · rintro ⟨b, hb, hb2⟩
            rcases List.mem_cons.1 hb with rfl | hb
            · exact absurd hb2 hx
            · exact ⟨b, hb, hb2⟩
          · rintro ⟨b, hb, hb2⟩; exact ⟨b, by simp [hb], hb2⟩
        rw [e, ← ih]
        simp only [Lib.indexAny, hc]
        simp
        split <;> omega
  cases hb : blB s
  · exact decide_eq_false fun h0 => blB_false.1 hb ((h _).1 h0)
  · exact decide_eq_true ((h _).2 (blB_true.1 hb))

theorem zero256 (w : World) : (zeroValue 247).run Tryz.prog w = .ok (.agg (Array.replicate 256 (.bool false))) w := by kernel_rfl

theorem IndexAny_bl (s : ByteArray) (w : World) (hs : s.size < 4294967281) :
    Calls Tryz.prog 201 #[.string s, .string ⟨#[32, 10]⟩] w fun e w' => (∃ i : Int, e = .returned (.int .i64 i) ∧ decide (0 ≤ i) = blB s) ∧ Below w.heap.size w w' := by
  by_cases h8 : s.size ≤ 8
  · exact IndexAny_small s w h8
  · refine (Tryz.strings_IndexAny_long zero256 s ⟨#[32, 10]⟩ w (by decide) (by omega) hs (by decide) ?_).mono ?_
    · intro j b hb
      have : b ∈ ([32, 10] : List UInt8) := List.mem_of_getElem? hb
      simp at this
      rcases this with rfl | rfl <;> decide
    · rintro e w' ⟨rfl, rfl⟩
      exact ⟨⟨_, rfl, indexAny_bl s⟩, ((Below.refl _ _).alloc (Nat.le_refl _) _).alloc (by simp) _⟩

theorem ContainsAny_bl (s : ByteArray) (w : World) (hs : s.size < 4294967281) :
    Calls Tryz.prog 143 #[.string s, .string ⟨#[32, 10]⟩] w fun e w' => e = .returned (.bool (blB s)) ∧ Below w.heap.size w w' := by
  go_enter Tryz.func143, Tryz.ntmps143
  go_wp2_with (go_at_call 201; refine (IndexAny_bl s _ hs).mono ?_; rintro e w' ⟨⟨i, rfl, hi⟩, hb⟩; have HI := Lib.hid hi; clear hi)
  go_ret
  exact ⟨ret_bool HI.out, hb⟩
end Go.Proofs.YtefcdclmabdmbaaGreatDoor

namespace Go.Proofs.YtefcdclmabdmbaaGreatDoor
open Go.RowKit Go.Maps

set_option maxHeartbeats 1000000 in
theorem checkNeighbours_any {w : World} {v : Value} {names : List ByteArray} {E : List (List Int)} (h : GrV w v names E) {A : Option Addr} {c : Nat} {l : List Int} (hl : Il w A l.length c l) :
    Calls Tryz.prog 144 #[v, .slice A l.length c] w (ChkR w (rowC names.length l)) := by
  obtain ⟨B, d, B', d', rfl, hs, hg⟩ := h
  obtain ⟨hr1, hr2⟩ := hs.room
  obtain ⟨hr3, hr4⟩ := hg.room
  obtain ⟨hr5, hr6⟩ := hl.room
  unfold maxLen at hr2 hr4 hr6
  by_cases h400 : 400 < l.length
  · have e : rowC names.length l = 8 := by unfold rowC; rw [if_pos h400]
    rw [e]
    clear e
    go_enter Tryz.func144, Tryz.ntmps144
    go_wp2
    go_ret
    exact chkR_of rfl ((Below.refl _ _).alloc (Nat.le_refl _) _)
  · obtain ⟨W, G, hW, hG, hbW, c0, c1, hGl, hwG⟩ := gbox w (.slice B names.length d) (.slice B' E.length d')
    have HW := Lib.hid hW
    have HG := Lib.hid hG
    clear hW hG
    replace hs := hs.below hbW
    replace hg := hg.below hbW
    replace hl := hl.below hbW
    have hgv : GrV W (.agg #[.slice B names.length d, .slice B' E.length d']) names E := ⟨_, _, _, _, rfl, hs, hg⟩
    go_enter Tryz.func144, Tryz.ntmps144
    go_wp2
    rw [← HW.out, ← HG.out]
    go_loopw [12] (fun i wr => ∃ t : Nat, t ≤ l.length ∧ i = .int .i64 t ∧ (∀ j, j < t → rowAt names.length l j = 0) ∧ Below W.heap.size W wr) (fun i _ => l.length - (intOf i).toNat)
    case atStart => exact ⟨0, Nat.zero_le _, rfl, fun j hj => by omega, Below.refl _ _⟩
    case round =>
      obtain ⟨t, ht, rfl, hnt, hbt⟩ := hrel
      have HT := Lib.hid hnt; clear hnt
      obtain ⟨hc, hf⟩ := bcell hbt
      have e0 := (hc _ 0 hGl).trans c0
      have e1 := (hc _ 1 hGl).trans c1
      clear hc hf
      by_cases htl : t < l.length
      · obtain ⟨b3, off3, rfl, hcell3⟩ := (hl.below hbt).cell (by omega)
        obtain ⟨y, hy⟩ : ∃ y, l[t]? = some y := ⟨_, List.getElem?_eq_getElem htl⟩
        have hcy := hcell3 t y hy
        have HC3 := Lib.hid hcell3
        have HY := Lib.hid hy
        have hyr := hl.2 y (List.mem_of_getElem? hy)
        have hgv2 := hgv.below hbt
        clear hcell3 hy
        cases hh : hasB names.length y
        · have HH := Lib.hid hh; clear hh
          go_wp2_with (go_at_call 94; refine (has_any hgv2 y).mono ?_; rintro e w4 ⟨rfl, hb4⟩; rw [HH.out])
          go_ret
          have er : rowAt names.length l t = 6 := by unfold rowAt; rw [getD_some HY.out, if_pos (by have := HH.out; unfold hasB at this; simpa using this)]
          exact chkR_of (by rw [rowC_hit (by omega) htl HT.out (by rw [er]; decide), er]) (hbW.trans ((hbt.trans (hb4.mono hbt.size)).mono hbW.size))
        · have HH := Lib.hid hh; clear hh
          have hyn : 0 ≤ y ∧ y < names.length := by have := HH.out; unfold hasB at this; simpa using this
          by_cases ht0 : t = 0
          · have hd0 : decide (0 < t) = false := by simp; omega
            have HT0 := Lib.hid ht0; clear ht0
            go_wp2_with (go_at_call 94; refine (has_any hgv2 y).mono ?_; rintro e w4 ⟨rfl, hb4⟩; rw [HH.out])
            go_roundw
            case rel =>
              refine ⟨t + 1, by omega, by go_num, fun j hj => ?_, hbt.trans (hb4.mono hbt.size)⟩
              rcases Nat.lt_or_ge j t with h2 | h2
              · exact HT.out j h2
              · obtain rfl : j = t := by omega
                unfold rowAt; rw [getD_some HY.out, if_neg (by simpa using hyn), if_neg (by have := HT0.out; omega)]
            case measure => simp [intOf]; omega
          · obtain ⟨z, hz⟩ : ∃ z, l[t - 1]? = some z := ⟨_, List.getElem?_eq_getElem (by omega)⟩
            have f1 := HC3.out _ _ hz
            have hzr := hl.2 z (List.mem_of_getElem? hz)
            have HZ := Lib.hid hz
            have ht1 : 0 < t := by omega
            clear ht0 hz
            go_wp2_with (go_at_call 94; refine (has_any hgv2 y).mono ?_; rintro e w4 ⟨rfl, hb4⟩; rw [HH.out]; obtain ⟨hc4, hf4⟩ := bcell hb4; have f2 := (hc4 _ _ (cell_some_lt f1)).trans f1; clear hc4 hf4)
            · go_ret
              have hyz : y < z := by assumption
              have er : rowAt names.length l t = 14 := by unfold rowAt; rw [getD_some HY.out, getD_some HZ.out, if_neg (by simpa using hyn), if_pos ⟨ht1, hyz⟩]
              exact chkR_of (by rw [rowC_hit (by omega) htl HT.out (by rw [er]; decide), er]) (hbW.trans ((hbt.trans (hb4.mono hbt.size)).mono hbW.size))
            · have hyz : ¬ y < z := by first | assumption | omega
              go_roundw
              case rel =>
                refine ⟨t + 1, by omega, by go_num, fun j hj => ?_, hbt.trans (hb4.mono hbt.size)⟩
                rcases Nat.lt_or_ge j t with h2 | h2
                · exact HT.out j h2
                · obtain rfl : j = t := by omega
                  unfold rowAt; rw [getD_some HY.out, getD_some HZ.out, if_neg (by simpa using hyn), if_neg (fun h => hyz h.2)]
              case measure => simp [intOf]; omega
      · obtain rfl : t = l.length := by omega
        go_wp2_with fail
        go_ret
        exact chkR_of (by rw [rowC_ok (by omega) HT.out]) (hbW.trans (hbt.mono hbW.size))

theorem plainElem_bool_inv {H : Type} {P : Program} {e : TypeId} (he : P.underlying e = some .bool) {v : Value} {z : DataW H × List MemPlace} (h : plainElem P e v = some z) : ∃ a, v = .bool a ∧ z = (.lit (.bool a), []) := by
  unfold plainElem at h
  rw [he] at h
  cases v <;> simp at h
  exact ⟨_, rfl, h.symm⟩

/-- m[k] in a map of bools of the call's own. -/
theorem wpList_lookup_own_bool {H : Type} {P : Program} (w : World) {ops : Array Oper} {rest : List Oper} {o : Oper} {a : Act} {Q : Exit → Act → World → Prop}
    (hg : o.guard = none) (m x : Operand) (t : TypeId) (hop : o.op = Op.lookup t m x false)
    (k e : TypeId) (K : Keyed P k) (ht : P.underlying t = some (.map k e)) (he : P.underlying e = some .bool) (hz : (zeroValue e).run P w = .ok (.bool false) w) (b n : Nat) (D : DataW H)
    (hm : a.eval m = .map (some b)) (hown : w.ownsMap P k (plainElem P e) b n D) (key : Value) (kl : Lit) (hx : a.eval x = key) (hkey : keyOf P k key = some kl) (r : Bool)
    (hat : D.atKey kl (.lit (.bool false)) = .lit (.bool r))
    (hK : wpList P ops Q rest (a.put o.dst (.bool r)) w) :
    wpList P ops Q (o :: rest) a w := by
  refine wpList_plain hg fun K' hK' => ?_
  obtain ⟨v, ps, hrun, hv⟩ := hown.lookup K ht hz (plainElem_bool he false) hkey
  obtain ⟨c, rfl, hc⟩ := plainElem_bool_inv he hv
  simp only [Prod.mk.injEq] at hc
  have hcr : c = r := by
    have := hc.1.symm.trans hat
    injection this with this
    injection this
  subst hcr
  unfold Oper.wp
  simp [execOp, hop, hm, hx, hrun, Result.andThen]
  exact hK' _ _ hK

theorem bytes_inj {a b : ByteArray} (h : a.data.toList = b.data.toList) : a = b := by
  cases a; cases b
  congr
  exact Array.toList_inj.1 h

theorem str_keyed : Keyed Tryz.prog 9 := string_keyed Tryz.underlying9
theorem zero_bool (w : World) : (zeroValue 4).run Tryz.prog w = .ok (.bool false) w := by kernel_rfl

theorem ownsMap_below {H : Type} {P : Program} {k : TypeId} {R : Value → Option (DataW H × List MemPlace)} {b n : Nat} {D : DataW H} {w w' : World} (h : w.ownsMap P k R b n D) (hb : Below w.heap.size w w') : w'.ownsMap P k R b n D := by
  obtain ⟨es, clock, h1, r⟩ := h
  exact ⟨es, clock, (hb.block b (Array.getElem?_eq_some_iff.1 h1).1).trans h1, r⟩

open Classical in
/-- The map holds just the names so far. -/
def NamesIn (names : List ByteArray) (k : Nat) (D : DataW Unit) : Prop := ∀ s : ByteArray, D.atKey (.string s.data.toList) (.lit (.bool false)) = .lit (.bool (decide (s ∈ names.take k)))

open Classical in
theorem NamesIn.add {names : List ByteArray} {k : Nat} {D : DataW Unit} {x : ByteArray} (hD : IsMap D) (h : NamesIn names k D) (hx : names[k]? = some x) : NamesIn names (k + 1) (D.put (.string x.data.toList) (.lit (.bool true))) := by
  intro s
  by_cases hs : s = x
  · subst hs
    rw [atKey_put_same hD (show WideAt.IsKeyLit (.string s.data.toList) from trivial)]
    have : s ∈ names.take (k + 1) := mem_take.2 ⟨k, by omega, hx⟩
    simp [this]
  · rw [atKey_put_other (fun e => hs (bytes_inj (by injection e)))]
    rw [h s]
    have : (s ∈ names.take (k + 1)) ↔ s ∈ names.take k := by
      constructor
      · intro hm
        obtain ⟨j, hj, hj2⟩ := mem_take.1 hm
        refine mem_take.2 ⟨j, ?_, hj2⟩
        rcases Nat.lt_or_ge j k with h1 | h1
        · exact h1
        · obtain rfl : j = k := by omega
          rw [hx] at hj2
          injection hj2 with hj2
          exact absurd hj2.symm hs
      · intro hm
        obtain ⟨j, hj, hj2⟩ := mem_take.1 hm
        exact mem_take.2 ⟨j, by omega, hj2⟩
    simp only [this]

theorem nameB_iff {x : ByteArray} (h0 : x.size ≠ 0) (h1 : x.size ≤ 40) : nameB x = !(blB x) := by
  cases hb : blB x
  · refine nameB_true.2 ⟨h0, h1, fun b hb2 => ⟨fun e => blB_false.1 hb ⟨b, hb2, .inl e⟩, fun e => blB_false.1 hb ⟨b, hb2, .inr e⟩⟩⟩
  · refine nameB_false.2 fun h => ?_
    obtain ⟨b, hb2, hb3⟩ := blB_true.1 hb
    rcases hb3 with e | e
    · exact (h.2.2 b hb2).1 e
    · exact (h.2.2 b hb2).2 e

set_option maxHeartbeats 2000000 in
set_option maxRecDepth 100000 in
theorem Check_any {w : World} {v : Value} {names : List ByteArray} {E : List (List Int)} (h : GrV w v names E) :
    Calls Tryz.prog 83 #[v] w (ChkR w (chk names E)) := by
  obtain ⟨A, c, A', c', rfl, hs, hg⟩ := h
  obtain ⟨hr1, hr2⟩ := hs.room
  obtain ⟨hr3, hr4⟩ := hg.room
  unfold maxLen at hr2 hr4
  by_cases hne : names.length = E.length
  · by_cases hlg : 2500 < names.length
    · have e : chk names E = 8 := by unfold chk; rw [if_neg (by omega), if_pos hlg]
      rw [e]
      have hb : ((names.length : Int) != (E.length : Int)) = false := by simp [hne]
      clear hne e
      go_enter Tryz.func83, Tryz.ntmps83
      go_wp2
      go_ret
      exact chkR_of rfl ((Below.refl _ _).alloc (Nat.le_refl _) _)
    · have hb : ((names.length : Int) != (E.length : Int)) = false := by simp [hne]
      have HNE := Lib.hid hne
      clear hne
      obtain ⟨W, G, hW, hG, hbW, c0, c1, hGl, hwG⟩ := gbox w (.slice A names.length c) (.slice A' E.length c')
      have HW := Lib.hid hW
      have HG := Lib.hid hG
      clear hW hG
      replace hs := hs.below hbW
      replace hg := hg.below hbW
      have hmm := @run_makeMap Tryz.prog
      go_enter Tryz.func83, Tryz.ntmps83
      go_wp2
      rw [← HW.out, ← HG.out]
      clear hb
      obtain ⟨M, hM⟩ : ∃ M, M = G + 1 := ⟨_, rfl⟩
      have hWs : W.heap.size = M := by rw [hM, HW.out, HG.out]; simp
      have hbM : Below W.heap.size W (W.alloc (.map #[] 0)) := (Below.refl _ _).alloc (Nat.le_refl _) _
      have how : (W.alloc (.map #[] 0)).ownsMap Tryz.prog 9 (plainElem (H := Unit) Tryz.prog 4) M 0 (.map []) := by rw [← hWs]; exact World.ownsMap_made _ _ _ _
      rw [← hM]
      have hWM : W.heap.size ≤ M := by omega
      clear hM hmm
      have HWS := Lib.hid hWs; clear hWs
      generalize W.alloc (.map #[] 0) = W1 at *
      go_loopw [22] (fun i wr => ∃ k D, k ≤ names.length ∧ i = .int .i64 (k : Nat) ∧ (∀ j, j < k → atC names E j = 0) ∧ Below W.heap.size W wr ∧ wr.ownsMap Tryz.prog 9 (plainElem (H := Unit) Tryz.prog 4) M k D ∧ NamesIn names k D) (fun i _ => names.length - (intOf i).toNat)
      case atStart => exact ⟨0, _, Nat.zero_le _, rfl, fun j hj => by omega, hbM, how, fun s => by simp [DataW.atKey]⟩
      case round =>
        obtain ⟨k, D, hk, rfl, hno, hbr, hown, hin⟩ := hrel
        have HN := Lib.hid hno; clear hno
        have HIN := Lib.hid hin; clear hin
        have hbw := hbW.trans (hbr.mono hbW.size)
        by_cases hlt : k < names.length
        · have hs2 := hs.below hbr
          have hg2 := hg.below hbr
          have hGr : G < wr.heap.size := Nat.lt_of_lt_of_le hGl hbr.size
          have d0 := ((bcell hbr).1 _ 0 hGl).trans c0
          have d1 := ((bcell hbr).1 _ 1 hGl).trans c1
          obtain ⟨b, off, rfl, hcell⟩ := hs2.cell (by omega)
          obtain ⟨x, hx⟩ : ∃ x, names[k]? = some x := ⟨_, List.getElem?_eq_getElem hlt⟩
          have hcx := hcell k x hx
          have hxm := hs.2 x (List.mem_of_getElem? hx)
          have HX := Lib.hid hx
          clear hx hcell
          have hxm2 := hxm
          unfold maxLen at hxm2
          by_cases hx0 : x.size = 0
          · have hz : x.toList.isEmpty = true := by rw [Lib.toList_data, List.isEmpty_iff]; exact List.length_eq_zero_iff.1 (by rw [← Lib.size_eq]; exact hx0)
            have hnb : nameB x = false := nameB_false.2 fun h => h.1 hx0
            have HB := Lib.hid hnb; clear hnb hx0
            go_wp2_with fail
            go_ret
            exact chkR_of (by rw [chk_hit HNE.out (by omega) hlt HN.out (by rw [atC_name HX.out HB.out]; decide), atC_name HX.out HB.out]) hbw
          · have hz : x.toList.isEmpty = false := by
              rw [Lib.toList_data]
              cases hl : x.data.toList with
              | nil => exact absurd (by rw [Lib.size_eq, hl]; rfl) hx0
              | cons a t => rfl
            by_cases hx40 : 40 < x.size
            · have hnb : nameB x = false := nameB_false.2 fun h => by have := h.2.1; omega
              have HB := Lib.hid hnb; clear hnb hx0
              go_wp2_with fail
              go_ret
              exact chkR_of (by rw [chk_hit HNE.out (by omega) hlt HN.out (by rw [atC_name HX.out HB.out]; decide), atC_name HX.out HB.out]) hbw
            · have hnb := nameB_iff hx0 (by omega)
              have hd40 : decide (40 < x.size) = false := by simp; omega
              clear hx0
              cases hbl : blB x
              · rw [hbl] at hnb
                have HB := Lib.hid hnb; clear hnb
                have HBL := Lib.hid hbl; clear hbl
                cases hmem : @decide (x ∈ names.take k) (Classical.propDecidable _)
                · have hnm : ¬ x ∈ names.take k := @of_decide_eq_false _ (Classical.propDecidable _) hmem
                  have hat := HIN.out x
                  rw [show (@decide (x ∈ names.take k) (Classical.propDecidable _)) = false from hmem] at hat
                  have HAT := Lib.hid hat
                  have HNM := Lib.hid hnm
                  clear hmem hat hnm
                  go_wp2_with (first
                    | (go_at_call 143; refine (ContainsAny_bl x _ (by omega)).mono ?_; rintro e w1 ⟨rfl, hb1⟩; rw [HBL.out]; have hown1 := ownsMap_below hown hb1; have hbr1 := hbr.trans (hb1.mono hbr.size))
                    | (at_lookup; go_must (refine wpList_lookup_own_bool _ rfl _ _ 175 rfl 9 4 str_keyed Tryz.underlying175 Tryz.underlying4 (zero_bool _) M k D rfl hown1 _ _ rfl (WideMaps.keyOf_string_mk Tryz.underlying9 hxm) false HAT.out ?_))
                    | (at_mapUpdate; go_must (refine wpList_mapUpdate_own _ rfl _ _ _ 175 rfl 9 4 str_keyed Tryz.underlying175 _ M k _ rfl hown1 (by unfold maxLen; omega) _ _ _ rfl rfl (WideMaps.keyOf_string_mk Tryz.underlying9 hxm) _ [] (plainElem_bool Tryz.underlying4 true) ?_); intro w2 hown2 hgrow2))
                  have hbr2 : Below W.heap.size W w2 := hbr1.grown hgrow2 hbr1.size (fun j hj => by injection hj with hj; omega)
                  go_frame
                  have hkE : k < E.length := by have := HNE.out; omega
                  obtain ⟨b2, off2, rfl, hcell2⟩ := (hg.below hbr2).cell (by omega)
                  obtain ⟨l, hl⟩ : ∃ l, E[k]? = some l := ⟨_, List.getElem?_eq_getElem hkE⟩
                  obtain ⟨B, d, hcl, hil⟩ := hcell2 k l hl
                  have hrow := atC_row (E := E) HX.out HB.out hl (fun j hj hj2 => HNM.out (mem_take.2 ⟨j, hj, hj2⟩))
                  have HROW := Lib.hid hrow
                  have hgv : GrV w2 (.agg #[.slice (some ⟨b, off, none⟩) names.length c, .slice (some ⟨b2, off2, none⟩) E.length c']) names E := ⟨_, _, _, _, rfl, hs.below hbr2, hg.below hbr2⟩
                  have hnin := NamesIn.add (hown.isMap) HIN.out HX.out
                  have HNIN := Lib.hid hnin
                  have f0 := ((bcell hbr2).1 _ 0 hGl).trans c0
                  have f1 := ((bcell hbr2).1 _ 1 hGl).trans c1
                  have i1 : (k : Int) < (E.length : Int) := by omega
                  have i2 : 0 ≤ (k : Int) := by omega
                  clear hl hcell2 hrow hnin d0 d1 hcx
                  go_still_tail 6, (by kernel_rfl)
                  have hb5 : Below w2.heap.size w2 w2.drew := (Below.refl _ _).drew
                  have hgv5 := hgv.below hb5
                  have hil5 := hil.below hb5
                  have hown5 := ownsMap_below hown2 hb5
                  have hbr5 := hbr2.trans (hb5.mono hbr2.size)
                  change wpList _ _ _ _ _ w2.drew
                  clear hgv hil hown2 hb5 hbr2 f0 f1 hcl
                  generalize w2.drew = w5 at *
                  by_cases hz0 : rowC names.length l = 0
                  · have hzb : (((rowC names.length l : Nat) : Int) != 0) = false := by simp [hz0]
                    have ea : atC names E k = 0 := by rw [HROW.out, hz0]
                    have HEA := Lib.hid ea; clear ea hz0
                    go_wp2_with (go_at_call 144; refine (checkNeighbours_any hgv5 hil5).mono ?_; rintro e w6 ⟨rfl, hb6⟩)
                    have hown6 := ownsMap_below hown5 hb6
                    have hbr6 := hbr5.trans (hb6.mono hbr5.size)
                    go_roundw
                    case rel =>
                      refine ⟨k + 1, _, by omega, by go_num, fun j hj => ?_, hbr6, hown6, HNIN.out⟩
                      rcases Nat.lt_or_ge j k with h2 | h2
                      · exact HN.out j h2
                      · obtain rfl : j = k := by omega
                        exact HEA.out
                    case measure => simp [intOf]; omega
                  · have hzb : (((rowC names.length l : Nat) : Int) != 0) = true := by simp [hz0]
                    have ea : chk names E = rowC names.length l := by rw [chk_hit HNE.out (by omega) hlt HN.out (by rw [HROW.out]; exact hz0), HROW.out]
                    have HEA := Lib.hid ea; clear ea hz0
                    go_wp2_with (go_at_call 144; refine (checkNeighbours_any hgv5 hil5).mono ?_; rintro e w6 ⟨rfl, hb6⟩)
                    have hbr6 := hbr5.trans (hb6.mono hbr5.size)
                    go_ret
                    exact chkR_of HEA.out.symm (hbW.trans (hbr6.mono hbW.size))
                · have hnm : x ∈ names.take k := @of_decide_eq_true _ (Classical.propDecidable _) hmem
                  have hat := HIN.out x
                  rw [show (@decide (x ∈ names.take k) (Classical.propDecidable _)) = true from hmem] at hat
                  have HAT := Lib.hid hat
                  obtain ⟨j, hj, hj2⟩ := mem_take.1 hnm
                  have ea := atC_exists (E := E) HX.out HB.out hj hj2
                  have HEA := Lib.hid ea
                  clear hmem hat hnm ea hj hj2 j
                  go_wp2_with (first
                    | (go_at_call 143; refine (ContainsAny_bl x _ (by omega)).mono ?_; rintro e w1 ⟨rfl, hb1⟩; rw [HBL.out]; have hown1 := ownsMap_below hown hb1; have hbr1 := hbr.trans (hb1.mono hbr.size))
                    | (at_lookup; go_must (refine wpList_lookup_own_bool _ rfl _ _ 175 rfl 9 4 str_keyed Tryz.underlying175 Tryz.underlying4 (zero_bool _) M k D rfl hown1 _ _ rfl (WideMaps.keyOf_string_mk Tryz.underlying9 hxm) true HAT.out ?_)))
                  go_ret
                  exact chkR_of (by rw [chk_hit HNE.out (by omega) hlt HN.out (by rw [HEA.out]; decide), HEA.out]) (hbW.trans (hbr1.mono hbW.size))
              · rw [hbl] at hnb
                have HB := Lib.hid hnb; clear hnb
                have HBL := Lib.hid hbl; clear hbl
                go_wp2_with (go_at_call 143; refine (ContainsAny_bl x _ (by omega)).mono ?_; rintro e w1 ⟨rfl, hb1⟩; rw [HBL.out])
                go_ret
                exact chkR_of (by rw [chk_hit HNE.out (by omega) hlt HN.out (by rw [atC_name HX.out HB.out]; decide), atC_name HX.out HB.out]) (hbw.trans (hb1.mono hbw.size))
        · go_wp2_with fail
          go_ret
          exact chkR_of (by rw [chk_ok HNE.out (by omega) (fun i hi => HN.out i (by omega))]) hbw
  · have e : chk names E = 9 := by unfold chk; rw [if_pos hne]
    rw [e]
    have hb : ((names.length : Int) != (E.length : Int)) = true := by simp; omega
    clear hne e
    go_enter Tryz.func83, Tryz.ntmps83
    go_wp2
    go_ret
    exact chkR_of rfl ((Below.refl _ _).alloc (Nat.le_refl _) _)
end Go.Proofs.YtefcdclmabdmbaaGreatDoor

namespace Go.Proofs.YtefcdclmabdmbaaGreatDoor
open Go.RowKit

/-- From w to w' nothing has been written but new blocks and those of O. -/
structure Fr (O : Nat → Prop) (w w' : World) : Prop where
  os : w'.os = w.os
  tape : w'.tape = w.tape
  output : w'.output = w.output
  size : w.heap.size ≤ w'.heap.size
  block : ∀ b, b < w.heap.size → ¬ O b → w'.heap[b]? = w.heap[b]?

section
variable {O O' : Nat → Prop} {w w' w'' : World}
theorem Fr.refl (O : Nat → Prop) (w : World) : Fr O w w := ⟨rfl, rfl, rfl, Nat.le_refl _, fun _ _ _ => rfl⟩
theorem Fr.trans (h : Fr O w w') (k : Fr O w' w'') : Fr O w w'' :=
  ⟨k.os.trans h.os, k.tape.trans h.tape, k.output.trans h.output, Nat.le_trans h.size k.size, fun b hb ho => (k.block b (Nat.lt_of_lt_of_le hb h.size) ho).trans (h.block b hb ho)⟩
theorem Fr.mono (h : Fr O w w') (hO : ∀ b, b < w.heap.size → O b → O' b) : Fr O' w w' := ⟨h.os, h.tape, h.output, h.size, fun b hb ho => h.block b hb fun h2 => ho (hO b hb h2)⟩
theorem Fr.of_below {B : Nat} (h : Below B w w') : Fr (B ≤ ·) w w' := ⟨h.os, h.tape, h.output, h.size, fun b _ ho => h.block b (Nat.lt_of_not_le ho)⟩
theorem Fr.of_below' (h : Below w.heap.size w w') : Fr O w w' := ⟨h.os, h.tape, h.output, h.size, fun b hb _ => h.block b hb⟩
/-- Below B nothing has been written. -/
theorem Fr.below {B : Nat} (h : Fr O w w') (hB : B ≤ w.heap.size) (hO : ∀ b, O b → B ≤ b) : Below B w w' := ⟨h.os, h.tape, h.output, h.size, fun b hb => h.block b (by omega) fun ho => by have := hO b ho; omega⟩
theorem Fr.cell (h : Fr O w w') {b o : Nat} (hb : b < w.heap.size) (ho : ¬ O b) : w'.cell? ⟨b, o, none⟩ = w.cell? ⟨b, o, none⟩ := World.cell?_of_block (w := w) (h.block b hb ho)
theorem Fr.arr {g : Nat} {t : TypeId} {xs : List Value} (h : Fr O w w') (ha : Arr w g t xs) (ho : ¬ O g) : Arr w' g t xs := (h.block g ha.lt ho).trans ha
theorem Fr.grown {row : Option Nat} (h : w.grownBy w' row) (hr : ∀ k, row = some k → k < w.heap.size → O k) : Fr O w w' :=
  ⟨h.os, h.tape, h.output, h.size, fun b hb ho => h.block b hb fun e => ho (hr b e.symm hb)⟩
theorem Fr.setCell {p : Addr} (hp : p.block < w.heap.size → O p.block) (u : Value) : Fr O w (w.setCell p u) :=
  ⟨rfl, rfl, rfl, by simp [World.setCell], fun b hb ho => Below.heap_setCell _ _ _ _ (fun e => ho (by subst e; exact hp hb))⟩
theorem Fr.drew (h : Fr O w w') : Fr O w w'.drew := ⟨h.os, h.tape, h.output, h.size, h.block⟩
end

/-- The slice value v holds the edges xs, in a block of the call's own. -/
def Que (w : World) (base : Nat) (v : Value) (xs : List (Nat × Nat)) : Prop :=
  ∃ A c, v = .slice A xs.length c ∧ xs.length ≤ c ∧ c ≤ maxLen ∧ (0 < xs.length → ∃ g off cs, A = some ⟨g, off, none⟩ ∧ base ≤ g ∧ w.heap[g]? = some (.cells cs 182 (0, 0)) ∧ off + c * 2 ≤ cs.size ∧
    ∀ (j : Nat) p, xs[j]? = some p → cs[off + 2 * j]? = some (.int .i64 (p.1 : Nat)) ∧ cs[off + (2 * j + 1)]? = some (.int .i64 (p.2 : Nat)))

/-- The block of a queue. -/
def qb : Value → Option Nat
  | .slice (some a) (_ + 1) _ => some a.block
  | _ => none

section
variable {w w' : World} {base : Nat} {v : Value} {xs : List (Nat × Nat)}
theorem Que.keep (h : Que w base v xs) (hk : ∀ g, qb v = some g → base ≤ g → g < w.heap.size → w'.heap[g]? = w.heap[g]?) : Que w' base v xs := by
  obtain ⟨A, c, rfl, h1, h2, h3⟩ := h
  refine ⟨A, c, rfl, h1, h2, fun h0 => ?_⟩
  obtain ⟨g, off, cs, rfl, h4, h5, h6, h7⟩ := h3 h0
  refine ⟨g, off, cs, rfl, h4, ?_, h6, h7⟩
  obtain ⟨m, hm⟩ : ∃ m, xs.length = m + 1 := ⟨xs.length - 1, by omega⟩
  rw [hk g (by rw [hm]; rfl) h4 (Array.getElem?_eq_some_iff.1 h5).1, h5]
theorem Que.below (h : Que w base v xs) (hb : Below w.heap.size w w') : Que w' base v xs := h.keep fun g _ _ hg => hb.block g hg
theorem Que.one (w : World) (a : Nat) : Que (w.alloc (.cells #[.int .i64 (a : Nat), .int .i64 (a : Nat)] 182)) w.heap.size (.slice (some ⟨w.heap.size, 0, none⟩) 1 1) [(a, a)] := by
  refine ⟨_, 1, rfl, Nat.le_refl _, by unfold maxLen; omega, fun _ => ⟨_, 0, _, rfl, Nat.le_refl _, heap_alloc_new w _, by simp, fun j p hp => ?_⟩⟩
  cases j with
  | zero => simp at hp; subst hp; simp
  | succ j => simp at hp
/-- The first edge. -/
theorem Que.head {p : Nat × Nat} {r : List (Nat × Nat)} (h : Que w base v (p :: r)) : ∃ g off c, v = .slice (some ⟨g, off, none⟩) (r.length + 1) c ∧ r.length + 1 ≤ c ∧ c ≤ maxLen ∧ base ≤ g ∧ g < w.heap.size ∧ w.cell? ⟨g, off, none⟩ = some (.int .i64 (p.1 : Nat)) ∧ w.cell? ⟨g, off + 1, none⟩ = some (.int .i64 (p.2 : Nat)) ∧
    qb v = some g := by
  obtain ⟨A, c, rfl, h1, h2, h3⟩ := h
  obtain ⟨g, off, cs, rfl, h4, h5, h6, h7⟩ := h3 (by simp)
  obtain ⟨h8, h9⟩ := h7 0 p rfl
  refine ⟨g, off, c, rfl, h1, h2, h4, (Array.getElem?_eq_some_iff.1 h5).1, ?_, ?_, rfl⟩
  · rw [cell_of_row w g off _ _ _ h5]; simpa using h8
  · rw [cell_of_row w g (off + 1) _ _ _ h5]; simpa using h9
/-- Without the first edge. -/
theorem Que.pop {p : Nat × Nat} {r : List (Nat × Nat)} {g off c : Nat} (h : Que w base (.slice (some ⟨g, off, none⟩) (r.length + 1) c) (p :: r)) (A : Option Addr) (hA : c ≠ 1 → A = some ⟨g, off + 2, none⟩) : Que w base (.slice A r.length (c - 1)) r := by
  obtain ⟨A', c', e, h1, h2, h3⟩ := h
  obtain ⟨g', off', cs, rfl, h4, h5, h6, h7⟩ := h3 (by simp)
  injection e with e1 e2 e3
  injection e1 with e1
  injection e1 with e4 e5
  subst e4 e5 e3
  simp only [List.length_cons] at h1
  refine ⟨A, c - 1, rfl, by omega, by omega, fun h0 => ⟨g, off + 2, cs, hA (by omega), h4, h5, by omega, fun j q hq => ?_⟩⟩
  obtain ⟨h8, h9⟩ := h7 (j + 1) q hq
  refine ⟨?_, ?_⟩
  · rw [← h8]; congr 1; omega
  · rw [← h9]; congr 1; omega
end

section
variable (w : World)
theorem info_edge : (Tryz.prog.info? 182).map (fun i => (i.zero, i.size, i.bytes)) = some (some (.agg #[.int .i64 0, .int .i64 0]), 2, 16) := by kernel_rfl

/-- queue = append(queue, edge{x, y}), the edge in a block that was made just before. -/
theorem wpList_pushQ {ops : Array Oper} {rest : List Oper} {o : Oper} {a : Act} {Q : Exit → Act → World → Prop} (hgd : o.guard = none) (s x : Operand)
    (ho : o.op = .call { callee := .builtin .append, args := #[s, x], argTypes := #[185, 185] })
    (base : Nat) (v : Value) (p : Nat × Nat) (r : List (Nat × Nat)) (hs : a.eval s = v) (hq : Que w base v (p :: r))
    (k m : Int) (q : Nat × Nat) (hk : k = (q.1 : Nat)) (hm : m = (q.2 : Nat)) (hx : a.eval x = .slice (some ⟨w.heap.size, 0, none⟩) 1 1)
    (hlen : r.length + 2 ≤ 1000000)
    (h : ∀ v' w', Que w' base v' (p :: r ++ [q]) → Fr (fun b => qb v = some b) w w' → (qb v' = qb v ∨ ∃ b, qb v' = some b ∧ w.heap.size ≤ b) → wpList Tryz.prog ops Q rest (a.put o.dst v') w') :
    wpList Tryz.prog ops Q (o :: rest) a (w.alloc (.cells #[.int .i64 k, .int .i64 m] 182)) := by
  subst hk hm
  obtain ⟨A, c, e, h1, h2, h3⟩ := hq
  obtain ⟨g, off, cs, rfl, h4, h5, h6, h7⟩ := h3 (by simp)
  subst e
  simp only [List.length_cons] at h1 hs
  have hgl : g < w.heap.size := (Array.getElem?_eq_some_iff.1 h5).1
  have h5' : (w.alloc (.cells #[.int .i64 (q.1 : Nat), .int .i64 (q.2 : Nat)] 182)).heap[g]? = some (.cells cs 182 (0, 0)) := (Below.heap_alloc w _ g hgl).trans h5
  obtain ⟨i, hi, hz, hsz, hby⟩ := info_parts info_edge
  refine wpList_append_arg _ hgd s x 185 ho 182 i _ 2 16 Tryz.underlying185 hi hz hsz hby rfl (by omega) g off (r.length + 1) c (cs.toList.drop off |>.take ((r.length + 1) * 2)) hs ?_ ?_ ⟨w.heap.size, 0, none⟩ 1 1 [.int .i64 (q.1 : Nat), .int .i64 (q.2 : Nat)] hx rfl ?_ (by simp [Value.oneCell']) ?_ (by unfold maxLen; omega) (by omega) ?_ ?_
  · have hcl : cs.toList.length = cs.size := Array.length_toList
    rw [List.length_take, List.length_drop, hcl]; omega
  · intro j u hu
    rw [cell_of_row _ g (off + j) _ _ _ h5']
    rw [List.getElem?_take] at hu
    split at hu
    · rw [List.getElem?_drop] at hu
      simpa using hu
    · cases hu
  · intro j u hu
    rw [Addr.add_lit]
    rw [World.cell?_alloc_at _ _ _ _ rfl]
    simpa using hu
  · intro hc j hj
    constructor
    · rw [cell_of_row _ g _ _ _ _ h5']
      simp at hj
      rw [Array.getElem?_eq_getElem (by omega)]
      rfl
    · simp [World.frozen?, h5']
  · intro hc
    have ha : Arr (w.alloc (.cells #[.int .i64 (q.1 : Nat), .int .i64 (q.2 : Nat)] 182)) g 182 cs.toList := by unfold Arr; simpa using h5'
    have ha1 := ha.set_ (off + (r.length + 1) * 2) (.int .i64 (q.1 : Nat))
    have ha2 := ha1.set_ (off + (r.length + 1) * 2 + 1) (.int .i64 (q.2 : Nat))
    have hcl : cs.toList.length = cs.size := Array.length_toList
    refine h _ _ ⟨some ⟨g, off, none⟩, c, by simp, by simp; omega, h2, fun _ => ⟨g, off, _, rfl, h4, ha2, by simp; omega, fun j u hu => ?_⟩⟩ ?_ (.inl rfl)
    · have hjl := lt_of_some hu
      simp only [List.length_append, List.length_cons, List.length_nil] at hjl
      simp only [List.getElem?_toArray, List.getElem?_set, List.length_set, hcl]
      rcases getElem?_snoc_cases hu with ⟨hj, hu2⟩ | ⟨hj, hu2⟩
      · simp only [List.length_cons] at hj
        obtain ⟨h8, h9⟩ := h7 j u hu2
        rw [if_neg (by omega), if_neg (by omega), if_neg (by omega), if_neg (by omega)]
        exact ⟨by simpa using h8, by simpa using h9⟩
      · simp only [List.length_cons] at hj
        subst hj hu2
        rw [if_neg (by omega), if_pos (by omega), if_pos (by omega), if_pos (by omega), if_pos (by omega)]
        exact ⟨rfl, rfl⟩
    · have f1 : Fr (fun b => some g = some b) w (w.alloc (.cells #[.int .i64 (q.1 : Nat), .int .i64 (q.2 : Nat)] 182)) := Fr.of_below' ((Below.refl _ _).alloc (Nat.le_refl _) _)
      exact (f1.trans (Fr.setCell (O := fun b => some g = some b) (p := ⟨g, off + (r.length + 1) * 2, none⟩) (fun _ => rfl) _)).trans (Fr.setCell (O := fun b => some g = some b) (p := ⟨g, off + (r.length + 1) * 2 + 1, none⟩) (fun _ => rfl) _)
  · intro hc v' w' hown hg
    obtain ⟨hl, hv⟩ := hown
    rcases hv with ⟨_, h0⟩ | ⟨g', cap, cur, rfl, hg1, hg2, hg3, hg4, hg5, hg6⟩
    · omega
    · have f1 : Fr (fun b => some g = some b) w (w.alloc (.cells #[.int .i64 (q.1 : Nat), .int .i64 (q.2 : Nat)] 182)) := Fr.of_below' ((Below.refl _ _).alloc (Nat.le_refl _) _)
      have f2 : Fr (fun b => some g = some b) (w.alloc (.cells #[.int .i64 (q.1 : Nat), .int .i64 (q.2 : Nat)] 182)) w' := Fr.grown hg (fun k hk => by cases hk)
      have hg1' : w.heap.size + 1 ≤ g' := by simpa using hg1
      refine h _ _ ⟨some ⟨g', 0, none⟩, cap, by simp, by simp; omega, hg4, fun _ => ⟨g', 0, cur, rfl, by omega, hg2, by omega, fun j u hu => ?_⟩⟩ (f1.trans f2) (.inr ⟨g', rfl, by omega⟩)
      have hcl : cs.toList.length = cs.size := Array.length_toList
      have hlt : ((cs.toList.drop off).take ((r.length + 1) * 2)).length = (r.length + 1) * 2 := by rw [List.length_take, List.length_drop, hcl]; omega
      have hread : ∀ i, i < (r.length + 1 + 1) * 2 → cur[0 + i]? = (((cs.toList.drop off).take ((r.length + 1) * 2)) ++ [.int .i64 (q.1 : Nat), .int .i64 (q.2 : Nat)])[i]? := by
        intro i hi
        rw [← hg6, List.getElem?_take, if_pos hi]
        simp
      have hjl := lt_of_some hu
      simp only [List.length_append, List.length_cons, List.length_nil] at hjl
      rw [hread _ (by omega), hread _ (by omega)]
      rcases getElem?_snoc_cases hu with ⟨hj, hu2⟩ | ⟨hj, hu2⟩
      · simp only [List.length_cons] at hj
        obtain ⟨h8, h9⟩ := h7 j u hu2
        rw [List.getElem?_append_left (by omega), List.getElem?_append_left (by omega), List.getElem?_take, if_pos (by omega), List.getElem?_take, if_pos (by omega), List.getElem?_drop, List.getElem?_drop]
        exact ⟨by simpa using h8, by simpa using h9⟩
      · simp only [List.length_cons] at hj
        subst hj hu2
        rw [List.getElem?_append_right (by omega), List.getElem?_append_right (by omega), hlt]
        have e1 : 2 * (r.length + 1) - (r.length + 1) * 2 = 0 := by omega
        have e2 : 2 * (r.length + 1) + 1 - (r.length + 1) * 2 = 1 := by omega
        rw [e1, e2]
        exact ⟨rfl, rfl⟩
end
end Go.Proofs.YtefcdclmabdmbaaGreatDoor

namespace Go.Proofs.YtefcdclmabdmbaaGreatDoor
open Go.RowKit

/-- An array of bools. -/
def BArr (w : World) (g : Nat) (l : List Bool) : Prop := Arr w g 4 (l.map Value.bool)
section
variable {w w' : World} {g : Nat} {l : List Bool}
theorem BArr.cell (h : BArr w g l) {i : Nat} (hi : i < l.length) : w.cell? ⟨g, i, none⟩ = some (.bool (l.getD i false)) := by
  rw [Arr.cell h, List.getElem?_map]; simp [List.getD, List.getElem?_eq_getElem hi]
theorem BArr.frozen (h : BArr w g l) (i : Nat) : w.frozen? ⟨g, i, none⟩ = false := Arr.frozen h i
theorem BArr.set_ (h : BArr w g l) (i : Nat) (x : Bool) : BArr (w.setCell ⟨g, i, none⟩ (.bool x)) g (l.set i x) := by
  have := Arr.set_ h i (.bool x)
  unfold BArr
  rwa [List.map_set]
theorem BArr.made {n : Nat} (h : Arr w g 4 (madeCells (Value.bool false).cells (n * 1)).toList) : BArr w g (List.replicate n false) := by
  unfold BArr
  rw [List.map_replicate]
  have e := toList_madeCells_one (.bool false) n
  rw [Nat.mul_one] at h
  rwa [← e]
end

/-- The world in which a search begins its loop. -/
theorem srch_start {w w1 : World} {n a : Nat} (hba : BArr w1 w.heap.size (List.replicate n false)) (hb1 : Below w.heap.size w w1) (hs1 : w1.heap.size = w.heap.size + 1) :
    ∃ W S Q, W = (w1.setCell ⟨w.heap.size, a, none⟩ (.bool true)).alloc (.cells #[.int .i64 (a : Nat), .int .i64 (a : Nat)] 182) ∧ S = w.heap.size ∧ Q = w1.heap.size ∧
      BArr W S ((List.replicate n false).set a true) ∧ Que W (S + 1) (.slice (some ⟨Q, 0, none⟩) 1 1) [(a, a)] ∧ Below w.heap.size w W ∧ w.heap.size ≤ S ∧ S < W.heap.size := by
  have h2 := hba.set_ a true
  have hz : (w1.setCell ⟨w.heap.size, a, none⟩ (.bool true)).heap.size = w.heap.size + 1 := by simp [World.setCell, hs1]
  refine ⟨_, _, _, rfl, rfl, rfl, Arr.alloc h2 _, ?_, ?_, Nat.le_refl _, by simp [hz]; omega⟩
  · have := Que.one (w1.setCell ⟨w.heap.size, a, none⟩ (.bool true)) a
    rw [hz] at this
    rw [hs1]
    exact this
  · exact (hb1.setCell (p := ⟨w.heap.size, a, none⟩) (Nat.le_refl _) _).alloc (by rw [hz]; omega) _

/-- The neighbours as ints. -/
def toI (E : List (List Nat)) : List (List Int) := E.map (·.map fun x : Nat => (x : Int))

theorem toI_get {E : List (List Nat)} {v : Nat} (h : v < E.length) : (toI E)[v]? = some ((gr E v).map fun x : Nat => (x : Int)) := by
  unfold toI; rw [List.getElem?_map, gr_lt h]; rfl
theorem toI_length (E : List (List Nat)) : (toI E).length = E.length := by simp [toI]

theorem addOne_q {v x k : Nat} {s : Bs} (h : s.seen.getD x false = false) (hk : k ≤ s.q.length) : (addOne v s x).q.drop k = s.q.drop k ++ [(v, x)] ∧ (addOne v s x).seen = s.seen.set x true := by
  unfold addOne
  rw [if_neg (by rw [h]; simp)]
  exact ⟨List.drop_append_of_le_length hk, rfl⟩
theorem addOne_seen {v x : Nat} {s : Bs} (h : s.seen.getD x false = true) : addOne v s x = s := by unfold addOne; rw [if_pos h]
theorem addOne_take {v x k : Nat} {s : Bs} (hk : k ≤ s.q.length) : (addOne v s x).q.take k = s.q.take k ∧ k ≤ (addOne v s x).q.length := by
  unfold addOne
  split
  · exact ⟨rfl, hk⟩
  · exact ⟨List.take_append_of_le_length hk, by simp; omega⟩
theorem addAll_take {v k : Nat} (l : List Nat) {s : Bs} (hk : k ≤ s.q.length) : (addAll v s l).q.take k = s.q.take k ∧ k ≤ (addAll v s l).q.length := by
  induction l generalizing s with
  | nil => exact ⟨rfl, hk⟩
  | cons x r ih =>
    obtain ⟨h1, h2⟩ := addOne_take (v := v) (x := x) hk
    obtain ⟨h3, h4⟩ := ih h2
    exact ⟨h3.trans h1, h4⟩
theorem bs_take {E : List (List Nat)} {a k : Nat} {p : Nat × Nat} (h : (bs E a k).q[k]? = some p) : (bs E a (k + 1)).q.take (k + 1) = (bs E a k).q.take k ++ [p] ∧ k + 1 ≤ (bs E a (k + 1)).q.length := by
  rw [bs_succ h]
  obtain ⟨h1, h2⟩ := addAll_take (v := p.2) (gr E p.2) (s := bs E a k) (k := k + 1) (lt_of_some h)
  refine ⟨?_, h2⟩
  rw [h1, List.take_add_one, h]; rfl

theorem Que.cast {w : World} {base : Nat} {v : Value} {xs ys : List (Nat × Nat)} (h : Que w base v xs) (e : xs = ys) : Que w base v ys := e ▸ h
theorem BArr.cast {w : World} {g : Nat} {l m : List Bool} (h : BArr w g l) (e : l = m) : BArr w g m := e ▸ h

/-- What a search leaves: it went through all, or it was told to stop. -/
def SrchR (E : List (List Nat)) (a : Nat) (O : Nat → Prop) (V : List (Nat × Nat) → World → Prop) (Stop : World → Prop) (w : World) (e : Ending) (w' : World) : Prop :=
  e = .returned (.tuple #[]) ∧ Fr O w w' ∧ ((∃ k, (bs E a k).q.length = k ∧ (∀ i, i < k → ∃ p, (bs E a i).q[i]? = some p) ∧ V (bs E a k).q w') ∨ Stop w')

/-- What is asked of the function that is told the vertices. -/
def Visits (E : List (List Nat)) (a : Nat) (O : Nat → Prop) (V : List (Nat × Nat) → World → Prop) (Stop : World → Prop) (w : World) (f : FuncId) (lb : Array Value) : Prop :=
  ∀ k p W, (∀ i, i < k → ∃ p, (bs E a i).q[i]? = some p) → (bs E a k).q[k]? = some p → V ((bs E a k).q.take k) W → Fr O w W →
    Calls Tryz.prog f (#[.int .i64 (p.2 : Nat), .int .i64 (p.1 : Nat)] ++ lb) W fun e W' =>
      ((e = .returned (.bool true) ∧ V ((bs E a k).q.take k ++ [p]) W') ∨ (e = .returned (.bool false) ∧ Stop W')) ∧ Fr O W W'

theorem Fr.over {O : Nat → Prop} {w w' w'' : World} (h : Fr O w w') (hb : Below w.heap.size w' w'') : Fr O w w'' :=
  ⟨hb.os.trans h.os, hb.tape.trans h.tape, hb.output.trans h.output, Nat.le_trans h.size hb.size, fun b h1 h2 => (hb.block b h1).trans (h.block b h1 h2)⟩

/-- The first edge of the queue is the next one to be gone through. -/
theorem drop_head {q : List (Nat × Nat)} {k : Nat} {p : Nat × Nat} (h : q[k]? = some p) : ∃ r, q.drop k = p :: r ∧ k + r.length + 1 = q.length := by
  have hlt := lt_of_some h
  refine ⟨q.drop (k + 1), ?_, by simp; omega⟩
  rw [List.drop_eq_getElem_cons hlt]; congr 1; exact Option.some.inj ((List.getElem?_eq_getElem hlt).symm.trans h)

set_option maxHeartbeats 2000000 in
set_option maxRecDepth 100000 in
theorem search_any {E : List (List Nat)} (hE : Valid E) (hEn : E.length ≤ 2500) {a : Nat} (ha : a < E.length) {O : Nat → Prop} {V : List (Nat × Nat) → World → Prop} {Stop : World → Prop} {w0 w : World} {f : FuncId} {lb : Array Value}
    (hV : Visits E a O V Stop w f lb) (hOb : ∀ b, O b → w0.heap.size ≤ b ∧ b < w.heap.size) (hVs : ∀ done W W', V done W → Below w.heap.size W W' → V done W') (hSs : ∀ W W', Stop W → Below w.heap.size W W' → Stop W')
    {A : Option Addr} {c : Nat} (hG : Gl w0 A E.length c (toI E)) (hb0 : Below w0.heap.size w0 w) (h0 : V [] w)
    (eg : ∀ args w, (callFunc f args).run Tryz.prog w = .ok (.enter f args) w) :
    Calls Tryz.prog 89 #[.slice A E.length c, .int .i64 (a : Nat), .func (.func f) #[] lb] w (SrchR E a O V Stop w) := by
  have hr := hG.room
  unfold maxLen at hr
  have hal : (a : Int) < (E.length : Int) := by omega
  have EG := Lib.hid eg
  clear eg
  have hVV := Lib.hid hV
  clear hV
  obtain ⟨b0, o0, rfl, hcell⟩ := hG.cell (by omega)
  have HC := Lib.hid hcell
  clear hcell hG
  go_enter Tryz.func89, Tryz.ntmps89
  go_wp2_with (refine wpList_make_arr _ rfl _ _ 184 rfl 4 (.bool false) 1 1 Tryz.underlying184 (by kernel_rfl) _ _ _ _ E.length rfl rfl rfl rfl (by omega) (by omega) ?_; intro w1 har hb1 hs1; have hba := BArr.made har; have cA := hba.cell (i := a) (by simpa using ha); have fA := hba.frozen a; have HBA := Lib.hid hba; have HS1 := Lib.hid hs1; clear hba har hs1)
  obtain ⟨W, S, Q, hW, hS, hQ, hBA, hQ0, hbW, hwS, hSW⟩ := srch_start HBA.out hb1 HS1.out
  rw [← hW, ← hS, ← hQ]
  clear hW hS hQ HBA HS1 hb1 cA fA w1
  have hwO : ∀ b, S ≤ b → ¬ O b := fun b hb ho => by have := hOb b ho; omega
  have hFB : ∀ W, Fr O w W → Below w0.heap.size w0 W := fun W h => hb0.trans (h.below hb0.size fun b hb => (hOb b hb).1)
  have HFB := Lib.hid hFB
  have HWO := Lib.hid hwO
  have HVS := Lib.hid hVs
  have HSS := Lib.hid hSs
  have HE := Lib.hid hE
  have hV0 : V [] W := hVs _ _ _ h0 hbW
  have hw0 := hb0.size
  clear hwO hOb hVs hSs hE h0 hFB hb0
  go_loopg [7] E.length (fun g q wr => ∃ k, k + g = E.length ∧ (∀ i, i < k → ∃ p, (bs E a i).q[i]? = some p) ∧ k ≤ (bs E a k).q.length ∧ Que wr (S + 1) q ((bs E a k).q.drop k) ∧ BArr wr S (bs E a k).seen ∧ V ((bs E a k).q.take k) wr ∧ Fr O w wr ∧ S < wr.heap.size)
  case atStart => exact ⟨0, by omega, fun i hi => by omega, Nat.zero_le _, hQ0, hBA, hV0, Fr.of_below' hbW, hSW⟩
  case round =>
    obtain ⟨k, hkg, hpr, hkl, hq, hba, hv, hfr, hSr⟩ := hrel
    have HPR := Lib.hid hpr
    clear hpr
    obtain ⟨dep, hsr⟩ := bs_inv HE.out ha k HPR.out
    have hql := hsr.qlen
    rcases Nat.lt_or_ge k (bs E a k).q.length with hlt | hge
    · obtain ⟨p, hp⟩ : ∃ p, (bs E a k).q[k]? = some p := ⟨_, List.getElem?_eq_getElem hlt⟩
      obtain ⟨r, hr1, _⟩ := drop_head hp
      have hq' := hq.cast hr1
      obtain ⟨g, off, cq, rfl, hq1, hq2, hq3, hq4, hq5, hq6, hq7⟩ := hq'.head
      have hq2' := hq2
      unfold maxLen at hq2'
      have hz : (0 : Int) < ((r.length + 1 : Nat) : Int) := by omega
      have HP := Lib.hid hp
      have HR1 := Lib.hid hr1
      have HSR := Lib.hid hsr
      clear hp hr1 hsr
      go_wp2_with fail
      go_still_tail 9, (by kernel_rfl)
      have hfr2 : Fr O w wr.drew := hfr.drew
      have hv2 : V ((bs E a k).q.take k) wr.drew := HVS.out _ _ _ hv ((Below.refl _ _).drew)
      have hq8 : Que wr.drew (S + 1) _ (p :: r) := hq'
      have hba8 : BArr wr.drew S _ := hba
      have hSr8 : S < wr.drew.heap.size := hSr
      have hc5 : wr.drew.cell? ⟨g, off, none⟩ = _ := hq5
      have hc6 : wr.drew.cell? ⟨g, off + 1, none⟩ = _ := hq6
      have hg8 : g < wr.drew.heap.size := hq4
      change wpList _ _ _ _ _ wr.drew
      clear hfr hv hq hq' hba hSr hq4 hq5 hq6
      generalize wr.drew = w2 at *
      have eg := EG.out
      go_wp2_with fail
      refine (hVV.out k p _ HPR.out HP.out hv2 hfr2).mono ?_
      rintro e w3 ⟨⟨rfl, hv3⟩ | ⟨rfl, hst⟩, hfr3⟩
      · clear eg
        have hfw3 := hfr2.trans hfr3
        have hq9 := hq8.keep (w' := w3) (fun g' _ h1 h2 => hfr3.block g' h2 (HWO.out g' (by omega)))
        have hba9 : BArr w3 S (bs E a k).seen := hfr3.arr hba8 (HWO.out S (Nat.le_refl _))
        have hS9 : S < w3.heap.size := Nat.lt_of_lt_of_le hSr8 hfr3.size
        have hd5 := (hfr3.cell (o := off) hg8 (HWO.out g (by omega))).trans hc5
        have hd6 := (hfr3.cell (o := off + 1) hg8 (HWO.out g (by omega))).trans hc6
        have hvl : p.2 < E.length := HSR.out.small k p HP.out
        have hvl' : (p.2 : Int) < (E.length : Int) := by omega
        obtain ⟨A', c', hrow, hil⟩ := HC.out p.2 _ (toI_get hvl)
        rw [List.length_map] at hrow hil
        have hrm := hil.room
        unfold maxLen at hrm
        have hrow3 := ((bcell (HFB.out _ hfw3)).1 _ _ (cell_some_lt hrow)).trans hrow
        have HIL := Lib.hid hil
        clear hil hrow hfr2 hv2 hq8 hba8 hSr8 hc5 hc6 hg8 hfr3 w2
        go_wp2_with fail
        go_loopw [7, 44] (fun q i wr => ∃ t : Nat, t ≤ (gr E p.2).length ∧ i = .int .i64 (t : Nat) ∧ Que wr (S + 1) q ((addAll p.2 (bs E a k) ((gr E p.2).take t)).q.drop k) ∧ BArr wr S (addAll p.2 (bs E a k) ((gr E p.2).take t)).seen ∧ V ((bs E a k).q.take k ++ [p]) wr ∧ Fr O w wr ∧ S < wr.heap.size) (fun _ i _ => (gr E p.2).length - (intOf i).toNat)
        case atStart => exact ⟨0, Nat.zero_le _, rfl, hq9.cast HR1.out.symm, hba9, hv3, hfw3, hS9⟩
        case round =>
          obtain ⟨t, ht, rfl, hq, hba, hv, hfr, hSr⟩ := hrel
          obtain ⟨dep', hs', hp'⟩ := HSR.out.all HP.out ((gr E p.2).take t) (fun x hx => List.mem_of_mem_take hx) (fun x hx => HE.out _ hvl x (List.mem_of_mem_take hx))
          have hq10 := hs'.qlen
          obtain ⟨r2, hr2, hr3⟩ := drop_head hp'
          have hqq := hq.cast hr2
          obtain ⟨g2, off2, cq2, rfl, hm1, hm2, hm3, hm4, hm5, hm6, hm7⟩ := hqq.head
          have hm2' := hm2
          unfold maxLen at hm2'
          have hz2 : (0 : Int) < ((r2.length + 1 : Nat) : Int) := by omega
          have HR2 := Lib.hid hr2
          have HP2 := Lib.hid hp'
          have HS2 := Lib.hid hs'
          clear hr2 hp' hs' hq
          by_cases htl : t < (gr E p.2).length
          · obtain ⟨x, hx⟩ : ∃ x, (gr E p.2)[t]? = some x := ⟨_, List.getElem?_eq_getElem htl⟩
            have hxl : x < E.length := HE.out _ hvl x (List.mem_of_getElem? hx)
            obtain ⟨b3, o3, rfl, hcx⟩ := (HIL.out.below (HFB.out _ hfr)).cell (by omega)
            have hcx' := hcx t x (by rw [List.getElem?_map, hx]; rfl)
            have hcs := hba.cell (i := x) (by rw [HS2.out.len]; exact hxl)
            have hfz := hba.frozen x
            have hxl' : (x : Int) < (E.length : Int) := by omega
            have et : (gr E p.2).take (t + 1) = (gr E p.2).take t ++ [x] := by rw [List.take_add_one, hx]; rfl
            have HT := Lib.hid et
            clear hcx et
            cases hsn : (addAll p.2 (bs E a k) ((gr E p.2).take t)).seen.getD x false
            · rw [hsn] at hcs
              have HN := Lib.hid hsn
              clear hsn
              have hgS : g2 ≠ S := by omega
              have hn6 : (wr.setCell ⟨S, x, none⟩ (.bool true)).cell? ⟨g2, off2 + 1, none⟩ = some (.int .i64 (p.2 : Nat)) := by
                rw [← hm6]; exact World.cell?_of_block (Below.heap_setCell _ _ _ _ (fun e => hgS e))
              have hq5 : Que (wr.setCell ⟨S, x, none⟩ (.bool true)) (S + 1) (.slice (some ⟨g2, off2, none⟩) (r2.length + 1) cq2) (p :: r2) := hqq.keep fun g' _ h1 _ => Below.heap_setCell _ _ _ _ (fun e => by have e' : g' = S := e; omega)
              have hba5 := hba.set_ x true
              have hS5 : S < (wr.setCell ⟨S, x, none⟩ (.bool true)).heap.size := by simpa [World.setCell] using hSr
              have hv5 : V ((bs E a k).q.take k ++ [p]) (wr.setCell ⟨S, x, none⟩ (.bool true)) := HVS.out _ _ _ hv ((Below.refl _ _).setCell (p := ⟨S, x, none⟩) hwS _)
              have hfr5 : Fr O w (wr.setCell ⟨S, x, none⟩ (.bool true)) := hfr.over ((Below.refl _ _).setCell (p := ⟨S, x, none⟩) hwS _)
              have hsz : (wr.setCell ⟨S, x, none⟩ (.bool true)).heap.size = wr.heap.size := by simp [World.setCell]
              clear hm6 hqq hba hSr hv hfr
              go_wp2_with (at_builtin; (refine wpList_pushQ (wr.setCell ⟨S, x, none⟩ (.bool true)) (by rfl) _ _ (by rfl) (S + 1) (.slice (some ⟨g2, off2, none⟩) (r2.length + 1) cq2) p r2 (by rfl) hq5 _ _ (p.2, x) (by rfl) (by rfl) (by rw [hsz]; rfl) (by omega) ?_); intro v' w6 hq6 hfr6 hqb6)
              have hb6 : Below w.heap.size (wr.setCell ⟨S, x, none⟩ (.bool true)) w6 := hfr6.below hfr5.size (fun b hb => by rw [hm7] at hb; cases hb; omega)
              go_roundw
              case rel =>
                refine ⟨t + 1, by omega, by go_num, ?_, ?_, HVS.out _ _ _ hv5 hb6, hfr5.over hb6, Nat.lt_of_lt_of_le hS5 hfr6.size⟩
                · obtain ⟨e1, e2⟩ := addOne_q (v := p.2) (k := k) HN.out (by omega)
                  rw [HT.out, addAll_snoc, e1, HR2.out]; exact hq6
                · obtain ⟨e1, e2⟩ := addOne_q (v := p.2) (k := k) HN.out (by omega)
                  rw [HT.out, addAll_snoc, e2]
                  exact hfr6.arr hba5 (by rw [hm7]; intro e; cases e; omega)
              case measure => simp [intOf]; omega
            · rw [hsn] at hcs
              have HN := Lib.hid hsn
              clear hsn
              go_wp2_with fail
              go_roundw
              case rel =>
                refine ⟨t + 1, by omega, by go_num, ?_, ?_, hv, hfr, hSr⟩
                · rw [HT.out, addAll_snoc, addOne_seen HN.out]; exact hqq.cast HR2.out.symm
                · rw [HT.out, addAll_snoc, addOne_seen HN.out]; exact hba
              case measure => simp [intOf]; omega
          · obtain rfl : t = (gr E p.2).length := by omega
            rw [List.take_length] at *
            obtain ⟨n1, n2⟩ := bs_take HP.out
            have n3 := bs_succ HP.out
            have N1 := Lib.hid n1
            have N3 := Lib.hid n3
            clear n1 n3
            by_cases hc1 : cq2 = 1
            · subst hc1
              go_wp2_with fail
              go_roundg (gk - 1)
              case rel =>
                refine ⟨k + 1, by omega, fun i hi => ?_, n2, ?_, ?_, ?_, hfr, hSr⟩
                · rcases Nat.lt_or_ge i k with h1 | h1
                  · exact HPR.out i h1
                  · obtain rfl : i = k := by omega
                    exact ⟨p, HP.out⟩
                · rw [N3.out]
                  have e : (addAll p.2 (bs E a k) (gr E p.2)).q.drop (k + 1) = r2 := by rw [← List.drop_drop, HR2.out]; rfl
                  rw [e]
                  have e0 : r2.length = 0 := by omega
                  have hpp := hqq.pop (some ⟨g2, off2, none⟩) (fun h => absurd rfl h)
                  rw [e0] at hpp; exact hpp
                · rw [N3.out]; exact hba
                · rw [N1.out]; exact hv
              case measure => omega
            · go_wp2_with fail
              go_roundg (gk - 1)
              case rel =>
                refine ⟨k + 1, by omega, fun i hi => ?_, n2, ?_, ?_, ?_, hfr, hSr⟩
                · rcases Nat.lt_or_ge i k with h1 | h1
                  · exact HPR.out i h1
                  · obtain rfl : i = k := by omega
                    exact ⟨p, HP.out⟩
                · rw [N3.out]
                  have e : (addAll p.2 (bs E a k) (gr E p.2)).q.drop (k + 1) = r2 := by rw [← List.drop_drop, HR2.out]; rfl
                  rw [e]
                  exact hqq.pop _ (fun h => rfl)
                · rw [N3.out]; exact hba
                · rw [N1.out]; exact hv
              case measure => omega
      · clear eg
        have hfw3 := hfr2.trans hfr3
        go_wp2_with fail
        go_end0
        exact ⟨rfl, hfw3, .inr hst⟩
    · have hk : (bs E a k).q.length = k := by omega
      have hq' := hq.cast (List.drop_eq_nil_of_le (by omega))
      obtain ⟨A2, c2, rfl, _, hm2, _⟩ := hq'
      unfold maxLen at hm2
      have ht : (bs E a k).q.take k = (bs E a k).q := List.take_of_length_le (by omega)
      rw [ht] at hv
      have HK := Lib.hid hk
      clear hk ht hq
      go_wp2_with fail
      go_end0
      exact ⟨rfl, hfr, .inl ⟨k, HK.out, HPR.out, hv⟩⟩
end Go.Proofs.YtefcdclmabdmbaaGreatDoor

namespace Go.Proofs.YtefcdclmabdmbaaGreatDoor
open Go.RowKit

/-- An array of ints. -/
def NArr (w : World) (g : Nat) (l : List Int) : Prop := Arr w g 3 (l.map (Value.int .i64))
section
variable {w w' : World} {g : Nat} {l : List Int}
theorem NArr.cell (h : NArr w g l) {i : Nat} (hi : i < l.length) : w.cell? ⟨g, i, none⟩ = some (.int .i64 (l.getD i 0)) := by
  rw [Arr.cell h, List.getElem?_map]; simp [List.getD, List.getElem?_eq_getElem hi]
theorem NArr.frozen (h : NArr w g l) (i : Nat) : w.frozen? ⟨g, i, none⟩ = false := Arr.frozen h i
theorem NArr.set_ (h : NArr w g l) (i : Nat) (x : Int) : NArr (w.setCell ⟨g, i, none⟩ (.int .i64 x)) g (l.set i x) := by
  have := Arr.set_ h i (.int .i64 x)
  unfold NArr
  rwa [List.map_set]
theorem NArr.made {n : Nat} (h : Arr w g 3 (madeCells (Value.int .i64 0).cells (n * 1)).toList) : NArr w g (List.replicate n 0) := by
  unfold NArr
  rw [List.map_replicate]
  have e := toList_madeCells_one (.int .i64 0) n
  rw [Nat.mul_one] at h
  rwa [← e]
theorem NArr.below (h : NArr w g l) (hb : Below w.heap.size w w') : NArr w' g l := Arr.below' h hb
theorem NArr.cast {m : List Int} (h : NArr w g l) (e : l = m) : NArr w g m := e ▸ h
theorem NArr.il (h : NArr w g l) (hs : ∀ x ∈ l, -9223372036854775808 ≤ x ∧ x ≤ 9223372036854775807) (hm : l.length ≤ maxLen) : Il w (some ⟨g, 0, none⟩) l.length l.length l :=
  ⟨⟨by simp, Nat.le_refl _, hm, fun _ => ⟨g, 0, rfl, fun j u hu => by rw [Nat.zero_add, Arr.cell h]; exact hu⟩⟩, hs⟩
end

theorem splice_rep {x : Int} {n k m : Nat} (hm : k + m ≤ n) : splice (List.replicate k (Value.int .i64 x) ++ List.replicate (n - k) (Value.int .i64 0)) k (List.replicate m (Value.int .i64 x)) = List.replicate (k + m) (Value.int .i64 x) ++ List.replicate (n - (k + m)) (Value.int .i64 0) := by
  unfold splice
  rw [List.take_append_of_le_length (by simp), List.take_of_length_le (by simp), List.drop_append, List.drop_eq_nil_of_le (by simp), List.length_replicate, List.length_replicate, List.drop_replicate, List.nil_append, ← List.append_assoc, List.replicate_append_replicate]
  congr 2
  omega

/-- The first k of n cells hold x, the others 0. -/
def half (n k : Nat) (x : Int) : List Value := List.replicate k (Value.int .i64 x) ++ List.replicate (n - k) (Value.int .i64 0)
theorem half_length {n k : Nat} {x : Int} (h : k ≤ n) : (half n k x).length = n := by simp [half]; omega
theorem half_get {n k j : Nat} {x : Int} (h : j < k) : (half n k x)[j]? = some (.int .i64 x) := by
  unfold half; rw [List.getElem?_append_left (by simpa using h)]; simp [h]
theorem half_splice {x : Int} {n k m : Nat} (hm : k + m ≤ n) : splice (half n k x) k (List.replicate m (Value.int .i64 x)) = half n (k + m) x := splice_rep hm
theorem half_full (n : Nat) (x : Int) : half n n x = (List.replicate n x).map (Value.int .i64) := by simp [half]
theorem half_zero (n : Nat) (x : Int) : half n 0 x = (List.replicate n (0 : Int)).map (Value.int .i64) := by simp [half]

theorem size_int : (Tryz.prog.info? 3).map (·.size) = some 1 := by kernel_rfl

theorem Mul_one {w : World} (n : Nat) (hn : n ≤ 1000000) : Calls Tryz.prog 202 #[.int .u64 1, .int .u64 (n : Nat)] w fun e w' => e = .returned (.tuple #[.int .u64 0, .int .u64 (n : Nat)]) ∧ w = w' := by
  refine (Tryz.bits_Mul 1 n (by omega) (by omega) w).mono ?_
  rintro e w' ⟨rfl, rfl⟩
  have e1 : 1 * n / 18446744073709551616 = 0 := by omega
  have e2 : 1 * n % 18446744073709551616 = n := by omega
  rw [e1, e2]
  exact ⟨rfl, rfl⟩

theorem rep_mem {cs : List Value} {m j : Nat} {x : Int} {v : Value} (hcs : cs = List.replicate m (Value.int .i64 x)) (hv : cs[j]? = some v) : j < m ∧ v = .int .i64 x := by
  subst hcs
  rw [List.getElem?_replicate] at hv
  split at hv
  · rename_i h; injection hv with hv; exact ⟨h, hv.symm⟩
  · cases hv
theorem rep_one {cs : List Value} {m : Nat} {x : Int} (hcs : cs = List.replicate m (Value.int .i64 x)) : ∀ v ∈ cs, v.oneCell' = true := fun v hv => by rw [hcs] at hv; rw [List.eq_of_mem_replicate hv]; rfl
theorem rep_src {w w1 : World} {b off G m : Nat} {x : Int} {cs : List Value} (hx : w.cell? ⟨b, off, none⟩ = some (.int .i64 x)) (hb1 : Below G w w1) (hxl : b < G) (hcs : cs = List.replicate m (Value.int .i64 x)) (hm : m ≤ 1) :
    ∀ j v, cs[j]? = some v → w1.cell? ((⟨b, off, none⟩ : Addr).add j) = some v := by
  intro j v hv
  obtain ⟨h1, rfl⟩ := rep_mem hcs hv
  have : j = 0 := by omega
  subst this
  rw [← hx, ← hb1.cell (p := ⟨b, off, none⟩) hxl]
  rfl
theorem half_src {w1 : World} {G n k m : Nat} {t : TypeId} {x : Int} {cs : List Value} (h : Arr w1 G t (half n k x)) (hm : m ≤ k) (hcs : cs = List.replicate m (Value.int .i64 x)) :
    ∀ j v, cs[j]? = some v → w1.cell? ((⟨G, 0, none⟩ : Addr).add j) = some v := by
  intro j v hv
  obtain ⟨h1, rfl⟩ := rep_mem hcs hv
  have e : (⟨G, 0, none⟩ : Addr).add j = ⟨G, j, none⟩ := by
    unfold Addr.add; split
    · rename_i h; subst h; rfl
    · simp
  rw [e, Arr.cell h, half_get (by omega)]

set_option maxHeartbeats 1000000 in
set_option maxRecDepth 100000 in
/-- slices.Repeat of a list of one number. -/
theorem Repeat_any {w : World} {b off c : Nat} {x : Int} (hx : w.cell? ⟨b, off, none⟩ = some (.int .i64 x)) (n : Nat) (hn : n ≤ 1000000) :
    Calls Tryz.prog 147 #[.slice (some ⟨b, off, none⟩) 1 c, .int .i64 (n : Nat)] w fun e w' => e = .returned (.slice (some ⟨w.heap.size, 0, none⟩) n n) ∧ NArr w' w.heap.size (List.replicate n x) ∧ Below w.heap.size w w' ∧ w.heap.size < w'.heap.size := by
  have hxl := cell_some_lt hx
  have HX := Lib.hid hx
  clear hx
  obtain ⟨G, hG⟩ : ∃ G, G = w.heap.size := ⟨_, rfl⟩
  rw [← hG]
  have HG := Lib.hid hG
  clear hG
  go_enter Tryz.func147, Tryz.ntmps147
  go_wp2_with fail
  refine (Mul_one n hn).mono ?_
  rintro e w' ⟨rfl, rfl⟩
  obtain ⟨m0, hm0⟩ : ∃ m0, m0 = min 1 n := ⟨_, rfl⟩
  obtain ⟨cs, hcs⟩ : ∃ cs, cs = List.replicate m0 (Value.int .i64 x) := ⟨_, rfl⟩
  have hcl : cs.length = m0 := by rw [hcs]; simp
  have HCS := Lib.hid hcs
  have HCL := Lib.hid hcl
  have HM0 := Lib.hid hm0
  clear hcs hcl hm0
  go_wp2_with (first
    | (refine wpList_make_arr _ rfl _ _ 55 rfl 3 (.int .i64 0) 1 8 Tryz.underlying55 (by kernel_rfl) _ _ _ _ n rfl rfl rfl rfl (by omega) (by omega) ?_; intro w1 har hb1 hs1; have hna := NArr.made har; rw [← HG.out] at hna hb1 hs1 ⊢; have HNA := Lib.hid hna; have HS1 := Lib.hid hs1; clear har hna hs1)
    | (refine wpList_copy_splice rfl (.tmp 31) (.tmp 32) 55 55 rfl 3 Tryz.underlying55 size_int _ _ n n 1 c rfl rfl G 0 (half n 0 x) 3 (by rw [half_zero]; exact HNA.out) cs (HCL.out.trans HM0.out) (fun h0 => ⟨rfl, _, rfl, rep_src HX.out hb1 (by rw [HG.out]; exact hxl) HCS.out (by rw [HM0.out]; omega)⟩) (by rw [HCL.out, HM0.out, half_length (Nat.zero_le _)]; omega) (rep_one HCS.out) G w hb1 (Nat.le_refl _) ?_; intro w2 HG2 hb2))
  have har2 : Arr w2 G 3 (half n m0 x) := by
    have h := HG2.out
    rw [HCS.out, half_splice (by have := HM0.out; omega), Nat.zero_add] at h
    exact h
  have HA2 := Lib.hid har2
  clear har2 HG2
  rw [HCL.out]
  have hm1 : n = 0 ∨ 1 ≤ m0 := by have := HM0.out; omega
  have hm2 : m0 ≤ n := by have := HM0.out; omega
  clear HCL HM0 HCS cs HNA HS1 hb1 w1
  go_loopw [8] (fun i wr => ∃ k : Nat, k ≤ n ∧ (n = 0 ∨ 1 ≤ k) ∧ i = .int .i64 (k : Nat) ∧ Hid (Arr wr G 3 (half n k x)) ∧ Below G w wr) (fun i _ => n - (intOf i).toNat)
  case atStart => exact ⟨m0, hm2, hm1, rfl, HA2, hb2⟩
  case round =>
    clear HA2 hb2 hm1 hm2
    obtain ⟨k, hk, hk1, rfl, HA, hbr⟩ := hrel
    by_cases hlt : k < n
    · have hk2 : 1 ≤ k := by omega
      obtain ⟨m, hm⟩ : ∃ m, m = Nat.min k (n - k) := ⟨_, rfl⟩
      obtain ⟨cs, hcs⟩ : ∃ cs, cs = List.replicate m (Value.int .i64 x) := ⟨_, rfl⟩
      have hcl : cs.length = m := by rw [hcs]; simp
      have hmk : m ≤ k ∧ k + m ≤ n ∧ 1 ≤ m := by rw [hm]; have : Nat.min k (n - k) = min k (n - k) := rfl; omega
      have HCS := Lib.hid hcs
      have HCL := Lib.hid hcl
      have HM := Lib.hid hm
      clear hcs hcl hm hk1
      have hnk : ¬ n = k := by omega
      obtain ⟨hmk1, hmk2, hmk3⟩ := hmk
      have ha3 : Hid (Arr wr.drew G 3 (half n k x)) := HA
      have hb3 : Below G w wr.drew := hbr.drew
      have hw : IntKind.i64.wrap ((k : Int) + (m : Int)) = (k : Int) + (m : Int) := IntWalk.i64_in _ (by omega)
      go_wp2_with fail
      go_region_law ((refine step_copy_splice (by rfl) (.tmp 41) (.tmp 44) 55 55 (by rfl) 3 Tryz.underlying55 size_int (some ⟨G, k, none⟩) (some ⟨G, 0, none⟩) (n - k) (n - k) k n (by go_simp) (by go_simp) G k (half n k x) 3 ha3.out cs (HCL.out.trans HM.out) (fun h0 => ⟨rfl, _, rfl, half_src ha3.out hmk1 HCS.out⟩) (by rw [HCL.out, half_length hk]; exact hmk2) (rep_one HCS.out) G w hb3 (Nat.le_refl _) ?_; intro w4 HG4 hb4; rw [HCL.out]))
      go_frame
      clear hw
      have ha4 : Hid (Arr w4 G 3 (half n (k + m) x)) := by
        have h := HG4.out
        rw [HCS.out, half_splice hmk2] at h
        exact Lib.hid (show Arr w4 G 3 (half n (k + m) x) from h)
      clear HG4
      go_roundw
      case rel => exact ⟨_, _, _, _, _, _, _, _, _, _, _, _, _, _, ⟨k + m, hmk2, .inr (by omega), by go_num, ha4, hb4⟩, rfl⟩
      case measure => simp [intOf]; omega
    · obtain rfl : k = n := by omega
      go_wp2_with fail
      go_ret
      refine ⟨rfl, ?_, hbr, ?_⟩
      · unfold NArr; rw [← half_full]; exact HA.out
      · exact HA.out.lt
end Go.Proofs.YtefcdclmabdmbaaGreatDoor

namespace Go.Proofs.YtefcdclmabdmbaaGreatDoor
open Go.RowKit

theorem beq_cast {a b : Nat} : ((a : Int) == (b : Int)) = decide (a = b) := by
  by_cases h : a = b
  · subst h; simp
  · rw [decide_eq_false h]
    exact beq_eq_false_iff_ne.2 (by omega)

set_option maxHeartbeats 1000000 in
set_option maxRecDepth 100000 in
/-- The function that distances hands to search: one visit. -/
theorem dist1_any {W : World} {F U G n a : Nat} {l : List Int} (hF : W.cell? ⟨F, 0, none⟩ = some (.int .i64 (a : Nat))) (hU : W.cell? ⟨U, 0, none⟩ = some (.slice (some ⟨G, 0, none⟩) n n)) (hG : NArr W G l) (hl : l.length = n)
    (hs : ∀ v, -1 ≤ l.getD v 0 ∧ l.getD v 0 ≤ 100000) (x y : Nat) (hx : x < n) (hy : y < n) :
    Calls Tryz.prog 148 #[.int .i64 (x : Nat), .int .i64 (y : Nat), .pointer (some ⟨F, 0, none⟩), .pointer (some ⟨U, 0, none⟩)] W fun e W' => e = .returned (.bool true) ∧ NArr W' G (vis a l (y, x)) ∧ Fr (· = G) W W' := by
  have cx := hG.cell (i := x) (by omega)
  have cy := hG.cell (i := y) (by omega)
  have fx := hG.frozen x
  have HL := Lib.hid hl
  have hxi : (x : Int) < (n : Int) := by omega
  have hyi : (y : Int) < (n : Int) := by omega
  have hsy := hs y
  have HV : Hid (∀ u, u = vis a l (y, x) → (x = a → u = l.set x 0) ∧ (¬ x = a → u = l.set x (l.getD y 0 + 1))) := Lib.hid (fun u hu => by subst hu; unfold vis; exact ⟨fun h => if_pos h, fun h => if_neg h⟩)
  clear hl hs
  generalize hv : vis a l (y, x) = u at *
  have HVV := HV.out u rfl
  obtain ⟨z, hz⟩ : ∃ z, l.getD y 0 = z := ⟨_, rfl⟩
  rw [hz] at cy hsy HVV
  by_cases hxa : x = a
  · have hb : ((x : Int) == (a : Int)) = true := by rw [beq_cast]; simp [hxa]
    have HU2 := Lib.hid (HVV.1 hxa)
    clear HVV HV hv hz hxa
    go_enter Tryz.func148, Tryz.ntmps148
    go_wp2
    go_ret
    refine ⟨rfl, ?_, Fr.setCell (O := (· = G)) (p := ⟨G, x, none⟩) (fun _ => rfl) _⟩
    rw [HU2.out]
    exact hG.set_ x 0
  · have hb : ((x : Int) == (a : Int)) = false := by rw [beq_cast]; simp [hxa]
    have HU2 := Lib.hid (HVV.2 hxa)
    clear HVV HV hv hz hxa
    have hw : IntKind.i64.wrap (z + 1) = z + 1 := IntWalk.i64_in _ (by omega)
    go_enter Tryz.func148, Tryz.ntmps148
    go_wp2
    go_still_tail 8, (by kernel_rfl)
    have hG2 : NArr W.drew G l := hG
    have cx2 : W.drew.cell? ⟨G, x, none⟩ = _ := cx
    have fx2 : W.drew.frozen? ⟨G, x, none⟩ = false := fx
    have fr2 : Fr (· = G) W W.drew := (Fr.refl _ _).drew
    change wpList _ _ _ _ _ W.drew
    clear hG cx fx hF hU cy
    generalize W.drew = w3 at *
    go_wp2
    go_ret
    refine ⟨rfl, ?_, fr2.trans (Fr.setCell (O := (· = G)) (p := ⟨G, x, none⟩) (fun _ => rfl) _)⟩
    rw [HU2.out]
    exact hG2.set_ x _

/-- What distances leaves: an array of its own with the distances. -/
def DistsAt (w : World) (E : List (List Nat)) (a : Nat) (w' : World) (v : Value) : Prop := ∃ G, w.heap.size ≤ G ∧ v = .slice (some ⟨G, 0, none⟩) E.length E.length ∧ NArr w' G (dd E a)

theorem dl_take_small {E : List (List Nat)} (hE : Valid E) (hEn : E.length ≤ 2500) {a k : Nat} (ha : a < E.length) (hpr : ∀ i, i < k → ∃ p, (bs E a i).q[i]? = some p) : ∀ v, -1 ≤ (dl E.length a ((bs E a k).q.take k)).getD v 0 ∧ (dl E.length a ((bs E a k).q.take k)).getD v 0 ≤ 100000 := by
  intro v
  obtain ⟨dep, h⟩ := bs_inv hE ha k hpr
  have h1 := h.qlen
  have h2 := dl_small E.length a ((bs E a k).q.take k) v
  have h3 : ((bs E a k).q.take k).length ≤ (bs E a k).q.length := by rw [List.length_take]; omega
  omega
theorem par_lt {E : List (List Nat)} {a k : Nat} {pre : List Nat} {s : Bs} {dep : List Nat} (h : Srch E a k pre s dep) {j : Nat} {p : Nat × Nat} (hp : s.q[j]? = some p) : p.1 < E.length ∧ p.2 < E.length := by
  refine ⟨?_, h.small j p hp⟩
  by_cases h0 : j = 0
  · subst h0
    have := h.first
    rw [hp] at this
    cases this
    exact h.small 0 _ hp
  · obtain ⟨d, hd⟩ : ∃ d, dep[j]? = some d := ⟨_, List.getElem?_eq_getElem (by rw [h.dlen]; exact lt_of_some hp)⟩
    obtain ⟨i, di, _, _, h3, _⟩ := h.par j p d (by omega) hp hd
    obtain ⟨b, hb⟩ := snd_some h3
    exact h.small i _ hb

/-- The visits of distances. -/
theorem dist_visits {E : List (List Nat)} (hE : Valid E) (hEn : E.length ≤ 2500) {a : Nat} (ha : a < E.length) {w : World} {F U G : Nat} (hF : w.cell? ⟨F, 0, none⟩ = some (.int .i64 (a : Nat))) (hU : w.cell? ⟨U, 0, none⟩ = some (.slice (some ⟨G, 0, none⟩) E.length E.length)) (hFG : F ≠ G) (hUG : U ≠ G) :
    Visits E a (· = G) (fun done W => NArr W G (dl E.length a done)) (fun _ => False) w 148 #[.pointer (some ⟨F, 0, none⟩), .pointer (some ⟨U, 0, none⟩)] := by
  intro k p W hpr hp hv hfr
  obtain ⟨dep, h⟩ := bs_inv hE ha k hpr
  obtain ⟨h1, h2⟩ := par_lt h hp
  refine (dist1_any ((hfr.cell (cell_some_lt hF) hFG).trans hF) ((hfr.cell (cell_some_lt hU) hUG).trans hU) hv (dl_length _ _ _) (dl_take_small hE hEn ha hpr) p.2 p.1 h2 h1).mono ?_
  rintro e W' ⟨rfl, h3, h4⟩
  exact ⟨.inl ⟨rfl, by show NArr W' G (dl E.length a (_ ++ [p])); rw [dl_snoc]; exact h3⟩, h4⟩

/-- The boxes of distances. -/
theorem dbox (w : World) (a : Value) : ∃ W F S, W = (w.alloc (.cells #[a] 3)).alloc (.cells #[.int .i64 (-1)] 3) ∧ F = w.heap.size ∧ S = w.heap.size + 1 ∧ Below w.heap.size w W ∧ W.cell? ⟨F, 0, none⟩ = some a ∧ W.cell? ⟨S, 0, none⟩ = some (.int .i64 (-1)) ∧ F < W.heap.size ∧ w.heap.size ≤ F :=
  ⟨_, _, _, rfl, rfl, rfl, ((Below.refl _ _).alloc (Nat.le_refl _) _).alloc (by simp) _, by go_simp, by go_simp, by simp; omega, Nat.le_refl _⟩

set_option maxHeartbeats 1000000 in
set_option maxRecDepth 100000 in
theorem distances_any {E : List (List Nat)} (hE : Valid E) (hEn : E.length ≤ 2500) {a : Nat} (ha : a < E.length) {A : Option Addr} {c : Nat} {w : World} (hG : Gl w A E.length c (toI E)) :
    Calls Tryz.prog 93 #[.slice A E.length c, .int .i64 (a : Nat)] w (Gives w (DistsAt w E a)) := by
  have eg := enters_of Tryz.func148 (by kernel_rfl) rfl
  have EG := Lib.hid eg
  clear eg
  have hr := hG.room
  unfold maxLen at hr
  go_enter Tryz.func93, Tryz.ntmps93
  go_wp2_with fail
  obtain ⟨W, F, S, hW, hF, hS, hbW, cF, cS, hFl, hwF⟩ := dbox w (.int .i64 (a : Nat))
  rw [← hW, ← hS, ← hF]
  refine (Repeat_any cS E.length (by omega)).mono ?_
  rintro e w2 ⟨rfl, hna, hb2, hs2⟩
  clear hW hF hS cS
  obtain ⟨G, hG1⟩ : ∃ G, G = W.heap.size := ⟨_, rfl⟩
  rw [← hG1] at hna hs2 ⊢
  have hGW : W.heap.size ≤ G := by omega
  have hFG : F < G := by omega
  have cF2 := (hb2.cell (p := ⟨F, 0, none⟩) hFl).trans cF
  have hb3 := hbW.trans (hb2.mono hbW.size)
  clear hG1
  have hF2 : F < w2.heap.size := by omega
  go_wp2_with fail
  have hU : (w2.alloc (.cells #[.slice (some ⟨G, 0, none⟩) E.length E.length] 55)).cell? ⟨w2.heap.size, 0, none⟩ = some (.slice (some ⟨G, 0, none⟩) E.length E.length) := by go_simp
  have hF3 : (w2.alloc (.cells #[.slice (some ⟨G, 0, none⟩) E.length E.length] 55)).cell? ⟨F, 0, none⟩ = some (.int .i64 (a : Nat)) := by go_simp
  have hn3 : NArr (w2.alloc (.cells #[.slice (some ⟨G, 0, none⟩) E.length E.length] 55)) G (List.replicate E.length (-1)) := Arr.alloc hna _
  have hb4 : Below w.heap.size w (w2.alloc (.cells #[.slice (some ⟨G, 0, none⟩) E.length E.length] 55)) := hb3.alloc hb3.size _
  have hs4 : w2.heap.size < (w2.alloc (.cells #[.slice (some ⟨G, 0, none⟩) E.length E.length] 55)).heap.size := by simp
  clear hna hb3 cF2 cF
  obtain ⟨U, hUe⟩ : ∃ U, U = w2.heap.size := ⟨_, rfl⟩
  rw [← hUe] at hU hs4 hs2 ⊢
  clear hUe
  generalize w2.alloc (.cells #[.slice (some ⟨G, 0, none⟩) E.length E.length] 55) = w3 at *
  refine (search_any hE hEn ha (O := (· = G)) (V := fun done W => NArr W G (dl E.length a done)) (Stop := fun _ => False) (w0 := w) (dist_visits hE hEn ha hF3 hU (by omega) (by omega)) (fun b hb => by subst hb; have := hbW.size; omega) (fun done W W' h hb => Arr.below h hb (by omega)) (fun _ _ h _ => h) hG hb4 hn3 EG.out).mono ?_
  rintro e w5 ⟨rfl, hfr, ⟨k, hk, hpr, hv⟩ | hst⟩
  · have hds := dl_dists hE ha hk hpr
    have hv2 : NArr w5 G (dd E a) := by rw [← hds.eq]; exact hv
    have hU5 := (hfr.cell (cell_some_lt hU) (show ¬ U = G by omega)).trans hU
    have hb5 : Below w.heap.size w w5 := hb4.trans (hfr.below hb4.size (fun b hb => by subst hb; have := hbW.size; omega))
    clear hk hpr hv hds
    go_wp2_with fail
    go_ret
    exact ⟨_, rfl, ⟨G, by have := hbW.size; omega, rfl, hv2⟩, hb5⟩
  · exact hst.elim
end Go.Proofs.YtefcdclmabdmbaaGreatDoor

namespace Go.Proofs.YtefcdclmabdmbaaGreatDoor
open Go.RowKit

/-- A graph without an error. -/
structure Ok (names : List ByteArray) (E : List (List Nat)) : Prop where
  valid : Valid E
  len : names.length = E.length
  small : E.length ≤ 2500
  deg : ∀ v, (gr E v).length ≤ 400
  asc : ∀ v, (gr E v).Pairwise (· ≤ ·)
  name : ∀ s ∈ names, okName s
  nodup : names.Nodup

theorem pairwise_of_next {l : List Nat} (h : ∀ k, k + 1 < l.length → l.getD k 0 ≤ l.getD (k + 1) 0) : l.Pairwise (· ≤ ·) := by
  refine List.pairwise_iff_getElem.2 fun i j hi hj hij => ?_
  have : ∀ d, i + d < l.length → l.getD i 0 ≤ l.getD (i + d) 0 := by
    intro d
    induction d with
    | zero => intro _; exact Nat.le_refl _
    | succ d ih => intro hd; exact Nat.le_trans (ih (by omega)) (h (i + d) hd)
  have h1 := this (j - i) (by omega)
  rw [show i + (j - i) = j by omega] at h1
  have e1 : l.getD i 0 = l[i] := by simp [List.getD, List.getElem?_eq_getElem hi]
  have e2 : l.getD j 0 = l[j] := by simp [List.getD, List.getElem?_eq_getElem hj]
  omega

theorem rowC_zero {n : Nat} {l : List Int} (h : rowC n l = 0) : l.length ≤ 400 ∧ (∀ k, k < l.length → 0 ≤ l.getD k 0 ∧ l.getD k 0 < n) ∧ ∀ k, k + 1 < l.length → l.getD k 0 ≤ l.getD (k + 1) 0 := by
  unfold rowC at h
  split at h
  · cases h
  · rename_i hl
    have hz := fnz_zero h
    refine ⟨by omega, fun k hk => ?_, fun k hk => ?_⟩
    · have := hz k hk
      unfold rowAt at this
      split at this
      · cases this
      · rename_i h1; exact Classical.not_not.1 h1
    · have := hz (k + 1) hk
      unfold rowAt at this
      split at this
      · cases this
      · split at this
        · cases this
        · rename_i _ h2
          rw [Nat.add_sub_cancel] at h2
          omega

theorem ok_of_chk {names : List ByteArray} {E' : List (List Int)} (h : chk names E' = 0) : ∃ E, E' = toI E ∧ Ok names E := by
  unfold chk at h
  split at h
  · cases h
  · rename_i hlen
    split at h
    · cases h
    · rename_i hlg
      have hz := fnz_zero h
      have hlen' : names.length = E'.length := by omega
      have hrow : ∀ i, i < names.length → nameB (names.getD i ByteArray.empty) = true ∧ ¬ names.getD i ByteArray.empty ∈ names.take i ∧ rowC names.length (E'.getD i []) = 0 := by
        intro i hi
        have := hz i hi
        unfold atC at this
        split at this
        · cases this
        · rename_i h1
          split at this
          · cases this
          · rename_i h2
            exact ⟨by simpa using h1, h2, this⟩
      have hrc : ∀ i, i < names.length → ∀ x ∈ E'.getD i [], 0 ≤ x ∧ x < (names.length : Int) := by
        intro i hi x hx
        obtain ⟨_, h2, _⟩ := rowC_zero (hrow i hi).2.2
        obtain ⟨k, hk, hk2⟩ := mem_getElem hx
        have := h2 k hk
        rwa [getD_some hk2] at this
      have hE : ∀ i l, E'[i]? = some l → E'.getD i [] = l := fun i l hl => getD_some hl
      have hgr : ∀ v, gr (E'.map (·.map Int.toNat)) v = (E'.getD v []).map Int.toNat := by
        intro v
        unfold gr
        simp only [List.getD, List.getElem?_map]
        cases E'[v]? <;> simp
      refine ⟨E'.map (·.map Int.toNat), ?_, ?_⟩
      · unfold toI
        rw [List.map_map]
        refine (List.map_id' _).symm.trans (List.map_congr_left fun l hl => ?_)
        obtain ⟨i, hi, hi2⟩ := mem_getElem hl
        show l = List.map _ (List.map _ l)
        rw [List.map_map]
        refine (List.map_id' _).symm.trans (List.map_congr_left fun x hx => ?_)
        have := hrc i (by omega) x (by rw [hE i l hi2]; exact hx)
        show x = ((x.toNat : Nat) : Int)
        omega
      · refine ⟨?_, by simp [hlen'], by simp; omega, ?_, ?_, ?_, ?_⟩
        · intro v hv x hx
          rw [hgr] at hx
          simp only [List.length_map] at hv ⊢
          obtain ⟨y, hy, rfl⟩ := List.mem_map.1 hx
          have := hrc v (by omega) y hy
          omega
        · intro v
          rw [hgr, List.length_map]
          rcases Nat.lt_or_ge v names.length with hv | hv
          · exact (rowC_zero (hrow v hv).2.2).1
          · rw [List.getD_eq_getElem?_getD, List.getElem?_eq_none (by omega)]; simp
        · intro v
          rw [hgr]
          rcases Nat.lt_or_ge v names.length with hv | hv
          · obtain ⟨_, h2, h3⟩ := rowC_zero (hrow v hv).2.2
            refine pairwise_of_next fun k hk => ?_
            rw [List.length_map] at hk
            have e : ∀ j, j < (E'.getD v []).length → (((E'.getD v []).map Int.toNat).getD j 0) = ((E'.getD v []).getD j 0).toNat := by
              intro j hj
              simp only [List.getD, List.getElem?_map] at hj ⊢
              rw [List.getElem?_eq_getElem hj]; rfl
            rw [e k (by omega), e (k + 1) hk]
            have := h3 k hk
            have := h2 k (by omega)
            omega
          · rw [List.getD_eq_getElem?_getD, List.getElem?_eq_none (by omega)]; simp
        · intro s hs
          obtain ⟨i, hi, hi2⟩ := mem_getElem hs
          have := (hrow i hi).1
          rw [getD_some hi2] at this
          exact nameB_true.1 this
        · refine List.pairwise_iff_getElem.2 fun i j hi hj hij he => ?_
          have := (hrow j hj).2.1
          rw [getD_some (List.getElem?_eq_getElem hj)] at this
          exact this (mem_take.2 ⟨i, hij, by rw [List.getElem?_eq_getElem hi, he]⟩)

end Go.Proofs.YtefcdclmabdmbaaGreatDoor

namespace Go.Proofs.YtefcdclmabdmbaaGreatDoor
open Go.RowKit

theorem GrV.at {w : World} {v : Value} {names : List ByteArray} {E : List (List Int)} (h : GrV w v names E) : ∀ w', Below w.heap.size w w' → GrV w' v names E := fun _ hb => h.below hb

end Go.Proofs.YtefcdclmabdmbaaGreatDoor

namespace Go.Proofs.YtefcdclmabdmbaaGreatDoor
open Go.RowKit

open Classical in
/-- The greatest distance, or an error. -/
noncomputable def dia (E : List (List Nat)) : Int × Int := if E.length = 0 then (0, 12) else if dok E E.length then (dm E E.length, 0) else (0, 12)
def DiaR (w : World) (E : List (List Nat)) (e : Ending) (w' : World) : Prop := e = .returned (.tuple #[.int .i64 (dia E).1, .int .i64 (dia E).2]) ∧ Below w.heap.size w w'
theorem diaR_none {w w' : World} {E : List (List Nat)} {k : Nat} {x : Int} (hk : k < E.length) (hx : x ∈ dd E k) (h0 : x < 0) (hb : Below w.heap.size w w') : DiaR w E (.returned (.tuple #[.int .i64 0, .int .i64 12])) w' := by
  refine ⟨?_, hb⟩
  unfold dia
  rw [if_neg (by omega), if_neg (fun h => h k hk x hx h0)]
theorem diaR_some {w w' : World} {E : List (List Nat)} (h0 : E.length ≠ 0) (hd : dok E E.length) (hb : Below w.heap.size w w') : DiaR w E (.returned (.tuple #[.int .i64 (dm E E.length), .int .i64 0])) w' := by
  refine ⟨?_, hb⟩
  unfold dia
  rw [if_neg h0, if_pos hd]
theorem diaR_empty {w w' : World} {E : List (List Nat)} (h0 : E.length = 0) (hb : Below w.heap.size w w') : DiaR w E (.returned (.tuple #[.int .i64 0, .int .i64 12])) w' := by
  refine ⟨?_, hb⟩
  unfold dia
  rw [if_pos h0]
theorem dok_succ {E : List (List Nat)} {k : Nat} (h : dok E k) (hk : ∀ x ∈ dd E k, ¬ x < 0) : dok E (k + 1) := by
  intro i hi
  rcases Nat.lt_or_ge i k with h1 | h1
  · exact h i h1
  · obtain rfl : i = k := by omega
    exact hk
theorem mx_take {m : Int} {l : List Int} {j : Nat} {x : Int} (h : l[j]? = some x) : mx m (l.take (j + 1)) = max (mx m (l.take j)) x := by rw [List.take_add_one, h]; exact mx_snoc _ _ _
theorem no_neg_take {l : List Int} {j : Nat} {x : Int} (h : l[j]? = some x) (hp : ∀ y ∈ l.take j, ¬ y < 0) (hx : ¬ x < 0) : ∀ y ∈ l.take (j + 1), ¬ y < 0 := by
  rw [List.take_add_one, h]
  intro y hy
  rcases List.mem_append.1 hy with h1 | h1
  · exact hp y h1
  · have : y = x := by simpa using h1
    subst this; exact hx

set_option maxHeartbeats 1000000 in
theorem Diameter_ok {w : World} {v : Value} {names : List ByteArray} {E : List (List Nat)} (h : GrV w v names (toI E)) (hc : chk names (toI E) = 0) (hk : Ok names E) :
    Calls Tryz.prog 26 #[v] w (DiaR w E) := by
  have HC := Lib.hid (fun w' hb => Check_any (h.at w' hb))
  rw [hc] at HC
  have hl := hk.len
  have hsm := hk.small
  obtain ⟨A, c, A', c', rfl, hs, hg⟩ := h
  rw [toI_length] at *
  have HD := Lib.hid (fun w' (hb : Below w.heap.size w w') a (ha : a < E.length) => distances_any hk.valid hk.small ha (hg.below hb))
  obtain ⟨W, G, hW, hG, hbW, c0, c1, hGl, hwG⟩ := gbox w (.slice A names.length c) (.slice A' E.length c')
  have HW := Lib.hid hW
  have HG := Lib.hid hG
  have HL := Lib.hid hl
  have HK := Lib.hid hk
  clear hW hG hc hk hl
  by_cases h0 : E.length = 0
  · have hz : ((E.length : Int) == 0) = true := by simp [h0]
    have H0 := Lib.hid h0
    clear h0
    go_enter Tryz.func26, Tryz.ntmps26
    go_wp2_with (go_at_call 83; rw [← HW.out, ← HG.out]; refine (HC.out _ hbW).mono ?_; rintro e w1 ⟨rfl, hb1⟩; have hb2 := hbW.trans (hb1.mono hbW.size); have d0 := ((bcell hb1).1 _ 0 hGl).trans c0; have d1 := ((bcell hb1).1 _ 1 hGl).trans c1; have hGl2 := Nat.lt_of_lt_of_le hGl hb1.size)
    go_ret2
    exact diaR_empty H0.out hb2
  · have hz : ((E.length : Int) == 0) = false := beq_eq_false_iff_ne.2 (by omega)
    go_enter Tryz.func26, Tryz.ntmps26
    go_wp2_with (go_at_call 83; rw [← HW.out, ← HG.out]; refine (HC.out _ hbW).mono ?_; rintro e w1 ⟨rfl, hb1⟩; have hb2 := hbW.trans (hb1.mono hbW.size); have d1 := ((bcell hb1).1 _ 1 hGl).trans c1; have hGl2 := Nat.lt_of_lt_of_le hGl hb1.size)
    clear hz
    go_loopw [5, 21] (fun m i wr => ∃ k : Nat, k ≤ E.length ∧ i = .int .i64 (k : Nat) ∧ m = .int .i64 (dm E k) ∧ dok E k ∧ Below w1.heap.size w1 wr) (fun _ i _ => E.length - (intOf i).toNat)
    case atStart => exact ⟨0, Nat.zero_le _, rfl, rfl, fun i hi => by omega, Below.refl _ _⟩
    case round =>
      obtain ⟨k, hkl, rfl, rfl, hdo, hbr⟩ := hrel
      have HDO := Lib.hid hdo
      clear hdo
      by_cases hlt : k < E.length
      · have d2 := ((bcell hbr).1 _ 1 hGl2).trans d1
        have hb3 := hb2.trans (hbr.mono hb2.size)
        go_wp2_with (go_at_call 93; refine (HD.out _ hb3 k hlt).mono ?_; rintro e w5 ⟨v5, rfl, ⟨G5, hg5, rfl, hn5⟩, hb5⟩)
        have hdd := dd_is HK.out.valid hlt
        have hdl := hdd.1
        have HDL := Lib.hid hdl
        clear hdd hdl
        go_loop [5, 29] (fun m i => ∃ j : Nat, j ≤ E.length ∧ i = .int .i64 (j : Nat) ∧ m = .int .i64 (mx (dm E k) ((dd E k).take j)) ∧ ∀ x ∈ (dd E k).take j, ¬ x < 0) (fun _ i => E.length - (intOf i).toNat)
        case atStart => exact ⟨0, Nat.zero_le _, rfl, rfl, fun x hx => by simp at hx⟩
        case round =>
          obtain ⟨j, hjl, rfl, rfl, hno⟩ := hrel
          have HNO := Lib.hid hno
          clear hno
          by_cases hjt : j < E.length
          · obtain ⟨x, hx⟩ : ∃ x, (dd E k)[j]? = some x := ⟨_, List.getElem?_eq_getElem (by rw [HDL.out]; exact hjt)⟩
            have hcx := hn5.cell (i := j) (by rw [HDL.out]; exact hjt)
            rw [getD_some hx] at hcx
            have hmm := mx_take (m := dm E k) hx
            have hxs := dd_small HK.out.valid hlt (List.mem_of_getElem? hx)
            have HX := Lib.hid hx
            have HMM := Lib.hid hmm
            clear hx hmm
            by_cases hxn : x < 0
            · go_wp2_with fail
              go_ret2
              exact diaR_none hlt (List.mem_of_getElem? HX.out) hxn (hb3.trans (hb5.mono hb3.size))
            · go_wp2_with fail
              go_round
              case rel => exact ⟨j + 1, by omega, by go_num, by rw [HMM.out], no_neg_take HX.out HNO.out hxn⟩
              case measure => simp [intOf]; omega
          · obtain rfl : j = E.length := by omega
            rw [List.take_of_length_le (by rw [HDL.out]; exact Nat.le_refl _)] at HNO
            rw [List.take_of_length_le (by rw [HDL.out]; exact Nat.le_refl _)]
            go_wp2_with fail
            go_roundw
            case rel => exact ⟨k + 1, by omega, by go_num, rfl, dok_succ HDO.out HNO.out, hbr.trans (hb5.mono hbr.size)⟩
            case measure => simp [intOf]; omega
      · obtain rfl : k = E.length := by omega
        go_wp2_with fail
        go_ret2
        exact diaR_some h0 HDO.out (hb2.trans (hbr.mono hb2.size))
end Go.Proofs.YtefcdclmabdmbaaGreatDoor
