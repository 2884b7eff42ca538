/- strings.ContainsAny of whatever text with a blank and a new line. graph.Check. -/
import Derived.Test.YtpkjdnplmgfbbaaGreatDoorShelf
import Derived.Test.YtpkjdnplmgfbbaaGreatDoorG2
import Derived.Lib.OthersKept
import Derived.Laws.RangeAny
import Derived.Maps.OwnOps
import Derived.Maps.Views
namespace Go.Proofs.YtpkjdnplmgfbbaaGreatDoor
open Go.RowKit Go.Lib

theorem get_bang (s : ByteArray) (pos : Nat) (h : pos < s.size) : s.get! pos = s[pos]'h := by
  have := get_at s pos h
  simpa using this

/-- What a byte that is no ASCII byte begins has no ASCII byte in it. -/
theorem decode_skip (s : ByteArray) (pos : Nat) (h : pos < s.size) (ha : 128 ≤ (s[pos]'h).toNat) : ∀ k, k < (Utf8.decode s pos).2 → ∃ hk : pos + k < s.size, 128 ≤ (s[pos + k]'hk).toNat := by
  have hn : ¬ (s[pos]'h).toNat < 128 := by omega
  have hc : ∀ k, (decide (pos + k < s.size) && (s.get! (pos + k)).toNat / 64 == 2) = true → ∃ hk : pos + k < s.size, 128 ≤ (s[pos + k]'hk).toNat := by
    intro k hk
    simp only [Bool.and_eq_true, decide_eq_true_eq, beq_iff_eq] at hk
    refine ⟨hk.1, ?_⟩
    rw [get_bang s _ hk.1] at hk
    omega
  have h0 : ∃ hk : pos + 0 < s.size, 128 ≤ (s[pos + 0]'hk).toNat := ⟨h, ha⟩
  simp only [Utf8.decode, get_at s pos h, hn, if_false]
  intro k hk
  split at hk
  · rename_i h1
    simp only [Bool.and_eq_true] at h1
    split at hk
    · have : k = 0 ∨ k = 1 := by simp at hk; omega
      rcases this with rfl | rfl
      · exact h0
      · exact hc 1 (by simp; exact ⟨by simpa using h1.2.1, by simpa using h1.2.2⟩)
    · have : k = 0 := by simp at hk; omega
      subst this; exact h0
  · split at hk
    · rename_i h1
      simp only [Bool.and_eq_true] at h1
      split at hk
      · have : k = 0 ∨ k = 1 ∨ k = 2 := by simp at hk; omega
        rcases this with rfl | rfl | rfl
        · exact h0
        · exact hc 1 (by simp; exact ⟨by simpa using h1.1.2.1, by simpa using h1.1.2.2⟩)
        · exact hc 2 (by simp; exact ⟨by simpa using h1.2.1, by simpa using h1.2.2⟩)
      · have : k = 0 := by simp at hk; omega
        subst this; exact h0
    · split at hk
      · rename_i h1
        simp only [Bool.and_eq_true] at h1
        split at hk
        · have : k = 0 ∨ k = 1 ∨ k = 2 ∨ k = 3 := by simp at hk; omega
          rcases this with rfl | rfl | rfl | rfl
          · exact h0
          · exact hc 1 (by simp; exact ⟨by simpa using h1.1.1.2.1, by simpa using h1.1.1.2.2⟩)
          · exact hc 2 (by simp; exact ⟨by simpa using h1.1.2.1, by simpa using h1.1.2.2⟩)
          · exact hc 3 (by simp; exact ⟨by simpa using h1.2.1, by simpa using h1.2.2⟩)
        · have : k = 0 := by simp at hk; omega
          subst this; exact h0
      · have : k = 0 := by simp at hk; omega
        subst this; exact h0

theorem decode_valid (s : ByteArray) (pos : Nat) (h : pos < s.size) (ha : 128 ≤ (s[pos]'h).toNat) : Utf8.valid ((Utf8.decode s pos).1 : Nat) = true := by
  have hn : ¬ (s[pos]'h).toNat < 128 := by omega
  have hb : ∀ k, (s.get! (pos + k)).toNat < 256 := fun k => (s.get! (pos + k)).toNat_lt
  have h1 := hb 1
  have h0 : (s[pos]'h).toNat < 256 := (s[pos]'h).toNat_lt
  simp only [Utf8.decode, get_at s pos h, hn, if_false]
  split
  · split
    · simp [Utf8.valid]; omega
    · decide
  · split
    · split
      · rename_i h2; simp only [Bool.and_eq_true] at h2; exact h2.2
      · decide
    · split
      · split
        · rename_i h2; simp only [Bool.and_eq_true] at h2; exact h2.2
        · decide
      · decide

def blanks : ByteArray := ⟨#[32, 10]⟩

set_option maxHeartbeats 1000000 in
set_option maxRecDepth 1000000 in
theorem IndexRune_err (w : World) : Calls Tryz.prog 120 #[.string ⟨#[32, 10]⟩, .int .i32 65533] w fun e w' => e = .returned (.int .i64 (-1)) ∧ Below w.heap.size w w' := by
  have n0 := fun ty => run_next_ascii (P := Tryz.prog) w ⟨#[32, 10]⟩ 0 ty (by decide) (by decide)
  have n1 := fun ty => run_next_ascii (P := Tryz.prog) w ⟨#[32, 10]⟩ 1 ty (by decide) (by decide)
  have n2 := fun ty => run_next_end (P := Tryz.prog) w ⟨#[32, 10]⟩ 2 ty (by decide)
  go_enter Tryz.func120, Tryz.ntmps120
  go_wp2_with fail
  go_loopg [5, 6] 2 (fun g _ _ wx => ∃ i : Nat, i + g = 2 ∧ wx = w.iter ⟨#[32, 10]⟩ i)
  case atStart => exact ⟨0, by omega, rfl⟩
  case round =>
    obtain ⟨i, hig, rfl⟩ := hrel
    have : gk = 0 ∨ gk = 1 ∨ gk = 2 := by omega
    rcases this with rfl | rfl | rfl
    · obtain rfl : i = 2 := by omega
      go_wp2_with fail
      go_ret
      exact ⟨rfl, (Below.refl _ _).alloc (Nat.le_refl _) _⟩
    · obtain rfl : i = 1 := by omega
      go_wp2_with fail
      go_roundg 0
      case measure => omega
      case rel => exact ⟨2, by omega, rfl⟩
    · obtain rfl : i = 0 := by omega
      go_wp2_with fail
      go_roundg 1
      case measure => omega
      case rel => exact ⟨1, by omega, rfl⟩

theorem encode_two {r : Int} (h1 : 128 ≤ r) (h2 : Utf8.valid r = true) (h3 : r < 2048) : ∃ a b : UInt8, Utf8.encode r = ⟨#[a, b]⟩ ∧ 128 ≤ b.toNat := by
  have hc : ¬ r.toNat < 128 := by omega
  have hc2 : r.toNat < 2048 := by omega
  refine ⟨_, _, by simp only [Utf8.encode, h2, if_true, hc, hc2, if_false]; rfl, ?_⟩
  simp [UInt8.toNat_ofNat']
  omega
theorem encode_more {r : Int} (h2 : Utf8.valid r = true) (h3 : 2048 ≤ r) : 3 ≤ (Utf8.encode r).size ∧ (Utf8.encode r).size ≤ 4 := by
  have hc : ¬ r.toNat < 128 := by omega
  have hc2 : ¬ r.toNat < 2048 := by omega
  simp only [Utf8.encode, h2, if_true, hc, hc2, if_false]
  split
  · exact ⟨Nat.le_refl 3, Nat.le_succ 3⟩
  · exact ⟨Nat.le_succ 3, Nat.le_refl 4⟩

set_option maxHeartbeats 2000000 in
set_option maxRecDepth 1000000 in
theorem IndexRune_two (r : Int) (w : World) (h1 : 128 ≤ r) (h2 : Utf8.valid r = true) (h3 : r < 2048) : Calls Tryz.prog 120 #[.string ⟨#[32, 10]⟩, .int .i32 r] w fun e w' => e = .returned (.int .i64 (-1)) ∧ Below w.heap.size w w' := by
  obtain ⟨a, b, he, hb⟩ := encode_two h1 h2 h3
  have hv : Lib.validRune r = true := by
    have := h2
    simp [Utf8.valid] at this
    simp [Lib.validRune]
    omega
  have HV := Lib.hid hv
  have h5 : (r == 65533) = false := beq_eq_false_iff_ne.2 (by omega)
  have h6 : decide (r < 128) = false := by simp; omega
  have h7 : decide (0 ≤ r) = true := by simp; omega
  clear hv h2
  go_enter Tryz.func120, Tryz.ntmps120
  go_wp2_with (go_at_call 136; refine (Tryz.utf8_ValidRune _ _).mono ?_; rintro e w' ⟨rfl, hw⟩; rw [hw, HV.out])
  go_step3
  go_wp2_with fail
  have hne : ((((⟨#[32, 10]⟩ : ByteArray)[1]'(by decide)).toNat : Int) != (((⟨#[a, b]⟩ : ByteArray)[1]'(by exact Nat.lt_succ_self 1)).toNat : Int)) = true := by
    show ((10 : Int) != (b.toNat : Int)) = true
    rw [bne_iff_ne]; omega
  have hbn : b.toNat < 256 := b.toNat_lt
  refine wp_loop_rounds 1 ?_
  rw [rounds_succ]
  go_wp2_with fail
  go_step3
  go_wp2_with fail
  go_quiet (fail)
  go_wp2_with fail
  have hq1 : Below w.heap.size w (w.drewN nq) := below_drewN' (Below.refl _ _) _
  generalize w.drewN nq = w2 at *
  have hsl : ∀ w, (Instr.slice 9 (.string ⟨#[32, 10]⟩) (some (.int .i64 2)) none none).run Tryz.prog w = .ok (.string ⟨#[]⟩) w := fun _ => by kernel_rfl
  have hwr : IntKind.i64.wrap 2 = 2 := by decide
  go_still_tail 7, (by kernel_rfl)
  have hq2 : Below w.heap.size w w2.drew := hq1.drew
  change wpList _ _ _ _ _ w2.drew
  generalize w2.drew = w3 at *
  go_wp2_with (go_at_call 77; refine (Tryz.strings_IndexByte _ _ _).mono ?_; rintro e w' ⟨rfl, hw⟩; rw [hw])
  go_simp
  go_ret
  exact ⟨rfl, hq2⟩

set_option maxHeartbeats 2000000 in
set_option maxRecDepth 1000000 in
theorem IndexRune_more (r : Int) (w : World) (h2 : Utf8.valid r = true) (h3 : 2048 ≤ r) (hr : r ≠ 65533) : Calls Tryz.prog 120 #[.string ⟨#[32, 10]⟩, .int .i32 r] w fun e w' => e = .returned (.int .i64 (-1)) ∧ Below w.heap.size w w' := by
  obtain ⟨hs1, hs2⟩ := encode_more h2 h3
  have hv : Lib.validRune r = true := by
    have := h2
    simp [Utf8.valid] at this
    simp [Lib.validRune]
    omega
  have HV := Lib.hid hv
  have h5 : (r == 65533) = false := beq_eq_false_iff_ne.2 hr
  have h6 : decide (r < 128) = false := by simp; omega
  have h7 : decide (0 ≤ r) = true := by simp; omega
  clear hv h2
  generalize hg : Utf8.encode r = rs at *
  have HG := Lib.hid hg
  go_enter Tryz.func120, Tryz.ntmps120
  go_wp2_with (go_at_call 136; refine (Tryz.utf8_ValidRune _ _).mono ?_; rintro e w' ⟨rfl, hw⟩; rw [hw, HV.out])
  go_step3
  go_wp2_with fail
  refine wp_loop_rounds 1 ?_
  rw [rounds_succ]
  go_wp2_with fail
  go_simp
  go_ret
  exact ⟨rfl, Below.refl _ _⟩

theorem IndexRune_hi (r : Int) (w : World) (h1 : 128 ≤ r) (h2 : Utf8.valid r = true) : Calls Tryz.prog 120 #[.string ⟨#[32, 10]⟩, .int .i32 r] w fun e w' => e = .returned (.int .i64 (-1)) ∧ Below w.heap.size w w' := by
  by_cases hr : r = 65533
  · subst hr; exact IndexRune_err w
  · by_cases h3 : r < 2048
    · exact IndexRune_two r w h1 h2 h3
    · exact IndexRune_more r w h2 (by omega) hr

/-- Some byte is a blank or a new line. -/
def hasBl (s : ByteArray) : Prop := ∃ b ∈ s.data.toList, b = 32 ∨ b = 10
noncomputable def blB (s : ByteArray) : Bool := @decide (hasBl s) (Classical.propDecidable _)
theorem blB_true {s : ByteArray} : blB s = true ↔ hasBl s := by unfold blB; exact @decide_eq_true_iff _ (Classical.propDecidable _)
theorem blB_false {s : ByteArray} : blB s = false ↔ ¬ hasBl s := by unfold blB; exact @decide_eq_false_iff_not _ (Classical.propDecidable _)

theorem indexByte_blanks (x : UInt8) : (x = 32 ∨ x = 10) ∧ 0 ≤ Lib.indexByte [32, 10] x ∨ (¬ (x = 32 ∨ x = 10)) ∧ Lib.indexByte [32, 10] x < 0 := by
  by_cases h : x = 32
  · subst h; exact .inl ⟨.inl rfl, by decide⟩
  · by_cases h' : x = 10
    · subst h'; exact .inl ⟨.inr rfl, by decide⟩
    · refine .inr ⟨by simp [h, h'], ?_⟩
      have e := Lib.contains_iff_indexByte [32, 10] x
      have e2 : ([32, 10] : List UInt8).contains x = false := by simp [h, h']
      rw [e2] at e
      have := of_decide_eq_false e.symm
      omega

set_option maxHeartbeats 2000000 in
set_option maxRecDepth 1000000 in
theorem IndexAny_small (s : ByteArray) (w : World) (h8 : s.size ≤ 8) :
    Calls Tryz.prog 108 #[.string s, .string ⟨#[32, 10]⟩] w fun e w' => (∃ i : Int, e = .returned (.int .i64 i) ∧ decide (0 ≤ i) = blB s) ∧ Below w.heap.size w w' := by
  have h8z : decide ((8 : Int) < (s.size : Int)) = false := decide_eq_false (by omega)
  go_enter Tryz.func108, Tryz.ntmps108
  go_wp2_with (go_at_call 121; refine (Tryz.strings_shouldUseASCIISet _ _).mono ?_; rintro e w' ⟨rfl, hw⟩; rw [hw, h8z])
  obtain ⟨K, hK⟩ : ∃ K, K = w.heap.size := ⟨_, rfl⟩
  have hi0 : (w.iter s 0).heap[K]? = some (.stringIter s 0) := by rw [hK]; exact World.iter_heap w s 0
  have hb0 : Below K w (w.iter s 0) := by rw [hK]; exact (Below.refl _ _).alloc (Nat.le_refl _) _
  rw [← hK]
  have HK := Lib.hid hK
  clear hK
  generalize w.iter s 0 = W0 at *
  have HI0 := Lib.hid hi0; clear hi0
  go_loopg [9, 10] s.size (fun g _ _ wx => ∃ i : Nat, i + g = s.size ∧ wx.heap[K]? = some (.stringIter s i) ∧ Below K w wx ∧ ∀ j b, j < i → s.data.toList[j]? = some b → b ≠ 32 ∧ b ≠ 10)
  case atStart => exact ⟨0, by omega, HI0.out, hb0, fun j b hj => by omega⟩
  case round =>
    obtain ⟨i, hig, hit, hbw, hno⟩ := hrel
    have HN := Lib.hid hno; clear hno
    by_cases hlt : i < s.size
    · obtain ⟨x, hx⟩ : ∃ x : UInt8, s[i]'hlt = x := ⟨_, rfl⟩
      have hxl : s.data.toList[i]? = some x := by rw [← hx]; exact Lib.data_getElem? s i hlt
      have HX := Lib.hid hxl; clear hxl
      by_cases h128 : x.toNat < 128
      · have hnx := fun ty => run_next_ascii_at (P := Tryz.prog) wr K s i ty hit hlt (by rw [hx]; exact h128)
        rw [hx] at hnx
        have hb1 := below_iterAt (w := wr) hbw (Nat.le_refl K) s (i + 1)
        have hit1 := iterAt_heap wr K s i (i + 1) hit
        have HIT := Lib.hid hit1
        clear hit1 hit hx
        generalize wr.iterAt K s (i + 1) = w1 at *
        have hback : ((x.toNat : Int)).toNat.toUInt8 = x := by simp
        rcases indexByte_blanks x with ⟨hx1, hx2⟩ | ⟨hx1, hx2⟩
        · have hbl : blB s = true := blB_true.2 ⟨x, List.mem_of_getElem? HX.out, hx1⟩
          have HBL := Lib.hid hbl; clear hbl hx1
          go_wp2_with (go_at_call 120; refine (Tryz.strings_IndexRune_ascii _ _ _ (by omega) (by omega)).mono ?_; rintro e w' ⟨rfl, hw⟩; rw [hw, hback])
          go_ret
          exact ⟨⟨_, rfl, by rw [HBL.out]; simp⟩, HK.out ▸ hb1⟩
        · have hx3 : ¬ (0 ≤ Lib.indexByte [32, 10] x) := by omega
          have HX1 := Lib.hid hx1; clear hx1
          go_wp2_with (go_at_call 120; refine (Tryz.strings_IndexRune_ascii _ _ _ (by omega) (by omega)).mono ?_; rintro e w' ⟨rfl, hw⟩; rw [hw, hback])
          go_roundg (s.size - (i + 1))
          case measure => omega
          case rel =>
            refine ⟨i + 1, by omega, HIT.out, hb1, fun j b hj hjb => ?_⟩
            rcases Nat.lt_or_ge j i with h2 | h2
            · exact HN.out j b h2 hjb
            · obtain rfl : j = i := by omega
              have := HX.out.symm.trans hjb
              cases this
              have := HX1.out
              exact ⟨fun e => this (.inl e), fun e => this (.inr e)⟩
      · have hnx := fun ty => run_next_any_at (P := Tryz.prog) wr K s i ty hit hlt
        have hsk := decode_skip s i hlt (by rw [hx]; omega)
        have hvl := decode_valid s i hlt (by rw [hx]; omega)
        have hhi := decode_high s i hlt (by rw [hx]; omega)
        have hle := decode_le s i
        generalize Utf8.decode s i = d at *
        obtain ⟨r, n⟩ := d
        simp only at hnx hsk hvl hhi hle
        have hb1 := below_iterAt (w := wr) hbw (Nat.le_refl K) s (i + n)
        have hit1 := iterAt_heap wr K s i (i + n) hit
        have HIT := Lib.hid hit1
        have HSK := Lib.hid hsk
        have HVL := Lib.hid hvl
        have hin : i + n ≤ s.size := by
          obtain ⟨h3, _⟩ := hsk (n - 1) (by omega)
          omega
        clear hit1 hit hx hsk hvl
        generalize wr.iterAt K s (i + n) = w1 at *
        go_wp2_with (go_at_call 120; refine (IndexRune_hi _ _ (by omega) HVL.out).mono ?_; rintro e w2 ⟨rfl, hb2⟩)
        have hb3 := hb1.trans (hb2.mono (Nat.le_of_lt (Array.getElem?_eq_some_iff.1 HIT.out).1))
        have hit2 : w2.heap[K]? = _ := (hb2.block K (Array.getElem?_eq_some_iff.1 HIT.out).1).trans HIT.out
        have HIT2 := Lib.hid hit2; clear hit2
        go_roundg (s.size - (i + n))
        case measure => omega
        case rel =>
          refine ⟨i + n, by omega, HIT2.out, hb3, fun j b hj hjb => ?_⟩
          rcases Nat.lt_or_ge j i with h2 | h2
          · exact HN.out j b h2 hjb
          · obtain ⟨h4, h5⟩ := HSK.out (j - i) (by omega)
            have e1 : i + (j - i) = j := by omega
            simp only [e1] at h4 h5
            have h6 := Lib.data_getElem? s j h4
            rw [hjb] at h6
            injection h6 with h6
            rw [← h6] at h5
            constructor
            · rintro rfl; simp at h5
            · rintro rfl; simp at h5
    · obtain rfl : i = s.size := by omega
      have hnx := fun ty => run_next_end_at (P := Tryz.prog) wr K s s.size ty hit hlt
      have hbl : blB s = false := blB_false.2 fun ⟨b, hb, h⟩ => by
        obtain ⟨j, hj, hj2⟩ := mem_getElem hb
        rw [← Lib.size_eq] at hj
        have := HN.out j b hj hj2
        rcases h with h | h
        · exact this.1 h
        · exact this.2 h
      have HBL := Lib.hid hbl; clear hbl hit
      go_wp2_with fail
      go_ret
      exact ⟨⟨_, rfl, by rw [HBL.out]; decide⟩, HK.out ▸ hbw⟩

theorem indexAny_bl (s : ByteArray) : decide (0 ≤ Lib.indexAny s.data.toList [32, 10]) = blB s := by
  have h : ∀ l : List UInt8, (0 ≤ Lib.indexAny l [32, 10] ↔ ∃ b ∈ l, b = 32 ∨ b = 10) := by
    intro l
    induction l with
    | nil => simp [Lib.indexAny]
    | cons x r ih =>
      have hg := Lib.indexAny_ge [32, 10] r
      by_cases hx : x = 32 ∨ x = 10
      · have hc : ([32, 10] : List UInt8).contains x = true := by simp; exact hx
        simp only [Lib.indexAny, hc, if_true]
        exact ⟨fun _ => ⟨x, by simp, hx⟩, fun _ => by omega⟩
      · have hc : ([32, 10] : List UInt8).contains x = false := by simpa using hx
        have e : (∃ b ∈ x :: r, b = 32 ∨ b = 10) ↔ ∃ b ∈ r, b = 32 ∨ b = 10 := by
          constructor
          · rintro ⟨b, hb, hb2⟩
            rcases List.mem_cons.1 hb with rfl | hb
            · exact absurd hb2 hx
            · exact ⟨b, hb, hb2⟩
          · rintro ⟨b, hb, hb2⟩; exact ⟨b, by simp [hb], hb2⟩
        rw [e, ← ih]
        simp only [Lib.indexAny, hc]
        simp
        split <;> omega
  cases hb : blB s
  · exact decide_eq_false fun h0 => blB_false.1 hb ((h _).1 h0)
  · exact decide_eq_true ((h _).2 (blB_true.1 hb))

theorem zero256 (w : World) : (zeroValue 158).run Tryz.prog w = .ok (.agg (Array.replicate 256 (.bool false))) w := by kernel_rfl

theorem IndexAny_bl (s : ByteArray) (w : World) (hs : s.size < 4294967281) :
    Calls Tryz.prog 108 #[.string s, .string ⟨#[32, 10]⟩] w fun e w' => (∃ i : Int, e = .returned (.int .i64 i) ∧ decide (0 ≤ i) = blB s) ∧ Below w.heap.size w w' := by
  by_cases h8 : s.size ≤ 8
  · exact IndexAny_small s w h8
  · refine (Tryz.strings_IndexAny_long zero256 s ⟨#[32, 10]⟩ w (by decide) (by omega) hs (by decide) ?_).mono ?_
    · intro j b hb
      have : b ∈ ([32, 10] : List UInt8) := List.mem_of_getElem? hb
      simp at this
      rcases this with rfl | rfl <;> decide
    · rintro e w' ⟨rfl, rfl⟩
      exact ⟨⟨_, rfl, indexAny_bl s⟩, ((Below.refl _ _).alloc (Nat.le_refl _) _).alloc (by simp) _⟩

theorem ContainsAny_bl (s : ByteArray) (w : World) (hs : s.size < 4294967281) :
    Calls Tryz.prog 82 #[.string s, .string ⟨#[32, 10]⟩] w fun e w' => e = .returned (.bool (blB s)) ∧ Below w.heap.size w w' := by
  go_enter Tryz.func82, Tryz.ntmps82
  go_wp2_with (go_at_call 108; refine (IndexAny_bl s _ hs).mono ?_; rintro e w' ⟨⟨i, rfl, hi⟩, hb⟩; have HI := Lib.hid hi; clear hi)
  go_ret
  exact ⟨ret_bool HI.out, hb⟩
end Go.Proofs.YtpkjdnplmgfbbaaGreatDoor

namespace Go.Proofs.YtpkjdnplmgfbbaaGreatDoor
open Go.RowKit Go.Maps

set_option maxHeartbeats 1000000 in
theorem checkNeighbours_any {w : World} {v : Value} {names : List ByteArray} {E : List (List Int)} (h : GrV w v names E) {A : Option Addr} {c : Nat} {l : List Int} (hl : Il w A l.length c l) :
    Calls Tryz.prog 83 #[v, .slice A l.length c] w (ChkR w (rowC names.length l)) := by
  obtain ⟨B, d, B', d', rfl, hs, hg⟩ := h
  obtain ⟨hr1, hr2⟩ := hs.room
  obtain ⟨hr3, hr4⟩ := hg.room
  obtain ⟨hr5, hr6⟩ := hl.room
  unfold maxLen at hr2 hr4 hr6
  by_cases h400 : 400 < l.length
  · have e : rowC names.length l = 8 := by unfold rowC; rw [if_pos h400]
    rw [e]
    clear e
    go_enter Tryz.func83, Tryz.ntmps83
    go_wp2
    go_ret
    exact chkR_of rfl ((Below.refl _ _).alloc (Nat.le_refl _) _)
  · obtain ⟨W, G, hW, hG, hbW, c0, c1, hGl, hwG⟩ := gbox w (.slice B names.length d) (.slice B' E.length d')
    have HW := Lib.hid hW
    have HG := Lib.hid hG
    clear hW hG
    replace hs := hs.below hbW
    replace hg := hg.below hbW
    replace hl := hl.below hbW
    have hgv : GrV W (.agg #[.slice B names.length d, .slice B' E.length d']) names E := ⟨_, _, _, _, rfl, hs, hg⟩
    go_enter Tryz.func83, Tryz.ntmps83
    go_wp2
    rw [← HW.out, ← HG.out]
    go_loopw [12] (fun i wr => ∃ t : Nat, t ≤ l.length ∧ i = .int .i64 t ∧ (∀ j, j < t → rowAt names.length l j = 0) ∧ Below W.heap.size W wr) (fun i _ => l.length - (intOf i).toNat)
    case atStart => exact ⟨0, Nat.zero_le _, rfl, fun j hj => by omega, Below.refl _ _⟩
    case round =>
      obtain ⟨t, ht, rfl, hnt, hbt⟩ := hrel
      have HT := Lib.hid hnt; clear hnt
      obtain ⟨hc, hf⟩ := bcell hbt
      have e0 := (hc _ 0 hGl).trans c0
      have e1 := (hc _ 1 hGl).trans c1
      clear hc hf
      by_cases htl : t < l.length
      · obtain ⟨b3, off3, rfl, hcell3⟩ := (hl.below hbt).cell (by omega)
        obtain ⟨y, hy⟩ : ∃ y, l[t]? = some y := ⟨_, List.getElem?_eq_getElem htl⟩
        have hcy := hcell3 t y hy
        have HC3 := Lib.hid hcell3
        have HY := Lib.hid hy
        have hyr := hl.2 y (List.mem_of_getElem? hy)
        have hgv2 := hgv.below hbt
        clear hcell3 hy
        cases hh : hasB names.length y
        · have HH := Lib.hid hh; clear hh
          go_wp2_with (go_at_call 62; refine (has_any hgv2 y).mono ?_; rintro e w4 ⟨rfl, hb4⟩; rw [HH.out])
          go_ret
          have er : rowAt names.length l t = 6 := by unfold rowAt; rw [getD_some HY.out, if_pos (by have := HH.out; unfold hasB at this; simpa using this)]
          exact chkR_of (by rw [rowC_hit (by omega) htl HT.out (by rw [er]; decide), er]) (hbW.trans ((hbt.trans (hb4.mono hbt.size)).mono hbW.size))
        · have HH := Lib.hid hh; clear hh
          have hyn : 0 ≤ y ∧ y < names.length := by have := HH.out; unfold hasB at this; simpa using this
          by_cases ht0 : t = 0
          · have hd0 : decide (0 < t) = false := by simp; omega
            have HT0 := Lib.hid ht0; clear ht0
            go_wp2_with (go_at_call 62; refine (has_any hgv2 y).mono ?_; rintro e w4 ⟨rfl, hb4⟩; rw [HH.out])
            go_roundw
            case rel =>
              refine ⟨t + 1, by omega, by go_num, fun j hj => ?_, hbt.trans (hb4.mono hbt.size)⟩
              rcases Nat.lt_or_ge j t with h2 | h2
              · exact HT.out j h2
              · obtain rfl : j = t := by omega
                unfold rowAt; rw [getD_some HY.out, if_neg (by simpa using hyn), if_neg (by have := HT0.out; omega)]
            case measure => simp [intOf]; omega
          · obtain ⟨z, hz⟩ : ∃ z, l[t - 1]? = some z := ⟨_, List.getElem?_eq_getElem (by omega)⟩
            have f1 := HC3.out _ _ hz
            have hzr := hl.2 z (List.mem_of_getElem? hz)
            have HZ := Lib.hid hz
            have ht1 : 0 < t := by omega
            clear ht0 hz
            go_wp2_with (go_at_call 62; refine (has_any hgv2 y).mono ?_; rintro e w4 ⟨rfl, hb4⟩; rw [HH.out]; obtain ⟨hc4, hf4⟩ := bcell hb4; have f2 := (hc4 _ _ (cell_some_lt f1)).trans f1; clear hc4 hf4)
            · go_ret
              have hyz : y < z := by assumption
              have er : rowAt names.length l t = 14 := by unfold rowAt; rw [getD_some HY.out, getD_some HZ.out, if_neg (by simpa using hyn), if_pos ⟨ht1, hyz⟩]
              exact chkR_of (by rw [rowC_hit (by omega) htl HT.out (by rw [er]; decide), er]) (hbW.trans ((hbt.trans (hb4.mono hbt.size)).mono hbW.size))
            · have hyz : ¬ y < z := by first | assumption | omega
              go_roundw
              case rel =>
                refine ⟨t + 1, by omega, by go_num, fun j hj => ?_, hbt.trans (hb4.mono hbt.size)⟩
                rcases Nat.lt_or_ge j t with h2 | h2
                · exact HT.out j h2
                · obtain rfl : j = t := by omega
                  unfold rowAt; rw [getD_some HY.out, getD_some HZ.out, if_neg (by simpa using hyn), if_neg (fun h => hyz h.2)]
              case measure => simp [intOf]; omega
      · obtain rfl : t = l.length := by omega
        go_wp2_with fail
        go_ret
        exact chkR_of (by rw [rowC_ok (by omega) HT.out]) (hbW.trans (hbt.mono hbW.size))

theorem plainElem_bool_inv {H : Type} {P : Program} {e : TypeId} (he : P.underlying e = some .bool) {v : Value} {z : DataW H × List MemPlace} (h : plainElem P e v = some z) : ∃ a, v = .bool a ∧ z = (.lit (.bool a), []) := by
  unfold plainElem at h
  rw [he] at h
  cases v <;> simp at h
  exact ⟨_, rfl, h.symm⟩

/-- m[k] in a map of bools of the call's own. -/
theorem wpList_lookup_own_bool {H : Type} {P : Program} (w : World) {ops : Array Oper} {rest : List Oper} {o : Oper} {a : Act} {Q : Exit → Act → World → Prop}
    (hg : o.guard = none) (m x : Operand) (t : TypeId) (hop : o.op = Op.lookup t m x false)
    (k e : TypeId) (K : Keyed P k) (ht : P.underlying t = some (.map k e)) (he : P.underlying e = some .bool) (hz : (zeroValue e).run P w = .ok (.bool false) w) (b n : Nat) (D : DataW H)
    (hm : a.eval m = .map (some b)) (hown : w.ownsMap P k (plainElem P e) b n D) (key : Value) (kl : Lit) (hx : a.eval x = key) (hkey : keyOf P k key = some kl) (r : Bool)
    (hat : D.atKey kl (.lit (.bool false)) = .lit (.bool r))
    (hK : wpList P ops Q rest (a.put o.dst (.bool r)) w) :
    wpList P ops Q (o :: rest) a w := by
  refine wpList_plain hg fun K' hK' => ?_
  obtain ⟨v, ps, hrun, hv⟩ := hown.lookup K ht hz (plainElem_bool he false) hkey
  obtain ⟨c, rfl, hc⟩ := plainElem_bool_inv he hv
  simp only [Prod.mk.injEq] at hc
  have hcr : c = r := by
    have := hc.1.symm.trans hat
    injection this with this
    injection this
  subst hcr
  unfold Oper.wp
  simp [execOp, hop, hm, hx, hrun, Result.andThen]
  exact hK' _ _ hK

theorem bytes_inj {a b : ByteArray} (h : a.data.toList = b.data.toList) : a = b := by
  cases a; cases b
  congr
  exact Array.toList_inj.1 h

theorem str_keyed : Keyed Tryz.prog 9 := string_keyed Tryz.underlying9
theorem zero_bool (w : World) : (zeroValue 4).run Tryz.prog w = .ok (.bool false) w := by kernel_rfl

theorem ownsMap_below {H : Type} {P : Program} {k : TypeId} {R : Value → Option (DataW H × List MemPlace)} {b n : Nat} {D : DataW H} {w w' : World} (h : w.ownsMap P k R b n D) (hb : Below w.heap.size w w') : w'.ownsMap P k R b n D := by
  obtain ⟨es, clock, h1, r⟩ := h
  exact ⟨es, clock, (hb.block b (Array.getElem?_eq_some_iff.1 h1).1).trans h1, r⟩

open Classical in
/-- The map holds just the names so far. -/
def NamesIn (names : List ByteArray) (k : Nat) (D : DataW Unit) : Prop := ∀ s : ByteArray, D.atKey (.string s.data.toList) (.lit (.bool false)) = .lit (.bool (decide (s ∈ names.take k)))

open Classical in
theorem NamesIn.add {names : List ByteArray} {k : Nat} {D : DataW Unit} {x : ByteArray} (hD : IsMap D) (h : NamesIn names k D) (hx : names[k]? = some x) : NamesIn names (k + 1) (D.put (.string x.data.toList) (.lit (.bool true))) := by
  intro s
  by_cases hs : s = x
  · subst hs
    rw [atKey_put_same hD (show WideAt.IsKeyLit (.string s.data.toList) from trivial)]
    have : s ∈ names.take (k + 1) := mem_take.2 ⟨k, by omega, hx⟩
    simp [this]
  · rw [atKey_put_other (fun e => hs (bytes_inj (by injection e)))]
    rw [h s]
    have : (s ∈ names.take (k + 1)) ↔ s ∈ names.take k := by
      constructor
      · intro hm
        obtain ⟨j, hj, hj2⟩ := mem_take.1 hm
        refine mem_take.2 ⟨j, ?_, hj2⟩
        rcases Nat.lt_or_ge j k with h1 | h1
        · exact h1
        · obtain rfl : j = k := by omega
          rw [hx] at hj2
          injection hj2 with hj2
          exact absurd hj2.symm hs
      · intro hm
        obtain ⟨j, hj, hj2⟩ := mem_take.1 hm
        exact mem_take.2 ⟨j, by omega, hj2⟩
    simp only [this]

theorem nameB_iff {x : ByteArray} (h0 : x.size ≠ 0) (h1 : x.size ≤ 40) : nameB x = !(blB x) := by
  cases hb : blB x
  · refine nameB_true.2 ⟨h0, h1, fun b hb2 => ⟨fun e => blB_false.1 hb ⟨b, hb2, .inl e⟩, fun e => blB_false.1 hb ⟨b, hb2, .inr e⟩⟩⟩
  · refine nameB_false.2 fun h => ?_
    obtain ⟨b, hb2, hb3⟩ := blB_true.1 hb
    rcases hb3 with e | e
    · exact (h.2.2 b hb2).1 e
    · exact (h.2.2 b hb2).2 e

set_option maxHeartbeats 2000000 in
set_option maxRecDepth 100000 in
theorem Check_any {w : World} {v : Value} {names : List ByteArray} {E : List (List Int)} (h : GrV w v names E) :
    Calls Tryz.prog 55 #[v] w (ChkR w (chk names E)) := by
  obtain ⟨A, c, A', c', rfl, hs, hg⟩ := h
  obtain ⟨hr1, hr2⟩ := hs.room
  obtain ⟨hr3, hr4⟩ := hg.room
  unfold maxLen at hr2 hr4
  by_cases hne : names.length = E.length
  · by_cases hlg : 2500 < names.length
    · have e : chk names E = 8 := by unfold chk; rw [if_neg (by omega), if_pos hlg]
      rw [e]
      have hb : ((names.length : Int) != (E.length : Int)) = false := by simp [hne]
      clear hne e
      go_enter Tryz.func55, Tryz.ntmps55
      go_wp2
      go_ret
      exact chkR_of rfl ((Below.refl _ _).alloc (Nat.le_refl _) _)
    · have hb : ((names.length : Int) != (E.length : Int)) = false := by simp [hne]
      have HNE := Lib.hid hne
      clear hne
      obtain ⟨W, G, hW, hG, hbW, c0, c1, hGl, hwG⟩ := gbox w (.slice A names.length c) (.slice A' E.length c')
      have HW := Lib.hid hW
      have HG := Lib.hid hG
      clear hW hG
      replace hs := hs.below hbW
      replace hg := hg.below hbW
      have hmm := @run_makeMap Tryz.prog
      go_enter Tryz.func55, Tryz.ntmps55
      go_wp2
      rw [← HW.out, ← HG.out]
      clear hb
      obtain ⟨M, hM⟩ : ∃ M, M = G + 1 := ⟨_, rfl⟩
      have hWs : W.heap.size = M := by rw [hM, HW.out, HG.out]; simp
      have hbM : Below W.heap.size W (W.alloc (.map #[] 0)) := (Below.refl _ _).alloc (Nat.le_refl _) _
      have how : (W.alloc (.map #[] 0)).ownsMap Tryz.prog 9 (plainElem (H := Unit) Tryz.prog 4) M 0 (.map []) := by rw [← hWs]; exact World.ownsMap_made _ _ _ _
      rw [← hM]
      have hWM : W.heap.size ≤ M := by omega
      clear hM hmm
      have HWS := Lib.hid hWs; clear hWs
      generalize W.alloc (.map #[] 0) = W1 at *
      go_loopw [22] (fun i wr => ∃ k D, k ≤ names.length ∧ i = .int .i64 (k : Nat) ∧ (∀ j, j < k → atC names E j = 0) ∧ Below W.heap.size W wr ∧ wr.ownsMap Tryz.prog 9 (plainElem (H := Unit) Tryz.prog 4) M k D ∧ NamesIn names k D) (fun i _ => names.length - (intOf i).toNat)
      case atStart => exact ⟨0, _, Nat.zero_le _, rfl, fun j hj => by omega, hbM, how, fun s => by simp [DataW.atKey]⟩
      case round =>
        obtain ⟨k, D, hk, rfl, hno, hbr, hown, hin⟩ := hrel
        have HN := Lib.hid hno; clear hno
        have HIN := Lib.hid hin; clear hin
        have hbw := hbW.trans (hbr.mono hbW.size)
        by_cases hlt : k < names.length
        · have hs2 := hs.below hbr
          have hg2 := hg.below hbr
          have hGr : G < wr.heap.size := Nat.lt_of_lt_of_le hGl hbr.size
          have d0 := ((bcell hbr).1 _ 0 hGl).trans c0
          have d1 := ((bcell hbr).1 _ 1 hGl).trans c1
          obtain ⟨b, off, rfl, hcell⟩ := hs2.cell (by omega)
          obtain ⟨x, hx⟩ : ∃ x, names[k]? = some x := ⟨_, List.getElem?_eq_getElem hlt⟩
          have hcx := hcell k x hx
          have hxm := hs.2 x (List.mem_of_getElem? hx)
          have HX := Lib.hid hx
          clear hx hcell
          have hxm2 := hxm
          unfold maxLen at hxm2
          by_cases hx0 : x.size = 0
          · have hz : x.toList.isEmpty = true := by rw [Lib.toList_data, List.isEmpty_iff]; exact List.length_eq_zero_iff.1 (by rw [← Lib.size_eq]; exact hx0)
            have hnb : nameB x = false := nameB_false.2 fun h => h.1 hx0
            have HB := Lib.hid hnb; clear hnb hx0
            go_wp2_with fail
            go_ret
            exact chkR_of (by rw [chk_hit HNE.out (by omega) hlt HN.out (by rw [atC_name HX.out HB.out]; decide), atC_name HX.out HB.out]) hbw
          · have hz : x.toList.isEmpty = false := by
              rw [Lib.toList_data]
              cases hl : x.data.toList with
              | nil => exact absurd (by rw [Lib.size_eq, hl]; rfl) hx0
              | cons a t => rfl
            by_cases hx40 : 40 < x.size
            · have hnb : nameB x = false := nameB_false.2 fun h => by have := h.2.1; omega
              have HB := Lib.hid hnb; clear hnb hx0
              go_wp2_with fail
              go_ret
              exact chkR_of (by rw [chk_hit HNE.out (by omega) hlt HN.out (by rw [atC_name HX.out HB.out]; decide), atC_name HX.out HB.out]) hbw
            · have hnb := nameB_iff hx0 (by omega)
              have hd40 : decide (40 < x.size) = false := by simp; omega
              clear hx0
              cases hbl : blB x
              · rw [hbl] at hnb
                have HB := Lib.hid hnb; clear hnb
                have HBL := Lib.hid hbl; clear hbl
                cases hmem : @decide (x ∈ names.take k) (Classical.propDecidable _)
                · have hnm : ¬ x ∈ names.take k := @of_decide_eq_false _ (Classical.propDecidable _) hmem
                  have hat := HIN.out x
                  rw [show (@decide (x ∈ names.take k) (Classical.propDecidable _)) = false from hmem] at hat
                  have HAT := Lib.hid hat
                  have HNM := Lib.hid hnm
                  clear hmem hat hnm
                  go_wp2_with (first
                    | (go_at_call 82; refine (ContainsAny_bl x _ (by omega)).mono ?_; rintro e w1 ⟨rfl, hb1⟩; rw [HBL.out]; have hown1 := ownsMap_below hown hb1; have hbr1 := hbr.trans (hb1.mono hbr.size))
                    | (at_lookup; go_must (refine wpList_lookup_own_bool _ rfl _ _ 119 rfl 9 4 str_keyed Tryz.underlying119 Tryz.underlying4 (zero_bool _) M k D rfl hown1 _ _ rfl (WideMaps.keyOf_string_mk Tryz.underlying9 hxm) false HAT.out ?_))
                    | (at_mapUpdate; go_must (refine wpList_mapUpdate_own _ rfl _ _ _ 119 rfl 9 4 str_keyed Tryz.underlying119 _ M k _ rfl hown1 (by unfold maxLen; omega) _ _ _ rfl rfl (WideMaps.keyOf_string_mk Tryz.underlying9 hxm) _ [] (plainElem_bool Tryz.underlying4 true) ?_); intro w2 hown2 hgrow2))
                  have hbr2 : Below W.heap.size W w2 := hbr1.grown hgrow2 hbr1.size (fun j hj => by injection hj with hj; omega)
                  go_frame
                  have hkE : k < E.length := by have := HNE.out; omega
                  obtain ⟨b2, off2, rfl, hcell2⟩ := (hg.below hbr2).cell (by omega)
                  obtain ⟨l, hl⟩ : ∃ l, E[k]? = some l := ⟨_, List.getElem?_eq_getElem hkE⟩
                  obtain ⟨B, d, hcl, hil⟩ := hcell2 k l hl
                  have hrow := atC_row (E := E) HX.out HB.out hl (fun j hj hj2 => HNM.out (mem_take.2 ⟨j, hj, hj2⟩))
                  have HROW := Lib.hid hrow
                  have hgv : GrV w2 (.agg #[.slice (some ⟨b, off, none⟩) names.length c, .slice (some ⟨b2, off2, none⟩) E.length c']) names E := ⟨_, _, _, _, rfl, hs.below hbr2, hg.below hbr2⟩
                  have hnin := NamesIn.add (hown.isMap) HIN.out HX.out
                  have HNIN := Lib.hid hnin
                  have f0 := ((bcell hbr2).1 _ 0 hGl).trans c0
                  have f1 := ((bcell hbr2).1 _ 1 hGl).trans c1
                  have i1 : (k : Int) < (E.length : Int) := by omega
                  have i2 : 0 ≤ (k : Int) := by omega
                  clear hl hcell2 hrow hnin d0 d1 hcx
                  go_still_tail 6, (by kernel_rfl)
                  have hb5 : Below w2.heap.size w2 w2.drew := (Below.refl _ _).drew
                  have hgv5 := hgv.below hb5
                  have hil5 := hil.below hb5
                  have hown5 := ownsMap_below hown2 hb5
                  have hbr5 := hbr2.trans (hb5.mono hbr2.size)
                  change wpList _ _ _ _ _ w2.drew
                  clear hgv hil hown2 hb5 hbr2 f0 f1 hcl
                  generalize w2.drew = w5 at *
                  by_cases hz0 : rowC names.length l = 0
                  · have hzb : (((rowC names.length l : Nat) : Int) != 0) = false := by simp [hz0]
                    have ea : atC names E k = 0 := by rw [HROW.out, hz0]
                    have HEA := Lib.hid ea; clear ea hz0
                    go_wp2_with (go_at_call 83; refine (checkNeighbours_any hgv5 hil5).mono ?_; rintro e w6 ⟨rfl, hb6⟩)
                    have hown6 := ownsMap_below hown5 hb6
                    have hbr6 := hbr5.trans (hb6.mono hbr5.size)
                    go_roundw
                    case rel =>
                      refine ⟨k + 1, _, by omega, by go_num, fun j hj => ?_, hbr6, hown6, HNIN.out⟩
                      rcases Nat.lt_or_ge j k with h2 | h2
                      · exact HN.out j h2
                      · obtain rfl : j = k := by omega
                        exact HEA.out
                    case measure => simp [intOf]; omega
                  · have hzb : (((rowC names.length l : Nat) : Int) != 0) = true := by simp [hz0]
                    have ea : chk names E = rowC names.length l := by rw [chk_hit HNE.out (by omega) hlt HN.out (by rw [HROW.out]; exact hz0), HROW.out]
                    have HEA := Lib.hid ea; clear ea hz0
                    go_wp2_with (go_at_call 83; refine (checkNeighbours_any hgv5 hil5).mono ?_; rintro e w6 ⟨rfl, hb6⟩)
                    have hbr6 := hbr5.trans (hb6.mono hbr5.size)
                    go_ret
                    exact chkR_of HEA.out.symm (hbW.trans (hbr6.mono hbW.size))
                · have hnm : x ∈ names.take k := @of_decide_eq_true _ (Classical.propDecidable _) hmem
                  have hat := HIN.out x
                  rw [show (@decide (x ∈ names.take k) (Classical.propDecidable _)) = true from hmem] at hat
                  have HAT := Lib.hid hat
                  obtain ⟨j, hj, hj2⟩ := mem_take.1 hnm
                  have ea := atC_exists (E := E) HX.out HB.out hj hj2
                  have HEA := Lib.hid ea
                  clear hmem hat hnm ea hj hj2 j
                  go_wp2_with (first
                    | (go_at_call 82; refine (ContainsAny_bl x _ (by omega)).mono ?_; rintro e w1 ⟨rfl, hb1⟩; rw [HBL.out]; have hown1 := ownsMap_below hown hb1; have hbr1 := hbr.trans (hb1.mono hbr.size))
                    | (at_lookup; go_must (refine wpList_lookup_own_bool _ rfl _ _ 119 rfl 9 4 str_keyed Tryz.underlying119 Tryz.underlying4 (zero_bool _) M k D rfl hown1 _ _ rfl (WideMaps.keyOf_string_mk Tryz.underlying9 hxm) true HAT.out ?_)))
                  go_ret
                  exact chkR_of (by rw [chk_hit HNE.out (by omega) hlt HN.out (by rw [HEA.out]; decide), HEA.out]) (hbW.trans (hbr1.mono hbW.size))
              · rw [hbl] at hnb
                have HB := Lib.hid hnb; clear hnb
                have HBL := Lib.hid hbl; clear hbl
                go_wp2_with (go_at_call 82; refine (ContainsAny_bl x _ (by omega)).mono ?_; rintro e w1 ⟨rfl, hb1⟩; rw [HBL.out])
                go_ret
                exact chkR_of (by rw [chk_hit HNE.out (by omega) hlt HN.out (by rw [atC_name HX.out HB.out]; decide), atC_name HX.out HB.out]) (hbw.trans (hb1.mono hbw.size))
        · go_wp2_with fail
          go_ret
          exact chkR_of (by rw [chk_ok HNE.out (by omega) (fun i hi => HN.out i (by omega))]) hbw
  · have e : chk names E = 9 := by unfold chk; rw [if_pos hne]
    rw [e]
    have hb : ((names.length : Int) != (E.length : Int)) = true := by simp; omega
    clear hne e
    go_enter Tryz.func55, Tryz.ntmps55
    go_wp2
    go_ret
    exact chkR_of rfl ((Below.refl _ _).alloc (Nat.le_refl _) _)
end Go.Proofs.YtpkjdnplmgfbbaaGreatDoor
