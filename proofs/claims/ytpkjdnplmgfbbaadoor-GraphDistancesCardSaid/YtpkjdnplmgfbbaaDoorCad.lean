/- strings.ContainsAny of whatever text with a blank and a new line. -/
import Derived.Test.YtpkjdnplmgfbbaaDoorShelf
import Derived.Test.YtpkjdnplmgfbbaaDoorGrc
import Derived.Lib.OthersKept
import Derived.Laws.RangeAny
namespace Go.Proofs.YtpkjdnplmgfbbaaDoor
open Go.RowKit Go.Lib

theorem get_bang (s : ByteArray) (pos : Nat) (h : pos < s.size) : s.get! pos = s[pos]'h := by
  have := get_at s pos h
  simpa using this

/-- What a byte that is no ASCII byte begins has no ASCII byte in it. -/
theorem decode_skip (s : ByteArray) (pos : Nat) (h : pos < s.size) (ha : 128 ≤ (s[pos]'h).toNat) : ∀ k, k < (Utf8.decode s pos).2 → ∃ hk : pos + k < s.size, 128 ≤ (s[pos + k]'hk).toNat := by
  have hn : ¬ (s[pos]'h).toNat < 128 := by omega
  have hc : ∀ k, (decide (pos + k < s.size) && (s.get! (pos + k)).toNat / 64 == 2) = true → ∃ hk : pos + k < s.size, 128 ≤ (s[pos + k]'hk).toNat := by
    intro k hk
    simp only [Bool.and_eq_true, decide_eq_true_eq, beq_iff_eq] at hk
    refine ⟨hk.1, ?_⟩
    rw [get_bang s _ hk.1] at hk
    omega
  have h0 : ∃ hk : pos + 0 < s.size, 128 ≤ (s[pos + 0]'hk).toNat := ⟨h, ha⟩
  simp only [Utf8.decode, get_at s pos h, hn, if_false]
  intro k hk
  split at hk
  · rename_i h1
    simp only [Bool.and_eq_true] at h1
    split at hk
    · have : k = 0 ∨ k = 1 := by simp at hk; omega
      rcases this with rfl | rfl
      · exact h0
      · exact hc 1 (by simp; exact ⟨by simpa using h1.2.1, by simpa using h1.2.2⟩)
    · have : k = 0 := by simp at hk; omega
      subst this; exact h0
  · split at hk
    · rename_i h1
      simp only [Bool.and_eq_true] at h1
      split at hk
      · have : k = 0 ∨ k = 1 ∨ k = 2 := by simp at hk; omega
        rcases this with rfl | rfl | rfl
        · exact h0
        · exact hc 1 (by simp; exact ⟨by simpa using h1.1.2.1, by simpa using h1.1.2.2⟩)
        · exact hc 2 (by simp; exact ⟨by simpa using h1.2.1, by simpa using h1.2.2⟩)
      · have : k = 0 := by simp at hk; omega
        subst this; exact h0
    · split at hk
      · rename_i h1
        simp only [Bool.and_eq_true] at h1
        split at hk
        · have : k = 0 ∨ k = 1 ∨ k = 2 ∨ k = 3 := by simp at hk; omega
          rcases this with rfl | rfl | rfl | rfl
          · exact h0
          · exact hc 1 (by simp; exact ⟨by simpa using h1.1.1.2.1, by simpa using h1.1.1.2.2⟩)
          · exact hc 2 (by simp; exact ⟨by simpa using h1.1.2.1, by simpa using h1.1.2.2⟩)
          · exact hc 3 (by simp; exact ⟨by simpa using h1.2.1, by simpa using h1.2.2⟩)
        · have : k = 0 := by simp at hk; omega
          subst this; exact h0
      · have : k = 0 := by simp at hk; omega
        subst this; exact h0

theorem decode_valid (s : ByteArray) (pos : Nat) (h : pos < s.size) (ha : 128 ≤ (s[pos]'h).toNat) : Utf8.valid ((Utf8.decode s pos).1 : Nat) = true := by
  have hn : ¬ (s[pos]'h).toNat < 128 := by omega
  have hb : ∀ k, (s.get! (pos + k)).toNat < 256 := fun k => (s.get! (pos + k)).toNat_lt
  have h1 := hb 1
  have h0 : (s[pos]'h).toNat < 256 := (s[pos]'h).toNat_lt
  simp only [Utf8.decode, get_at s pos h, hn, if_false]
  split
  · split
    · simp [Utf8.valid]; omega
    · decide
  · split
    · split
      · rename_i h2; simp only [Bool.and_eq_true] at h2; exact h2.2
      · decide
    · split
      · split
        · rename_i h2; simp only [Bool.and_eq_true] at h2; exact h2.2
        · decide
      · decide

def blanks : ByteArray := ⟨#[32, 10]⟩

set_option maxHeartbeats 1000000 in
set_option maxRecDepth 1000000 in
theorem IndexRune_err (w : World) : Calls Tryd.prog 133 #[.string ⟨#[32, 10]⟩, .int .i32 65533] w fun e w' => e = .returned (.int .i64 (-1)) ∧ Below w.heap.size w w' := by
  have n0 := fun ty => run_next_ascii (P := Tryd.prog) w ⟨#[32, 10]⟩ 0 ty (by decide) (by decide)
  have n1 := fun ty => run_next_ascii (P := Tryd.prog) w ⟨#[32, 10]⟩ 1 ty (by decide) (by decide)
  have n2 := fun ty => run_next_end (P := Tryd.prog) w ⟨#[32, 10]⟩ 2 ty (by decide)
  go_enter Tryd.func133, Tryd.ntmps133
  go_wp2_with fail
  go_loopg [5, 6] 2 (fun g _ _ wx => ∃ i : Nat, i + g = 2 ∧ wx = w.iter ⟨#[32, 10]⟩ i)
  case atStart => exact ⟨0, by omega, rfl⟩
  case round =>
    obtain ⟨i, hig, rfl⟩ := hrel
    have : gk = 0 ∨ gk = 1 ∨ gk = 2 := by omega
    rcases this with rfl | rfl | rfl
    · obtain rfl : i = 2 := by omega
      go_wp2_with fail
      go_ret
      exact ⟨rfl, (Below.refl _ _).alloc (Nat.le_refl _) _⟩
    · obtain rfl : i = 1 := by omega
      go_wp2_with fail
      go_roundg 0
      case measure => omega
      case rel => exact ⟨2, by omega, rfl⟩
    · obtain rfl : i = 0 := by omega
      go_wp2_with fail
      go_roundg 1
      case measure => omega
      case rel => exact ⟨1, by omega, rfl⟩

theorem encode_two {r : Int} (h1 : 128 ≤ r) (h2 : Utf8.valid r = true) (h3 : r < 2048) : ∃ a b : UInt8, Utf8.encode r = ⟨#[a, b]⟩ ∧ 128 ≤ b.toNat := by
  have hc : ¬ r.toNat < 128 := by omega
  have hc2 : r.toNat < 2048 := by omega
  refine ⟨_, _, by simp only [Utf8.encode, h2, if_true, hc, hc2, if_false]; rfl, ?_⟩
  simp [UInt8.toNat_ofNat']
  omega
theorem encode_more {r : Int} (h2 : Utf8.valid r = true) (h3 : 2048 ≤ r) : 3 ≤ (Utf8.encode r).size ∧ (Utf8.encode r).size ≤ 4 := by
  have hc : ¬ r.toNat < 128 := by omega
  have hc2 : ¬ r.toNat < 2048 := by omega
  simp only [Utf8.encode, h2, if_true, hc, hc2, if_false]
  split
  · exact ⟨Nat.le_refl 3, Nat.le_succ 3⟩
  · exact ⟨Nat.le_succ 3, Nat.le_refl 4⟩

set_option maxHeartbeats 2000000 in
set_option maxRecDepth 1000000 in
theorem IndexRune_two (r : Int) (w : World) (h1 : 128 ≤ r) (h2 : Utf8.valid r = true) (h3 : r < 2048) : Calls Tryd.prog 133 #[.string ⟨#[32, 10]⟩, .int .i32 r] w fun e w' => e = .returned (.int .i64 (-1)) ∧ Below w.heap.size w w' := by
  obtain ⟨a, b, he, hb⟩ := encode_two h1 h2 h3
  have hv : Lib.validRune r = true := by
    have := h2
    simp [Utf8.valid] at this
    simp [Lib.validRune]
    omega
  have HV := Lib.hid hv
  have h5 : (r == 65533) = false := beq_eq_false_iff_ne.2 (by omega)
  have h6 : decide (r < 128) = false := by simp; omega
  have h7 : decide (0 ≤ r) = true := by simp; omega
  clear hv h2
  go_enter Tryd.func133, Tryd.ntmps133
  go_wp2_with (go_at_call 146; refine (Tryd.utf8_ValidRune _ _).mono ?_; rintro e w' ⟨rfl, hw⟩; rw [hw, HV.out])
  go_step3
  go_wp2_with fail
  have hne : ((((⟨#[32, 10]⟩ : ByteArray)[1]'(by decide)).toNat : Int) != (((⟨#[a, b]⟩ : ByteArray)[1]'(by exact Nat.lt_succ_self 1)).toNat : Int)) = true := by
    show ((10 : Int) != (b.toNat : Int)) = true
    rw [bne_iff_ne]; omega
  have hbn : b.toNat < 256 := b.toNat_lt
  refine wp_loop_rounds 1 ?_
  rw [rounds_succ]
  go_wp2_with fail
  go_step3
  go_wp2_with fail
  go_quiet (fail)
  go_wp2_with fail
  have hq1 : Below w.heap.size w (w.drewN nq) := below_drewN' (Below.refl _ _) _
  generalize w.drewN nq = w2 at *
  have hsl : ∀ w, (Instr.slice 9 (.string ⟨#[32, 10]⟩) (some (.int .i64 2)) none none).run Tryd.prog w = .ok (.string ⟨#[]⟩) w := fun _ => by kernel_rfl
  have hwr : IntKind.i64.wrap 2 = 2 := by decide
  go_still_tail 7, (by kernel_rfl)
  have hq2 : Below w.heap.size w w2.drew := hq1.drew
  change wpList _ _ _ _ _ w2.drew
  generalize w2.drew = w3 at *
  go_wp2_with (go_at_call 145; refine (Tryd.strings_IndexByte _ _ _).mono ?_; rintro e w' ⟨rfl, hw⟩; rw [hw])
  go_simp
  go_ret
  exact ⟨rfl, hq2⟩

set_option maxHeartbeats 2000000 in
set_option maxRecDepth 1000000 in
theorem IndexRune_more (r : Int) (w : World) (h2 : Utf8.valid r = true) (h3 : 2048 ≤ r) (hr : r ≠ 65533) : Calls Tryd.prog 133 #[.string ⟨#[32, 10]⟩, .int .i32 r] w fun e w' => e = .returned (.int .i64 (-1)) ∧ Below w.heap.size w w' := by
  obtain ⟨hs1, hs2⟩ := encode_more h2 h3
  have hv : Lib.validRune r = true := by
    have := h2
    simp [Utf8.valid] at this
    simp [Lib.validRune]
    omega
  have HV := Lib.hid hv
  have h5 : (r == 65533) = false := beq_eq_false_iff_ne.2 hr
  have h6 : decide (r < 128) = false := by simp; omega
  have h7 : decide (0 ≤ r) = true := by simp; omega
  clear hv h2
  generalize hg : Utf8.encode r = rs at *
  have HG := Lib.hid hg
  go_enter Tryd.func133, Tryd.ntmps133
  go_wp2_with (go_at_call 146; refine (Tryd.utf8_ValidRune _ _).mono ?_; rintro e w' ⟨rfl, hw⟩; rw [hw, HV.out])
  go_step3
  go_wp2_with fail
  refine wp_loop_rounds 1 ?_
  rw [rounds_succ]
  go_wp2_with fail
  go_simp
  go_ret
  exact ⟨rfl, Below.refl _ _⟩

theorem IndexRune_hi (r : Int) (w : World) (h1 : 128 ≤ r) (h2 : Utf8.valid r = true) : Calls Tryd.prog 133 #[.string ⟨#[32, 10]⟩, .int .i32 r] w fun e w' => e = .returned (.int .i64 (-1)) ∧ Below w.heap.size w w' := by
  by_cases hr : r = 65533
  · subst hr; exact IndexRune_err w
  · by_cases h3 : r < 2048
    · exact IndexRune_two r w h1 h2 h3
    · exact IndexRune_more r w h2 (by omega) hr

/-- Some byte is a blank or a new line. -/
def hasBl (s : ByteArray) : Prop := ∃ b ∈ s.data.toList, b = 32 ∨ b = 10
noncomputable def blB (s : ByteArray) : Bool := @decide (hasBl s) (Classical.propDecidable _)
theorem blB_true {s : ByteArray} : blB s = true ↔ hasBl s := by unfold blB; exact @decide_eq_true_iff _ (Classical.propDecidable _)
theorem blB_false {s : ByteArray} : blB s = false ↔ ¬ hasBl s := by unfold blB; exact @decide_eq_false_iff_not _ (Classical.propDecidable _)

theorem indexByte_blanks (x : UInt8) : (x = 32 ∨ x = 10) ∧ 0 ≤ Lib.indexByte [32, 10] x ∨ (¬ (x = 32 ∨ x = 10)) ∧ Lib.indexByte [32, 10] x < 0 := by
  by_cases h : x = 32
  · subst h; exact .inl ⟨.inl rfl, by decide⟩
  · by_cases h' : x = 10
    · subst h'; exact .inl ⟨.inr rfl, by decide⟩
    · refine .inr ⟨by simp [h, h'], ?_⟩
      have e := Lib.contains_iff_indexByte [32, 10] x
      have e2 : ([32, 10] : List UInt8).contains x = false := by simp [h, h']
      rw [e2] at e
      have := of_decide_eq_false e.symm
      omega

set_option maxHeartbeats 2000000 in
set_option maxRecDepth 1000000 in
theorem IndexAny_small (s : ByteArray) (w : World) (h8 : s.size ≤ 8) :
    Calls Tryd.prog 118 #[.string s, .string ⟨#[32, 10]⟩] w fun e w' => (∃ i : Int, e = .returned (.int .i64 i) ∧ decide (0 ≤ i) = blB s) ∧ Below w.heap.size w w' := by
  have h8z : decide ((8 : Int) < (s.size : Int)) = false := decide_eq_false (by omega)
  go_enter Tryd.func118, Tryd.ntmps118
  go_wp2_with (go_at_call 134; refine (Tryd.strings_shouldUseASCIISet _ _).mono ?_; rintro e w' ⟨rfl, hw⟩; rw [hw, h8z])
  obtain ⟨K, hK⟩ : ∃ K, K = w.heap.size := ⟨_, rfl⟩
  have hi0 : (w.iter s 0).heap[K]? = some (.stringIter s 0) := by rw [hK]; exact World.iter_heap w s 0
  have hb0 : Below K w (w.iter s 0) := by rw [hK]; exact (Below.refl _ _).alloc (Nat.le_refl _) _
  rw [← hK]
  have HK := Lib.hid hK
  clear hK
  generalize w.iter s 0 = W0 at *
  have HI0 := Lib.hid hi0; clear hi0
  go_loopg [9, 10] s.size (fun g _ _ wx => ∃ i : Nat, i + g = s.size ∧ wx.heap[K]? = some (.stringIter s i) ∧ Below K w wx ∧ ∀ j b, j < i → s.data.toList[j]? = some b → b ≠ 32 ∧ b ≠ 10)
  case atStart => exact ⟨0, by omega, HI0.out, hb0, fun j b hj => by omega⟩
  case round =>
    obtain ⟨i, hig, hit, hbw, hno⟩ := hrel
    have HN := Lib.hid hno; clear hno
    by_cases hlt : i < s.size
    · obtain ⟨x, hx⟩ : ∃ x : UInt8, s[i]'hlt = x := ⟨_, rfl⟩
      have hxl : s.data.toList[i]? = some x := by rw [← hx]; exact Lib.data_getElem? s i hlt
      have HX := Lib.hid hxl; clear hxl
      by_cases h128 : x.toNat < 128
      · have hnx := fun ty => run_next_ascii_at (P := Tryd.prog) wr K s i ty hit hlt (by rw [hx]; exact h128)
        rw [hx] at hnx
        have hb1 := below_iterAt (w := wr) hbw (Nat.le_refl K) s (i + 1)
        have hit1 := iterAt_heap wr K s i (i + 1) hit
        have HIT := Lib.hid hit1
        clear hit1 hit hx
        generalize wr.iterAt K s (i + 1) = w1 at *
        have hback : ((x.toNat : Int)).toNat.toUInt8 = x := by simp
        rcases indexByte_blanks x with ⟨hx1, hx2⟩ | ⟨hx1, hx2⟩
        · have hbl : blB s = true := blB_true.2 ⟨x, List.mem_of_getElem? HX.out, hx1⟩
          have HBL := Lib.hid hbl; clear hbl hx1
          go_wp2_with (go_at_call 133; refine (Tryd.strings_IndexRune_ascii _ _ _ (by omega) (by omega)).mono ?_; rintro e w' ⟨rfl, hw⟩; rw [hw, hback])
          go_ret
          exact ⟨⟨_, rfl, by rw [HBL.out]; simp⟩, HK.out ▸ hb1⟩
        · have hx3 : ¬ (0 ≤ Lib.indexByte [32, 10] x) := by omega
          have HX1 := Lib.hid hx1; clear hx1
          go_wp2_with (go_at_call 133; refine (Tryd.strings_IndexRune_ascii _ _ _ (by omega) (by omega)).mono ?_; rintro e w' ⟨rfl, hw⟩; rw [hw, hback])
          go_roundg (s.size - (i + 1))
          case measure => omega
          case rel =>
            refine ⟨i + 1, by omega, HIT.out, hb1, fun j b hj hjb => ?_⟩
            rcases Nat.lt_or_ge j i with h2 | h2
            · exact HN.out j b h2 hjb
            · obtain rfl : j = i := by omega
              have := HX.out.symm.trans hjb
              cases this
              have := HX1.out
              exact ⟨fun e => this (.inl e), fun e => this (.inr e)⟩
      · have hnx := fun ty => run_next_any_at (P := Tryd.prog) wr K s i ty hit hlt
        have hsk := decode_skip s i hlt (by rw [hx]; omega)
        have hvl := decode_valid s i hlt (by rw [hx]; omega)
        have hhi := decode_high s i hlt (by rw [hx]; omega)
        have hle := decode_le s i
        generalize Utf8.decode s i = d at *
        obtain ⟨r, n⟩ := d
        simp only at hnx hsk hvl hhi hle
        have hb1 := below_iterAt (w := wr) hbw (Nat.le_refl K) s (i + n)
        have hit1 := iterAt_heap wr K s i (i + n) hit
        have HIT := Lib.hid hit1
        have HSK := Lib.hid hsk
        have HVL := Lib.hid hvl
        have hin : i + n ≤ s.size := by
          obtain ⟨h3, _⟩ := hsk (n - 1) (by omega)
          omega
        clear hit1 hit hx hsk hvl
        generalize wr.iterAt K s (i + n) = w1 at *
        go_wp2_with (go_at_call 133; refine (IndexRune_hi _ _ (by omega) HVL.out).mono ?_; rintro e w2 ⟨rfl, hb2⟩)
        have hb3 := hb1.trans (hb2.mono (Nat.le_of_lt (Array.getElem?_eq_some_iff.1 HIT.out).1))
        have hit2 : w2.heap[K]? = _ := (hb2.block K (Array.getElem?_eq_some_iff.1 HIT.out).1).trans HIT.out
        have HIT2 := Lib.hid hit2; clear hit2
        go_roundg (s.size - (i + n))
        case measure => omega
        case rel =>
          refine ⟨i + n, by omega, HIT2.out, hb3, fun j b hj hjb => ?_⟩
          rcases Nat.lt_or_ge j i with h2 | h2
          · exact HN.out j b h2 hjb
          · obtain ⟨h4, h5⟩ := HSK.out (j - i) (by omega)
            have e1 : i + (j - i) = j := by omega
            simp only [e1] at h4 h5
            have h6 := Lib.data_getElem? s j h4
            rw [hjb] at h6
            injection h6 with h6
            rw [← h6] at h5
            constructor
            · rintro rfl; simp at h5
            · rintro rfl; simp at h5
    · obtain rfl : i = s.size := by omega
      have hnx := fun ty => run_next_end_at (P := Tryd.prog) wr K s s.size ty hit hlt
      have hbl : blB s = false := blB_false.2 fun ⟨b, hb, h⟩ => by
        obtain ⟨j, hj, hj2⟩ := mem_getElem hb
        rw [← Lib.size_eq] at hj
        have := HN.out j b hj hj2
        rcases h with h | h
        · exact this.1 h
        · exact this.2 h
      have HBL := Lib.hid hbl; clear hbl hit
      go_wp2_with fail
      go_ret
      exact ⟨⟨_, rfl, by rw [HBL.out]; decide⟩, HK.out ▸ hbw⟩

theorem indexAny_bl (s : ByteArray) : decide (0 ≤ Lib.indexAny s.data.toList [32, 10]) = blB s := by
  have h : ∀ l : List UInt8, (0 ≤ Lib.indexAny l [32, 10] ↔ ∃ b ∈ l, b = 32 ∨ b = 10) := by
    intro l
    induction l with
    | nil => simp [Lib.indexAny]
    | cons x r ih =>
      have hg := Lib.indexAny_ge [32, 10] r
      by_cases hx : x = 32 ∨ x = 10
      · have hc : ([32, 10] : List UInt8).contains x = true := by simp; exact hx
        simp only [Lib.indexAny, hc, if_true]
        exact ⟨fun _ => ⟨x, by simp, hx⟩, fun _ => by omega⟩
      · have hc : ([32, 10] : List UInt8).contains x = false := by simpa using hx
        have e : (∃ b ∈ x :: r, b = 32 ∨ b = 10) ↔ ∃ b ∈ r, b = 32 ∨ b = 10 := by
          constructor
          · rintro ⟨b, hb, hb2⟩
            rcases List.mem_cons.1 hb with rfl | hb
            · exact absurd hb2 hx
            · exact ⟨b, hb, hb2⟩
          · rintro ⟨b, hb, hb2⟩; exact ⟨b, by simp [hb], hb2⟩
        rw [e, ← ih]
        simp only [Lib.indexAny, hc]
        simp
        split <;> omega
  cases hb : blB s
  · exact decide_eq_false fun h0 => blB_false.1 hb ((h _).1 h0)
  · exact decide_eq_true ((h _).2 (blB_true.1 hb))

theorem zero256 (w : World) : (zeroValue 156).run Tryd.prog w = .ok (.agg (Array.replicate 256 (.bool false))) w := by kernel_rfl

theorem IndexAny_bl (s : ByteArray) (w : World) (hs : s.size < 4294967281) :
    Calls Tryd.prog 118 #[.string s, .string ⟨#[32, 10]⟩] w fun e w' => (∃ i : Int, e = .returned (.int .i64 i) ∧ decide (0 ≤ i) = blB s) ∧ Below w.heap.size w w' := by
  by_cases h8 : s.size ≤ 8
  · exact IndexAny_small s w h8
  · refine (Tryd.strings_IndexAny_long zero256 s ⟨#[32, 10]⟩ w (by decide) (by omega) hs (by decide) ?_).mono ?_
    · intro j b hb
      have : b ∈ ([32, 10] : List UInt8) := List.mem_of_getElem? hb
      simp at this
      rcases this with rfl | rfl <;> decide
    · rintro e w' ⟨rfl, rfl⟩
      exact ⟨⟨_, rfl, indexAny_bl s⟩, ((Below.refl _ _).alloc (Nat.le_refl _) _).alloc (by simp) _⟩

theorem ContainsAny_bl (s : ByteArray) (w : World) (hs : s.size < 4294967281) :
    Calls Tryd.prog 75 #[.string s, .string ⟨#[32, 10]⟩] w fun e w' => e = .returned (.bool (blB s)) ∧ Below w.heap.size w w' := by
  go_enter Tryd.func75, Tryd.ntmps75
  go_wp2_with (go_at_call 118; refine (IndexAny_bl s _ hs).mono ?_; rintro e w' ⟨⟨i, rfl, hi⟩, hb⟩; have HI := Lib.hid hi; clear hi)
  go_ret
  exact ⟨ret_bool HI.out, hb⟩
end Go.Proofs.YtpkjdnplmgfbbaaDoor
