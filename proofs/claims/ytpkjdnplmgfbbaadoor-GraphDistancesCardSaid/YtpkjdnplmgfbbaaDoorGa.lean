/- First walks over graphs: has, isName, Light. -/
import Derived.Test.YtpkjdnplmgfbbaaDoorGm
import Derived.Lib.IndexAny
namespace Go.Proofs.YtpkjdnplmgfbbaaDoor
open Go.RowKit

def hasB (n : Nat) (x : Int) : Bool := decide (0 ≤ x ∧ x < n)

/-- The reference's Has. -/
theorem rHas_any {w : World} {v : Value} {names : List ByteArray} {E : List (List Int)} (h : GrV w v names E) (x : Int) :
    Calls Tryd.prog 18 #[v, .int .i64 x] w fun e w' => e = .returned (.bool (hasB names.length x)) ∧ Below w.heap.size w w' := by
  obtain ⟨A, c, A', c', rfl, hs, hg⟩ := h
  have hr := hs.room
  unfold maxLen at hr
  by_cases h0 : 0 ≤ x
  · by_cases h1 : x < names.length
    · have e : hasB names.length x = true := by unfold hasB; simp [h0, h1]
      rw [e]
      go_enter Tryd.func18, Tryd.ntmps18
      go_wp2
      go_ret
      exact ⟨rfl, (Below.refl _ _).alloc (Nat.le_refl _) _⟩
    · have e : hasB names.length x = false := by unfold hasB; simp; omega
      rw [e]
      have hd : decide (x < (names.length : Int)) = false := by simpa using h1
      go_enter Tryd.func18, Tryd.ntmps18
      go_wp2
      go_ret
      exact ⟨rfl, (Below.refl _ _).alloc (Nat.le_refl _) _⟩
  · have e : hasB names.length x = false := by unfold hasB; simp; omega
    rw [e]
    have hd : decide (0 ≤ x) = false := by simpa using h0
    go_enter Tryd.func18, Tryd.ntmps18
    go_wp2
    go_ret
    exact ⟨rfl, (Below.refl _ _).alloc (Nat.le_refl _) _⟩
/-- graph.has. -/
theorem has_any {w : World} {v : Value} {names : List ByteArray} {E : List (List Int)} (h : GrV w v names E) (x : Int) :
    Calls Tryd.prog 57 #[v, .int .i64 x] w fun e w' => e = .returned (.bool (hasB names.length x)) ∧ Below w.heap.size w w' := by
  obtain ⟨A, c, A', c', rfl, hs, hg⟩ := h
  have hr := hs.room
  unfold maxLen at hr
  by_cases h0 : 0 ≤ x
  · by_cases h1 : x < names.length
    · have e : hasB names.length x = true := by unfold hasB; simp [h0, h1]
      rw [e]
      go_enter Tryd.func57, Tryd.ntmps57
      go_wp2
      go_ret
      exact ⟨rfl, (Below.refl _ _).alloc (Nat.le_refl _) _⟩
    · have e : hasB names.length x = false := by unfold hasB; simp; omega
      rw [e]
      have hd : decide (x < (names.length : Int)) = false := by simpa using h1
      go_enter Tryd.func57, Tryd.ntmps57
      go_wp2
      go_ret
      exact ⟨rfl, (Below.refl _ _).alloc (Nat.le_refl _) _⟩
  · have e : hasB names.length x = false := by unfold hasB; simp; omega
    rw [e]
    have hd : decide (0 ≤ x) = false := by simpa using h0
    go_enter Tryd.func57, Tryd.ntmps57
    go_wp2
    go_ret
    exact ⟨rfl, (Below.refl _ _).alloc (Nat.le_refl _) _⟩

def LightP (names : List ByteArray) (E : List (List Int)) : Prop :=
  (names.length ≤ 9 ∨ 2500 < names.length) ∧ names.length ≤ 2600 ∧ E.length ≤ 2600 ∧ (∀ s ∈ names, s.size ≤ 60) ∧ ∀ l ∈ E, (l.length ≤ 30 ∨ 400 < l.length) ∧ l.length ≤ 450
def LightR (names : List ByteArray) (E : List (List Int)) (w : World) (e : Ending) (w' : World) : Prop :=
  ∃ b : Bool, e = .returned (.bool b) ∧ (b = true → LightP names E) ∧ Below w.heap.size w w'

theorem mem_getElem {α : Type} {l : List α} {x : α} (h : x ∈ l) : ∃ i : Nat, i < l.length ∧ l[i]? = some x := by
  obtain ⟨i, hi⟩ := List.getElem?_of_mem h
  refine ⟨i, ?_, hi⟩
  rcases Nat.lt_or_ge i l.length with h1 | h1
  · exact h1
  · rw [List.getElem?_eq_none h1] at hi; cases hi

theorem isName_any {w : World} {s : ByteArray} (hs : s.size ≤ maxLen) : Calls Tryd.prog 59 #[.string s] w fun e w' => e = .returned (.bool (nameB s)) ∧ w = w' := by
  unfold maxLen at hs
  by_cases h0 : s.size = 0
  · have e : nameB s = false := nameB_false.2 fun h => h.1 h0
    rw [e]
    have hz : s.toList.isEmpty = true := by rw [Lib.toList_data, List.isEmpty_iff]; exact List.length_eq_zero_iff.1 (by rw [← Lib.size_eq]; exact h0)
    go_enter Tryd.func59, Tryd.ntmps59
    go_wp2
    go_ret
    exact ⟨rfl, rfl⟩
  · have hz : s.toList.isEmpty = false := by
      rw [Lib.toList_data]
      cases hl : s.data.toList with
      | nil => exact absurd (by rw [Lib.size_eq, hl]; rfl) h0
      | cons a t => rfl
    by_cases h1 : s.size ≤ 40
    · have hd : decide (40 < (s.size : Int)) = false := by simp; omega
      go_enter Tryd.func59, Tryd.ntmps59
      go_wp2
      go_loop [3] (fun i => ∃ k : Nat, k ≤ s.size ∧ i = .int .i64 k ∧ ∀ j b, j < k → s.data.toList[j]? = some b → b ≠ 32 ∧ b ≠ 10) (fun i => s.size - (intOf i).toNat)
      case atStart => exact ⟨0, Nat.zero_le _, rfl, fun j b hj => by omega⟩
      case round =>
        obtain ⟨k, hk, rfl, hno⟩ := hrel
        have HN := Lib.hid hno; clear hno
        by_cases hlt : k < s.size
        · obtain ⟨x, hx⟩ : ∃ x : UInt8, s[k]'hlt = x := ⟨_, rfl⟩
          have hxl : s.data.toList[k]? = some x := by rw [← hx]; exact Lib.data_getElem? s k hlt
          have HX := Lib.hid hxl; clear hxl
          by_cases h32 : x = 32
          · subst h32
            have e : nameB s = false := nameB_false.2 fun h => (h.2.2 32 (List.mem_of_getElem? HX.out)).1 rfl
            have HE := Lib.hid e; clear e
            go_wp2
            go_ret
            exact ⟨ret_bool HE.out.symm, rfl⟩
          · by_cases h10 : x = 10
            · subst h10
              have e : nameB s = false := nameB_false.2 fun h => (h.2.2 10 (List.mem_of_getElem? HX.out)).2 rfl
              have HE := Lib.hid e; clear e
              go_wp2
              go_ret
              exact ⟨ret_bool HE.out.symm, rfl⟩
            · have g1 : ((x.toNat : Int) == 32) = false := beq_eq_false_iff_ne.2 fun e => h32 (UInt8.toNat_inj.1 (by simp; omega))
              have g2 : ((x.toNat : Int) == 10) = false := beq_eq_false_iff_ne.2 fun e => h10 (UInt8.toNat_inj.1 (by simp; omega))
              have HH := Lib.hid (And.intro h32 h10); clear h32 h10
              go_wp2
              go_round
              case rel =>
                refine ⟨k + 1, by omega, by go_num, fun j b hj hb => ?_⟩
                rcases Nat.lt_or_ge j k with h2 | h2
                · exact HN.out j b h2 hb
                · obtain rfl : j = k := by omega
                  have := HX.out.symm.trans hb
                  cases this
                  exact HH.out
              case measure => simp [intOf]; omega
        · have e : nameB s = true := nameB_true.2 ⟨h0, h1, fun b hb => by
            obtain ⟨i, hi, hi2⟩ := mem_getElem hb
            rw [← Lib.size_eq] at hi
            exact HN.out i b (by omega) hi2⟩
          have HE := Lib.hid e; clear e
          go_wp2
          go_ret
          exact ⟨ret_bool HE.out.symm, rfl⟩
    · have e : nameB s = false := nameB_false.2 fun h => h1 h.2.1
      rw [e]
      have hd : decide (40 < (s.size : Int)) = true := by simp; omega
      go_enter Tryd.func59, Tryd.ntmps59
      go_wp2
      go_ret
      exact ⟨rfl, rfl⟩
theorem light_no {names : List ByteArray} {E : List (List Int)} {w w' : World} (hb : Below w.heap.size w w') : LightR names E w (.returned (.bool false)) w' := ⟨false, rfl, (fun h => by cases h), hb⟩

set_option maxHeartbeats 2000000 in
theorem Light_any {w : World} {v : Value} {names : List ByteArray} {E : List (List Int)} (h : GrV w v names E) :
    Calls Tryd.prog 12 #[v] w (LightR names E w) := by
  obtain ⟨A, c, A', c', rfl, hs, hg⟩ := h
  obtain ⟨hr1, hr2⟩ := hs.room
  obtain ⟨hr3, hr4⟩ := hg.room
  unfold maxLen at hr2 hr4
  by_cases ha : 9 < names.length ∧ names.length ≤ 2500
  · obtain ⟨ha1, ha2⟩ := ha
    go_enter Tryd.func12, Tryd.ntmps12
    go_wp2
    go_ret
    exact light_no ((Below.refl _ _).alloc (Nat.le_refl _) _)
  · by_cases hb : 2600 < names.length
    · have hd : decide (names.length ≤ 2500) = false := by simp; omega
      go_enter Tryd.func12, Tryd.ntmps12
      go_wp2
      go_ret
      exact light_no ((Below.refl _ _).alloc (Nat.le_refl _) _)
    · by_cases hc : 2600 < E.length
      · have hd : decide (2600 < names.length) = false := by simp; omega
        by_cases h9 : 9 < names.length
        all_goals
          go_enter Tryd.func12, Tryd.ntmps12
          go_wp2
          go_ret
          exact light_no ((Below.refl _ _).alloc (Nat.le_refl _) _)
      · have hn9 : names.length ≤ 9 ∨ 2500 < names.length := by omega
        have HN9 := Lib.hid hn9; clear hn9 ha
        have hlt1 : names.length ≤ 2600 := by omega
        have hlt2 : E.length ≤ 2600 := by omega
        obtain ⟨W, G, hW, hG, hbW, c0, c1, hGl, hwG⟩ := gbox w (.slice A names.length c) (.slice A' E.length c')
        have HW := Lib.hid hW
        have HG := Lib.hid hG
        clear hW hG
        replace hs := hs.below hbW
        replace hg := hg.below hbW
        rcases HN9.out with h9 | h9
        all_goals
          go_enter Tryd.func12, Tryd.ntmps12
          go_wp2
          rw [← HW.out, ← HG.out]
          clear h9
          go_loop [3] (fun i => ∃ k : Nat, k ≤ names.length ∧ i = .int .i64 k ∧ ∀ j s, j < k → names[j]? = some s → s.size ≤ 60) (fun i => names.length - (intOf i).toNat)
          case atStart => exact ⟨0, Nat.zero_le _, rfl, fun j s hj => by omega⟩
          case round =>
            obtain ⟨k, hk, rfl, hno⟩ := hrel
            have HN := Lib.hid hno; clear hno
            by_cases hlt : k < names.length
            · obtain ⟨b, off, rfl, hcell⟩ := hs.cell (by omega)
              obtain ⟨x, hx⟩ : ∃ x, names[k]? = some x := ⟨_, List.getElem?_eq_getElem hlt⟩
              have hcx := hcell k x hx
              have HX := Lib.hid hx
              clear hx hcell
              by_cases hsz : x.size ≤ 60
              · go_wp2
                go_round
                case rel =>
                  refine ⟨k + 1, by omega, by go_num, fun j s hj hs => ?_⟩
                  rcases Nat.lt_or_ge j k with h2 | h2
                  · exact HN.out j s h2 hs
                  · obtain rfl : j = k := by omega
                    have := HX.out.symm.trans hs
                    cases this
                    exact hsz
                case measure => simp [intOf]; omega
              · go_wp2
                go_ret
                exact light_no hbW
            · have hnm : ∀ s ∈ names, s.size ≤ 60 := fun s hs => by
                obtain ⟨i, hi, hi2⟩ := mem_getElem hs
                exact HN.out i s (by omega) hi2
              have HNM := Lib.hid hnm
              clear hnm HN
              go_wp2
              go_loop [4] (fun i => ∃ k : Nat, k ≤ E.length ∧ i = .int .i64 k ∧ ∀ j l, j < k → E[j]? = some l → (l.length ≤ 30 ∨ 400 < l.length) ∧ l.length ≤ 450) (fun i => E.length - (intOf i).toNat)
              case atStart => exact ⟨0, Nat.zero_le _, rfl, fun j s hj => by omega⟩
              case round =>
                obtain ⟨m, hm, rfl, hno⟩ := hrel
                have HN := Lib.hid hno; clear hno
                by_cases hlm : m < E.length
                · obtain ⟨b, off, rfl, hcell⟩ := hg.cell (by omega)
                  obtain ⟨x, hx⟩ : ∃ x, E[m]? = some x := ⟨_, List.getElem?_eq_getElem hlm⟩
                  obtain ⟨B, d, hcx, hil⟩ := hcell m x hx
                  have hxr := hil.room
                  unfold maxLen at hxr
                  have HX := Lib.hid hx
                  clear hx hcell
                  by_cases hok : (x.length ≤ 30 ∨ 400 < x.length) ∧ x.length ≤ 450
                  · have HOK := Lib.hid hok
                    rcases hok with ⟨hok1 | hok1, hok2⟩
                    all_goals
                      go_wp2
                      go_round
                      case rel =>
                        refine ⟨m + 1, by omega, by go_num, fun j s hj hs => ?_⟩
                        rcases Nat.lt_or_ge j m with h2 | h2
                        · exact HN.out j s h2 hs
                        · obtain rfl : j = m := by omega
                          have := HX.out.symm.trans hs
                          cases this
                          exact HOK.out
                      case measure => simp [intOf]; omega
                  · have hok' : (30 < x.length ∧ x.length ≤ 400) ∨ 450 < x.length := by omega
                    clear hok
                    rcases hok' with hok1 | hok1
                    all_goals
                      go_wp2
                      go_ret
                      exact light_no hbW
                · have hrow : ∀ l ∈ E, (l.length ≤ 30 ∨ 400 < l.length) ∧ l.length ≤ 450 := fun l hl => by
                    obtain ⟨i, hi, hi2⟩ := mem_getElem hl
                    exact HN.out i l (by omega) hi2
                  have HROW := Lib.hid hrow
                  clear hrow HN
                  go_wp2
                  go_ret
                  exact ⟨true, rfl, fun _ => ⟨HN9.out, hlt1, hlt2, HNM.out, HROW.out⟩, hbW⟩
end Go.Proofs.YtpkjdnplmgfbbaaDoor
