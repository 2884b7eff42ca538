/- The reference's polynomials: changes, Less. -/
import Derived.Test.YtdmdagilopckgaaGreatMxb
import Derived.Test.YtdmdagilopckgaaGreatChg
import Derived.Test.YtdmdagilopckgaaGreatB4
import Derived.IntWalk
namespace Go.Proofs.YtdmdagilopckgaaGreat
open Go.RowKit

/-- An int. -/
def Iv (_ : World) (_ : Nat → Prop) (v : Value) (x : Int) : Prop := v = .int .i64 x
instance : Foot Iv where
  keep := fun h _ => h
  mono := fun h _ => h
  one := fun h => by rw [show _ = _ from h]; rfl

theorem lsg_one {l : List Int} (h : ∀ x ∈ l, x.natAbs ≤ 1) : ∀ {last : Int}, last.natAbs ≤ 1 → (lsg last l).natAbs ≤ 1 := by
  induction l with
  | nil => exact fun h => h
  | cons y r ih =>
    intro last hl
    rw [lsg]
    refine ih (fun x hx => h x (List.mem_cons_of_mem _ hx)) ?_
    split
    · exact h y (List.mem_cons_self ..)
    · exact hl
theorem chc_bd (l : List Int) : ∀ last : Int, 0 ≤ chc last l ∧ chc last l ≤ l.length := by
  induction l with
  | nil => intro last; simp [chc]
  | cons y r ih =>
    intro last
    rw [chc, List.length_cons]
    split
    · have := ih y
      split <;> omega
    · have := ih last
      omega

set_option maxRecDepth 100000 in
set_option maxHeartbeats 4000000 in
theorem qChanges_any {A : Option Addr} {n c : Nat} {L : List Int} {w : World} (h : RowsD Iv w (fun _ => True) (.slice A n c) L) (hn : n ≤ 1000) (hs : ∀ x ∈ L, x.natAbs ≤ 1) :
    Calls Tryz.prog 42 #[.slice A n c] w fun e w' => e = .returned (.int .i64 (chc 0 L)) ∧ w = w' := by
  have hr := h.room
  unfold maxLen at hr
  obtain ⟨hl, hc, hm⟩ := hr
  have HL := Lib.hid hl
  have HS := Lib.hid hs
  have HH := Lib.hid h
  clear h hs hl
  go_enter Tryz.func42, Tryz.ntmps42
  go_wp2_with fail
  go_loopw [3, 4, 5] (fun nv lv iv wr => ∃ k : Nat, iv = .int .i64 k ∧ k ≤ n ∧ lv = .int .i64 (lsg 0 (L.take k)) ∧ nv = .int .i64 (chc 0 (L.take k)) ∧ w = wr) (fun _ _ iv _ => n - (intOf iv).toNat)
  case atStart => exact ⟨0, rfl, by omega, rfl, rfl, rfl⟩
  case round =>
    obtain ⟨k, rfl, hk, rfl, rfl, rfl⟩ := hrel
    rcases Nat.lt_or_ge k n with hkn | hkn
    · obtain ⟨s, hsk⟩ : ∃ s, L[k]? = some s := ⟨_, List.getElem?_eq_getElem (by rw [← HL.out]; exact hkn)⟩
      obtain ⟨b, off, u, rfl, hu, hw⟩ := HH.out.at hsk
      obtain rfl : u = .int .i64 s := hw
      have HT := Lib.hid (show L.take (k + 1) = L.take k ++ [s] by rw [List.take_add_one, hsk]; rfl)
      have hs1 := HS.out s (List.mem_of_getElem? hsk)
      have hl1 := lsg_one (l := L.take k) (fun x hx => HS.out x (List.mem_of_mem_take hx)) (last := 0) (by decide)
      obtain ⟨hb1, hb2⟩ := chc_bd (L.take k) 0
      have hb3 : (L.take k).length ≤ k := by rw [List.length_take]; omega
      have HN1 := Lib.hid (lsg_snoc 0 (L.take k) s)
      have HN2 := Lib.hid (chc_snoc 0 (L.take k) s)
      rw [← HT.out] at HN1 HN2
      clear hsk HT
      generalize lsg 0 (L.take k) = last at *
      generalize chc 0 (L.take k) = cn at *
      by_cases h0 : s = 0
      · have z1 : (s != 0) = false := by simpa using h0
        have E1 := Lib.hid (show lsg 0 (L.take (k + 1)) = last by rw [HN1.out, if_neg (by simpa using h0)])
        have E2 := Lib.hid (show chc 0 (L.take (k + 1)) = cn by rw [HN2.out, if_neg (by simpa using h0)]; omega)
        clear h0 HN1 HN2
        go_wp2_with fail
        go_roundw
        case rel => exact ⟨k + 1, by go_num, by omega, by rw [E1.out], by rw [E2.out], trivial⟩
        case measure => simp [intOf]; omega
      · have z1 : (s != 0) = true := by simpa using h0
        have E1 := Lib.hid (show lsg 0 (L.take (k + 1)) = s by rw [HN1.out, if_pos h0])
        by_cases h2 : last = 0
        · have z2 : (last != 0) = false := by simpa using h2
          have E2 := Lib.hid (show chc 0 (L.take (k + 1)) = cn by rw [HN2.out, if_pos h0, if_neg (by omega)]; omega)
          clear h0 h2 HN1 HN2
          go_wp2_with fail
          go_roundw
          case rel => exact ⟨k + 1, by go_num, by omega, by rw [E1.out], by rw [E2.out], trivial⟩
          case measure => simp [intOf]; omega
        · have z2 : (last != 0) = true := by simpa using h2
          by_cases h3 : last = s
          · have z3 : (last != s) = false := by simpa using h3
            have E2 := Lib.hid (show chc 0 (L.take (k + 1)) = cn by rw [HN2.out, if_pos h0, if_neg (by omega)]; omega)
            clear h0 h2 h3 HN1 HN2
            go_wp2_with fail
            go_roundw
            case rel => exact ⟨k + 1, by go_num, by omega, by rw [E1.out], by rw [E2.out], trivial⟩
            case measure => simp [intOf]; omega
          · have z3 : (last != s) = true := by simpa using h3
            have E2 := Lib.hid (show chc 0 (L.take (k + 1)) = cn + 1 by rw [HN2.out, if_pos h0, if_pos (by omega)])
            clear h0 h2 h3 HN1 HN2
            go_wp2_with fail
            go_roundw
            case rel => exact ⟨k + 1, by go_num, by omega, by rw [E1.out], by rw [E2.out], trivial⟩
            case measure => simp [intOf]; omega
    · obtain rfl : k = n := by omega
      have HT := Lib.hid (List.take_of_length_le (Nat.le_of_eq HL.out.symm))
      rw [HT.out]
      go_wp2_with fail
      go_ret
      exact ⟨rfl, rfl⟩

theorem qLess_any {a b c d : Int} {w : World} (ha : a.natAbs ≤ 1000000000) (hb : b.natAbs ≤ 1000000000) (hc : c.natAbs ≤ 1000000000) (hd : d.natAbs ≤ 1000000000) :
    Calls Tryz.prog 13 #[.agg #[.int .i64 a, .int .i64 b], .agg #[.int .i64 c, .int .i64 d]] w fun e w' => e = .returned (.bool (decide (a * d < c * b))) ∧ Below w.heap.size w w' := by
  obtain ⟨h1, h2⟩ := mul_in ha hd
  obtain ⟨h3, h4⟩ := mul_in hc hb
  have w1 : IntKind.i64.wrap (a * d) = a * d := IntWalk.i64_in _ (by omega)
  have w2 : IntKind.i64.wrap (c * b) = c * b := IntWalk.i64_in _ (by omega)
  go_enter Tryz.func13, Tryz.ntmps13
  go_wp2_with fail
  go_ret
  exact ⟨rfl, below_al (below_al (Below.refl _ _) _) _⟩
end Go.Proofs.YtdmdagilopckgaaGreat
