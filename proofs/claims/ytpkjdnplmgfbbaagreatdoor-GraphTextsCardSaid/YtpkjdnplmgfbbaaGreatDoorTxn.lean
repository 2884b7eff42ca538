/- base.Number. -/
import Derived.Test.YtpkjdnplmgfbbaaGreatDoorTxs
namespace Go.Proofs.YtpkjdnplmgfbbaaGreatDoor
open Go.RowKit

def NumR (s : ByteArray) (w : World) (e : Ending) (w' : World) : Prop := ∃ (v : Int) (b : Bool), e = .returned (.tuple #[.int .i64 v, .bool b]) ∧ (-9999 ≤ v ∧ v ≤ 9999) ∧ (∀ u, u < 2500 → s.data.toList = Lib.decDigits u → v = (u : Int) ∧ b = true) ∧ w = w'
/-- n is what j digits may spell. -/
def Lt10 (j n : Nat) : Prop := (j = 0 ∧ n = 0) ∨ (j = 1 ∧ n ≤ 9) ∨ (j = 2 ∧ n ≤ 99) ∨ (j = 3 ∧ n ≤ 999) ∨ (j = 4 ∧ n ≤ 9999)
theorem Lt10.le {j n : Nat} (h : Lt10 j n) : n ≤ 9999 := by unfold Lt10 at h; omega
theorem Lt10.step {j n d : Nat} (h : Lt10 j n) (hj : j < 4) (hd : d ≤ 9) : Lt10 (j + 1) (10 * n + d) := by unfold Lt10 at *; omega
theorem digit_of {b : UInt8} (h : isDig b) : Lib.digitVal b = some (b.toNat - 48) := by
  unfold isDig at h
  have e : b = UInt8.ofNat (48 + (b.toNat - 48)) := by
    refine UInt8.toNat_inj.1 ?_
    rw [ofNat48 (by omega)]
    omega
  have h2 := digitVal_of (d := b.toNat - 48) (by omega)
  rw [← e] at h2
  exact h2
theorem decFrom_snoc {l : List UInt8} {n : Nat} {b : UInt8} (h : Lib.decFrom 0 l = some n) (hb : isDig b) : Lib.decFrom 0 (l ++ [b]) = some (10 * n + (b.toNat - 48)) := by
  rw [decFrom_append _ _ _ _ h]
  show (match Lib.digitVal b with | some d => Lib.decFrom (n * 10 + d) [] | none => none) = _
  rw [digit_of hb]
  show some (n * 10 + (b.toNat - 48)) = _
  rw [Nat.mul_comm]

theorem dec_whole {s : ByteArray} {fr n : Nat} (h : Hid (Lib.decFrom 0 ((s.data.toList.drop fr).take (s.size - fr)) = some n)) : Hid (Lib.decFrom 0 (s.data.toList.drop fr) = some n) := Lib.hid (by
  have h := h.out
  rwa [List.take_of_length_le (by rw [List.length_drop, ← Lib.size_eq]; omega)] at h)
set_option maxHeartbeats 8000000 in
set_option maxRecDepth 100000 in
theorem Number_any {w : World} (s : ByteArray) (hs : s.size ≤ 1000000) : Calls Tryz.prog 52 #[.string s, .int .i64 4] w (NumR s w) := by
  have HDE := Lib.hid (fun (w : World) (v : Int) (a : -9999 ≤ v) (b : v ≤ 9999) => Decimal_any (w := w) v a b)
  -- what cannot be a number
  have hno0 : ∀ (e : s.size = 0 ∨ 4 < s.size ∨ ∃ (k : Nat) (b : UInt8), s.data.toList[k]? = some b ∧ ¬ isDig b), NumR s w (.returned (.tuple #[.int .i64 0, .bool false])) w := fun h => ⟨0, false, rfl, by omega, fun u hu he => by
    exfalso
    rcases h with h | h | ⟨k, b, h3, h4⟩
    · rw [Lib.size_eq, he] at h
      exact dec_ne u (List.eq_nil_of_length_eq_zero h)
    · rw [Lib.size_eq, he] at h
      have := dec_shortT u hu
      omega
    · rw [he] at h3
      exact h4 (dec_dig u b (List.mem_of_getElem? h3)), rfl⟩
  by_cases hz : s.size = 0
  · have HN := Lib.hid (hno0 (.inl hz))
    have z1 : decide (0 < s.size) = false := decide_eq_false (by omega)
    have z2 : decide ((0 : Int) < (s.size : Int)) = false := decide_eq_false (by omega)
    have z3 : decide ((s.size : Int) < 1) = true := decide_eq_true (by omega)
    clear hz hno0
    go_enter Tryz.func52, Tryz.ntmps52
    go_wp2_with fail
    go_ret2
    exact HN.out
  · have hpos : 0 < s.size := by omega
    have z1 : decide (0 < s.size) = true := decide_eq_true hpos
    have z2 : decide ((0 : Int) < (s.size : Int)) = true := decide_eq_true (by omega)
    obtain ⟨b0, hb0⟩ : ∃ b0, s[0] = b0 := ⟨_, rfl⟩
    have hg0 : s.data.toList[0]? = some b0 := by
      rw [← hb0, List.getElem?_eq_getElem (by rw [← Lib.size_eq]; exact hpos)]
      rfl
    obtain ⟨fr, hfr, hfr1, hfr2⟩ : ∃ fr : Nat, (fr = 0 ∧ b0 ≠ 45 ∨ fr = 1 ∧ b0 = 45) ∧ fr ≤ 1 ∧ fr ≤ s.size := by
      by_cases h : b0 = 45
      · exact ⟨1, .inr ⟨rfl, h⟩, by omega, by omega⟩
      · exact ⟨0, .inl ⟨rfl, h⟩, by omega, by omega⟩
    have hnm : fr = 1 → ∃ (k : Nat) (b : UInt8), s.data.toList[k]? = some b ∧ ¬ isDig b := fun h => ⟨0, b0, hg0, fun hd => by
      rcases hfr with ⟨h1, _⟩ | ⟨_, h2⟩
      · omega
      · rw [h2] at hd; exact absurd hd.1 (by decide)⟩
    by_cases hlen : s.size - fr < 1 ∨ 4 < s.size - fr
    · have HN := Lib.hid (hno0 (by
        rcases Nat.lt_or_ge 4 s.size with h | h
        · exact .inr (.inl h)
        · exact .inr (.inr (hnm (by omega)))))
      rcases hfr with ⟨rfl, hb⟩ | ⟨rfl, hb⟩
      · have e1 : (s[0].toNat == 45) = false := beq_eq_false_iff_ne.2 (fun e => hb (by rw [← hb0]; exact UInt8.toNat_inj.1 e))
        have e2 : ((s[0].toNat : Int) == 45) = false := beq_eq_false_iff_ne.2 (fun e => hb (by rw [← hb0]; exact UInt8.toNat_inj.1 (by show s[0].toNat = 45; omega)))
        have z3 : decide ((s.size : Int) < 1) = false := decide_eq_false (by omega)
        have z4 : decide ((4 : Int) < (s.size : Int)) = true := decide_eq_true (by omega)
        clear hb hb0 hg0 hno0 hnm hlen
        go_enter Tryz.func52, Tryz.ntmps52
        go_wp2_with fail
        go_ret2
        exact HN.out
      · have e1 : (s[0].toNat == 45) = true := by rw [hb0, hb]; rfl
        have e2 : ((s[0].toNat : Int) == 45) = true := by rw [hb0, hb]; rfl
        by_cases h1 : s.size - 1 < 1
        · have z3 : decide ((s.size : Int) - 1 < 1) = true := decide_eq_true (by omega)
          clear hb hb0 hg0 hno0 hnm hlen
          go_enter Tryz.func52, Tryz.ntmps52
          go_wp2_with fail
          go_ret2
          exact HN.out
        · have z3 : decide ((s.size : Int) - 1 < 1) = false := decide_eq_false (by omega)
          have z4 : decide ((4 : Int) < (s.size : Int) - 1) = true := decide_eq_true (by omega)
          clear hb hb0 hg0 hno0 hnm hlen
          go_enter Tryz.func52, Tryz.ntmps52
          go_wp2_with fail
          go_ret2
          exact HN.out
    · have hl1 : 1 ≤ s.size - fr := by omega
      have hl2 : s.size - fr ≤ 4 := by omega
      have HNO := Lib.hid hno0
      have HNM := Lib.hid hnm
      have HFR := Lib.hid hfr
      clear hlen hno0 hnm
      rcases hfr with ⟨hf0, hb⟩ | ⟨hf0, hb⟩
      all_goals
        (first | (have e1 : (s[0].toNat == 45) = false := beq_eq_false_iff_ne.2 (fun e => hb (by rw [← hb0]; exact UInt8.toNat_inj.1 e)); have e2 : ((s[0].toNat : Int) == 45) = false := beq_eq_false_iff_ne.2 (fun e => hb (by rw [← hb0]; exact UInt8.toNat_inj.1 (by show s[0].toNat = 45; omega))); have z3 : decide ((s.size : Int) < 1) = false := decide_eq_false (by omega); have z4 : decide ((4 : Int) < (s.size : Int)) = false := decide_eq_false (by omega)) | (have e1 : (s[0].toNat == 45) = true := (by rw [hb0, hb]; rfl); have e2 : ((s[0].toNat : Int) == 45) = true := (by rw [hb0, hb]; rfl); have z3 : decide ((s.size : Int) - 1 < 1) = false := decide_eq_false (by omega); have z4 : decide ((4 : Int) < (s.size : Int) - 1) = false := decide_eq_false (by omega)))
        have HF0 := Lib.hid hf0
        clear hb hb0 hg0 hf0
        go_enter Tryz.func52, Tryz.ntmps52
        go_wp2_with fail
        clear e1 e2 z3 z4 z1 z2
        go_loop [7, 8] (fun nv iv => ∃ i n : Nat, iv = .int .i64 (i : Nat) ∧ nv = .int .i64 (n : Nat) ∧ fr ≤ i ∧ i ≤ s.size ∧ Lt10 (i - fr) n ∧ Hid (Lib.decFrom 0 ((s.data.toList.drop fr).take (i - fr)) = some n)) (fun _ iv => s.size - (intOf iv).toNat)
        case atStart => exact ⟨fr, 0, by rw [HF0.out]; rfl, rfl, Nat.le_refl _, hfr2, .inl ⟨by omega, rfl⟩, Lib.hid (by rw [Nat.sub_self]; rfl)⟩
        case round =>
          obtain ⟨i, n, rfl, rfl, hi1, hi2, hlt, HD⟩ := hrel
          have hn := hlt.le
          by_cases his : i < s.size
          · obtain ⟨b, hb⟩ : ∃ b, s[i] = b := ⟨_, rfl⟩
            have hg : s.data.toList[i]? = some b := by
              rw [← hb, List.getElem?_eq_getElem (by rw [← Lib.size_eq]; exact his)]
              rfl
            have hi0 : (0 : Int) ≤ (i : Int) := by omega
            have hiI : (i : Int) < (s.size : Int) := by omega
            by_cases hdg : isDig b
            · have hd1 : 48 ≤ s[i].toNat := by rw [hb]; exact hdg.1
              have hd2 : s[i].toNat ≤ 57 := by rw [hb]; exact hdg.2
              have q1 : decide ((s[i].toNat : Int) < 48) = false := decide_eq_false (by omega)
              have q2 : decide (s[i].toNat < 48) = false := decide_eq_false (by omega)
              have q3 : decide ((57 : Int) < (s[i].toNat : Int)) = false := decide_eq_false (by omega)
              have q4 : decide (57 < s[i].toNat) = false := decide_eq_false (by omega)
              have hd3 : (48 : Int) ≤ (s[i].toNat : Int) := by omega
              have hd4 : (s[i].toNat : Int) ≤ 57 := by omega
              have HD' := Lib.hid (show Lib.decFrom 0 ((s.data.toList.drop fr).take (i + 1 - fr)) = some (10 * n + (s[i].toNat - 48)) by
                rw [show i + 1 - fr = (i - fr) + 1 by omega, List.take_add_one, List.getElem?_drop, show fr + (i - fr) = i by omega, hg]
                have h9 := decFrom_snoc HD.out hdg
                rw [← hb] at h9
                rw [← hb]
                exact h9)
              have hlt' : Lt10 (i + 1 - fr) (10 * n + (s[i].toNat - 48)) := by
                rw [show i + 1 - fr = (i - fr) + 1 by omega]
                exact hlt.step (by omega) (by omega)
              have HLT := Lib.hid hlt'
              have HVE := Lib.hid (show Value.int .i64 (10 * (n : Int) + ((s[i].toNat : Int) - 48)) = .int .i64 ((10 * n + (s[i].toNat - 48) : Nat) : Int) by congr 1; omega)
              clear hb hg hdg hlt hlt'
              go_wp2_with fail
              go_round
              case rel => exact ⟨i + 1, _, by go_num, HVE.out, by omega, by omega, HLT.out, HD'⟩
              case measure => simp [intOf]; omega
            · have HN := Lib.hid (HNO.out (.inr (.inr ⟨i, b, hg, hdg⟩)))
              have hcase : s[i].toNat < 48 ∨ 57 < s[i].toNat := by
                rw [hb]
                unfold isDig at hdg
                omega
              by_cases h48 : s[i].toNat < 48
              · have q1 : decide ((s[i].toNat : Int) < 48) = true := decide_eq_true (by omega)
                have q2 : decide (s[i].toNat < 48) = true := decide_eq_true (by omega)
                clear hb hg hdg hlt hcase
                go_wp2_with fail
                go_ret2
                exact HN.out
              · have q1 : decide ((s[i].toNat : Int) < 48) = false := decide_eq_false (by omega)
                have q2 : decide (s[i].toNat < 48) = false := decide_eq_false (by omega)
                have q3 : decide ((57 : Int) < (s[i].toNat : Int)) = true := decide_eq_true (by omega)
                have q4 : decide (57 < s[i].toNat) = true := decide_eq_true (by omega)
                clear hb hg hdg hlt hcase h48
                go_wp2_with fail
                go_ret2
                exact HN.out
          · obtain rfl : i = s.size := by omega
            have HDD := Lib.hid (HDE.out w (n : Int) (by omega) (by omega))
            have HDM := Lib.hid (HDE.out w (-(n : Int)) (by omega) (by omega))
            have HDZ := dec_whole HD
            clear HD
            go_wp2_with fail
            first
            | (have hq : fr = 0 := HF0.out; refine HDD.out.mono ?_)
            | (have hq : fr = 1 := HF0.out; refine HDM.out.mono ?_)
            have HA : ∀ u : Nat, fr = 0 → u < 2500 → s.data.toList = Lib.decDigits u → n = u := fun u h0 _ he => by
              have h := HDZ.out
              rw [h0, List.drop_zero, he, decFrom_dec u] at h
              exact (Option.some.inj h).symm
            have HAH := Lib.hid HA
            clear HA HDD HDM
            intro e w' hd
            obtain ⟨z, HZ, he, hw⟩ : ∃ z, Hid (z = _) ∧ e = .returned (.string z) ∧ w = w' := ⟨_, Lib.hid rfl, hd.1, hd.2⟩
            clear hd
            subst hw
            subst he
            go_wp2_with fail
            go_ret2
            refine ⟨_, z.toList == s.toList, rfl, by omega, fun u hu he => ?_, rfl⟩
            have hf := HFR.out
            rcases hf with ⟨hf, _⟩ | ⟨hf, _⟩
            · first
              | (exfalso; have h0 : fr = 1 := HF0.out; omega)
              | (have hz := HZ.out
                 have hn := HAH.out u hf hu he
                 subst hn
                 refine ⟨rfl, ?_⟩
                 rw [hz, show (⟨(Lib.itoa (n : Int)).toArray⟩ : ByteArray) = s by
                   refine ByteArray.ext (Array.toList_inj.1 ?_)
                   rw [he]
                   exact Lib.itoa_nonneg n]
                 simp)
            · exfalso
              obtain ⟨k, b, h3, h4⟩ := HNM.out hf
              rw [he] at h3
              exact h4 (dec_dig u b (List.mem_of_getElem? h3))
end Go.Proofs.YtpkjdnplmgfbbaaGreatDoor
