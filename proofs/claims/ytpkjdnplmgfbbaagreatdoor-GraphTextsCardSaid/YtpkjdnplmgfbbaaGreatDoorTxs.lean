/- base.Abs, base.Decimal, base.Number. -/
import Derived.Test.YtpkjdnplmgfbbaaGreatDoorTxr
namespace Go.Proofs.YtpkjdnplmgfbbaaGreatDoor
open Go.RowKit

set_option maxHeartbeats 2000000 in
theorem Abs_any {w : World} (t : Int) (h1 : -1000000 ≤ t) (h2 : t ≤ 1000000) : Calls Tryz.prog 86 #[.int .i64 t] w fun e w' => e = .returned (.int .i64 (t.natAbs : Int)) ∧ w = w' := by
  by_cases h : t < 0
  · have z1 : decide (t < 0) = true := decide_eq_true h
    have HN := Lib.hid (show -t = (t.natAbs : Int) by omega)
    go_enter Tryz.func86, Tryz.ntmps86
    go_wp2_with fail
    go_ret
    exact ⟨by rw [← HN.out]; rfl, rfl⟩
  · have z1 : decide (t < 0) = false := decide_eq_false h
    have HN := Lib.hid (show t = (t.natAbs : Int) by omega)
    go_enter Tryz.func86, Tryz.ntmps86
    go_wp2_with fail
    go_ret
    exact ⟨by rw [← HN.out]; rfl, rfl⟩

def dg0 (m : Nat) : List UInt8 := if m = 0 then [] else Lib.decDigits m
theorem dec_last (m : Nat) : Lib.decDigits m = dg0 (m / 10) ++ [UInt8.ofNat (48 + m % 10)] := by
  unfold dg0
  by_cases h : m < 10
  · rw [Lib.decDigits_one h, if_pos (by omega), Nat.mod_eq_of_lt h]; rfl
  · rw [dec_step h, if_neg (by omega)]
def DcR (v m : Nat) (acc : List UInt8) : Prop := (acc = [] ∧ m = v) ∨ (acc ≠ [] ∧ dg0 m ++ acc = Lib.decDigits v)
theorem DcR.step {v m : Nat} {acc : List UInt8} (h : DcR v m acc) (hc : acc = [] ∨ m ≠ 0) : DcR v (m / 10) (UInt8.ofNat (48 + m % 10) :: acc) := by
  refine .inr ⟨by simp, ?_⟩
  rcases h with ⟨rfl, rfl⟩ | ⟨h1, h2⟩
  · exact (dec_last m).symm
  · rcases hc with hc | hc
    · exact absurd hc h1
    · rw [← h2]
      have e : dg0 m = Lib.decDigits m := if_neg hc
      rw [e, dec_last m, List.append_assoc]
      rfl
theorem DcR.fin {v : Nat} {acc : List UInt8} (h : DcR v 0 acc) (ha : acc ≠ []) : acc = Lib.decDigits v := by
  rcases h with ⟨h1, _⟩ | ⟨_, h2⟩
  · exact absurd h1 ha
  · rw [← h2]; rfl
theorem dig_piece {d : Nat} (h : d < 10) : ((⟨#[48, 49, 50, 51, 52, 53, 54, 55, 56, 57]⟩ : ByteArray).extract d (d + 1)).data.toList = [UInt8.ofNat (48 + d)] := by
  have hc : d = 0 ∨ d = 1 ∨ d = 2 ∨ d = 3 ∨ d = 4 ∨ d = 5 ∨ d = 6 ∨ d = 7 ∨ d = 8 ∨ d = 9 := by omega
  rcases hc with rfl | rfl | rfl | rfl | rfl | rfl | rfl | rfl | rfl | rfl <;> rfl
theorem tmod_abs (x : Int) : (x.tmod 10).natAbs = x.natAbs % 10 := by rw [Int.natAbs_tmod]; rfl
theorem tdiv_abs (x : Int) : (x.tdiv 10).natAbs = x.natAbs / 10 := by rw [Int.natAbs_tdiv]; rfl

theorem dec_short4 : ∀ v, v < 10000 → (Lib.decDigits v).length ≤ 4 := by
  intro v hv
  rw [Lib.decDigits]
  split
  · simp
  · rw [Lib.decDigits]
    split
    · simp
    · rw [Lib.decDigits]
      split
      · simp
      · rw [Lib.decDigits, dif_pos (by omega)]; simp
theorem DcR.short {v m : Nat} {acc : List UInt8} (h : DcR v m acc) (hv : v < 10000) : acc.length ≤ 4 := by
  rcases h with ⟨rfl, _⟩ | ⟨_, h2⟩
  · simp
  · have h3 := dec_short4 v hv
    rw [← h2, List.length_append] at h3
    omega
def emp : Value → Nat
  | .string s => if s.size = 0 then 1 else 0
  | _ => 0
def DecR (v : Int) (w : World) (e : Ending) (w' : World) : Prop := e = .returned (.string ⟨(Lib.itoa v).toArray⟩) ∧ w = w'
set_option maxHeartbeats 4000000 in
set_option maxRecDepth 100000 in
theorem Decimal_any {w : World} (v : Int) (h1 : -9999 ≤ v) (h2 : v ≤ 9999) : Calls Tryz.prog 60 #[.int .i64 v] w (DecR v w) := by
  have HA := Lib.hid (fun (w : World) (t : Int) (a : -9 ≤ t) (b : t ≤ 9) => Abs_any (w := w) t (by omega) (by omega))
  have key : ∀ sg : List UInt8, Lib.itoa v = sg ++ Lib.decDigits v.natAbs → Hid (∀ z : ByteArray, z.data.toList = Lib.decDigits v.natAbs → (⟨sg.toArray⟩ : ByteArray) ++ z = ⟨(Lib.itoa v).toArray⟩) := fun sg hsg => Lib.hid (fun z ha => by
    rw [hsg]
    refine (eq_mkB (l := sg ++ Lib.decDigits v.natAbs) ?_)
    rw [ByteArray.data_append, Array.toList_append, ha])
  have hvn : v.natAbs < 10000 := by omega
  obtain ⟨sg, hsg, HK, hneg⟩ : ∃ sg : ByteArray, (sg = ⟨#[]⟩ ∧ ¬ v < 0 ∨ sg = ⟨#[45]⟩ ∧ v < 0) ∧ Hid (∀ z : ByteArray, z.data.toList = Lib.decDigits v.natAbs → sg ++ z = ⟨(Lib.itoa v).toArray⟩) ∧ sg.size ≤ 1 := by
    by_cases hneg : v < 0
    · exact ⟨⟨#[45]⟩, .inr ⟨rfl, hneg⟩, key [45] (by unfold Lib.itoa; rw [if_pos hneg]; rfl), by decide⟩
    · exact ⟨⟨#[]⟩, .inl ⟨rfl, hneg⟩, key [] (by unfold Lib.itoa; rw [if_neg hneg, List.nil_append]; congr 1; omega), by decide⟩
  clear key
  rcases hsg with ⟨hsg, hn⟩ | ⟨hsg, hn⟩
  all_goals
    first | have z1 : decide (v < 0) = true := decide_eq_true hn | have z1 : decide (v < 0) = false := decide_eq_false hn
    have HSG := Lib.hid hsg
    clear hn
    go_enter Tryz.func60, Tryz.ntmps60
    go_wp2_with fail
    clear z1
    go_loop [0, 4, 5] (fun nv sv _ => ∃ (x : Int) (z : ByteArray), nv = .int .i64 x ∧ sv = .string z ∧ -9999 ≤ x ∧ x ≤ 9999 ∧ Hid (DcR v.natAbs x.natAbs z.data.toList)) (fun nv sv _ => 2 * (intOf nv).natAbs + emp sv)
    case atStart => exact ⟨v, ⟨#[]⟩, rfl, rfl, h1, h2, Lib.hid (.inl ⟨rfl, rfl⟩)⟩
    case round =>
      obtain ⟨x, z, rfl, rfl, hx1, hx2, HD⟩ := hrel
      have hzl := HD.out.short hvn
      rw [← Lib.size_eq] at hzl
      by_cases hfin : z.size ≠ 0 ∧ x = 0
      · obtain ⟨hz0, hx0⟩ := hfin
        have hzne : z.data.toList ≠ [] := fun e => hz0 (by rw [Lib.size_eq, e]; rfl)
        have HF := Lib.hid (HK.out z (by
          have h9 := HD.out
          rw [hx0] at h9
          exact h9.fin hzne))
        have e1 : ¬ z.toList = [] := by rw [Lib.toList_data]; exact hzne
        have e2 : z.toList.isEmpty = false := by rw [Lib.toList_data]; simpa using hzne
        have e3 : (x != 0) = false := by simp [hx0]
        clear hx0 hzne
        go_wp2_with fail
        go_ret
        exact ⟨by rw [← HF.out, HSG.out]; rfl, rfl⟩
      · obtain ⟨t, ht⟩ : ∃ t, x.tmod 10 = t := ⟨_, rfl⟩
        obtain ⟨u, hu⟩ : ∃ u, x.tdiv 10 = u := ⟨_, rfl⟩
        have ht2 := tmod_abs x
        have hu2 := tdiv_abs x
        rw [ht] at ht2
        rw [hu] at hu2
        obtain ⟨d, hd⟩ : ∃ d, t.natAbs = d := ⟨_, rfl⟩
        rw [hd] at ht2
        have hd10 : d < 10 := by omega
        have hst := HD.out.step (by
          rcases Classical.em (z.size = 0) with h | h
          · exact .inl (List.eq_nil_of_length_eq_zero (by rw [← Lib.size_eq]; exact h))
          · exact .inr (fun e => hfin ⟨h, by omega⟩))
        have HS := Lib.hid (show DcR v.natAbs u.natAbs (((⟨#[48, 49, 50, 51, 52, 53, 54, 55, 56, 57]⟩ : ByteArray).extract d (d + 1)) ++ z).data.toList by
          rw [ByteArray.data_append, Array.toList_append, dig_piece hd10, hu2, ht2]
          exact hst)
        have htb1 : -9 ≤ t := by omega
        have htb2 : t ≤ 9 := by omega
        have hub1 : -9999 ≤ u := by omega
        have hub2 : u ≤ 9999 := by omega
        have HU := Lib.hid hu2
        have HDD := Lib.hid hd
        have HT := Lib.hid (HA.out w t htb1 htb2)
        rw [hd] at HT
        have HFI := Lib.hid hfin
        have hms : 2 * u.natAbs + emp (.string (((⟨#[48, 49, 50, 51, 52, 53, 54, 55, 56, 57]⟩ : ByteArray).extract d (d + 1)) ++ z)) < 2 * x.natAbs + emp (.string z) := by
          have e0 : (((⟨#[48, 49, 50, 51, 52, 53, 54, 55, 56, 57]⟩ : ByteArray).extract d (d + 1)) ++ z).size ≠ 0 := by
            rw [Lib.size_eq, ByteArray.data_append, Array.toList_append, dig_piece hd10]
            simp
          have e1 : emp (.string (((⟨#[48, 49, 50, 51, 52, 53, 54, 55, 56, 57]⟩ : ByteArray).extract d (d + 1)) ++ z)) = 0 := by
            show (if _ = 0 then 1 else 0) = 0
            rw [if_neg e0]
          rw [e1]
          by_cases hz0 : z.size = 0
          · have e2 : emp (.string z) = 1 := by
              show (if z.size = 0 then 1 else 0) = 1
              rw [if_pos hz0]
            rw [e2]
            omega
          · have : x ≠ 0 := fun e => hfin ⟨hz0, e⟩
            omega
        have HMS := Lib.hid hms
        clear ht2 hu2 hst hms
        by_cases hz0 : z.size = 0
        · have e1 : z.toList = [] := List.eq_nil_of_length_eq_zero (by rw [Lib.toList_data, ← Lib.size_eq]; exact hz0)
          have e2 : z.toList.isEmpty = true := by rw [e1]; rfl
          clear hfin
          go_wp2_with fail
          refine HT.out.mono ?_
          rintro e w' ⟨rfl, rfl⟩
          go_wp2_with fail
          go_round
          case rel => exact ⟨u, _, rfl, rfl, hub1, hub2, HS⟩
          case measure => simp only [intOf]; exact HMS.out
        · have e1 : ¬ z.toList = [] := fun e => hz0 (by rw [Lib.size_eq, ← Lib.toList_data, e]; rfl)
          have e2 : z.toList.isEmpty = false := by simpa using e1
          have hx0 : x ≠ 0 := fun e => hfin ⟨hz0, e⟩
          have e3 : (x != 0) = true := by simp [hx0]
          clear hfin
          go_wp2_with fail
          refine HT.out.mono ?_
          rintro e w' ⟨rfl, rfl⟩
          go_wp2_with fail
          go_round
          case rel => exact ⟨u, _, rfl, rfl, hub1, hub2, HS⟩
          case measure => simp only [intOf]; exact HMS.out
end Go.Proofs.YtpkjdnplmgfbbaaGreatDoor
