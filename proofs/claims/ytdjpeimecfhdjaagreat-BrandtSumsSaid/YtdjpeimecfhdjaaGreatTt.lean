/- Plain: weights of classes as integers (Eisenstein). Package brandt: Eisenstein. Package brandt: Eisenstein of a list that is refused. The reference's CheckEisenstein. -/
import Derived.Test.YtdjpeimecfhdjaaGreatTq
import Derived.Test.YtdjpeimecfhdjaaGreatTr
import Derived.Test.YtdjpeimecfhdjaaGreatSi
import Derived.Test.YtdjpeimecfhdjaaGreatSk
namespace Go.Proofs.YtdjpeimecfhdjaaGreat
def alE (us : List Nat) : Nat → Nat
 | 0 => 1
 | k + 1 => Nat.lcm (alE us k) (us.getD k 1)
def cmE (us : List Nat) (a : Nat) : Nat → Nat
 | 0 => 0
 | k + 1 => Nat.gcd (cmE us a k) (a / us.getD k 1)
def eiL (us : List Nat) : List Nat := us.map fun u => alE us us.length / u / cmE us (alE us us.length) us.length
theorem alE_prog (a u : Nat) : a * (u / Nat.gcd a u) = Nat.lcm a u := by
 unfold Nat.lcm
 rw [Nat.mul_div_assoc a (Nat.gcd_dvd_right a u)]
theorem alE_ref (a u : Nat) : a / Nat.gcd a u * u = Nat.lcm a u := by
 unfold Nat.lcm
 rw [Nat.div_mul_right_comm (Nat.gcd_dvd_left a u)]
def okE (us : List Nat) : Prop := ∀ u ∈ us, 1 ≤ u ∧ u ≤ 24
theorem okE_at {us : List Nat} (h : okE us) (k : Nat) : 1 ≤ us.getD k 1 ∧ us.getD k 1 ≤ 24 := by
 unfold List.getD
 rcases Nat.lt_or_ge k us.length with h1 | h1
 ·rw [List.getElem?_eq_getElem h1]
  exact h _ (List.getElem_mem h1)
 ·rw [List.getElem?_eq_none h1]
  exact ⟨by decide, by decide⟩
theorem alE_top {u : Nat} (h1 : 1 ≤ u) (h2 : u ≤ 24) : u ∣ 5354228880 := by
 have h : ∀ u, u < 25 → 1 ≤ u → u ∣ 5354228880 := by decide
 exact h u (by omega) h1
theorem alE_dvd {us : List Nat} (h : okE us) : ∀ k, alE us k ∣ 5354228880
 | 0 => Nat.one_dvd _
 | k + 1 => Nat.lcm_dvd (alE_dvd h k) (alE_top (okE_at h k).1 (okE_at h k).2)
theorem alE_le {us : List Nat} (h : okE us) (k : Nat) : alE us k ≤ 5354228880 := Nat.le_of_dvd (by decide) (alE_dvd h k)
theorem alE_pos {us : List Nat} (h : okE us) (k : Nat) : 0 < alE us k := Nat.pos_of_dvd_of_pos (alE_dvd h k) (by decide)
theorem alE_mem {us : List Nat} : ∀ (n k : Nat), k < n → us.getD k 1 ∣ alE us n
 | 0, k, h => by omega
 | n + 1, k, h => by
  show _ ∣ Nat.lcm (alE us n) (us.getD n 1)
  rcases Nat.lt_or_ge k n with h1 | h1
  ·exact Nat.dvd_trans (alE_mem n k h1) (Nat.dvd_lcm_left _ _)
  ·obtain rfl : k = n := by omega
   exact Nat.dvd_lcm_right _ _
theorem cmE_le {us : List Nat} {a : Nat} (k : Nat) : cmE us a k ≤ a := by
 cases k with
 | zero => exact Nat.zero_le _
 | succ k =>
  show Nat.gcd (cmE us a k) (a / us.getD k 1) ≤ a
  rcases Nat.eq_zero_or_pos (a / us.getD k 1) with e | e
  ·rw [e, Nat.gcd_zero_right]; exact cmE_le k
  ·exact Nat.le_trans (Nat.gcd_le_right _ e) (Nat.div_le_self _ _)
theorem cmE_pos {us : List Nat} (h : okE us) {k : Nat} (h0 : 0 < k) (hk : k ≤ us.length) : 0 < cmE us (alE us us.length) k := by
 cases k with
 | zero => omega
 | succ k =>
  refine Nat.gcd_pos_of_pos_right _ ?_
  have h1 := alE_mem (us := us) us.length k (by omega)
  exact Nat.div_pos (Nat.le_of_dvd (alE_pos h _) h1) (okE_at h k).1
end Go.Proofs.YtdjpeimecfhdjaaGreat

namespace Go.Proofs.YtdjpeimecfhdjaaGreat
open Go.RowKit
def nz (l : List Nat) : List Value := l.map fun x : Nat => .int .i64 (x : Nat)
theorem nz_snoc (l : List Nat) (y : Nat) : nz (l ++ [y]) = nz l ++ [.int .i64 (y : Nat)] := by simp [nz]
def OwnZ (w : World) (base : Nat) (v : Value) (l : List Nat) : Prop := w.ownsRow base 3 1 v l.length (nz l)
section
variable {w w' : World} {base : Nat} {v : Value} {l : List Nat}
theorem OwnZ.nil (w : World) (base : Nat) : OwnZ w base (.slice none 0 0) [] := World.ownsRow_nil _ _ _ _
theorem OwnZ.slice (h : OwnZ w base v l) : ∃ A c, v = .slice A l.length c ∧ l.length ≤ c ∧ c ≤ maxLen := own_slice h
theorem OwnZ.isd (h : OwnZ w base v l) : IsD w (fun _ => True) v (l.map fun x : Nat => (x : Int)) := by
 obtain ⟨A, c, rfl, h1, h2⟩ := h.slice
 refine ⟨A, c, by simp, by simpa using h1, h2, fun hn => ?_⟩
 rw [List.length_map] at hn
 obtain ⟨g, cap, e, _, _, _, _, hc⟩ := own_cells h hn
 injection e with e1 e2 e3
 subst e1
 refine ⟨g, 0, rfl, trivial, fun j hj => ?_⟩
 rw [List.length_map] at hj
 rw [Nat.zero_add]
 refine hc j _ ?_
 unfold nz
 rw [List.getElem?_map, List.getElem?_eq_getElem hj]
 unfold gz List.getD
 rw [List.getElem?_map, List.getElem?_eq_getElem hj]
 rfl
end
section
variable (w0 : World)
theorem info_intz : (Tryz.prog.info? 3).map (fun i => (i.zero, i.size, i.bytes)) = some (some (.int .i64 0), 1, 8) := by kernel_rfl
theorem wpList_pushZ {ops : Array Oper} {rest : List Oper} {o : Oper} {a : Act} {Q : Exit → Act → World → Prop} (hgd : o.guard = none) (s x : Operand)
  (ho : o.op = .call { callee := .builtin .append, args := #[s, x], argTypes := #[48, 48] })
  (base : Nat) (v : Value) (l : List Nat) (n : Nat) (hln : l.length = n) (hs : a.eval s = v) (hown : OwnZ w0 base v l)
  (y : Nat) (k : Int) (hk : k = (y : Int)) (hx : a.eval x = .slice (some ⟨w0.heap.size, 0, none⟩) 1 1) (h63 : n + 1 ≤ 1000000000) (hbase : base ≤ w0.heap.size)
  (h : ∀ A' c' w', OwnZ w' base (.slice A' (n + 1) c') (l ++ [y]) → Below base w0 w' → wpList Tryz.prog ops Q rest (a.put o.dst (.slice A' (n + 1) c')) w') :
  wpList Tryz.prog ops Q (o :: rest) a (w0.alloc (.cells #[.int .i64 k] 3)) := by
 subst hk hln
 refine wpList_app _ hgd s x 48 48 ho base 3 3 (.int .i64 0) 1 8 Tryz.underlying48 Tryz.underlying48 info_intz rfl (by omega) v l.length (nz l) hs (World.ownsRow.alloc hown _) _ 1 1 [.int .i64 (y : Int)] hx (src_block (heap_alloc_new w0 _) 1 1 rfl) (by simp [Value.oneCell']) (by unfold maxLen; omega) (by omega) (by simp; omega) ?_
 intro v' w' hown' hg hob
 obtain ⟨A', c', rfl, _, _⟩ := own_slice hown'
 have hb1 : Below base w0 (w0.alloc (.cells #[.int .i64 (y : Int)] 3)) := (Below.refl _ _).alloc hbase _
 have hb2 : Below base (w0.alloc (.cells #[.int .i64 (y : Int)] 3)) w' := (Below.refl _ _).grown hg (by simp; omega) (fun k hk => (World.ownsRow.lt hown k hk).1)
 refine h A' c' w' ?_ (hb1.trans hb2)
 unfold OwnZ; rw [nz_snoc, List.length_append]; exact hown'
end
theorem tdivZ {a b c : Nat} (h : a / b = c) : (a : Int).tdiv (b : Int) = (c : Int) := by rw [tdivB, h]
theorem IsD.un {w : World} {A : Option Addr} {n c : Nat} {us : List Nat} (h : IsD w (fun _ => True) (.slice A n c) (us.map fun x : Nat => (x : Int))) (hn : 0 < n) : us.length = n ∧ ∃ b off, A = some ⟨b, off, none⟩ ∧ ∀ j, j < n → w.cell? ⟨b, off + j, none⟩ = some (.int .i64 (us.getD j 1 : Nat)) := by
 have hl := h.len
 rw [List.length_map] at hl
 refine ⟨hl, ?_⟩
 obtain ⟨b, off, rfl, _, _⟩ := h.at (j := 0) hn
 refine ⟨b, off, rfl, fun j hj => ?_⟩
 obtain ⟨b2, off2, e, _, h2⟩ := h.at (j := j) hj
 injection e with e
 injection e with e1 e2
 subst e1 e2
 rw [h2]
 unfold gz List.getD
 rw [List.getElem?_map, List.getElem?_eq_getElem (by omega)]
 rfl
set_option maxRecDepth 100000 in
set_option maxHeartbeats 4000000 in
theorem EisB_ok {w : World} {A : Option Addr} {n c : Nat} {us : List Nat} (h : IsD w (fun _ => True) (.slice A n c) (us.map fun x : Nat => (x : Int))) (hn1 : 0 < n) (hn2 : n ≤ 60) (ho : okE us) :
  Calls Tryz.prog 29 #[.agg #[.int .i64 0, .slice none 0 0, .int .i64 0, .int .i64 0, .int .i64 0, .slice none 0 0, .slice A n c]] w fun e w' => ∃ A' c', e = .returned (.tuple #[.slice A' n c', .int .i64 0]) ∧ IsD w' (fun _ => True) (.slice A' n c') ((eiL us).map fun x : Nat => (x : Int)) ∧ Below w.heap.size w w' := by
 obtain ⟨hl, b, off, rfl, hc⟩ := h.un hn1
 obtain ⟨W, hW⟩ : ∃ W, W = w.alloc (.cells #[.int .i64 0, .slice none 0 0, .int .i64 0, .int .i64 0, .int .i64 0, .slice none 0 0, .slice (some ⟨b, off, none⟩) n c] 66) := ⟨_, rfl⟩
 obtain ⟨S, hS⟩ : ∃ S, S = w.heap.size := ⟨_, rfl⟩
 have hbW : Below w.heap.size w W := by rw [hW]; exact (Below.refl _ _).alloc (Nat.le_refl _) _
 have b6 : W.cell? ⟨S, 6, none⟩ = some (.slice (some ⟨b, off, none⟩) n c) := by rw [hW, hS]; go_simp
 have HC := Lib.hid (fun j (hj : j < n) => keepB hbW (hc j hj))
 have HWW := Lib.hid hW
 have HSS := Lib.hid hS
 have HBW := Lib.hid hbW
 have HL := Lib.hid hl
 have HOK := Lib.hid ho
 have n0 : ((n : Int) == 0) = false := by simp; omega
 have n0' : ¬ (n : Int) = 0 := by omega
 have n1 : ¬ 60 < (n : Int) := by omega
 have n2 : ¬ 60 < n := by omega
 clear h hc hW hS hbW hl ho
 go_enter Tryz.func29, Tryz.ntmps29
 go_upto_region 1 with (fail)
 rw [← HSS.out, ← HWW.out]
 go_wp2_with fail
 go_loopw [4, 26] (fun av iv wr => ∃ k : Nat, av = .int .i64 (alE us k : Nat) ∧ iv = .int .i64 (k : Nat) ∧ k ≤ n ∧ Below W.heap.size W wr) (fun _ iv _ => n - (intOf iv).toNat)
 case atStart => exact ⟨0, rfl, rfl, by omega, Below.refl _ _⟩
 case round =>
  obtain ⟨k, rfl, rfl, hk, hbr⟩ := hrel
  rcases Nat.lt_or_ge k n with hkn | hkn
  ·have c0 := keepB hbr (HC.out k hkn)
   obtain ⟨u1, u2⟩ := okE_at HOK.out k
   have ha1 := alE_le HOK.out k
   have ha2 := alE_le HOK.out (k + 1)
   have hst : alE us (k + 1) = alE us k * (us.getD k 1 / Nat.gcd (alE us k) (us.getD k 1)) := (alE_prog _ _).symm
   generalize us.getD k 1 = u at *
   generalize alE us k = a at *
   have HG := Lib.hid (fun (w : World) => @gcdB_any a u w (by omega) (by omega))
   have hg0 : 0 < Nat.gcd a u := Nat.gcd_pos_of_pos_right _ u1
   generalize Nat.gcd a u = g at *
   have hd1 : u / g ≤ u := Nat.div_le_self _ _
   have HD := Lib.hid (tdivZ (a := u) (b := g) rfl)
   have HDI := Lib.hid (show (u : Int) / (g : Int) = ((u / g : Nat) : Int) from rfl)
   generalize u / g = d at *
   have HWD := Lib.hid (show wrap64 (d : Int) = (d : Int) from by unfold wrap64; omega)
   have HST := Lib.hid hst
   rw [hst] at ha2
   have ha3 : (a : Int) * (d : Int) ≤ 5354228880 := by
    obtain ⟨m, hm⟩ : ∃ m, m = a * d := ⟨_, rfl⟩
    rw [← hm] at ha2
    have e : (a : Int) * (d : Int) = (m : Int) := by rw [hm, Int.natCast_mul]
    omega
   have ha4 : (0 : Int) ≤ (a : Int) * (d : Int) := Int.mul_nonneg (by omega) (by omega)
   clear hst ha2
   have z1 : ¬ (u : Int) < 1 := by omega
   have z2 : ¬ 24 < (u : Int) := by omega
   have z3 : ¬ u < 1 := by omega
   have z4 : ¬ 24 < u := by omega
   have g0 : ((g : Int) == 0) = false := by simp; omega
   have g1 : ((g : Int) == -1) = false := by simp
   have k1 : (k : Int) < (n : Int) := by omega
   have k2 : (0 : Int) ≤ (k : Int) := by omega
   have HM := Lib.hid (show wrap64 ((a : Int) * (d : Int)) = (a : Int) * (d : Int) from by unfold wrap64; omega)
   go_wp2_with (go_at_call 82; go_must (refine (HG.out _).mono ?_); rintro e w1 ⟨rfl, hb1⟩)
   go_roundw
   case rel => exact ⟨k + 1, by rw [HST.out]; rw [HDI.out, HWD.out, HM.out, Int.natCast_mul], by go_num, by omega, btrN hbr hb1⟩
   case measure => simp [intOf]; omega
  ·obtain rfl : k = n := by omega
   have k1 : ¬ (k : Int) < (k : Int) := by omega
   have HAL := Lib.hid (show alE us k = alE us us.length by rw [HL.out])
   rw [HAL.out]
   clear HAL
   have hap := alE_pos HOK.out us.length
   have hal := alE_le HOK.out us.length
   have HCP := Lib.hid (fun k (h0 : 0 < k) (h1 : k ≤ us.length) => cmE_pos HOK.out h0 h1)
   have HCL := Lib.hid (fun k => @cmE_le us (alE us us.length) k)
   have HEI := Lib.hid (show eiL us = us.map fun u => alE us us.length / u / cmE us (alE us us.length) us.length from rfl)
   generalize alE us us.length = a at *
   have b6r := keepB hbr b6
   go_wp2_with fail
   go_loopw [7, 47] (fun cv iv wx => ∃ i : Nat, cv = .int .i64 (cmE us a i : Nat) ∧ iv = .int .i64 (i : Nat) ∧ i ≤ k ∧ Below W.heap.size W wx) (fun _ iv _ => k - (intOf iv).toNat)
   case atStart => exact ⟨0, rfl, rfl, by omega, hbr⟩
   case round =>
    obtain ⟨i, rfl, rfl, hi, hbx⟩ := hrel
    clear b6r
    rcases Nat.lt_or_ge i k with hik | hik
    ·have c0 := keepB hbx (HC.out i hik)
     obtain ⟨u1, u2⟩ := okE_at HOK.out i
     have hc1 := HCL.out i
     have hst : cmE us a (i + 1) = Nat.gcd (a / us.getD i 1) (cmE us a i) := Nat.gcd_comm _ _
     generalize us.getD i 1 = u at *
     generalize cmE us a i = cm at *
     have hd1 : a / u ≤ a := Nat.div_le_self _ _
     have HD := Lib.hid (tdivZ (a := a) (b := u) rfl)
     have HDI := Lib.hid (show (a : Int) / (u : Int) = ((a / u : Nat) : Int) from rfl)
     generalize a / u = d at *
     have HWD := Lib.hid (show wrap64 (d : Int) = (d : Int) from by unfold wrap64; omega)
     have HG := Lib.hid (fun (w : World) => @gcdB_any d cm w (by omega) (by omega))
     have HST := Lib.hid hst
     clear hst
     have g0 : ((u : Int) == 0) = false := by simp; omega
     have g1 : ((u : Int) == -1) = false := by simp
     have k3 : (i : Int) < (k : Int) := by omega
     have k4 : (0 : Int) ≤ (i : Int) := by omega
     go_wp2_with (go_at_call 82; rw [HDI.out, HWD.out]; go_must (refine (HG.out _).mono ?_); rintro e w1 ⟨rfl, hb1⟩)
     go_roundw
     case rel => exact ⟨i + 1, by rw [HST.out]; try go_num, by go_num, by omega, btrN hbx hb1⟩
     case measure => simp [intOf]; omega
    ·obtain rfl : i = k := by omega
     have HCM := Lib.hid (show cmE us a i = cmE us a us.length by rw [HL.out])
     rw [HCM.out]
     clear HCM
     have hcp := HCP.out us.length (by rw [HL.out]; exact hn1) (Nat.le_refl _)
     have hcl := HCL.out us.length
     generalize cmE us a us.length = cm at *
     have b6x := keepB hbx b6
     go_wp2_with fail
     go_loopw [10, 60] (fun ov jv wy => ∃ (j : Nat) (A2 : Option Addr) (c2 : Nat), ov = .slice A2 j c2 ∧ jv = .int .i64 (j : Nat) ∧ j ≤ i ∧ OwnZ wy W.heap.size (.slice A2 j c2) ((us.map fun u => a / u / cm).take j) ∧ Below W.heap.size W wy) (fun _ jv _ => i - (intOf jv).toNat)
     case atStart => exact ⟨0, none, 0, rfl, rfl, by omega, OwnZ.nil _ _, hbx⟩
     case round =>
      obtain ⟨j, A2, c2, rfl, rfl, hj, hown, hby⟩ := hrel
      clear b6x
      rcases Nat.lt_or_ge j i with hji | hji
      ·have c0 := keepB hby (HC.out j hji)
       obtain ⟨u1, u2⟩ := okE_at HOK.out j
       have hst : (us.map fun u => a / u / cm).take (j + 1) = (us.map fun u => a / u / cm).take j ++ [a / us.getD j 1 / cm] := by
        rw [List.take_add_one, List.getElem?_map]
        unfold List.getD
        rw [List.getElem?_eq_getElem (by rw [HL.out]; exact hji)]
        rfl
       have HLT := Lib.hid (show ((us.map fun u => a / u / cm).take j).length = j by rw [List.length_take, List.length_map, HL.out]; omega)
       generalize us.getD j 1 = u at *
       have HST := Lib.hid hst
       clear hst
       have HDI := Lib.hid (show (a : Int) / (u : Int) = ((a / u : Nat) : Int) from rfl)
       have hd1 : a / u ≤ a := Nat.div_le_self _ _
       have hd2 : a / u / cm ≤ a / u := Nat.div_le_self _ _
       have HDI2 := Lib.hid (show ((a / u : Nat) : Int).tdiv (cm : Int) = ((a / u / cm : Nat) : Int) from tdivZ rfl)
       generalize a / u / cm = d2 at *
       generalize a / u = d at *
       have HWD := Lib.hid (show wrap64 (d : Int) = (d : Int) from by unfold wrap64; omega)
       have HWD2 := Lib.hid (show wrap64 (d2 : Int) = (d2 : Int) from by unfold wrap64; omega)
       have g0 : ((u : Int) == 0) = false := by simp; omega
       have g1 : ((u : Int) == -1) = false := by simp
       have g2 : ((cm : Int) == 0) = false := by simp; omega
       have g3 : ((cm : Int) == -1) = false := by simp
       have k5 : (j : Int) < (i : Int) := by omega
       have k6 : (0 : Int) ≤ (j : Int) := by omega
       have HOW := Lib.hid hown
       clear hown
       go_wp2_with (at_builtin; go_must (refine wpList_pushZ _ (by rfl) _ _ (by rfl) W.heap.size _ ((us.map fun u => a / u / cm).take j) j HLT.out (by rfl) HOW.out d2 _ (by rw [HDI.out, HWD.out, HDI2.out, HWD2.out]) (by rfl) (by omega) hby.size ?_); intro A3 c3 w4 hown4 hb4)
       go_roundw
       case rel => exact ⟨j + 1, A3, c3, rfl, by go_num, by omega, by rw [HST.out]; exact hown4, hby.trans hb4⟩
       case measure => simp [intOf]; omega
      ·obtain rfl : j = i := by omega
       have k5 : ¬ (j : Int) < (j : Int) := by omega
       go_wp2_with fail
       go_ret2
       refine ⟨A2, c2, rfl, ?_, HBW.out.trans (hby.mono HBW.out.size)⟩
       rw [List.take_of_length_le (by rw [List.length_map, HL.out]; exact Nat.le_refl _)] at hown
       rw [HEI.out]
       exact hown.isd
end Go.Proofs.YtdjpeimecfhdjaaGreat

namespace Go.Proofs.YtdjpeimecfhdjaaGreat
open Go.RowKit
def okU (x : Int) : Bool := decide (1 ≤ x ∧ x ≤ 24)
def unU (x : Int) : Nat := if 1 ≤ x ∧ x ≤ 24 then x.toNat else 1
theorem unU_ok {x : Int} (h : okU x = true) : ((unU x : Nat) : Int) = x := by
 have h := of_decide_eq_true h
 unfold unU
 rw [if_pos h]
 omega
theorem unU_oke (l : List Int) : okE (l.map unU) := by
 intro u hu
 obtain ⟨x, _, rfl⟩ := List.mem_map.1 hu
 unfold unU
 split <;> omega
theorem unU_all {l : List Int} (h : l.all okU = true) : (l.map unU).map (fun x : Nat => (x : Int)) = l := by
 rw [List.map_map]
 conv => rhs; rw [← List.map_id l]
 exact List.map_congr_left fun x hx => unU_ok (List.all_eq_true.mp h x hx)
theorem unU_at {l : List Int} {k : Nat} (hk : k < l.length) (h : okU (gz l k) = true) : (((l.map unU).getD k 1 : Nat) : Int) = gz l k := by
 rw [← unU_ok h]
 unfold gz List.getD
 rw [List.getElem?_map, List.getElem?_eq_getElem hk]
 rfl
theorem all_upto {l : List Int} (h : ∀ j, j < l.length → okU (gz l j) = true) : l.all okU = true := by
 refine List.all_eq_true.mpr fun x hx => ?_
 obtain ⟨j, hj, e⟩ := List.mem_iff_getElem.1 hx
 have := h j hj
 unfold gz List.getD at this
 rw [List.getElem?_eq_getElem hj] at this
 rw [← e]
 exact this
def lenE (n : Nat) : Int := match n with | 0 => 9 | _ => 8
theorem lenE_far {n : Nat} (h : 60 < n) : lenE n = 8 := by cases n with | zero => omega | succ n => rfl
def badE (l : List Int) : Int := match l.all okU with | true => 0 | false => 2
theorem badE_t {l : List Int} (h : l.all okU = true) : badE l = 0 := by unfold badE; rw [h]
theorem badE_f {l : List Int} (h : l.all okU = false) : badE l = 2 := by unfold badE; rw [h]
theorem EisB_len {w : World} {A : Option Addr} {n c : Nat} (h : n = 0 ∨ 60 < n) :
  Calls Tryz.prog 29 #[.agg #[.int .i64 0, .slice none 0 0, .int .i64 0, .int .i64 0, .int .i64 0, .slice none 0 0, .slice A n c]] w fun e w' => e = .returned (.tuple #[.slice none 0 0, .int .i64 (lenE n)]) ∧ Below w.heap.size w w' := by
 obtain ⟨W, hW⟩ : ∃ W, W = w.alloc (.cells #[.int .i64 0, .slice none 0 0, .int .i64 0, .int .i64 0, .int .i64 0, .slice none 0 0, .slice A n c] 66) := ⟨_, rfl⟩
 obtain ⟨S, hS⟩ : ∃ S, S = w.heap.size := ⟨_, rfl⟩
 have hbW : Below w.heap.size w W := by rw [hW]; exact (Below.refl _ _).alloc (Nat.le_refl _) _
 have b6 : W.cell? ⟨S, 6, none⟩ = some (.slice A n c) := by rw [hW, hS]; go_simp
 have HWW := Lib.hid hW
 have HSS := Lib.hid hS
 clear hW hS
 rcases h with rfl | h
 ·go_enter Tryz.func29, Tryz.ntmps29
  go_upto_region 1 with (fail)
  rw [← HSS.out, ← HWW.out]
  go_wp2_with fail
  go_ret2
  exact ⟨rfl, hbW⟩
 ·have n0 : ((n : Int) == 0) = false := by simp; omega
  have n1 : 60 < (n : Int) := by omega
  have HM := Lib.hid (lenE_far h)
  rw [HM.out]
  go_enter Tryz.func29, Tryz.ntmps29
  go_upto_region 1 with (fail)
  rw [← HSS.out, ← HWW.out]
  go_wp2_with fail
  go_ret2
  exact ⟨rfl, hbW⟩
set_option maxRecDepth 100000 in
set_option maxHeartbeats 4000000 in
theorem EisB_bad {w : World} {A : Option Addr} {n c : Nat} {l : List Int} (h : IsD w (fun _ => True) (.slice A n c) l) (hn1 : 0 < n) (hn2 : n ≤ 60) (ho : l.all okU = false) :
  Calls Tryz.prog 29 #[.agg #[.int .i64 0, .slice none 0 0, .int .i64 0, .int .i64 0, .int .i64 0, .slice none 0 0, .slice A n c]] w fun e w' => e = .returned (.tuple #[.slice none 0 0, .int .i64 2]) ∧ Below w.heap.size w w' := by
 have hl := h.len
 obtain ⟨b, off, rfl, hc⟩ : ∃ b off, A = some ⟨b, off, none⟩ ∧ ∀ j, j < n → w.cell? ⟨b, off + j, none⟩ = some (.int .i64 (gz l j)) := by
  obtain ⟨b, off, rfl, _, _⟩ := h.at (j := 0) hn1
  refine ⟨b, off, rfl, fun j hj => ?_⟩
  obtain ⟨b2, off2, e, _, h2⟩ := h.at (j := j) hj
  injection e with e
  injection e with e1 e2
  subst e1 e2
  exact h2
 obtain ⟨W, hW⟩ : ∃ W, W = w.alloc (.cells #[.int .i64 0, .slice none 0 0, .int .i64 0, .int .i64 0, .int .i64 0, .slice none 0 0, .slice (some ⟨b, off, none⟩) n c] 66) := ⟨_, rfl⟩
 obtain ⟨S, hS⟩ : ∃ S, S = w.heap.size := ⟨_, rfl⟩
 have hbW : Below w.heap.size w W := by rw [hW]; exact (Below.refl _ _).alloc (Nat.le_refl _) _
 have b6 : W.cell? ⟨S, 6, none⟩ = some (.slice (some ⟨b, off, none⟩) n c) := by rw [hW, hS]; go_simp
 have HC := Lib.hid (fun j (hj : j < n) => keepB hbW (hc j hj))
 have HWW := Lib.hid hW
 have HSS := Lib.hid hS
 have HBW := Lib.hid hbW
 have HL := Lib.hid hl
 have HOK := Lib.hid (unU_oke l)
 have HBAD := Lib.hid ho
 have HAT := Lib.hid (fun k (hk : k < n) => unU_at (l := l) (k := k) (by rw [hl]; exact hk))
 have n0 : ((n : Int) == 0) = false := by simp; omega
 have n0' : ¬ (n : Int) = 0 := by omega
 have n1 : ¬ 60 < (n : Int) := by omega
 have n2 : ¬ 60 < n := by omega
 clear h hc hW hS hbW hl ho
 generalize l.map unU = us at *
 go_enter Tryz.func29, Tryz.ntmps29
 go_upto_region 1 with (fail)
 rw [← HSS.out, ← HWW.out]
 go_wp2_with fail
 go_loopw [4, 26] (fun av iv wr => ∃ k : Nat, av = .int .i64 (alE us k : Nat) ∧ iv = .int .i64 (k : Nat) ∧ k ≤ n ∧ Below W.heap.size W wr ∧ Hid (∀ j, j < k → okU (gz l j) = true)) (fun _ iv _ => n - (intOf iv).toNat)
 case atStart => exact ⟨0, rfl, rfl, by omega, Below.refl _ _, Lib.hid fun j hj => by omega⟩
 case round =>
  obtain ⟨k, rfl, rfl, hk, hbr, HPR⟩ := hrel
  rcases Nat.lt_or_ge k n with hkn | hkn
  ·have c0 := keepB hbr (HC.out k hkn)
   have k1 : (k : Int) < (n : Int) := by omega
   have k2 : (0 : Int) ≤ (k : Int) := by omega
   cases hok : okU (gz l k) with
   | false =>
    have hx := of_decide_eq_false hok
    clear hok
    generalize gz l k = x at *
    rcases Int.lt_or_le x 1 with h1 | h1
    ·clear hx
     go_wp2_with fail
     go_ret2
     exact ⟨rfl, HBW.out.trans (hbr.mono HBW.out.size)⟩
    ·have h2 : 24 < x := by omega
     have h3 : ¬ x < 1 := by omega
     clear hx
     go_wp2_with fail
     go_ret2
     exact ⟨rfl, HBW.out.trans (hbr.mono HBW.out.size)⟩
   | true =>
    have hat := HAT.out k hkn hok
    have HPR2 : Hid (∀ j, j < k + 1 → okU (gz l j) = true) := Lib.hid fun j hj => by
     rcases Nat.lt_or_ge j k with h1 | h1
     ·exact HPR.out j h1
     ·obtain rfl : j = k := by omega
      exact hok
    rw [← hat] at c0
    clear hok hat
    obtain ⟨u1, u2⟩ := okE_at HOK.out k
    have ha1 := alE_le HOK.out k
    have ha2 := alE_le HOK.out (k + 1)
    have hst : alE us (k + 1) = alE us k * (us.getD k 1 / Nat.gcd (alE us k) (us.getD k 1)) := (alE_prog _ _).symm
    generalize us.getD k 1 = u at *
    generalize alE us k = a at *
    have HG := Lib.hid (fun (w : World) => @gcdB_any a u w (by omega) (by omega))
    have hg0 : 0 < Nat.gcd a u := Nat.gcd_pos_of_pos_right _ u1
    generalize Nat.gcd a u = g at *
    have hd1 : u / g ≤ u := Nat.div_le_self _ _
    have HDI := Lib.hid (show (u : Int) / (g : Int) = ((u / g : Nat) : Int) from rfl)
    generalize u / g = d at *
    have HWD := Lib.hid (show wrap64 (d : Int) = (d : Int) from by unfold wrap64; omega)
    have HST := Lib.hid hst
    rw [hst] at ha2
    have ha3 : (a : Int) * (d : Int) ≤ 5354228880 := by
     obtain ⟨m, hm⟩ : ∃ m, m = a * d := ⟨_, rfl⟩
     rw [← hm] at ha2
     have e : (a : Int) * (d : Int) = (m : Int) := by rw [hm, Int.natCast_mul]
     omega
    have ha4 : (0 : Int) ≤ (a : Int) * (d : Int) := Int.mul_nonneg (by omega) (by omega)
    clear hst ha2
    have z1 : ¬ (u : Int) < 1 := by omega
    have z2 : ¬ 24 < (u : Int) := by omega
    have z3 : ¬ u < 1 := by omega
    have z4 : ¬ 24 < u := by omega
    have g0 : ((g : Int) == 0) = false := by simp; omega
    have g1 : ((g : Int) == -1) = false := by simp
    have HM := Lib.hid (show wrap64 ((a : Int) * (d : Int)) = (a : Int) * (d : Int) from by unfold wrap64; omega)
    go_wp2_with (go_at_call 82; go_must (refine (HG.out _).mono ?_); rintro e w1 ⟨rfl, hb1⟩)
    go_roundw
    case rel => exact ⟨k + 1, by rw [HST.out]; rw [HDI.out, HWD.out, HM.out, Int.natCast_mul], by go_num, by omega, btrN hbr hb1, HPR2⟩
    case measure => simp [intOf]; omega
  ·obtain rfl : k = n := by omega
   have := all_upto (l := l) (by rw [HL.out]; exact HPR.out)
   rw [HBAD.out] at this
   cases this
theorem Within_any {n lo hi : Int} {b : Bool} (h : decide (lo ≤ n ∧ n ≤ hi) = b) (w : World) : Calls Tryz.prog 15 #[.int .i64 n, .int .i64 lo, .int .i64 hi] w fun e w' => e = .returned (.bool b) ∧ w = w' := by
 by_cases h1 : lo ≤ n
 ·by_cases h2 : n ≤ hi
  ·have e : b = true := by rw [← h]; simp [h1, h2]
   subst e
   clear h
   go_enter Tryz.func15, Tryz.ntmps15
   go_wp2
   go_ret
   exact ⟨rfl, rfl⟩
  ·have e : b = false := by rw [← h]; simp; omega
   subst e
   clear h
   have hd : decide (n ≤ hi) = false := by simpa using h2
   go_enter Tryz.func15, Tryz.ntmps15
   go_wp2
   go_ret
   exact ⟨rfl, rfl⟩
 ·have e : b = false := by rw [← h]; simp; omega
  subst e
  clear h
  have hd : decide (lo ≤ n) = false := by simpa using h1
  go_enter Tryz.func15, Tryz.ntmps15
  go_wp2
  go_ret
  exact ⟨rfl, rfl⟩
theorem CheckEisR_len {w : World} {A : Option Addr} {n c : Nat} (h : n = 0 ∨ 60 < n) :
  Calls Tryz.prog 30 #[.slice A n c] w fun e w' => e = .returned (.int .i64 (lenE n)) ∧ Below w.heap.size w w' := by
 rcases h with rfl | h
 ·go_enter Tryz.func30, Tryz.ntmps30
  go_wp2_with fail
  go_ret
  exact ⟨rfl, Below.refl _ _⟩
 ·have n0 : ((n : Int) == 0) = false := by simp; omega
  have n1 : 60 < (n : Int) := by omega
  have HM := Lib.hid (lenE_far h)
  rw [HM.out]
  go_enter Tryz.func30, Tryz.ntmps30
  go_wp2_with fail
  go_ret
  exact ⟨rfl, Below.refl _ _⟩
set_option maxRecDepth 100000 in
set_option maxHeartbeats 4000000 in
theorem CheckEisR_any {w : World} {A : Option Addr} {n c : Nat} {l : List Int} (h : IsD w (fun _ => True) (.slice A n c) l) (h64 : i64R l) (hn1 : 0 < n) (hn2 : n ≤ 60) :
  Calls Tryz.prog 30 #[.slice A n c] w fun e w' => e = .returned (.int .i64 (badE l)) ∧ Below w.heap.size w w' := by
 have hl := h.len
 obtain ⟨b, off, rfl, hc⟩ : ∃ b off, A = some ⟨b, off, none⟩ ∧ ∀ j, j < n → w.cell? ⟨b, off + j, none⟩ = some (.int .i64 (gz l j)) := by
  obtain ⟨b, off, rfl, _, _⟩ := h.at (j := 0) hn1
  refine ⟨b, off, rfl, fun j hj => ?_⟩
  obtain ⟨b2, off2, e, _, h2⟩ := h.at (j := j) hj
  injection e with e
  injection e with e1 e2
  subst e1 e2
  exact h2
 have HC := Lib.hid hc
 have HL := Lib.hid hl
 have HI := Lib.hid (fun j (hj : j < n) => h64 (gz l j) (gz_mem (by rw [hl]; exact hj)))
 have n0 : ((n : Int) == 0) = false := by simp; omega
 have n0' : ¬ (n : Int) = 0 := by omega
 have n1 : ¬ 60 < (n : Int) := by omega
 have n2 : ¬ 60 < n := by omega
 clear h hc hl h64
 go_enter Tryz.func30, Tryz.ntmps30
 go_wp2_with fail
 go_loopw [3] (fun iv wr => ∃ k : Nat, iv = .int .i64 (k : Nat) ∧ k ≤ n ∧ Below w.heap.size w wr ∧ Hid (∀ j, j < k → okU (gz l j) = true)) (fun iv _ => n - (intOf iv).toNat)
 case atStart => exact ⟨0, rfl, by omega, Below.refl _ _, Lib.hid fun j hj => by omega⟩
 case round =>
  obtain ⟨k, rfl, hk, hbr, HPR⟩ := hrel
  rcases Nat.lt_or_ge k n with hkn | hkn
  ·have c0 := keepB hbr (HC.out k hkn)
   have k1 : (k : Int) < (n : Int) := by omega
   have k2 : (0 : Int) ≤ (k : Int) := by omega
   cases hok : okU (gz l k) with
   | false =>
    have HPR2 : Hid (l.all okU = false) := Lib.hid (by
     rw [List.all_eq_false]
     exact ⟨gz l k, gz_mem (by rw [HL.out]; exact hkn), by rw [hok]; simp⟩)
    have HM := Lib.hid (badE_f HPR2.out)
    have hd : decide (1 ≤ gz l k ∧ gz l k ≤ 24) = false := hok
    have HW2 := Lib.hid (Within_any hd)
    clear hok hd HPR2
    go_wp2_with (go_at_call 15; go_must (refine (HW2.out _).mono ?_); rintro e w1 ⟨rfl, rfl⟩)
    go_ret
    exact ⟨by rw [HM.out]; rfl, hbr⟩
   | true =>
    have HPR2 : Hid (∀ j, j < k + 1 → okU (gz l j) = true) := Lib.hid fun j hj => by
     rcases Nat.lt_or_ge j k with h1 | h1
     ·exact HPR.out j h1
     ·obtain rfl : j = k := by omega
      exact hok
    have hd : decide (1 ≤ gz l k ∧ gz l k ≤ 24) = true := hok
    have HW2 := Lib.hid (Within_any hd)
    clear hok hd
    go_wp2_with (go_at_call 15; go_must (refine (HW2.out _).mono ?_); rintro e w1 ⟨rfl, rfl⟩)
    go_roundw
    case rel => exact ⟨k + 1, by go_num, by omega, hbr, HPR2⟩
    case measure => simp [intOf]; omega
  ·obtain rfl : k = n := by omega
   have HAL := Lib.hid (all_upto (l := l) (by rw [HL.out]; exact HPR.out))
   have HM := Lib.hid (badE_t HAL.out)
   have k1 : ¬ (k : Int) < (k : Int) := by omega
   go_wp2_with fail
   go_ret
   exact ⟨by rw [HM.out]; rfl, hbr⟩
end Go.Proofs.YtdjpeimecfhdjaaGreat
