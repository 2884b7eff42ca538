/- The reference's Enclose: Gcd, Lowest, Floor, within, Far. The reference's Far. -/
import Derived.Test.YtdmdagilopckgaaGreatB9
import Derived.Test.YtdmdagilopckgaaGreatB5
import Derived.IntWalk
import Derived.Test.YtdmdagilopckgaaGreatLaq
namespace Go.Proofs.YtdmdagilopckgaaGreat
open Go.RowKit

theorem bAbs_any {w : World} (t : Int) (h1 : -9000000000000000000 ≤ t) (h2 : t ≤ 9000000000000000000) : Calls Tryz.prog 122 #[.int .i64 t] w fun e w' => e = .returned (.int .i64 (t.natAbs : Int)) ∧ w = w' := by
  have hw : IntKind.i64.wrap (-t) = -t := IntWalk.i64_in _ (by omega)
  by_cases h : t < 0
  · have hd : decide (t < 0) = true := decide_eq_true h
    have e : ((t.natAbs : Nat) : Int) = -t := by omega
    rw [e]
    clear e
    go_enter Tryz.func122, Tryz.ntmps122
    go_wp2_with fail
    go_ret
    exact ⟨rfl, rfl⟩
  · have hd : decide (t < 0) = false := decide_eq_false h
    have e : ((t.natAbs : Nat) : Int) = t := by omega
    rw [e]
    clear e
    go_enter Tryz.func122, Tryz.ntmps122
    go_wp2_with fail
    go_ret
    exact ⟨rfl, rfl⟩
theorem gcd_stepI (x y : Int) : Int.gcd y (x.tmod y) = Int.gcd x y := by
  rw [Int.gcd, Int.natAbs_tmod, Int.gcd, Nat.gcd_comm x.natAbs, Nat.gcd_comm y.natAbs, ← Nat.gcd_rec]
set_option maxHeartbeats 1000000 in
theorem bGcd_any {a b : Int} {w : World} (ha : a.natAbs ≤ 9000000000000000000) (hb : b.natAbs ≤ 9000000000000000000) :
    Calls Tryz.prog 116 #[.int .i64 a, .int .i64 b] w fun e w' => e = .returned (.int .i64 (Int.gcd a b : Nat)) ∧ Below w.heap.size w w' := by
  go_enter Tryz.func116, Tryz.ntmps116
  go_wp2_with fail
  go_loopw [0, 1] (fun av bv wr => ∃ x y : Int, av = .int .i64 x ∧ bv = .int .i64 y ∧ x.natAbs ≤ 9000000000000000000 ∧ y.natAbs ≤ 9000000000000000000 ∧ Hid (Int.gcd x y = Int.gcd a b) ∧ Below w.heap.size w wr) (fun _ bv _ => (intOf bv).natAbs)
  case atStart => exact ⟨a, b, rfl, rfl, ha, hb, Lib.hid rfl, Below.refl _ _⟩
  case round =>
    clear ha hb
    obtain ⟨x, y, rfl, rfl, hx, hy, HG, hbr⟩ := hrel
    by_cases h0 : y = 0
    · subst h0
      have HE := Lib.hid (show Int.gcd a b = x.natAbs by rw [← HG.out, Int.gcd_zero_right])
      have HA := Lib.hid (bAbs_any (w := wr) x (by omega) (by omega))
      clear HG hy
      go_wp2_with (go_at_call 122; go_must (refine HA.out.mono ?_); rintro e w2 ⟨rfl, rfl⟩)
      go_ret
      exact ⟨by rw [HE.out]; rfl, hbr⟩
    · have HS := Lib.hid (show Int.gcd y (x.tmod y) = Int.gcd a b by rw [gcd_stepI, HG.out])
      have hlt : (x.tmod y).natAbs < y.natAbs := by rw [Int.natAbs_tmod]; exact Nat.mod_lt _ (by omega)
      have y0 : (y == 0) = false := by simpa using h0
      have y1 : (y != 0) = true := by simpa using h0
      have hw : IntKind.i64.wrap (x.tmod y) = x.tmod y := IntWalk.i64_in _ (by omega)
      clear HG h0
      go_wp2_with fail
      go_quiet (fail)
      go_wp2_with fail
      exact ⟨⟨y, x.tmod y, rfl, rfl, hy, by omega, HS, below_drewN' hbr _⟩, by simp only [intOf]; exact hlt⟩

theorem tmod2 (x : Int) : x % 2 = if x.tmod 2 < 0 then x.tmod 2 + 2 else x.tmod 2 := by
  rcases show 0 ≤ x ∨ x < 0 by omega with h | h
  · have h1 : x.tmod 2 = x % 2 := Int.tmod_eq_emod_of_nonneg h
    rw [h1]
    split <;> omega
  · have h1 : (-x).tmod 2 = (-x) % 2 := Int.tmod_eq_emod_of_nonneg (by omega)
    rw [Int.neg_tmod] at h1
    split <;> omega
theorem bMod2_any {x : Int} {w : World} : Calls Tryz.prog 117 #[.int .i64 x, .int .i64 2] w fun e w' => e = .returned (.int .i64 (x % 2)) ∧ w = w' := by
  have h := tmod2 x
  have hl : -2 ≤ x.tmod 2 ∧ x.tmod 2 < 2 := by
    generalize x.tmod 2 = r at h
    have h1 := Int.emod_nonneg x (show (2 : Int) ≠ 0 by decide)
    have h2 := Int.emod_lt_of_pos x (show (0 : Int) < 2 by decide)
    generalize x % 2 = q at *
    split at h <;> omega
  have HT := Lib.hid h
  have hw0 : IntKind.i64.wrap (x.tmod 2) = x.tmod 2 := IntWalk.i64_in _ (by omega)
  have hw1 : IntKind.i64.wrap (x.tmod 2 + 2) = x.tmod 2 + 2 := IntWalk.i64_in _ (by omega)
  clear h
  by_cases h : x.tmod 2 < 0
  · have hd : decide (x.tmod 2 < 0) = true := decide_eq_true h
    have HE := Lib.hid (show x % 2 = x.tmod 2 + 2 by rw [HT.out, if_pos h])
    go_enter Tryz.func117, Tryz.ntmps117
    go_wp2_with fail
    go_ret
    exact ⟨by rw [HE.out]; rfl, rfl⟩
  · have hd : decide (x.tmod 2 < 0) = false := decide_eq_false h
    have HE := Lib.hid (show x % 2 = x.tmod 2 by rw [HT.out, if_neg h])
    go_enter Tryz.func117, Tryz.ntmps117
    go_wp2_with fail
    go_ret
    exact ⟨by rw [HE.out]; rfl, rfl⟩
theorem bFloor2_any {x : Int} {w : World} (hx : x.natAbs ≤ 4000000000000000000) : Calls Tryz.prog 85 #[.int .i64 x, .int .i64 2] w fun e w' => e = .returned (.int .i64 (x / 2)) ∧ w = w' := by
  have hw0 : IntKind.i64.wrap (x - x % 2) = x - x % 2 := IntWalk.i64_in _ (by omega)
  have hd : (2 : Int) ∣ x - x % 2 := by omega
  have HE := Lib.hid (show (x - x % 2).tdiv 2 = x / 2 by rw [Int.tdiv_eq_ediv_of_dvd hd]; omega)
  have hw1 : IntKind.i64.wrap ((x - x % 2).tdiv 2) = (x - x % 2).tdiv 2 := by rw [HE.out]; exact IntWalk.i64_in _ (by omega)
  clear hd
  go_enter Tryz.func85, Tryz.ntmps85
  go_wp2_with (go_at_call 117; go_must (refine bMod2_any.mono ?_); rintro e w1 ⟨rfl, rfl⟩)
  go_ret
  exact ⟨by rw [← HE.out]; rfl, rfl⟩

set_option maxHeartbeats 1000000 in
theorem qLowest_any {k d : Int} {w : World} (hk : k.natAbs ≤ 9000000000000000000) (h0 : 0 < d) (hd : d ≤ 9000000000000000000) :
    Calls Tryz.prog 84 #[.int .i64 k, .int .i64 d] w fun e w' => e = .returned (.agg #[.int .i64 (lwN k d), .int .i64 (lwD k d)]) ∧ Below w.heap.size w w' := by
  have hg0 : 0 < Int.gcd k d := Int.gcd_pos_of_ne_zero_right _ (by omega)
  have hgd : Int.gcd k d ≤ d.natAbs := Int.gcd_le_natAbs_right _ (by omega)
  have HN := Lib.hid (show k.tdiv (Int.gcd k d : Int) = lwN k d from Int.tdiv_eq_ediv_of_dvd (Int.gcd_dvd_left ..))
  have HD := Lib.hid (show d.tdiv (Int.gcd k d : Int) = lwD k d from Int.tdiv_eq_ediv_of_dvd (Int.gcd_dvd_right ..))
  have HC := Lib.hid (fun w => bGcd_any (a := k) (b := d) (w := w) hk (by omega))
  generalize lwN k d = x at *
  generalize lwD k d = y at *
  generalize hg : Int.gcd k d = g at *
  have Hg := Lib.hid hg
  clear hg
  have g0 : ((g : Int) == 0) = false := by simp; omega
  have g1 : ((g : Int) == -1) = false := by simp
  go_enter Tryz.func84, Tryz.ntmps84
  go_wp2_with (go_at_call 116; go_must (refine (HC.out _).mono ?_); rintro e w1 ⟨rfl, hb1⟩)
  all_goals
    have q0 : w1.cell? ⟨w.heap.size, 0, none⟩ = some (.int .i64 0) := keepB hb1 (by go_simp)
    have q1 : w1.cell? ⟨w.heap.size, 1, none⟩ = some (.int .i64 0) := keepB hb1 (by go_simp)
    have z0 : w1.frozen? ⟨w.heap.size, 0, none⟩ = false := ((bcell hb1).2 _ _ (by simp)).trans (by go_simp)
    have z1 : w1.frozen? ⟨w.heap.size, 1, none⟩ = false := ((bcell hb1).2 _ _ (by simp)).trans (by go_simp)
    go_region
    go_wp2_with fail
    have hb2 : Below w.heap.size w w1 := (below_al (Below.refl _ _) _).trans (hb1.mono (by simp))
    have HX : k / (g : Int) = x := by rw [← Hg.out, ← Int.tdiv_eq_ediv_of_dvd (Int.gcd_dvd_left ..), Hg.out]; exact HN.out
    have HY : d / (g : Int) = y := by rw [← Hg.out, ← Int.tdiv_eq_ediv_of_dvd (Int.gcd_dvd_right ..), Hg.out]; exact HD.out
    have HZ := HN.out
    have c0 : ((w1.setCell ⟨w.heap.size, 0, none⟩ (.int .i64 x)).setCell ⟨w.heap.size, 1, none⟩ (.int .i64 y)).cell? ⟨w.heap.size, 0, none⟩ = some (.int .i64 x) := by go_simp
    have c1 : ((w1.setCell ⟨w.heap.size, 0, none⟩ (.int .i64 x)).setCell ⟨w.heap.size, 1, none⟩ (.int .i64 y)).cell? ⟨w.heap.size, 1, none⟩ = some (.int .i64 y) := by go_simp
    try rw [HX]
    try rw [HZ]
    rw [HY]
    generalize hW : (w1.setCell ⟨w.heap.size, 0, none⟩ (.int .i64 x)).setCell ⟨w.heap.size, 1, none⟩ (.int .i64 y) = W at *
    have hb3 : Below w.heap.size w W.drew := by rw [← hW]; exact ((hb2.setCell (by simp) _).setCell (by simp) _).drew
    refine bodyPost_ret (v := .agg #[.int .i64 x, .int .i64 y]) (by simp [results, Tryz.results84, go_sem, c0, c1]) rfl ⟨rfl, hb3⟩

theorem encs_lengthQ : ∀ L : List En, (encs L).length = L.length * 5
  | [] => rfl
  | q :: L => by rw [encs, List.length_append, encs_lengthQ L, List.length_cons]; simp [enc]; omega
theorem add_atQ (b off i : Nat) : (⟨b, off, none⟩ : Addr).add i = ⟨b, off + i, none⟩ := by
  unfold Addr.add
  split
  · rename_i h; subst h; rfl
  · rfl
theorem OwnE.below {w w' : World} {base : Nat} {v : Value} {L : List En} (h : OwnE w base v L) (hb : Below w.heap.size w w') : OwnE w' base v L := by
  refine ⟨h.1, ?_⟩
  rcases h.2 with h4 | ⟨g, cap, cur, e, h4, h5, h6⟩
  · exact .inl h4
  · exact .inr ⟨g, cap, cur, e, h4, (hb.block g (World.ownsRow.lt h g (by rw [e]; rfl)).2).trans h5, h6⟩
theorem OwnE.base_le {w : World} {base base' : Nat} {v : Value} {L : List En} (h : OwnE w base v L) (hb : base' ≤ base) : OwnE w base' v L := by
  refine ⟨h.1, ?_⟩
  rcases h.2 with h4 | ⟨g, cap, cur, e, h4, h5, h6⟩
  · exact .inl h4
  · exact .inr ⟨g, cap, cur, e, Nat.le_trans hb h4, h5, h6⟩
/-- append(own, others...). -/
theorem wpList_appE {w0 : World} {ops : Array Oper} {rest : List Oper} {o : Oper} {a : Act} {Q : Exit → Act → World → Prop} (hgd : o.guard = none) (s x : Operand)
    (ho : o.op = .call { callee := .builtin .append, args := #[s, x], argTypes := #[32, 32] }) (base : Nat) (v : Value) (L M : List En) (hs : a.eval s = v) (hown : OwnE w0 base v L) (A : Option Addr) (c : Nat) (hx : a.eval x = .slice A M.length c) (hr : EnA w0 A M.length c M)
    (h63 : L.length + M.length ≤ 1000000000) (hbase : base ≤ w0.heap.size)
    (h : ∀ v' w', OwnE w' base v' (L ++ M) → Below base w0 w' → wpList Tryz.prog ops Q rest (a.put o.dst v') w') :
    wpList Tryz.prog ops Q (o :: rest) a w0 := by
  refine wpList_app _ hgd s x _ _ ho base 42 42 (.agg #[.int .i64 0, .int .i64 0, .int .i64 0, .int .i64 0, .int .i64 0]) 5 40 Tryz.underlying32 Tryz.underlying32 info_Enc rfl (by omega) v L.length (encs L) hs hown A M.length c (encs M) hx ?_ ?_ (by unfold maxLen; omega) (by omega) hbase ?_
  · refine ⟨by rw [encs_lengthQ], fun hn => ?_⟩
    obtain ⟨b, off, e, hc⟩ := hr.cells hn
    refine ⟨⟨b, off, none⟩, e, fun j u hu => ?_⟩
    rw [add_atQ]
    exact hc j u hu
  · intro u hu
    obtain ⟨j, hj⟩ := List.getElem?_of_mem hu
    have hlt : j < (encs M).length := by
      rcases Nat.lt_or_ge j (encs M).length with h1 | h1
      · exact h1
      · rw [List.getElem?_eq_none h1] at hj; cases hj
    rw [encs_lengthQ] at hlt
    have hq : M[j / 5]? = some M[j / 5] := List.getElem?_eq_getElem (by omega)
    have h6 := encs_at hq (j % 5) (Nat.mod_lt _ (by omega))
    rw [show j / 5 * 5 + j % 5 = j by omega, hj] at h6
    have hm : u ∈ enc M[j / 5] := List.mem_of_getElem? h6.symm
    simp [enc] at hm
    rcases hm with rfl | rfl | rfl | rfl | rfl <;> rfl
  · intro v' w' hown' hg _
    refine h v' w' ?_ ((Below.refl _ _).grown hg hbase (fun k hk => (World.ownsRow.lt hown k hk).1))
    unfold OwnE
    rw [List.length_append, encs_append]
    exact hown'

theorem OwnE.made {w : World} {base : Nat} {a b c d n : Int} (hb : base ≤ w.heap.size) : OwnE (w.alloc (.cells #[.int .i64 a, .int .i64 b, .int .i64 c, .int .i64 d, .int .i64 n] 42)) base (.slice (some ⟨w.heap.size, 0, none⟩) 1 1) [(a, b, c, d, n)] :=
  ⟨rfl, .inr ⟨w.heap.size, 1, #[.int .i64 a, .int .i64 b, .int .i64 c, .int .i64 d, .int .i64 n], rfl, hb, heap_alloc_new w _, Nat.le_refl _, by unfold maxLen; omega, rfl, rfl⟩⟩
/-- What within returns. -/
def WiR (w : World) (L : List En) (e : Ending) (w' : World) : Prop := ∃ v, e = .returned v ∧ OwnE w' w.heap.size v L ∧ Below w.heap.size w w'
theorem lw_le {k den : Int} (hk : k.natAbs ≤ 100000000) (h0 : 0 < den) (hd : den ≤ 1000) : (lwN k den).natAbs ≤ 1000000000 ∧ (lwD k den).natAbs ≤ 1000000000 := lw_small (by omega) h0 (by omega)

set_option maxRecDepth 100000 in
set_option maxHeartbeats 4000000 in
theorem qWithin_any {t : List Int} {den : Int} (g : GoodP t) (hd0 : 0 < den) (hd : den ≤ 1000) : ∀ (f : Nat) (lo hi : Int) (w : World) (A : Option Addr) (n c : Nat), f ≤ 26 → CV w (.slice A n c) (ch t) → lo.natAbs ≤ 100000000 → hi.natAbs ≤ 100000000 → lo < hi → hi - lo ≤ 2 ^ f →
    Calls Tryz.prog 45 #[.slice A n c, .int .i64 den, .int .i64 lo, .int .i64 hi] w (WiR w (enF (gat t den) den f lo hi)) := by
  intro f
  induction f using Nat.strongRecOn with
  | _ f ih =>
  intro lo hi w A n c hf hcv hlo hhi hlt h2f
  have hr := cv_roomQ hcv
  have hnl : n ≤ 1000 := by have h1 := hcv.room.1; have h2 : (ch t).length ≤ 12 := g.chl; omega
  obtain ⟨a1, a2⟩ := lw_le hlo hd0 hd
  obtain ⟨a3, a4⟩ := lw_le hhi hd0 hd
  have e1 := chA_le (lwN lo den) (lwD lo den) g
  have e2 := chA_le (lwN hi den) (lwD hi den) g
  have HC1 := Lib.hid (sgs_one (lwN lo den) (lwD lo den) (ch t))
  have HC2 := Lib.hid (sgs_one (lwN hi den) (lwD hi den) (ch t))
  have hcl : (ch t).length ≤ 12 := g.chl
  have HE1 := Lib.hid (fun (w' : World) (A' : Option Addr) (n' c' : Nat) (hr : RowsD Iv w' (fun _ => True) (.slice A' n' c') ((ch t).map (sgA' (lwN lo den) (lwD lo den)))) => show Calls Tryz.prog 42 #[.slice A' n' c'] w' (fun e w'' => e = .returned (.int .i64 (chA (lwN lo den) (lwD lo den) (ch t))) ∧ w' = w'') from qChanges_any hr (by have := hr.room.1; rw [List.length_map] at this; omega) HC1.out)
  have HE2 := Lib.hid (fun (w' : World) (A' : Option Addr) (n' c' : Nat) (hr : RowsD Iv w' (fun _ => True) (.slice A' n' c') ((ch t).map (sgA' (lwN hi den) (lwD hi den)))) => show Calls Tryz.prog 42 #[.slice A' n' c'] w' (fun e w'' => e = .returned (.int .i64 (chA (lwN hi den) (lwD hi den) (ch t))) ∧ w' = w'') from qChanges_any hr (by have := hr.room.1; rw [List.length_map] at this; omega) HC2.out)
  have HA1 := Lib.hid (fun (w' : World) (hb : Below w.heap.size w w') => qAt_any (num := lwN lo den) (den := lwD lo den) (hcv.below hb) hnl g.chb a1 a2)
  have HA2 := Lib.hid (fun (w' : World) (hb : Below w.heap.size w w') => qAt_any (num := lwN hi den) (den := lwD hi den) (hcv.below hb) hnl g.chb a3 a4)
  have HZ := Lib.hid (fun h0 : chA (lwN lo den) (lwD lo den) (ch t) - chA (lwN hi den) (lwD hi den) (ch t) = 0 => @enF_zero (gat t den) den lo hi f h0)
  have HO := Lib.hid (fun (h0 : ¬ chA (lwN lo den) (lwD lo den) (ch t) - chA (lwN hi den) (lwD hi den) (ch t) = 0) (h1 : hi - lo = 1) => @enF_one (gat t den) den lo hi f h0 h1)
  have HM := Lib.hid (fun (f' : Nat) (hf' : f = f' + 1) (h0 : ¬ chA (lwN lo den) (lwD lo den) (ch t) - chA (lwN hi den) (lwD hi den) (ch t) = 0) (h1 : ¬ hi - lo = 1) => show enF (gat t den) den f lo hi = enF (gat t den) den f' lo (lo + (hi - lo) / 2) ++ enF (gat t den) den f' (lo + (hi - lo) / 2) hi by rw [hf']; exact @enF_more (gat t den) den lo hi f' h0 h1)
  have HG := Lib.hid (show gat t den lo - gat t den hi = chA (lwN lo den) (lwD lo den) (ch t) - chA (lwN hi den) (lwD hi den) (ch t) from rfl)
  rw [HG.out] at HO
  have HLl := Lib.hid (fun w' => qLowest_any (k := lo) (d := den) (w := w') (by omega) hd0 (by omega))
  have HLh := Lib.hid (fun w' => qLowest_any (k := hi) (d := den) (w := w') (by omega) hd0 (by omega))
  have HCV := Lib.hid hcv
  have HIH := Lib.hid ih
  have HL1 := Lib.hid (enF_length (gat t den) den)
  clear hcv ih HG
  generalize chA (lwN lo den) (lwD lo den) (ch t) = u1 at *
  generalize chA (lwN hi den) (lwD hi den) (ch t) = u2 at *
  generalize lwN lo den = ln at *
  generalize lwD lo den = ld1 at *
  generalize lwN hi den = hn at *
  generalize lwD hi den = hd1 at *
  have hlen : ((ch t).map (sgA' ln ld1)).length = (ch t).length := List.length_map _
  have hwu : IntKind.i64.wrap (u1 - u2) = u1 - u2 := IntWalk.i64_in _ (by omega)
  have hwd : IntKind.i64.wrap (hi - lo) = hi - lo := IntWalk.i64_in _ (by omega)
  go_enter Tryz.func45, Tryz.ntmps45
  go_upto_region 2 with (first
    | (go_at_call 84; ((with_reducible refine (HLl.out _).mono ?_)); rintro e w1 ⟨rfl, hb1⟩)
    | (go_at_call 84; go_must (refine (HLh.out _).mono ?_); rintro e w2 ⟨rfl, hb2⟩))
  obtain ⟨P, hP⟩ : ∃ P, P = w2.heap.size := ⟨_, rfl⟩
  obtain ⟨W, hW⟩ : ∃ W, W = (w2.alloc (.cells #[.int .i64 ln, .int .i64 ld1] 24)).alloc (.cells #[.int .i64 hn, .int .i64 hd1] 24) := ⟨_, rfl⟩
  have hbW : Below w.heap.size w W := by rw [hW]; exact below_al (below_al (btr hb1 hb2) _) _
  have q0 := Lib.hid (show W.cell? ⟨P, 0, none⟩ = some (.int .i64 ln) by rw [hW, hP]; go_simp)
  have q1 := Lib.hid (show W.cell? ⟨P, 1, none⟩ = some (.int .i64 ld1) by rw [hW, hP]; go_simp)
  have q2 := Lib.hid (show W.cell? ⟨P + 1, 0, none⟩ = some (.int .i64 hn) by rw [hW, hP]; go_simp)
  have q3 := Lib.hid (show W.cell? ⟨P + 1, 1, none⟩ = some (.int .i64 hd1) by rw [hW, hP]; go_simp)
  rw [← hW, ← hP]
  clear hW hP hb1 hb2 HLl HLh
  have hS0 : Below W.heap.size W W.drew := (Below.refl _ _).drew
  rename_i K1 hK
  refine wp_region_tr5 (.read 0 (.read 1 (.read 4 (.read 5 (.step 2 (.step 3 (.step 6 (.step 7 (.step 8 (.step 9 .nil)))))))))) [] (by kernel_rfl) (by rfl) (by kernel_rfl) (by kernel_rfl) (fun _ _ _ _ _ h => h) (fun W' => Below W.heap.size W W') ?_
  change goU _ _ _ _ _ _ _ W.drew
  refine goU_read 19 hS0 (by rfl) (by rfl) ?_ (by rfl) (fun wz hSw => ?_) ?_
  rotate_left
  · go_simp
    try with_reducible rfl
  simp only [List.setIfInBounds_toArray, List.set]
  refine goU_read 20 hS0 (by rfl) (by rfl) ?_ (by rfl) (fun wz hSw => ?_) ?_
  rotate_left
  · (have y0 := keepB hSw q0.out); (have y1 := keepB hSw q1.out); go_simp
    try with_reducible rfl
  simp only [List.setIfInBounds_toArray, List.set]
  refine goU_read 23 hS0 (by rfl) (by rfl) ?_ (by rfl) (fun wz hSw => ?_) ?_
  rotate_left
  · go_simp
    try with_reducible rfl
  simp only [List.setIfInBounds_toArray, List.set]
  refine goU_read 24 hS0 (by rfl) (by rfl) ?_ (by rfl) (fun wz hSw => ?_) ?_
  rotate_left
  · (have y0 := keepB hSw q2.out); (have y1 := keepB hSw q3.out); go_simp
    try with_reducible rfl
  simp only [List.setIfInBounds_toArray, List.set]
  refine goU_step (by rfl) ?_
  go_wp2_with (go_at_call 43; go_must (refine (HA1.out _ (btr hbW hS0)).mono ?_); rintro e w3 ⟨v3, rfl, r3, hb3⟩; obtain ⟨A3, c3, rfl⟩ := r3.slice_ (n := (ch t).length) (by rw [List.length_map]))
  have hS1 := btr hS0 hb3
  refine ⟨fun _ => hS1, ?_⟩
  refine goU_step (by rfl) ?_
  go_wp2_with (go_at_call 42; go_must (refine (HE1.out _ _ _ _ r3).mono ?_); rintro e w4 ⟨rfl, rfl⟩)
  refine ⟨fun _ => hS1, ?_⟩
  refine goU_step (by rfl) ?_
  go_wp2_with (go_at_call 43; go_must (refine (HA2.out _ (btr hbW hS1)).mono ?_); rintro e w5 ⟨v5, rfl, r5, hb5⟩; obtain ⟨A5, c5, rfl⟩ := r5.slice_ (n := (ch t).length) (by rw [List.length_map]))
  have hS2 := btr hS1 hb5
  refine ⟨fun _ => hS2, ?_⟩
  refine goU_step (by rfl) ?_
  go_wp2_with (go_at_call 42; go_must (refine (HE2.out _ _ _ _ r5).mono ?_); rintro e w6 ⟨rfl, rfl⟩)
  refine ⟨fun _ => hS2, ?_⟩
  refine goU_step (by rfl) ?_
  go_wp2_with fail
  refine ⟨fun _ => hS2, ?_⟩
  refine goU_step (by rfl) ?_
  go_wp2_with fail
  refine ⟨fun _ => hS2, ?_⟩
  change K1 _ _
  refine hK _ _ ?_
  clear hK
  have p0 := keepB hS2 q0.out
  have p1 := keepB hS2 q1.out
  have p2 := keepB hS2 q2.out
  have p3 := keepB hS2 q3.out
  have hb6 := btr hbW hS2
  clear q0 q1 q2 q3 hS0 hS1 hS2 HA1 HA2 HE1 HE2 HC1 HC2 r3 r5 hb3 hb5 hbW
  by_cases h0 : u1 - u2 = 0
  · have z1 : (u1 - u2 == 0) = true := by simpa using h0
    have HZ2 := Lib.hid (HZ.out h0)
    clear h0 HZ HO HM
    go_wp2_with fail
    go_ret
    exact ⟨_, rfl, by rw [HZ2.out]; exact World.ownsRow_nil _ _ _ _, hb6⟩
  · have z1 : (u1 - u2 == 0) = false := by simpa using h0
    by_cases h1 : hi - lo = 1
    · have z2 : (hi - lo == 1) = true := by simpa using h1
      have HO2 := Lib.hid (HO.out h0 h1)
      clear h0 h1 HZ HO HM
      go_wp2_with fail
      go_ret
      exact ⟨_, rfl, by rw [HO2.out]; exact OwnE.made (by have := hb6.size; omega), below_al hb6 _⟩
    · have z2 : (hi - lo == 1) = false := by simpa using h1
      have hfx : ∃ f', f = f' + 1 := by
        cases f with
        | zero => simp at h2f; omega
        | succ m => exact ⟨m, rfl⟩
      obtain ⟨f', hf'⟩ := hfx
      have HM2 := Lib.hid (HM.out f' hf' h0 h1)
      have h2 : hi - lo ≤ 2 ^ f' * 2 := by
        have h3 := h2f
        rw [hf', Int.pow_succ] at h3
        exact h3
      have hw9 : IntKind.i64.wrap (lo + hi) = lo + hi := IntWalk.i64_in _ (by omega)
      obtain ⟨m, hm⟩ : ∃ m, lo + (hi - lo) / 2 = m := ⟨_, rfl⟩
      have HF := Lib.hid (fun w' => show Calls Tryz.prog 85 #[.int .i64 (lo + hi), .int .i64 2] w' (fun e w'' => e = .returned (.int .i64 m) ∧ w' = w'') by
        have := @bFloor2_any (lo + hi) w' (by omega)
        rwa [show (lo + hi) / 2 = m by omega] at this)
      have HI1 := Lib.hid (fun w' (hb : Below w.heap.size w w') => HIH.out f' (by omega) lo m w' A n c (by omega) (HCV.out.below hb) hlo (by omega) (by omega) (by omega))
      have HI2 := Lib.hid (fun w' (hb : Below w.heap.size w w') => HIH.out f' (by omega) m hi w' A n c (by omega) (HCV.out.below hb) (by omega) hhi (by omega) (by omega))
      rw [hm] at HM2
      have hp26 : 2 ^ f' ≤ 2 ^ 26 := Nat.pow_le_pow_right (by omega) (by omega)
      have l1 := Nat.le_trans (HL1.out f' lo m) hp26
      have l2 := Nat.le_trans (HL1.out f' m hi) hp26
      clear h0 h1 HZ HO HM HIH HL1 h2 hf' hm hp26 h2f
      generalize enF (gat t den) den f' lo m = L1 at *
      generalize enF (gat t den) den f' m hi = L2 at *
      have hll : L1.length + L2.length ≤ 1000000000 := by omega
      go_wp2_with (first
        | (go_at_call 85; go_must (refine (HF.out _).mono ?_); rintro e w6 ⟨rfl, rfl⟩)
        | (go_at_call 45; ((with_reducible refine (HI1.out _ hb6).mono ?_)); rintro e w7 ⟨v7, rfl, r7, hb7⟩; obtain ⟨A7, c7, rfl, hc7, hr7⟩ := r7.slice; have t7 := btr hb6 hb7)
        | (go_at_call 45; go_must (refine (HI2.out _ t7).mono ?_); rintro e w8 ⟨v8, rfl, r8, hb8⟩; obtain ⟨A8, c8, rfl, hc8, hr8⟩ := r8.slice; have t8 := btr t7 hb8; have o7 := (r7.below hb8).base_le hb6.size)
        | (at_builtin; refine wpList_appE rfl _ _ rfl w.heap.size (.slice A7 L1.length c7) L1 L2 rfl o7 A8 c8 rfl (by obtain ⟨_, _, e9, h9⟩ := r8.env; injection e9 with e91 e92 e93; subst e91 e93; exact h9) hll t8.size ?_; intro v9 w9 r9 hb9))
      go_ret
      exact ⟨v9, rfl, by rw [HM2.out]; exact r9, t8.trans hb9⟩

set_option maxRecDepth 100000 in
set_option maxHeartbeats 4000000 in
theorem qEnclose_any {A : Option Addr} {n c : Nat} {l : List Int} {den : Int} {w : World} (h : Pl IntB w (fun _ => True) A n c l) (hn : n ≤ 1000) (g : GoodP (tz l)) (hd0 : 0 < den) (hd : den ≤ 20) :
    Calls Tryz.prog 16 #[.slice A n c, .int .i64 den] w (WiR w (enL (tz l) den)) := by
  have hm := h.room
  unfold maxLen at hm
  have hc := h.cap
  have HST := Lib.hid (qSturm_any h hn g)
  have hw1 : IntKind.i64.wrap (-1000000 * den) = -1000000 * den := IntWalk.i64_in _ (by omega)
  have hw2 : IntKind.i64.wrap (-1000000 * den - 1) = -1000000 * den - 1 := IntWalk.i64_in _ (by omega)
  have hw3 : IntKind.i64.wrap (1000000 * den) = 1000000 * den := IntWalk.i64_in _ (by omega)
  have HWI := Lib.hid (fun (w' : World) (A' : Option Addr) (n' c' : Nat) (hcv : CV w' (.slice A' n' c') (ch (tz l))) => qWithin_any g hd0 (by omega) 26 (-1000000 * den - 1) (1000000 * den) w' A' n' c' (by omega) hcv (by omega) (by omega) (by omega) (by omega))
  have HE := Lib.hid (show enL (tz l) den = enF (gat (tz l) den) den 26 (-1000000 * den - 1) (1000000 * den) from rfl)
  clear h g
  rw [HE.out]
  generalize ch (tz l) = C at *
  generalize enF (gat (tz l) den) den 26 (-1000000 * den - 1) (1000000 * den) = L at *
  go_enter Tryz.func16, Tryz.ntmps16
  go_wp2_with (first
    | (go_at_call 23; go_must (refine HST.out.mono ?_); rintro e w1 ⟨v1, rfl, r1, hb1⟩; obtain ⟨A1, c1, rfl⟩ := r1.slice; have hr1 := cv_roomQ r1)
    | (go_at_call 45; go_must (refine (HWI.out _ _ _ _ r1).mono ?_); rintro e w2 ⟨v2, rfl, r2, hb2⟩))
  go_ret
  exact ⟨v2, rfl, r2.base_le hb1.size, btr hb1 hb2⟩
end Go.Proofs.YtdmdagilopckgaaGreat

namespace Go.Proofs.YtdmdagilopckgaaGreat
open Go.RowKit

/-- A root is far. -/
def farB (t : List Int) : Bool := chA (-1000000) 1 (ch t) - chA 1000000 1 (ch t) + (if sgA' (-1000000) 1 t = 0 then 1 else 0) != allR (ch t)
theorem allR_bd {t : List Int} (g : GoodP t) : -12 ≤ allR (ch t) ∧ allR (ch t) ≤ 12 := by
  have h1 := chc_bd ((ch t).map sgLo) 0
  have h2 := chc_bd ((ch t).map sgH) 0
  rw [List.length_map] at h1 h2
  have hcl : (ch t).length ≤ 12 := g.chl
  unfold allR
  omega
set_option maxRecDepth 100000 in
set_option maxHeartbeats 4000000 in
theorem qFar_any {A : Option Addr} {n c : Nat} {l : List Int} {w : World} (h : Pl IntB w (fun _ => True) A n c l) (hn : n ≤ 1000) (g : GoodP (tz l)) (hbd : Bd 3 l) :
    Calls Tryz.prog 15 #[.slice A n c] w fun e w' => e = .returned (.bool (farB (tz l))) ∧ Below w.heap.size w w' := by
  have hm := h.room
  unfold maxLen at hm
  have hc := h.cap
  have K1 := Lib.hid (qBetween_any (a := -1000000) (b := 1) (x := 1000000) (y := 1) h hn g (by decide) (by decide) (by decide) (by decide))
  have K2 := Lib.hid (fun w' (hb : Below w.heap.size w w') => qValue_any (num := -1000000) (den := 1) (h.below hb) hn hbd (by omega) (by decide) (by decide))
  have K3 := Lib.hid (fun w' (hb : Below w.heap.size w w') => qAll_any (h.below hb) hn g)
  have HV := Lib.hid (sgA_tz (num := -1000000) (den := 1) (by decide) l)
  rw [← HV.out] at K2
  have e1 := chA_le (-1000000) 1 g
  have e2 := chA_le 1000000 1 g
  have e3 := allR_bd g
  have HF := Lib.hid (show farB (tz l) = (chA (-1000000) 1 (ch (tz l)) - chA 1000000 1 (ch (tz l)) + (if sgA' (-1000000) 1 (tz l) = 0 then 1 else 0) != allR (ch (tz l))) from rfl)
  clear h g hbd HV
  generalize chA (-1000000) 1 (ch (tz l)) = u1 at *
  generalize chA 1000000 1 (ch (tz l)) = u2 at *
  generalize allR (ch (tz l)) = r at *
  generalize sgA' (-1000000) 1 (tz l) = s at *
  rw [HF.out]
  clear HF
  have hw1 : IntKind.i64.wrap (u1 - u2 + 1) = u1 - u2 + 1 := IntWalk.i64_in _ (by omega)
  by_cases h0 : s = 0
  · subst h0
    go_enter Tryz.func15, Tryz.ntmps15
    go_wp2_with (first
      | (go_at_call 14; go_must (refine K1.out.mono ?_); rintro e w1 ⟨rfl, hb1⟩)
      | (go_at_call 26; go_must (refine (K2.out _ hb1).mono ?_); rintro e w2 ⟨rfl, hb2⟩; have t2 := btr hb1 hb2)
      | (go_at_call 44; go_must (refine (K3.out _ t2).mono ?_); rintro e w3 ⟨rfl, hb3⟩))
    go_ret
    exact ⟨rfl, btr t2 hb3⟩
  · have z1 : (s == 0) = false := by simpa using h0
    rw [if_neg h0, Int.add_zero]
    clear h0
    go_enter Tryz.func15, Tryz.ntmps15
    go_wp2_with (first
      | (go_at_call 14; go_must (refine K1.out.mono ?_); rintro e w1 ⟨rfl, hb1⟩)
      | (go_at_call 26; go_must (refine (K2.out _ hb1).mono ?_); rintro e w2 ⟨rfl, hb2⟩; have t2 := btr hb1 hb2)
      | (go_at_call 44; go_must (refine (K3.out _ t2).mono ?_); rintro e w3 ⟨rfl, hb3⟩))
    go_ret
    exact ⟨rfl, btr t2 hb3⟩

/-- A fraction that is a whole number. -/
theorem lw_whole {k den : Int} (hd : 0 < den) : lwN (k * den) den = k ∧ lwD (k * den) den = 1 := by
  have h : (Int.gcd (k * den) den : Int) = den := by
    rw [Int.gcd_comm]
    exact (Int.gcd_eq_left_iff_dvd (by omega)).2 (Int.dvd_mul_left ..)
  unfold lwN lwD
  rw [h]
  exact ⟨Int.mul_ediv_cancel _ (by omega), Int.ediv_self (by omega)⟩
theorem ins_far {t : List Int} {den : Int} (hd : 0 < den) : (insR t den = allR (ch t)) = (farB t = false) := by
  have h1 := lw_whole (k := -1000000) hd
  have h2 := lw_whole (k := 1000000) hd
  unfold insR farB gat
  rw [h1.1, h1.2, h2.1, h2.2, bne_eq_false_iff_eq]
end Go.Proofs.YtdmdagilopckgaaGreat
