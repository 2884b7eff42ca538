/- Package brandt: Sturm. -/
import Derived.Test.YtdmdagilopckgaaGreatB4
namespace Go.Proofs.YtdmdagilopckgaaGreat
open Go.RowKit

theorem pl_of_ownE {w : World} {base : Nat} {E : Nat → Prop} {n : Nat} {v : Value} {xs : List Value} {l : List Int} (h : w.ownsRow base 63 2 v n xs) (hc : Cs w E xs l) (hn : l.length = n) :
    ∃ A c, v = .slice A n c ∧ Pl (fun w v x => NIntV w E v x) w (base ≤ ·) A n c l := by
  rcases Nat.eq_zero_or_pos n with h0 | h0
  · subst h0
    obtain rfl := List.eq_nil_of_length_eq_zero hn
    obtain ⟨A, c, rfl, h1, h2⟩ := own_slice h
    exact ⟨A, c, rfl, Pl.nil c h2⟩
  · obtain ⟨g, cap, rfl, hb, h1, h2, h3, h4⟩ := own_cells h h0
    refine ⟨_, cap, rfl, hn, h1, h2, fun _ => ⟨g, 0, rfl, hb, fun j hj => ?_⟩⟩
    obtain ⟨neg, B, m, k, e0, e1, e2⟩ := hc.2 j (by omega)
    exact ⟨neg, B, m, k, by rw [Nat.zero_add]; exact h4 _ _ e0, by rw [Nat.zero_add]; exact h4 _ _ e1, e2⟩
/-- The cells of a list of integers whose words lie in blocks of E. -/
theorem Pl.srcE {w : World} {D E : Nat → Prop} {A : Option Addr} {n c : Nat} {l : List Int} (h : Pl (fun w v x => NIntV w E v x) w D A n c l) :
    ∃ xs, Cs w (fun b => E b ∧ b < w.heap.size) xs l ∧ Src w 2 A n xs ∧ ∀ u ∈ xs, u.oneCell' = true := by
  rcases Nat.eq_zero_or_pos n with h0 | h0
  · subst h0
    obtain rfl := List.eq_nil_of_length_eq_zero h.len
    exact ⟨[], Cs.nil, ⟨rfl, fun h => absurd h (by omega)⟩, fun u hu => by cases hu⟩
  · obtain ⟨b, off, rfl, hd, hc⟩ := h.cells h0
    have hl := h.len
    let xs : List Value := (List.range (n * 2)).map fun j => (w.cell? ⟨b, off + j, none⟩).getD (.bool false)
    have hx : ∀ j, j < n * 2 → xs[j]? = some ((w.cell? ⟨b, off + j, none⟩).getD (.bool false)) := by
      intro j hj
      simp only [xs, List.getElem?_map, List.getElem?_range hj, Option.map_some]
    have hxl : xs.length = n * 2 := by simp [xs]
    have hcell : ∀ j, j < n * 2 → ∃ u, w.cell? ⟨b, off + j, none⟩ = some u ∧ u.oneCell' = true := by
      intro j hj
      obtain ⟨neg, B, m, k, e0, e1, _⟩ := hc (j / 2) (by omega)
      rcases Nat.mod_two_eq_zero_or_one j with h2 | h2
      · rw [show off + j = off + j / 2 * 2 by omega]; exact ⟨_, e0, rfl⟩
      · rw [show off + j = off + j / 2 * 2 + 1 by omega]; exact ⟨_, e1, rfl⟩
    refine ⟨xs, ⟨by rw [hxl, hl], fun j hj => ?_⟩, ⟨hxl, fun _ => ⟨_, rfl, fun j u hu => ?_⟩⟩, fun u hu => ?_⟩
    · obtain ⟨neg, B, m, k, e0, e1, e2⟩ := hc j (by omega)
      refine ⟨neg, B, m, k, ?_, ?_, NIntV.mono e2 fun b hb hl => ⟨hb, hl⟩⟩
      · rw [hx _ (by omega), e0]; rfl
      · rw [hx _ (by omega), show off + (j * 2 + 1) = off + j * 2 + 1 by omega, e1]; rfl
    · have hj : j < n * 2 := by
        rcases Nat.lt_or_ge j (n * 2) with h1 | h1
        · exact h1
        · rw [List.getElem?_eq_none (by omega)] at hu; cases hu
      rw [hx j hj] at hu
      obtain ⟨u', e, _⟩ := hcell j hj
      rw [e] at hu
      injection hu with hu
      simp only [Option.getD_some] at hu
      subst hu
      unfold Addr.add
      split
      · rename_i hz; subst hz; exact e
      · exact e
    · obtain ⟨j, hu⟩ := List.getElem?_of_mem hu
      have hj : j < n * 2 := by
        rcases Nat.lt_or_ge j (n * 2) with h1 | h1
        · exact h1
        · rw [List.getElem?_eq_none (by omega)] at hu; cases hu
      rw [hx j hj] at hu
      obtain ⟨u', e, h1⟩ := hcell j hj
      rw [e] at hu
      injection hu with hu
      simp only [Option.getD_some] at hu
      subst hu
      exact h1

set_option maxRecDepth 100000 in
set_option maxHeartbeats 1000000 in
theorem cloneE_any {E D : Nat → Prop} {A : Option Addr} {n c : Nat} {l : List Int} {w : World} (h : Pl (fun w v x => NIntV w E v x) w D A n c l) (hn : n ≤ 1000000) :
    Calls Tryz.prog 47 #[.slice A n c] w (Gives w fun w' v => PvD w' (fun b => w.heap.size ≤ b ∨ E b) v l) := by
  obtain ⟨xs, hcs, hsrc, hone⟩ := h.srcE
  have HS := Lib.hid hsrc
  have HC := Lib.hid hcs
  have HO := Lib.hid hone
  clear hsrc hcs hone
  have hl := Lib.hid h.len
  rcases A with _ | ad
  · have h0 : n = 0 := by
      rcases Nat.eq_zero_or_pos n with h0 | h0
      · exact h0
      · obtain ⟨b, off, e, _⟩ := h.cells h0; cases e
    subst h0
    obtain rfl := List.eq_nil_of_length_eq_zero hl.out
    have HN := nil_true
    go_enter Tryz.func47, Tryz.ntmps47
    go_wp2_with fail
    go_ret
    exact ⟨_, rfl, ⟨none, 0, rfl, Pl.nil 0 (Nat.zero_le _)⟩, Below.refl _ _⟩
  · have HN := nil_false
    have hrow : (w.alloc (.cells #[] 63)).ownsRow w.heap.size 63 2 (.slice (some ⟨w.heap.size, 0, none⟩) 0 0) 0 [] := ⟨rfl, .inr ⟨w.heap.size, 0, #[], rfl, Nat.le_refl _, heap_alloc_new w _, Nat.le_refl _, by unfold maxLen; omega, rfl, rfl⟩⟩
    have hbW : Below w.heap.size w (w.alloc (.cells #[] 63)) := (Below.refl _ _).alloc (Nat.le_refl _) _
    have HR := Lib.hid hrow
    have HB := Lib.hid hbW
    clear hrow hbW h
    go_enter Tryz.func47, Tryz.ntmps47
    go_wp2_with (at_builtin; go_must (refine wpList_app _ rfl _ _ _ _ rfl w.heap.size 63 63 (.agg #[.bool false, .slice none 0 0]) 2 32 Tryz.underlying66 Tryz.underlying66 info_Int rfl (by omega) _ 0 [] rfl HR.out (some ad) n c xs rfl (Src.below HS.out HB.out) HO.out (by unfold maxLen; omega) (by omega) (by simp) ?_); intro v' w' hown' hg hob)
    go_ret
    rw [Nat.zero_add, List.nil_append] at hown'
    have hg0 : w.grownBy w' (some w.heap.size) := grownBy_trans (World.grownBy_alloc w _ _) hg
    have hbb : Below w.heap.size w w' := (Below.refl _ _).grown hg0 (Nat.le_refl _) (fun k hk => by injection hk with hk; omega)
    obtain ⟨A', c', rfl, hp⟩ := pl_of_ownE hown' (HC.out.below hbb) hl.out
    exact ⟨_, rfl, (hp.mono (D' := fun b => w.heap.size ≤ b ∨ E b) fun b hb _ => .inl hb).d fun b hb => .inr hb.1, hbb⟩

theorem OwnK.lt {α : Type} {R : World → (Nat → Prop) → Value → α → Prop} {T : TypeId} {w : World} {base : Nat} {v : Value} {L : List α} (h : OwnK R T w base v L) {b : Nat} (hb : some b = v.ownBlock) : base ≤ b ∧ b < w.heap.size := by
  obtain ⟨vs, h1, _⟩ := h
  exact h1.lt b hb.symm
theorem info_Ints : (Tryz.prog.info? 22).map (fun i => (i.zero, i.size, i.bytes)) = some (some (.slice none 0 0), 1, 24) := by kernel_rfl

set_option maxHeartbeats 2000000 in
set_option maxRecDepth 100000 in
theorem Sturm_any {A : Option Addr} {n c : Nat} {l : List Int} {w : World} (h : Pl IntB w (fun _ => True) A n c l) (hg : rdE l = 0 → GoodP (tz l)) :
    Calls Tryz.prog 20 #[.slice A n c] w (AnsR w (rdE l) (fun w' v => CV w' v (ch (tz l))) (.slice none 0 0)) := by
  have hm := h.room
  unfold maxLen at hm
  have hc := h.cap
  obtain ⟨d, hd⟩ : ∃ d, rdE l = d := ⟨_, rfl⟩
  have HD := Lib.hid hd
  by_cases h0 : d = 0
  · subst h0
    have HR := Lib.hid (read_ok h hd)
    have HG := Lib.hid (hg hd)
    clear h hg hd
    generalize tz l = t at *
    go_enter Tryz.func20, Tryz.ntmps20
    go_wp2_with (first
      | (go_at_call 30; go_must (refine HR.out.mono ?_); rintro e w1 ⟨A1, c1, rfl, hp1, hb1⟩; have hc1 := hp1.cap; have hr1 := hp1.room; unfold maxLen at hr1)
      | (go_at_call 33; go_must (refine (chain_good hp1 HG.out).mono ?_); rintro e w2 ⟨v2, rfl, hv2, hb2⟩; obtain ⟨A2, c2, rfl⟩ := hv2.slice))
    obtain ⟨hn2, hc2, hr2⟩ := hv2.room
    clear hn2
    unfold maxLen at hr2
    have hb12 := btr hb1 hb2
    have HV := Lib.hid (show RowsD PvD w2 (fun b => b < w2.heap.size) (.slice A2 (ch t).length c2) (ch t) from hv2.mono fun b _ h => h)
    have hlen : (ch t).length ≤ 12 := HG.out.chl
    have HL := Lib.hid (show ∀ h ∈ ch t, h.length ≤ 12 ∧ Bd 400000000000 h from HG.out.chb)
    clear hp1 hv2 hb1 hb2 HR HG
    generalize hL : ch t = L at *
    have HLE := Lib.hid hL
    clear hL
    go_loopw [6, 20] (fun ov iv wr => ∃ k : Nat, iv = .int .i64 k ∧ k ≤ L.length ∧ OwnK PvD 22 wr w2.heap.size ov (L.take k) ∧ Below w2.heap.size w2 wr) (fun _ iv _ => L.length - (intOf iv).toNat)
    case atStart => exact ⟨0, rfl, by omega, OwnK.nil _ _, Below.refl _ _⟩
    case round =>
      obtain ⟨k, rfl, hk, hown, hbr⟩ := hrel
      rcases Nat.lt_or_ge k L.length with hkn | hkn
      · obtain ⟨p, hp⟩ : ∃ p, L[k]? = some p := ⟨_, List.getElem?_eq_getElem hkn⟩
        have HT := Lib.hid (show L.take (k + 1) = L.take k ++ [p] by rw [List.take_add_one, hp]; rfl)
        have hpl := (HL.out p (List.mem_of_getElem? hp)).1
        obtain ⟨b, off, u, rfl, hu, hpv⟩ := (HV.out.below hbr).at hp
        obtain ⟨A5, c5, rfl, hpd⟩ := hpv
        have hc5 := hpd.cap
        have hr5 := hpd.room
        unfold maxLen at hr5
        have HC := Lib.hid (cloneE_any hpd (by omega))
        have HK := Lib.hid (show (L.take k).length = k by rw [List.length_take]; omega)
        obtain ⟨Ao, co, rfl, hco1, hco2⟩ := hown.slice_ HK.out
        unfold maxLen at hco2
        have HO := Lib.hid hown
        clear hp hpd hown
        go_wp2_with (first
          | (go_at_call 47; go_must (refine HC.out.mono ?_); rintro e w6 ⟨v6, rfl, hv6, hb6⟩; obtain ⟨A6, c6, rfl, hp6⟩ := hv6.get; have how := HO.out.below hb6; have hdd : PvD w6 (fun b => some b ≠ (Value.slice Ao k co).ownBlock) (.slice A6 p.length c6) p := hp6.2.mono (fun b hb _ e => by have h1 := HO.out.lt e; omega))
          | (at_builtin; go_must (refine wpList_pushK _ rfl _ _ _ _ (.slice none 0 0) 24 rfl Tryz.underlying49 Tryz.underlying49 info_Ints rfl (by omega) w2.heap.size (.slice Ao k co) (L.take k) k HK.out rfl how _ p hdd rfl (by omega) (by have := hbr.size; have := hb6.size; omega) ?_); intro A9 c9 w9 hown9 hgr9 hnw9 hb9))
        go_roundw
        case rel => exact ⟨k + 1, by go_num, by omega, by rw [HT.out]; exact hown9, (btr hbr hb6).trans (hb9.mono (Nat.le_refl _))⟩
        case measure => simp [intOf]; omega
      · obtain rfl : k = L.length := by omega
        have HT := Lib.hid (List.take_of_length_le (Nat.le_refl L.length))
        go_wp2_with fail
        go_ret2
        rw [HT.out] at hown
        rw [HLE.out]
        exact AnsR.yes HD.out rfl hown.rows (btr hb12 hbr)
  · have HR := Lib.hid (read_no h hd h0)
    clear h hg hd
    generalize tz l = t at *
    go_enter Tryz.func20, Tryz.ntmps20
    go_wp2_with (go_at_call 30; go_must (refine HR.out.mono ?_); rintro e w1 ⟨rfl, hb1⟩)
    go_ret2
    rw [HD.out]
    exact AnsR.no h0 rfl hb1
end Go.Proofs.YtdmdagilopckgaaGreat
