/- Package brandt: what is answered for a polynomial; Squarefree, Divide. -/
import Derived.Test.YtdmdagilopckgaaGreatCha
namespace Go.Proofs.YtdmdagilopckgaaGreat
open Go.RowKit

/-- A polynomial in normal form with what is known of its squarefree part and its chain. -/
structure GoodP (t : List Int) : Prop where
  norm : tz t = t
  pos : 0 < t.length
  le : t.length ≤ 12
  bd : Bd 3 t
  sq : sqo (ps t) = some (sq t)
  sqt : tz (Go.Proofs.YtdmdagilopckgaaGreat.sq t) = Go.Proofs.YtdmdagilopckgaaGreat.sq t
  sql : (Go.Proofs.YtdmdagilopckgaaGreat.sq t).length ≤ 12
  sqb : Bd 4000000 (Go.Proofs.YtdmdagilopckgaaGreat.sq t)
  ne : ∀ h ∈ chs (Go.Proofs.YtdmdagilopckgaaGreat.sq t), h ≠ []
  chl : (chs (Go.Proofs.YtdmdagilopckgaaGreat.sq t)).length ≤ 12
  chb : ∀ h ∈ chs (Go.Proofs.YtdmdagilopckgaaGreat.sq t), h.length ≤ 12 ∧ Bd 400000000000 h

/-- An answer with an error: behind 0 the value is as R says, behind another one it is z. -/
def AnsR (w : World) (d : Int) (R : World → Value → Prop) (z : Value) (e : Ending) (w' : World) : Prop :=
  ∃ v, e = .returned (.tuple #[v, .int .i64 d]) ∧ (d = 0 → R w' v) ∧ (d ≠ 0 → v = z) ∧ Below w.heap.size w w'
theorem AnsR.yes {w w' : World} {d : Int} {R : World → Value → Prop} {z v : Value} {e : Ending} (hd : d = 0) (he : e = .returned (.tuple #[v, .int .i64 0])) (hr : R w' v) (hb : Below w.heap.size w w') : AnsR w d R z e w' := by
  subst hd
  exact ⟨v, he, fun _ => hr, fun h => absurd rfl h, hb⟩
theorem AnsR.no {w w' : World} {d : Int} {R : World → Value → Prop} {z : Value} {e : Ending} (hd : d ≠ 0) (he : e = .returned (.tuple #[z, .int .i64 d])) (hb : Below w.heap.size w w') : AnsR w d R z e w' :=
  ⟨z, he, fun h => absurd h hd, fun _ => rfl, hb⟩

/-- read, where it accepts. -/
def ReadOk (w : World) (t : List Int) (e : Ending) (w' : World) : Prop :=
  ∃ A c, e = .returned (.tuple #[.slice A t.length c, .int .i64 0]) ∧ Pl NI w' (fun _ => True) A t.length c t ∧ Below w.heap.size w w'
theorem read_ok {A : Option Addr} {n c : Nat} {l : List Int} {w : World} (h : Pl IntB w (fun _ => True) A n c l) (hd : rdE l = 0) : Calls Tryz.prog 30 #[.slice A n c] w (ReadOk w (tz l)) := by
  refine (read_any h).mono ?_
  rintro e w' ⟨v, rfl, h1, _, hb⟩
  obtain ⟨A', c', rfl, hp⟩ := (h1 hd).pl
  exact ⟨A', c', by rw [hd], hp, hb⟩
theorem read_no {A : Option Addr} {n c : Nat} {l : List Int} {w : World} {d : Int} (h : Pl IntB w (fun _ => True) A n c l) (hd : rdE l = d) (h0 : ¬ d = 0) : Calls Tryz.prog 30 #[.slice A n c] w fun e w' => e = .returned (.tuple #[.slice none 0 0, .int .i64 d]) ∧ Below w.heap.size w w' := by
  refine (read_any h).mono ?_
  rintro e w' ⟨v, rfl, _, h1, hb⟩
  subst hd
  exact ⟨by rw [h1 h0], hb⟩

set_option maxHeartbeats 1000000 in
theorem Squarefree_any {A : Option Addr} {n c : Nat} {l : List Int} {w : World} (h : Pl IntB w (fun _ => True) A n c l) (hg : rdE l = 0 → GoodP (tz l)) :
    Calls Tryz.prog 19 #[.slice A n c] w (AnsR w (rdE l) (fun w' v => PL w' v (sq (tz l))) (.slice none 0 0)) := by
  have hm := h.room
  unfold maxLen at hm
  have hc := h.cap
  obtain ⟨d, hd⟩ : ∃ d, rdE l = d := ⟨_, rfl⟩
  have HD := Lib.hid hd
  by_cases h0 : d = 0
  · subst h0
    have HR := Lib.hid (read_ok h hd)
    have g := hg hd
    have HG := Lib.hid g
    clear h hg hd g
    generalize tz l = t at *
    go_enter Tryz.func19, Tryz.ntmps19
    go_wp2_with (first
      | (go_at_call 30; go_must (refine HR.out.mono ?_); rintro e w1 ⟨A1, c1, rfl, hp1, hb1⟩; have hc1 := hp1.cap; have hr1 := hp1.room; unfold maxLen at hr1)
      | (go_at_call 46; go_must (refine (squarefree_any hp1 HG.out.pos HG.out.le HG.out.norm HG.out.bd HG.out.sq).mono ?_); rintro e w2 ⟨v2, rfl, hv2, hb2⟩))
    go_ret2
    exact AnsR.yes HD.out rfl hv2 (btr hb1 hb2)
  · have HR := Lib.hid (read_no h hd h0)
    clear h hg hd
    generalize tz l = t at *
    go_enter Tryz.func19, Tryz.ntmps19
    go_wp2_with (go_at_call 30; go_must (refine HR.out.mono ?_); rintro e w1 ⟨rfl, hb1⟩)
    go_ret2
    rw [HD.out]
    exact AnsR.no h0 rfl hb1

theorem over_none {A A' : Option Addr} {n c n' c' B C : Nat} {l g : List Int} {w : World} (h : Pl NI w (fun _ => True) A n c l) (hg : Pl NI w (fun _ => True) A' n' c' g) (hn : n ≤ 1000) (hn' : 0 < n') (hnn : n' ≤ 1000000) (hlt : tz l = l) (hgt : tz g = g) (hB : Bd B l) (hC : Bd C g) (hC2 : C ≤ 400000000000) (hlim : B + (n + 1 - n') * (C + 1) ≤ 400000000000) (hq : ov l g = none) :
    Calls Tryz.prog 48 #[.slice A n c, .slice A' n' c'] w (fun e w' => e = .returned (.tuple #[.slice none 0 0, .int .i64 12]) ∧ Below w.heap.size w w') := by
  refine (over_any h hg hn hn' hnn hlt hgt hB hC hC2 hlim).mono ?_
  rintro e w' (⟨q', v, h1, h2, h3, h4⟩ | ⟨h1, h2⟩)
  · rw [hq] at h1
    cases h1
  · exact h2

/-- The error of a division: of the first polynomial, of the second one, or that there is no quotient. -/
def dvE (l g : List Int) : Int := if rdE l ≠ 0 then rdE l else if rdE g ≠ 0 then rdE g else if (ov (tz l) (tz g)).isNone = true then 12 else 0

set_option maxHeartbeats 1000000 in
theorem Divide_any {A A' : Option Addr} {n c n' c' : Nat} {l g : List Int} {w : World} (h : Pl IntB w (fun _ => True) A n c l) (h' : Pl IntB w (fun _ => True) A' n' c' g) (hg : rdE l = 0 → GoodP (tz l)) (hg' : rdE g = 0 → GoodP (tz g)) :
    Calls Tryz.prog 22 #[.slice A n c, .slice A' n' c'] w (AnsR w (dvE l g) (fun w' v => PL w' v ((ov (tz l) (tz g)).getD [])) (.slice none 0 0)) := by
  have hm := h.room
  have hm' := h'.room
  unfold maxLen at hm hm'
  have hc := h.cap
  have hc' := h'.cap
  obtain ⟨d, hd⟩ : ∃ d, rdE l = d := ⟨_, rfl⟩
  by_cases h0 : d = 0
  · subst h0
    have HR := Lib.hid (read_ok h hd)
    have G1 := Lib.hid (hg hd)
    obtain ⟨d, hd'⟩ : ∃ d, rdE g = d := ⟨_, rfl⟩
    by_cases h1 : d = 0
    · subst h1
      have HR' := Lib.hid (fun w1 (hb : Below w.heap.size w w1) => read_ok (h'.below hb) hd')
      have G2 := Lib.hid (hg' hd')
      have HE := Lib.hid (show dvE l g = if (ov (tz l) (tz g)).isNone = true then 12 else 0 by unfold dvE; rw [if_neg (by rw [hd]; simp), if_neg (by rw [hd']; simp)])
      clear h h' hg hg' hd hd'
      generalize tz l = t at *
      generalize tz g = u at *
      rcases ho : ov t u with _ | q
      · have HO := Lib.hid (fun (w1 : World) A1 c1 A2 c2 (hp1 : Pl NI w1 (fun _ => True) A1 t.length c1 t) (hp2 : Pl NI w1 (fun _ => True) A2 u.length c2 u) => over_none hp1 hp2 (by have := G1.out.le; omega) G2.out.pos (by have := G2.out.le; omega) G1.out.norm G2.out.norm G1.out.bd G2.out.bd (by omega) (by have := G1.out.le; have := G2.out.pos; omega) ho)
        have HEE := Lib.hid (show dvE l g = 12 by rw [HE.out, ho]; rfl)
        clear ho
        go_enter Tryz.func22, Tryz.ntmps22
        go_wp2_with (first
          | (go_at_call 30; (with_reducible refine HR.out.mono ?_); rintro e w1 ⟨A1, c1, rfl, hp1, hb1⟩; have hc1 := hp1.cap; have hr1 := hp1.room; unfold maxLen at hr1)
          | (go_at_call 30; (with_reducible refine (HR'.out _ hb1).mono ?_); rintro e w2 ⟨A2, c2, rfl, hp2, hb2⟩; have hc2 := hp2.cap; have hr2 := hp2.room; unfold maxLen at hr2)
          | (go_at_call 48; go_must (refine (HO.out _ _ _ _ _ (hp1.below hb2) hp2).mono ?_); rintro e w3 ⟨rfl, hb3⟩))
        go_ret2
        rw [HEE.out]
        exact AnsR.no (by decide) rfl (btr hb1 (btr hb2 hb3))
      · have HO := Lib.hid (fun (w1 : World) A1 c1 A2 c2 (hp1 : Pl NI w1 (fun _ => True) A1 t.length c1 t) (hp2 : Pl NI w1 (fun _ => True) A2 u.length c2 u) => over_some hp1 hp2 (by have := G1.out.le; omega) G2.out.pos (by have := G2.out.le; omega) G1.out.norm G2.out.norm G1.out.bd G2.out.bd (by omega) (by have := G1.out.le; have := G2.out.pos; omega) ho)
        have HEE := Lib.hid (show dvE l g = 0 by rw [HE.out, ho]; rfl)
        clear ho
        go_enter Tryz.func22, Tryz.ntmps22
        go_wp2_with (first
          | (go_at_call 30; (with_reducible refine HR.out.mono ?_); rintro e w1 ⟨A1, c1, rfl, hp1, hb1⟩; have hc1 := hp1.cap; have hr1 := hp1.room; unfold maxLen at hr1)
          | (go_at_call 30; (with_reducible refine (HR'.out _ hb1).mono ?_); rintro e w2 ⟨A2, c2, rfl, hp2, hb2⟩; have hc2 := hp2.cap; have hr2 := hp2.room; unfold maxLen at hr2)
          | (go_at_call 48; go_must (refine (HO.out _ _ _ _ _ (hp1.below hb2) hp2).mono ?_); rintro e w3 ⟨v3, rfl, hv3, hb3⟩))
        go_ret2
        exact AnsR.yes HEE.out rfl hv3 (btr hb1 (btr hb2 hb3))
    · have HR' := Lib.hid (fun w1 (hb : Below w.heap.size w w1) => read_no (h'.below hb) hd' h1)
      have HE := Lib.hid (show dvE l g = d by unfold dvE; rw [if_neg (by rw [hd]; simp), if_pos (by rw [hd']; exact h1), hd'])
      clear h h' hg hg' hd hd'
      generalize tz l = t at *
      generalize tz g = u at *
      go_enter Tryz.func22, Tryz.ntmps22
      go_wp2_with (first
        | (go_at_call 30; (with_reducible refine HR.out.mono ?_); rintro e w1 ⟨A1, c1, rfl, hp1, hb1⟩; have hc1 := hp1.cap; have hr1 := hp1.room; unfold maxLen at hr1)
        | (go_at_call 30; (with_reducible refine (HR'.out _ hb1).mono ?_); rintro e w2 ⟨rfl, hb2⟩))
      go_ret2
      rw [HE.out]
      exact AnsR.no h1 rfl (btr hb1 hb2)
  · have HR := Lib.hid (read_no h hd h0)
    have HE := Lib.hid (show dvE l g = d by unfold dvE; rw [if_pos (by rw [hd]; exact h0), hd])
    clear h hg hd h' hg'
    generalize tz l = t at *
    generalize tz g = u at *
    go_enter Tryz.func22, Tryz.ntmps22
    go_wp2_with (go_at_call 30; go_must (refine HR.out.mono ?_); rintro e w1 ⟨rfl, hb1⟩)
    go_ret2
    rw [HE.out]
    exact AnsR.no h0 rfl hb1
end Go.Proofs.YtdmdagilopckgaaGreat
