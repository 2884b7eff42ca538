/- The reference's Distances. -/
import Derived.Test.YtpkjdnplmgfbbaaDoorDib
namespace Go.Proofs.YtpkjdnplmgfbbaaDoor
open Go.RowKit

/-- The first k of n numbers are x, the others 0. -/
def fl (n k : Nat) (x : Int) : List Int := List.replicate k x ++ List.replicate (n - k) 0
theorem fl_zero (n : Nat) (x : Int) : fl n 0 x = List.replicate n 0 := by simp [fl]
theorem fl_full (n : Nat) (x : Int) : fl n n x = List.replicate n x := by simp [fl]
theorem fl_length {n k : Nat} {x : Int} (h : k ≤ n) : (fl n k x).length = n := by simp [fl]; omega
theorem fl_set {n k : Nat} {x : Int} (h : k < n) : (fl n k x).set k x = fl n (k + 1) x := by
  unfold fl
  rw [List.set_append_right _ _ (by simp), List.length_replicate, Nat.sub_self]
  obtain ⟨m, hm⟩ : ∃ m, n - k = m + 1 := ⟨n - k - 1, by omega⟩
  rw [hm, show n - (k + 1) = m by omega, List.replicate_succ, List.set_cons_zero, List.replicate_succ']
  simp

/-- The row of a vertex, in memory. -/
theorem Gl.row {w : World} {A : Option Addr} {n c : Nat} {E : List (List Nat)} (h : Gl w A n c (toI E)) {i : Nat} (hi : i < E.length) :
    ∃ b off A' c', A = some ⟨b, off, none⟩ ∧ w.cell? ⟨b, off + i, none⟩ = some (.slice A' (gr E i).length c') ∧ (gr E i).length ≤ c' ∧ c' ≤ 9223372036854775807 ∧ Il w A' (gr E i).length c' ((gr E i).map fun x : Nat => (x : Int)) := by
  have hn := h.len
  rw [toI_length] at hn
  obtain ⟨b, off, e, hc⟩ := h.cell (by omega)
  obtain ⟨A', c', h1, h2⟩ := hc i _ (toI_get hi)
  rw [List.length_map] at h1 h2
  have h3 := h2.room
  unfold maxLen at h3
  exact ⟨b, off, A', c', e, h1, h3.1, h3.2, h2⟩
theorem Il.num {w : World} {A : Option Addr} {n c : Nat} {l : List Nat} (h : Il w A n c (l.map fun x : Nat => (x : Int))) {k x : Nat} (hx : l[k]? = some x) : ∃ b off, A = some ⟨b, off, none⟩ ∧ w.cell? ⟨b, off + k, none⟩ = some (.int .i64 (x : Nat)) := by
  have hl := h.len
  rw [List.length_map] at hl
  have := lt_of_some hx
  obtain ⟨b, off, e, hc⟩ := h.cell (by omega)
  exact ⟨b, off, e, hc k x (by rw [List.getElem?_map, hx]; rfl)⟩

/-- The edges that are through: those of the first m vertices, and the first k of vertex m. -/
def thru (E : List (List Nat)) (m k z x : Nat) : Prop := (z < m ∧ x ∈ gr E z) ∨ (z = m ∧ x ∈ (gr E m).take k)
theorem Lev.first {E : List (List Nat)} {a d : Nat} {l : List Int} (h : Lev E a d (fun _ _ => False) l) : Lev E a d (thru E 0 0) l := h.mono fun _ _ hz _ _ => by
  rcases hz with h1 | ⟨_, h1⟩
  · omega
  · simp at h1
theorem Lev.rowEnd {E : List (List Nat)} {a d m k : Nat} {l : List Int} (h : Lev E a d (thru E m k) l) (hk : (gr E m).length ≤ k ∨ l.getD m 0 ≠ d) : Lev E a d (thru E (m + 1) 0) l := h.mono fun z x hz _ hd => by
  rcases hz with ⟨h1, h2⟩ | ⟨_, h1⟩
  · by_cases e : z = m
    · subst e
      rcases hk with hk | hk
      · exact .inr ⟨rfl, by rw [List.take_of_length_le hk]; exact h2⟩
      · exact absurd hd hk
    · exact .inl ⟨by omega, h2⟩
  · simp at h1
theorem Lev.all {E : List (List Nat)} (hE : Valid E) {a d : Nat} {l : List Int} (h : Lev E a d (thru E E.length 0) l) (ha : a < E.length) : Lev E a (d + 1) (fun _ _ => False) l := h.next hE ha fun _ _ hx hz => .inl ⟨hz, hx⟩
theorem Lev.rowOne {E : List (List Nat)} (hE : Valid E) {a d m k x : Nat} {l : List Int} (h : Lev E a d (thru E m k) l) (hm : m < E.length) (hd : l.getD m 0 = d) (hx : (gr E m)[k]? = some x) : Lev E a d (thru E m (k + 1)) (if l.getD x 0 < 0 then l.set x (d + 1) else l) := by
  have hxm : x ∈ gr E m := List.mem_of_getElem? hx
  refine (h.one hm hd hxm (hE m hm x hxm)).mono fun z y hz _ _ => ?_
  rcases hz with h1 | ⟨h1, h2⟩
  · exact .inl (.inl h1)
  · rw [List.take_add_one, hx] at h2
    rcases List.mem_append.1 h2 with h3 | h3
    · exact .inl (.inr ⟨h1, h3⟩)
    · exact .inr ⟨h1, by simpa using h3⟩

set_option maxHeartbeats 2000000 in
set_option maxRecDepth 100000 in
theorem rDistances_ok {w : World} {v : Value} {names : List ByteArray} {E : List (List Nat)} (h : GrV w v names (toI E)) (hE : Valid E) (hEn : E.length ≤ 2500) {a : Nat} (ha : a < E.length) :
    Calls Tryd.prog 20 #[v, .int .i64 (a : Nat)] w (Gives w (DistsAt w E a)) := by
  obtain ⟨A, c, A', c', rfl, hs, hg⟩ := h
  rw [toI_length] at *
  have hr := hg.room
  unfold maxLen at hr
  obtain ⟨W, G, hW, hG, hbW, c0, c1, hGl, hwG⟩ := gbox w (.slice A names.length c) (.slice A' E.length c')
  replace hg := hg.below hbW
  have HW := Lib.hid hW
  have HG := Lib.hid hG
  clear hW hG c0 hs
  have hai : (a : Int) < (E.length : Int) := by omega
  obtain ⟨S, hS⟩ : ∃ S, S = W.heap.size := ⟨_, rfl⟩
  have HS := Lib.hid hS
  have hSW : W.heap.size ≤ S := by omega
  have hGS : G < S := by omega
  clear hS
  have HE := Lib.hid hE
  clear hE
  go_enter Tryd.func20, Tryd.ntmps20
  go_wp2_with (refine wpList_make_arr _ rfl _ _ 28 rfl 3 (.int .i64 0) 1 8 Tryd.underlying28 (by kernel_rfl) _ _ _ _ E.length rfl rfl rfl rfl (by omega) (by omega) ?_; rw [← HW.out, ← HS.out]; intro w1 har hb1 hs1; have hna := NArr.made har; have HNA := Lib.hid hna; clear har hna hs1)
  rw [← HG.out]
  go_loopw [6] (fun i wr => ∃ k : Nat, k ≤ E.length ∧ i = .int .i64 (k : Nat) ∧ NArr wr S (fl E.length k (-1)) ∧ Below W.heap.size W wr) (fun i _ => E.length - (intOf i).toNat)
  case atStart => exact ⟨0, Nat.zero_le _, rfl, by rw [fl_zero]; exact HNA.out, by rw [← HS.out]; exact hb1⟩
  case round =>
    obtain ⟨k, hk, rfl, hna, hbr⟩ := hrel
    clear HNA hb1 w1
    by_cases hlt : k < E.length
    · have hcx := hna.cell (i := k) (by rw [fl_length hk]; exact hlt)
      have hfx := hna.frozen k
      go_wp2_with fail
      go_roundw
      case rel => exact ⟨k + 1, by omega, by go_num, by rw [← fl_set hlt]; exact hna.set_ k (-1), hbr.setCell (p := ⟨S, k, none⟩) hSW _⟩
      case measure => simp [intOf]; omega
    · obtain rfl : k = E.length := by omega
      rw [fl_full] at hna
      have hcx := hna.cell (i := a) (by simpa using ha)
      have hfx := hna.frozen a
      have hn2 := hna.set_ a 0
      have hb2 : Below W.heap.size W (wr.setCell ⟨S, a, none⟩ (.int .i64 0)) := hbr.setCell (p := ⟨S, a, none⟩) hSW _
      have hlev := Lev.start ha
      have HLEV := Lib.hid hlev
      clear hlev
      go_wp2_with fail
      clear hna hbr hcx hfx
      generalize wr.setCell ⟨S, a, none⟩ (.int .i64 0) = w2 at *
      go_loopw [7] (fun i wr => ∃ (d : Nat) (l : List Int), d ≤ E.length ∧ i = .int .i64 (d : Nat) ∧ NArr wr S l ∧ Hid (Lev E a d (fun _ _ => False) l) ∧ Below W.heap.size W wr) (fun i _ => E.length - (intOf i).toNat)
      case atStart => exact ⟨0, _, Nat.zero_le _, rfl, hn2, HLEV, hb2⟩
      case round =>
        obtain ⟨d, l, hd, rfl, hna, hlev, hbr⟩ := hrel
        clear HLEV hn2 hb2 w2
        by_cases hdt : d < E.length
        · go_wp2_with fail
          obtain ⟨wo, rfl⟩ : ∃ wo : World, wo = wr := ⟨_, rfl⟩
          go_loopw [8] (fun i wr => ∃ (m : Nat) (l : List Int), m ≤ E.length ∧ i = .int .i64 (m : Nat) ∧ NArr wr S l ∧ Hid (Lev E a d (thru E m 0) l) ∧ Below W.heap.size W wr) (fun i _ => E.length - (intOf i).toNat)
          case atStart => exact ⟨0, _, Nat.zero_le _, rfl, hna, Lib.hid hlev.out.first, hbr⟩
          case round =>
            clear hna hlev hbr
            obtain ⟨m, l, hm, rfl, hna, hlev, hbr⟩ := hrel
            by_cases hmt : m < E.length
            · go_wp2_with fail
              obtain ⟨wo, rfl⟩ : ∃ wo : World, wo = wr := ⟨_, rfl⟩
              go_loopw [9] (fun i wr => ∃ (k : Nat) (l : List Int), k ≤ (gr E m).length ∧ i = .int .i64 (k : Nat) ∧ NArr wr S l ∧ Hid (Lev E a d (thru E m k) l) ∧ Below W.heap.size W wr) (fun i _ => (gr E m).length - (intOf i).toNat)
              case atStart => exact ⟨0, _, Nat.zero_le _, rfl, hna, hlev, hbr⟩
              case round =>
                clear hna hlev hbr
                obtain ⟨k, l, hk, rfl, hna, hlev, hbr⟩ := hrel
                have d1 := ((bcell hbr).1 _ 1 hGl).trans c1
                obtain ⟨b, off, A2, c2, rfl, hrow, hr1, hr2, hil⟩ := (hg.below hbr).row hmt
                have hll := hlev.out.len
                have hcm := hna.cell (i := m) (by rw [hll]; exact hmt)
                have hms := hlev.out.small hmt
                have HLL := Lib.hid hll
                clear hll
                obtain ⟨y, hy⟩ : ∃ y, l.getD m 0 = y := ⟨_, rfl⟩
                rw [hy] at hcm hms
                have HY := Lib.hid hy
                clear hy
                have hmi : (m : Int) < (E.length : Int) := by omega
                by_cases hkt : k < (gr E m).length
                · by_cases hyd : y = d
                  · have hyb : (y == (d : Int)) = true := by simp [hyd]
                    have HYD := Lib.hid (HY.out.trans hyd)
                    clear hyd
                    obtain ⟨x, hx⟩ : ∃ x, (gr E m)[k]? = some x := ⟨_, List.getElem?_eq_getElem hkt⟩
                    have hxl : x < E.length := HE.out m hmt x (List.mem_of_getElem? hx)
                    obtain ⟨b3, off3, rfl, hcx⟩ := hil.num hx
                    have hcz := hna.cell (i := x) (by rw [HLL.out]; exact hxl)
                    have hfz := hna.frozen x
                    have hl2 := hlev.out.rowOne HE.out hmt HYD.out hx
                    have hxi : (x : Int) < (E.length : Int) := by omega
                    obtain ⟨z, hz⟩ : ∃ z, l.getD x 0 = z := ⟨_, rfl⟩
                    rw [hz] at hcz hl2
                    clear hx hz
                    by_cases hneg : z < 0
                    · rw [if_pos hneg] at hl2
                      have HL2 := Lib.hid hl2
                      clear hl2
                      go_wp2_with fail
                      go_roundw
                      case rel => exact ⟨k + 1, _, by omega, by go_num, hna.set_ x _, HL2, hbr.setCell (p := ⟨S, x, none⟩) hSW _⟩
                      case measure => simp [intOf]; omega
                    · rw [if_neg hneg] at hl2
                      have HL2 := Lib.hid hl2
                      clear hl2
                      go_wp2_with fail
                      go_roundw
                      case rel => exact ⟨k + 1, _, by omega, by go_num, hna, HL2, hbr⟩
                      case measure => simp [intOf]; omega
                  · have hyb : (y == (d : Int)) = false := beq_eq_false_iff_ne.2 hyd
                    have hl2 := hlev.out.rowEnd (.inr (by rw [HY.out]; exact hyd))
                    have HL2 := Lib.hid hl2
                    clear hl2 hyd
                    go_wp2_with fail
                    go_roundw
                    case rel => exact ⟨m + 1, _, by omega, by go_num, hna, HL2, hbr⟩
                    case measure => simp [intOf]; omega
                · have hkd : decide (k < (gr E m).length) = false := by simpa using hkt
                  have hl2 := hlev.out.rowEnd (.inl (by omega))
                  have HL2 := Lib.hid hl2
                  clear hl2
                  go_wp2_with fail
                  go_roundw
                  case rel => exact ⟨m + 1, _, by omega, by go_num, hna, HL2, hbr⟩
                  case measure => simp [intOf]; omega
            · obtain rfl : m = E.length := by omega
              have hl2 := hlev.out.all HE.out ha
              have HL2 := Lib.hid hl2
              clear hl2
              go_wp2_with fail
              go_roundw
              case rel => exact ⟨d + 1, _, by omega, by go_num, hna, HL2, hbr⟩
              case measure => simp [intOf]; omega
        · have hds := hlev.out.done HE.out ha (by omega)
          have hde := hds.eq
          have hn5 : NArr wr S (dd E a) := hna.cast hde
          clear hds hde hlev hna
          go_wp2_with fail
          go_ret
          exact ⟨_, rfl, ⟨S, Nat.le_trans hbW.size hSW, rfl, hn5⟩, hbW.trans (hbr.mono hbW.size)⟩
end Go.Proofs.YtpkjdnplmgfbbaaDoor
