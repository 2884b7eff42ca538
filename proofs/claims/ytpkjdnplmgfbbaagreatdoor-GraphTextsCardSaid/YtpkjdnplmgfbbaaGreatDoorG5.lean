/- Arrays of ints; slices.Repeat of one number. graph.distances: the distances from a vertex, along lists of neighbours. What it says of a graph that it has no error. graph.Distances and graph.Diameter. graph.Diameter. -/
import Derived.Test.YtpkjdnplmgfbbaaGreatDoorG2
import Derived.Test.YtpkjdnplmgfbbaaGreatDoorShelf
import Derived.Laws.CopyOwn
import Derived.IntWalk
import Derived.Test.YtpkjdnplmgfbbaaGreatDoorG4
import Derived.Test.YtpkjdnplmgfbbaaGreatDoorG1
namespace Go.Proofs.YtpkjdnplmgfbbaaGreatDoor
open Go.RowKit

/-- An array of ints. -/
def NArr (w : World) (g : Nat) (l : List Int) : Prop := Arr w g 3 (l.map (Value.int .i64))
section
variable {w w' : World} {g : Nat} {l : List Int}
theorem NArr.cell (h : NArr w g l) {i : Nat} (hi : i < l.length) : w.cell? ⟨g, i, none⟩ = some (.int .i64 (l.getD i 0)) := by
  rw [Arr.cell h, List.getElem?_map]; simp [List.getD, List.getElem?_eq_getElem hi]
theorem NArr.frozen (h : NArr w g l) (i : Nat) : w.frozen? ⟨g, i, none⟩ = false := Arr.frozen h i
theorem NArr.set_ (h : NArr w g l) (i : Nat) (x : Int) : NArr (w.setCell ⟨g, i, none⟩ (.int .i64 x)) g (l.set i x) := by
  have := Arr.set_ h i (.int .i64 x)
  unfold NArr
  rwa [List.map_set]
theorem NArr.made {n : Nat} (h : Arr w g 3 (madeCells (Value.int .i64 0).cells (n * 1)).toList) : NArr w g (List.replicate n 0) := by
  unfold NArr
  rw [List.map_replicate]
  have e := toList_madeCells_one (.int .i64 0) n
  rw [Nat.mul_one] at h
  rwa [← e]
theorem NArr.below (h : NArr w g l) (hb : Below w.heap.size w w') : NArr w' g l := Arr.below' h hb
theorem NArr.cast {m : List Int} (h : NArr w g l) (e : l = m) : NArr w g m := e ▸ h
theorem NArr.il (h : NArr w g l) (hs : ∀ x ∈ l, -9223372036854775808 ≤ x ∧ x ≤ 9223372036854775807) (hm : l.length ≤ maxLen) : Il w (some ⟨g, 0, none⟩) l.length l.length l :=
  ⟨⟨by simp, Nat.le_refl _, hm, fun _ => ⟨g, 0, rfl, fun j u hu => by rw [Nat.zero_add, Arr.cell h]; exact hu⟩⟩, hs⟩
end

theorem splice_rep {x : Int} {n k m : Nat} (hm : k + m ≤ n) : splice (List.replicate k (Value.int .i64 x) ++ List.replicate (n - k) (Value.int .i64 0)) k (List.replicate m (Value.int .i64 x)) = List.replicate (k + m) (Value.int .i64 x) ++ List.replicate (n - (k + m)) (Value.int .i64 0) := by
  unfold splice
  rw [List.take_append_of_le_length (by simp), List.take_of_length_le (by simp), List.drop_append, List.drop_eq_nil_of_le (by simp), List.length_replicate, List.length_replicate, List.drop_replicate, List.nil_append, ← List.append_assoc, List.replicate_append_replicate]
  congr 2
  omega

/-- The first k of n cells hold x, the others 0. -/
def half (n k : Nat) (x : Int) : List Value := List.replicate k (Value.int .i64 x) ++ List.replicate (n - k) (Value.int .i64 0)
theorem half_length {n k : Nat} {x : Int} (h : k ≤ n) : (half n k x).length = n := by simp [half]; omega
theorem half_get {n k j : Nat} {x : Int} (h : j < k) : (half n k x)[j]? = some (.int .i64 x) := by
  unfold half; rw [List.getElem?_append_left (by simpa using h)]; simp [h]
theorem half_splice {x : Int} {n k m : Nat} (hm : k + m ≤ n) : splice (half n k x) k (List.replicate m (Value.int .i64 x)) = half n (k + m) x := splice_rep hm
theorem half_full (n : Nat) (x : Int) : half n n x = (List.replicate n x).map (Value.int .i64) := by simp [half]
theorem half_zero (n : Nat) (x : Int) : half n 0 x = (List.replicate n (0 : Int)).map (Value.int .i64) := by simp [half]

theorem size_int : (Tryz.prog.info? 3).map (·.size) = some 1 := by kernel_rfl

theorem Mul_one {w : World} (n : Nat) (hn : n ≤ 1000000) : Calls Tryz.prog 111 #[.int .u64 1, .int .u64 (n : Nat)] w fun e w' => e = .returned (.tuple #[.int .u64 0, .int .u64 (n : Nat)]) ∧ w = w' := by
  refine (Tryz.bits_Mul 1 n (by omega) (by omega) w).mono ?_
  rintro e w' ⟨rfl, rfl⟩
  have e1 : 1 * n / 18446744073709551616 = 0 := by omega
  have e2 : 1 * n % 18446744073709551616 = n := by omega
  rw [e1, e2]
  exact ⟨rfl, rfl⟩

theorem rep_mem {cs : List Value} {m j : Nat} {x : Int} {v : Value} (hcs : cs = List.replicate m (Value.int .i64 x)) (hv : cs[j]? = some v) : j < m ∧ v = .int .i64 x := by
  subst hcs
  rw [List.getElem?_replicate] at hv
  split at hv
  · rename_i h; injection hv with hv; exact ⟨h, hv.symm⟩
  · cases hv
theorem rep_one {cs : List Value} {m : Nat} {x : Int} (hcs : cs = List.replicate m (Value.int .i64 x)) : ∀ v ∈ cs, v.oneCell' = true := fun v hv => by rw [hcs] at hv; rw [List.eq_of_mem_replicate hv]; rfl
theorem rep_src {w w1 : World} {b off G m : Nat} {x : Int} {cs : List Value} (hx : w.cell? ⟨b, off, none⟩ = some (.int .i64 x)) (hb1 : Below G w w1) (hxl : b < G) (hcs : cs = List.replicate m (Value.int .i64 x)) (hm : m ≤ 1) :
    ∀ j v, cs[j]? = some v → w1.cell? ((⟨b, off, none⟩ : Addr).add j) = some v := by
  intro j v hv
  obtain ⟨h1, rfl⟩ := rep_mem hcs hv
  have : j = 0 := by omega
  subst this
  rw [← hx, ← hb1.cell (p := ⟨b, off, none⟩) hxl]
  rfl
theorem half_src {w1 : World} {G n k m : Nat} {t : TypeId} {x : Int} {cs : List Value} (h : Arr w1 G t (half n k x)) (hm : m ≤ k) (hcs : cs = List.replicate m (Value.int .i64 x)) :
    ∀ j v, cs[j]? = some v → w1.cell? ((⟨G, 0, none⟩ : Addr).add j) = some v := by
  intro j v hv
  obtain ⟨h1, rfl⟩ := rep_mem hcs hv
  have e : (⟨G, 0, none⟩ : Addr).add j = ⟨G, j, none⟩ := by
    unfold Addr.add; split
    · rename_i h; subst h; rfl
    · simp
  rw [e, Arr.cell h, half_get (by omega)]

set_option maxHeartbeats 1000000 in
set_option maxRecDepth 100000 in
/-- slices.Repeat of a list of one number. -/
theorem Repeat_any {w : World} {b off c : Nat} {x : Int} (hx : w.cell? ⟨b, off, none⟩ = some (.int .i64 x)) (n : Nat) (hn : n ≤ 1000000) :
    Calls Tryz.prog 87 #[.slice (some ⟨b, off, none⟩) 1 c, .int .i64 (n : Nat)] w fun e w' => e = .returned (.slice (some ⟨w.heap.size, 0, none⟩) n n) ∧ NArr w' w.heap.size (List.replicate n x) ∧ Below w.heap.size w w' ∧ w.heap.size < w'.heap.size := by
  have hxl := cell_some_lt hx
  have HX := Lib.hid hx
  clear hx
  obtain ⟨G, hG⟩ : ∃ G, G = w.heap.size := ⟨_, rfl⟩
  rw [← hG]
  have HG := Lib.hid hG
  clear hG
  go_enter Tryz.func87, Tryz.ntmps87
  go_wp2_with fail
  refine (Mul_one n hn).mono ?_
  rintro e w' ⟨rfl, rfl⟩
  obtain ⟨m0, hm0⟩ : ∃ m0, m0 = min 1 n := ⟨_, rfl⟩
  obtain ⟨cs, hcs⟩ : ∃ cs, cs = List.replicate m0 (Value.int .i64 x) := ⟨_, rfl⟩
  have hcl : cs.length = m0 := by rw [hcs]; simp
  have HCS := Lib.hid hcs
  have HCL := Lib.hid hcl
  have HM0 := Lib.hid hm0
  clear hcs hcl hm0
  go_wp2_with (first
    | (refine wpList_make_arr _ rfl _ _ 55 rfl 3 (.int .i64 0) 1 8 Tryz.underlying55 (by kernel_rfl) _ _ _ _ n rfl rfl rfl rfl (by omega) (by omega) ?_; intro w1 har hb1 hs1; have hna := NArr.made har; rw [← HG.out] at hna hb1 hs1 ⊢; have HNA := Lib.hid hna; have HS1 := Lib.hid hs1; clear har hna hs1)
    | (refine wpList_copy_splice rfl (.tmp 31) (.tmp 32) 55 55 rfl 3 Tryz.underlying55 size_int _ _ n n 1 c rfl rfl G 0 (half n 0 x) 3 (by rw [half_zero]; exact HNA.out) cs (HCL.out.trans HM0.out) (fun h0 => ⟨rfl, _, rfl, rep_src HX.out hb1 (by rw [HG.out]; exact hxl) HCS.out (by rw [HM0.out]; omega)⟩) (by rw [HCL.out, HM0.out, half_length (Nat.zero_le _)]; omega) (rep_one HCS.out) G w hb1 (Nat.le_refl _) ?_; intro w2 HG2 hb2))
  have har2 : Arr w2 G 3 (half n m0 x) := by
    have h := HG2.out
    rw [HCS.out, half_splice (by have := HM0.out; omega), Nat.zero_add] at h
    exact h
  have HA2 := Lib.hid har2
  clear har2 HG2
  rw [HCL.out]
  have hm1 : n = 0 ∨ 1 ≤ m0 := by have := HM0.out; omega
  have hm2 : m0 ≤ n := by have := HM0.out; omega
  clear HCL HM0 HCS cs HNA HS1 hb1 w1
  go_loopw [8] (fun i wr => ∃ k : Nat, k ≤ n ∧ (n = 0 ∨ 1 ≤ k) ∧ i = .int .i64 (k : Nat) ∧ Hid (Arr wr G 3 (half n k x)) ∧ Below G w wr) (fun i _ => n - (intOf i).toNat)
  case atStart => exact ⟨m0, hm2, hm1, rfl, HA2, hb2⟩
  case round =>
    clear HA2 hb2 hm1 hm2
    obtain ⟨k, hk, hk1, rfl, HA, hbr⟩ := hrel
    by_cases hlt : k < n
    · have hk2 : 1 ≤ k := by omega
      obtain ⟨m, hm⟩ : ∃ m, m = Nat.min k (n - k) := ⟨_, rfl⟩
      obtain ⟨cs, hcs⟩ : ∃ cs, cs = List.replicate m (Value.int .i64 x) := ⟨_, rfl⟩
      have hcl : cs.length = m := by rw [hcs]; simp
      have hmk : m ≤ k ∧ k + m ≤ n ∧ 1 ≤ m := by rw [hm]; have : Nat.min k (n - k) = min k (n - k) := rfl; omega
      have HCS := Lib.hid hcs
      have HCL := Lib.hid hcl
      have HM := Lib.hid hm
      clear hcs hcl hm hk1
      have hnk : ¬ n = k := by omega
      obtain ⟨hmk1, hmk2, hmk3⟩ := hmk
      have ha3 : Hid (Arr wr.drew G 3 (half n k x)) := HA
      have hb3 : Below G w wr.drew := hbr.drew
      have hw : IntKind.i64.wrap ((k : Int) + (m : Int)) = (k : Int) + (m : Int) := IntWalk.i64_in _ (by omega)
      go_wp2_with fail
      go_region_law ((refine step_copy_splice (by rfl) (.tmp 41) (.tmp 44) 55 55 (by rfl) 3 Tryz.underlying55 size_int (some ⟨G, k, none⟩) (some ⟨G, 0, none⟩) (n - k) (n - k) k n (by go_simp) (by go_simp) G k (half n k x) 3 ha3.out cs (HCL.out.trans HM.out) (fun h0 => ⟨rfl, _, rfl, half_src ha3.out hmk1 HCS.out⟩) (by rw [HCL.out, half_length hk]; exact hmk2) (rep_one HCS.out) G w hb3 (Nat.le_refl _) ?_; intro w4 HG4 hb4; rw [HCL.out]))
      go_frame
      clear hw
      have ha4 : Hid (Arr w4 G 3 (half n (k + m) x)) := by
        have h := HG4.out
        rw [HCS.out, half_splice hmk2] at h
        exact Lib.hid (show Arr w4 G 3 (half n (k + m) x) from h)
      clear HG4
      go_roundw
      case rel => exact ⟨_, _, _, _, _, _, _, _, _, _, _, _, _, _, ⟨k + m, hmk2, .inr (by omega), by go_num, ha4, hb4⟩, rfl⟩
      case measure => simp [intOf]; omega
    · obtain rfl : k = n := by omega
      go_wp2_with fail
      go_ret
      refine ⟨rfl, ?_, hbr, ?_⟩
      · unfold NArr; rw [← half_full]; exact HA.out
      · exact HA.out.lt
end Go.Proofs.YtpkjdnplmgfbbaaGreatDoor

namespace Go.Proofs.YtpkjdnplmgfbbaaGreatDoor
open Go.RowKit

theorem beq_cast {a b : Nat} : ((a : Int) == (b : Int)) = decide (a = b) := by
  by_cases h : a = b
  · subst h; simp
  · rw [decide_eq_false h]
    exact beq_eq_false_iff_ne.2 (by omega)

set_option maxHeartbeats 1000000 in
set_option maxRecDepth 100000 in
/-- The function that distances hands to search: one visit. -/
theorem dist1_any {W : World} {F U G n a : Nat} {l : List Int} (hF : W.cell? ⟨F, 0, none⟩ = some (.int .i64 (a : Nat))) (hU : W.cell? ⟨U, 0, none⟩ = some (.slice (some ⟨G, 0, none⟩) n n)) (hG : NArr W G l) (hl : l.length = n)
    (hs : ∀ v, -1 ≤ l.getD v 0 ∧ l.getD v 0 ≤ 100000) (x y : Nat) (hx : x < n) (hy : y < n) :
    Calls Tryz.prog 89 #[.int .i64 (x : Nat), .int .i64 (y : Nat), .pointer (some ⟨F, 0, none⟩), .pointer (some ⟨U, 0, none⟩)] W fun e W' => e = .returned (.bool true) ∧ NArr W' G (vis a l (y, x)) ∧ Fr (· = G) W W' := by
  have cx := hG.cell (i := x) (by omega)
  have cy := hG.cell (i := y) (by omega)
  have fx := hG.frozen x
  have HL := Lib.hid hl
  have hxi : (x : Int) < (n : Int) := by omega
  have hyi : (y : Int) < (n : Int) := by omega
  have hsy := hs y
  have HV : Hid (∀ u, u = vis a l (y, x) → (x = a → u = l.set x 0) ∧ (¬ x = a → u = l.set x (l.getD y 0 + 1))) := Lib.hid (fun u hu => by subst hu; unfold vis; exact ⟨fun h => if_pos h, fun h => if_neg h⟩)
  clear hl hs
  generalize hv : vis a l (y, x) = u at *
  have HVV := HV.out u rfl
  obtain ⟨z, hz⟩ : ∃ z, l.getD y 0 = z := ⟨_, rfl⟩
  rw [hz] at cy hsy HVV
  by_cases hxa : x = a
  · have hb : ((x : Int) == (a : Int)) = true := by rw [beq_cast]; simp [hxa]
    have HU2 := Lib.hid (HVV.1 hxa)
    clear HVV HV hv hz hxa
    go_enter Tryz.func89, Tryz.ntmps89
    go_wp2
    go_ret
    refine ⟨rfl, ?_, Fr.setCell (O := (· = G)) (p := ⟨G, x, none⟩) (fun _ => rfl) _⟩
    rw [HU2.out]
    exact hG.set_ x 0
  · have hb : ((x : Int) == (a : Int)) = false := by rw [beq_cast]; simp [hxa]
    have HU2 := Lib.hid (HVV.2 hxa)
    clear HVV HV hv hz hxa
    have hw : IntKind.i64.wrap (z + 1) = z + 1 := IntWalk.i64_in _ (by omega)
    go_enter Tryz.func89, Tryz.ntmps89
    go_wp2
    go_still_tail 8, (by kernel_rfl)
    have hG2 : NArr W.drew G l := hG
    have cx2 : W.drew.cell? ⟨G, x, none⟩ = _ := cx
    have fx2 : W.drew.frozen? ⟨G, x, none⟩ = false := fx
    have fr2 : Fr (· = G) W W.drew := (Fr.refl _ _).drew
    change wpList _ _ _ _ _ W.drew
    clear hG cx fx hF hU cy
    generalize W.drew = w3 at *
    go_wp2
    go_ret
    refine ⟨rfl, ?_, fr2.trans (Fr.setCell (O := (· = G)) (p := ⟨G, x, none⟩) (fun _ => rfl) _)⟩
    rw [HU2.out]
    exact hG2.set_ x _

/-- What distances leaves: an array of its own with the distances. -/
def DistsAt (w : World) (E : List (List Nat)) (a : Nat) (w' : World) (v : Value) : Prop := ∃ G, w.heap.size ≤ G ∧ v = .slice (some ⟨G, 0, none⟩) E.length E.length ∧ NArr w' G (dd E a)

theorem dl_take_small {E : List (List Nat)} (hE : Valid E) (hEn : E.length ≤ 2500) {a k : Nat} (ha : a < E.length) (hpr : ∀ i, i < k → ∃ p, (bs E a i).q[i]? = some p) : ∀ v, -1 ≤ (dl E.length a ((bs E a k).q.take k)).getD v 0 ∧ (dl E.length a ((bs E a k).q.take k)).getD v 0 ≤ 100000 := by
  intro v
  obtain ⟨dep, h⟩ := bs_inv hE ha k hpr
  have h1 := h.qlen
  have h2 := dl_small E.length a ((bs E a k).q.take k) v
  have h3 : ((bs E a k).q.take k).length ≤ (bs E a k).q.length := by rw [List.length_take]; omega
  omega
theorem par_lt {E : List (List Nat)} {a k : Nat} {pre : List Nat} {s : Bs} {dep : List Nat} (h : Srch E a k pre s dep) {j : Nat} {p : Nat × Nat} (hp : s.q[j]? = some p) : p.1 < E.length ∧ p.2 < E.length := by
  refine ⟨?_, h.small j p hp⟩
  by_cases h0 : j = 0
  · subst h0
    have := h.first
    rw [hp] at this
    cases this
    exact h.small 0 _ hp
  · obtain ⟨d, hd⟩ : ∃ d, dep[j]? = some d := ⟨_, List.getElem?_eq_getElem (by rw [h.dlen]; exact lt_of_some hp)⟩
    obtain ⟨i, di, _, _, h3, _⟩ := h.par j p d (by omega) hp hd
    obtain ⟨b, hb⟩ := snd_some h3
    exact h.small i _ hb

/-- The visits of distances. -/
theorem dist_visits {E : List (List Nat)} (hE : Valid E) (hEn : E.length ≤ 2500) {a : Nat} (ha : a < E.length) {w : World} {F U G : Nat} (hF : w.cell? ⟨F, 0, none⟩ = some (.int .i64 (a : Nat))) (hU : w.cell? ⟨U, 0, none⟩ = some (.slice (some ⟨G, 0, none⟩) E.length E.length)) (hFG : F ≠ G) (hUG : U ≠ G) :
    Visits E a (· = G) (fun done W => NArr W G (dl E.length a done)) (fun _ => False) w 89 #[.pointer (some ⟨F, 0, none⟩), .pointer (some ⟨U, 0, none⟩)] := by
  intro k p W hpr hp hv hfr
  obtain ⟨dep, h⟩ := bs_inv hE ha k hpr
  obtain ⟨h1, h2⟩ := par_lt h hp
  refine (dist1_any ((hfr.cell (cell_some_lt hF) hFG).trans hF) ((hfr.cell (cell_some_lt hU) hUG).trans hU) hv (dl_length _ _ _) (dl_take_small hE hEn ha hpr) p.2 p.1 h2 h1).mono ?_
  rintro e W' ⟨rfl, h3, h4⟩
  exact ⟨.inl ⟨rfl, by show NArr W' G (dl E.length a (_ ++ [p])); rw [dl_snoc]; exact h3⟩, h4⟩

/-- The boxes of distances. -/
theorem dbox (w : World) (a : Value) : ∃ W F S, W = (w.alloc (.cells #[a] 3)).alloc (.cells #[.int .i64 (-1)] 3) ∧ F = w.heap.size ∧ S = w.heap.size + 1 ∧ Below w.heap.size w W ∧ W.cell? ⟨F, 0, none⟩ = some a ∧ W.cell? ⟨S, 0, none⟩ = some (.int .i64 (-1)) ∧ F < W.heap.size ∧ w.heap.size ≤ F :=
  ⟨_, _, _, rfl, rfl, rfl, ((Below.refl _ _).alloc (Nat.le_refl _) _).alloc (by simp) _, by go_simp, by go_simp, by simp; omega, Nat.le_refl _⟩

set_option maxHeartbeats 1000000 in
set_option maxRecDepth 100000 in
theorem distances_any {E : List (List Nat)} (hE : Valid E) (hEn : E.length ≤ 2500) {a : Nat} (ha : a < E.length) {A : Option Addr} {c : Nat} {w : World} (hG : Gl w A E.length c (toI E)) :
    Calls Tryz.prog 61 #[.slice A E.length c, .int .i64 (a : Nat)] w (Gives w (DistsAt w E a)) := by
  have eg := enters_of Tryz.func89 (by kernel_rfl) rfl
  have EG := Lib.hid eg
  clear eg
  have hr := hG.room
  unfold maxLen at hr
  go_enter Tryz.func61, Tryz.ntmps61
  go_wp2_with fail
  obtain ⟨W, F, S, hW, hF, hS, hbW, cF, cS, hFl, hwF⟩ := dbox w (.int .i64 (a : Nat))
  rw [← hW, ← hS, ← hF]
  refine (Repeat_any cS E.length (by omega)).mono ?_
  rintro e w2 ⟨rfl, hna, hb2, hs2⟩
  clear hW hF hS cS
  obtain ⟨G, hG1⟩ : ∃ G, G = W.heap.size := ⟨_, rfl⟩
  rw [← hG1] at hna hs2 ⊢
  have hGW : W.heap.size ≤ G := by omega
  have hFG : F < G := by omega
  have cF2 := (hb2.cell (p := ⟨F, 0, none⟩) hFl).trans cF
  have hb3 := hbW.trans (hb2.mono hbW.size)
  clear hG1
  have hF2 : F < w2.heap.size := by omega
  go_wp2_with fail
  have hU : (w2.alloc (.cells #[.slice (some ⟨G, 0, none⟩) E.length E.length] 55)).cell? ⟨w2.heap.size, 0, none⟩ = some (.slice (some ⟨G, 0, none⟩) E.length E.length) := by go_simp
  have hF3 : (w2.alloc (.cells #[.slice (some ⟨G, 0, none⟩) E.length E.length] 55)).cell? ⟨F, 0, none⟩ = some (.int .i64 (a : Nat)) := by go_simp
  have hn3 : NArr (w2.alloc (.cells #[.slice (some ⟨G, 0, none⟩) E.length E.length] 55)) G (List.replicate E.length (-1)) := Arr.alloc hna _
  have hb4 : Below w.heap.size w (w2.alloc (.cells #[.slice (some ⟨G, 0, none⟩) E.length E.length] 55)) := hb3.alloc hb3.size _
  have hs4 : w2.heap.size < (w2.alloc (.cells #[.slice (some ⟨G, 0, none⟩) E.length E.length] 55)).heap.size := by simp
  clear hna hb3 cF2 cF
  obtain ⟨U, hUe⟩ : ∃ U, U = w2.heap.size := ⟨_, rfl⟩
  rw [← hUe] at hU hs4 hs2 ⊢
  clear hUe
  generalize w2.alloc (.cells #[.slice (some ⟨G, 0, none⟩) E.length E.length] 55) = w3 at *
  refine (search_any hE hEn ha (O := (· = G)) (V := fun done W => NArr W G (dl E.length a done)) (Stop := fun _ => False) (w0 := w) (dist_visits hE hEn ha hF3 hU (by omega) (by omega)) (fun b hb => by subst hb; have := hbW.size; omega) (fun done W W' h hb => Arr.below h hb (by omega)) (fun _ _ h _ => h) hG hb4 hn3 EG.out).mono ?_
  rintro e w5 ⟨rfl, hfr, ⟨k, hk, hpr, hv⟩ | hst⟩
  · have hds := dl_dists hE ha hk hpr
    have hv2 : NArr w5 G (dd E a) := by rw [← hds.eq]; exact hv
    have hU5 := (hfr.cell (cell_some_lt hU) (show ¬ U = G by omega)).trans hU
    have hb5 : Below w.heap.size w w5 := hb4.trans (hfr.below hb4.size (fun b hb => by subst hb; have := hbW.size; omega))
    clear hk hpr hv hds
    go_wp2_with fail
    go_ret
    exact ⟨_, rfl, ⟨G, by have := hbW.size; omega, rfl, hv2⟩, hb5⟩
  · exact hst.elim
end Go.Proofs.YtpkjdnplmgfbbaaGreatDoor

namespace Go.Proofs.YtpkjdnplmgfbbaaGreatDoor
open Go.RowKit

/-- A graph without an error. -/
structure Ok (names : List ByteArray) (E : List (List Nat)) : Prop where
  valid : Valid E
  len : names.length = E.length
  small : E.length ≤ 2500
  deg : ∀ v, (gr E v).length ≤ 400
  asc : ∀ v, (gr E v).Pairwise (· ≤ ·)
  name : ∀ s ∈ names, okName s
  nodup : names.Nodup

theorem pairwise_of_next {l : List Nat} (h : ∀ k, k + 1 < l.length → l.getD k 0 ≤ l.getD (k + 1) 0) : l.Pairwise (· ≤ ·) := by
  refine List.pairwise_iff_getElem.2 fun i j hi hj hij => ?_
  have : ∀ d, i + d < l.length → l.getD i 0 ≤ l.getD (i + d) 0 := by
    intro d
    induction d with
    | zero => intro _; exact Nat.le_refl _
    | succ d ih => intro hd; exact Nat.le_trans (ih (by omega)) (h (i + d) hd)
  have h1 := this (j - i) (by omega)
  rw [show i + (j - i) = j by omega] at h1
  have e1 : l.getD i 0 = l[i] := by simp [List.getD, List.getElem?_eq_getElem hi]
  have e2 : l.getD j 0 = l[j] := by simp [List.getD, List.getElem?_eq_getElem hj]
  omega

theorem rowC_zero {n : Nat} {l : List Int} (h : rowC n l = 0) : l.length ≤ 400 ∧ (∀ k, k < l.length → 0 ≤ l.getD k 0 ∧ l.getD k 0 < n) ∧ ∀ k, k + 1 < l.length → l.getD k 0 ≤ l.getD (k + 1) 0 := by
  unfold rowC at h
  split at h
  · cases h
  · rename_i hl
    have hz := fnz_zero h
    refine ⟨by omega, fun k hk => ?_, fun k hk => ?_⟩
    · have := hz k hk
      unfold rowAt at this
      split at this
      · cases this
      · rename_i h1; exact Classical.not_not.1 h1
    · have := hz (k + 1) hk
      unfold rowAt at this
      split at this
      · cases this
      · split at this
        · cases this
        · rename_i _ h2
          rw [Nat.add_sub_cancel] at h2
          omega

theorem ok_of_chk {names : List ByteArray} {E' : List (List Int)} (h : chk names E' = 0) : ∃ E, E' = toI E ∧ Ok names E := by
  unfold chk at h
  split at h
  · cases h
  · rename_i hlen
    split at h
    · cases h
    · rename_i hlg
      have hz := fnz_zero h
      have hlen' : names.length = E'.length := by omega
      have hrow : ∀ i, i < names.length → nameB (names.getD i ByteArray.empty) = true ∧ ¬ names.getD i ByteArray.empty ∈ names.take i ∧ rowC names.length (E'.getD i []) = 0 := by
        intro i hi
        have := hz i hi
        unfold atC at this
        split at this
        · cases this
        · rename_i h1
          split at this
          · cases this
          · rename_i h2
            exact ⟨by simpa using h1, h2, this⟩
      have hrc : ∀ i, i < names.length → ∀ x ∈ E'.getD i [], 0 ≤ x ∧ x < (names.length : Int) := by
        intro i hi x hx
        obtain ⟨_, h2, _⟩ := rowC_zero (hrow i hi).2.2
        obtain ⟨k, hk, hk2⟩ := mem_getElem hx
        have := h2 k hk
        rwa [getD_some hk2] at this
      have hE : ∀ i l, E'[i]? = some l → E'.getD i [] = l := fun i l hl => getD_some hl
      have hgr : ∀ v, gr (E'.map (·.map Int.toNat)) v = (E'.getD v []).map Int.toNat := by
        intro v
        unfold gr
        simp only [List.getD, List.getElem?_map]
        cases E'[v]? <;> simp
      refine ⟨E'.map (·.map Int.toNat), ?_, ?_⟩
      · unfold toI
        rw [List.map_map]
        refine (List.map_id' _).symm.trans (List.map_congr_left fun l hl => ?_)
        obtain ⟨i, hi, hi2⟩ := mem_getElem hl
        show l = List.map _ (List.map _ l)
        rw [List.map_map]
        refine (List.map_id' _).symm.trans (List.map_congr_left fun x hx => ?_)
        have := hrc i (by omega) x (by rw [hE i l hi2]; exact hx)
        show x = ((x.toNat : Nat) : Int)
        omega
      · refine ⟨?_, by simp [hlen'], by simp; omega, ?_, ?_, ?_, ?_⟩
        · intro v hv x hx
          rw [hgr] at hx
          simp only [List.length_map] at hv ⊢
          obtain ⟨y, hy, rfl⟩ := List.mem_map.1 hx
          have := hrc v (by omega) y hy
          omega
        · intro v
          rw [hgr, List.length_map]
          rcases Nat.lt_or_ge v names.length with hv | hv
          · exact (rowC_zero (hrow v hv).2.2).1
          · rw [List.getD_eq_getElem?_getD, List.getElem?_eq_none (by omega)]; simp
        · intro v
          rw [hgr]
          rcases Nat.lt_or_ge v names.length with hv | hv
          · obtain ⟨_, h2, h3⟩ := rowC_zero (hrow v hv).2.2
            refine pairwise_of_next fun k hk => ?_
            rw [List.length_map] at hk
            have e : ∀ j, j < (E'.getD v []).length → (((E'.getD v []).map Int.toNat).getD j 0) = ((E'.getD v []).getD j 0).toNat := by
              intro j hj
              simp only [List.getD, List.getElem?_map] at hj ⊢
              rw [List.getElem?_eq_getElem hj]; rfl
            rw [e k (by omega), e (k + 1) hk]
            have := h3 k hk
            have := h2 k (by omega)
            omega
          · rw [List.getD_eq_getElem?_getD, List.getElem?_eq_none (by omega)]; simp
        · intro s hs
          obtain ⟨i, hi, hi2⟩ := mem_getElem hs
          have := (hrow i hi).1
          rw [getD_some hi2] at this
          exact nameB_true.1 this
        · refine List.pairwise_iff_getElem.2 fun i j hi hj hij he => ?_
          have := (hrow j hj).2.1
          rw [getD_some (List.getElem?_eq_getElem hj)] at this
          exact this (mem_take.2 ⟨i, hij, by rw [List.getElem?_eq_getElem hi, he]⟩)

end Go.Proofs.YtpkjdnplmgfbbaaGreatDoor

namespace Go.Proofs.YtpkjdnplmgfbbaaGreatDoor
open Go.RowKit

theorem GrV.at {w : World} {v : Value} {names : List ByteArray} {E : List (List Int)} (h : GrV w v names E) : ∀ w', Below w.heap.size w w' → GrV w' v names E := fun _ hb => h.below hb

end Go.Proofs.YtpkjdnplmgfbbaaGreatDoor

namespace Go.Proofs.YtpkjdnplmgfbbaaGreatDoor
open Go.RowKit

open Classical in
/-- The greatest distance, or an error. -/
noncomputable def dia (E : List (List Nat)) : Int × Int := if E.length = 0 then (0, 12) else if dok E E.length then (dm E E.length, 0) else (0, 12)
def DiaR (w : World) (E : List (List Nat)) (e : Ending) (w' : World) : Prop := e = .returned (.tuple #[.int .i64 (dia E).1, .int .i64 (dia E).2]) ∧ Below w.heap.size w w'
theorem diaR_none {w w' : World} {E : List (List Nat)} {k : Nat} {x : Int} (hk : k < E.length) (hx : x ∈ dd E k) (h0 : x < 0) (hb : Below w.heap.size w w') : DiaR w E (.returned (.tuple #[.int .i64 0, .int .i64 12])) w' := by
  refine ⟨?_, hb⟩
  unfold dia
  rw [if_neg (by omega), if_neg (fun h => h k hk x hx h0)]
theorem diaR_some {w w' : World} {E : List (List Nat)} (h0 : E.length ≠ 0) (hd : dok E E.length) (hb : Below w.heap.size w w') : DiaR w E (.returned (.tuple #[.int .i64 (dm E E.length), .int .i64 0])) w' := by
  refine ⟨?_, hb⟩
  unfold dia
  rw [if_neg h0, if_pos hd]
theorem diaR_empty {w w' : World} {E : List (List Nat)} (h0 : E.length = 0) (hb : Below w.heap.size w w') : DiaR w E (.returned (.tuple #[.int .i64 0, .int .i64 12])) w' := by
  refine ⟨?_, hb⟩
  unfold dia
  rw [if_pos h0]
theorem dok_succ {E : List (List Nat)} {k : Nat} (h : dok E k) (hk : ∀ x ∈ dd E k, ¬ x < 0) : dok E (k + 1) := by
  intro i hi
  rcases Nat.lt_or_ge i k with h1 | h1
  · exact h i h1
  · obtain rfl : i = k := by omega
    exact hk
theorem mx_take {m : Int} {l : List Int} {j : Nat} {x : Int} (h : l[j]? = some x) : mx m (l.take (j + 1)) = max (mx m (l.take j)) x := by rw [List.take_add_one, h]; exact mx_snoc _ _ _
theorem no_neg_take {l : List Int} {j : Nat} {x : Int} (h : l[j]? = some x) (hp : ∀ y ∈ l.take j, ¬ y < 0) (hx : ¬ x < 0) : ∀ y ∈ l.take (j + 1), ¬ y < 0 := by
  rw [List.take_add_one, h]
  intro y hy
  rcases List.mem_append.1 hy with h1 | h1
  · exact hp y h1
  · have : y = x := by simpa using h1
    subst this; exact hx

set_option maxHeartbeats 1000000 in
theorem Diameter_bad {w : World} {v : Value} {names : List ByteArray} {E : List (List Int)} (h : GrV w v names E) (hc : chk names E ≠ 0) :
    Calls Tryz.prog 22 #[v] w fun e w' => e = .returned (.tuple #[.int .i64 0, .int .i64 (chk names E : Nat)]) ∧ Below w.heap.size w w' := by
  have HC := Lib.hid (fun w' hb => Check_any (h.at w' hb))
  generalize chk names E = q at *
  have hz : (((q : Nat) : Int) != 0) = true := by simp [hc]
  clear hc
  obtain ⟨A, c, A', c', rfl, hs, hg⟩ := h
  obtain ⟨W, G, hW, hG, hbW, c0, c1, hGl, hwG⟩ := gbox w (.slice A names.length c) (.slice A' E.length c')
  have HW := Lib.hid hW
  have HG := Lib.hid hG
  clear hW hG
  go_enter Tryz.func22, Tryz.ntmps22
  go_wp2_with (go_at_call 55; rw [← HW.out]; refine (HC.out _ hbW).mono ?_; rintro e w1 ⟨rfl, hb1⟩)
  go_ret2
  exact ⟨rfl, hbW.trans (hb1.mono hbW.size)⟩

set_option maxHeartbeats 1000000 in
theorem Diameter_ok {w : World} {v : Value} {names : List ByteArray} {E : List (List Nat)} (h : GrV w v names (toI E)) (hc : chk names (toI E) = 0) (hk : Ok names E) :
    Calls Tryz.prog 22 #[v] w (DiaR w E) := by
  have HC := Lib.hid (fun w' hb => Check_any (h.at w' hb))
  rw [hc] at HC
  have hl := hk.len
  have hsm := hk.small
  obtain ⟨A, c, A', c', rfl, hs, hg⟩ := h
  rw [toI_length] at *
  have HD := Lib.hid (fun w' (hb : Below w.heap.size w w') a (ha : a < E.length) => distances_any hk.valid hk.small ha (hg.below hb))
  obtain ⟨W, G, hW, hG, hbW, c0, c1, hGl, hwG⟩ := gbox w (.slice A names.length c) (.slice A' E.length c')
  have HW := Lib.hid hW
  have HG := Lib.hid hG
  have HL := Lib.hid hl
  have HK := Lib.hid hk
  clear hW hG hc hk hl
  by_cases h0 : E.length = 0
  · have hz : ((E.length : Int) == 0) = true := by simp [h0]
    have H0 := Lib.hid h0
    clear h0
    go_enter Tryz.func22, Tryz.ntmps22
    go_wp2_with (go_at_call 55; rw [← HW.out, ← HG.out]; refine (HC.out _ hbW).mono ?_; rintro e w1 ⟨rfl, hb1⟩; have hb2 := hbW.trans (hb1.mono hbW.size); have d0 := ((bcell hb1).1 _ 0 hGl).trans c0; have d1 := ((bcell hb1).1 _ 1 hGl).trans c1; have hGl2 := Nat.lt_of_lt_of_le hGl hb1.size)
    go_ret2
    exact diaR_empty H0.out hb2
  · have hz : ((E.length : Int) == 0) = false := beq_eq_false_iff_ne.2 (by omega)
    go_enter Tryz.func22, Tryz.ntmps22
    go_wp2_with (go_at_call 55; rw [← HW.out, ← HG.out]; refine (HC.out _ hbW).mono ?_; rintro e w1 ⟨rfl, hb1⟩; have hb2 := hbW.trans (hb1.mono hbW.size); have d1 := ((bcell hb1).1 _ 1 hGl).trans c1; have hGl2 := Nat.lt_of_lt_of_le hGl hb1.size)
    clear hz
    go_loopw [5, 21] (fun m i wr => ∃ k : Nat, k ≤ E.length ∧ i = .int .i64 (k : Nat) ∧ m = .int .i64 (dm E k) ∧ dok E k ∧ Below w1.heap.size w1 wr) (fun _ i _ => E.length - (intOf i).toNat)
    case atStart => exact ⟨0, Nat.zero_le _, rfl, rfl, fun i hi => by omega, Below.refl _ _⟩
    case round =>
      obtain ⟨k, hkl, rfl, rfl, hdo, hbr⟩ := hrel
      have HDO := Lib.hid hdo
      clear hdo
      by_cases hlt : k < E.length
      · have d2 := ((bcell hbr).1 _ 1 hGl2).trans d1
        have hb3 := hb2.trans (hbr.mono hb2.size)
        go_wp2_with (go_at_call 61; refine (HD.out _ hb3 k hlt).mono ?_; rintro e w5 ⟨v5, rfl, ⟨G5, hg5, rfl, hn5⟩, hb5⟩)
        have hdd := dd_is HK.out.valid hlt
        have hdl := hdd.1
        have HDL := Lib.hid hdl
        clear hdd hdl
        go_loop [5, 29] (fun m i => ∃ j : Nat, j ≤ E.length ∧ i = .int .i64 (j : Nat) ∧ m = .int .i64 (mx (dm E k) ((dd E k).take j)) ∧ ∀ x ∈ (dd E k).take j, ¬ x < 0) (fun _ i => E.length - (intOf i).toNat)
        case atStart => exact ⟨0, Nat.zero_le _, rfl, rfl, fun x hx => by simp at hx⟩
        case round =>
          obtain ⟨j, hjl, rfl, rfl, hno⟩ := hrel
          have HNO := Lib.hid hno
          clear hno
          by_cases hjt : j < E.length
          · obtain ⟨x, hx⟩ : ∃ x, (dd E k)[j]? = some x := ⟨_, List.getElem?_eq_getElem (by rw [HDL.out]; exact hjt)⟩
            have hcx := hn5.cell (i := j) (by rw [HDL.out]; exact hjt)
            rw [getD_some hx] at hcx
            have hmm := mx_take (m := dm E k) hx
            have hxs := dd_small HK.out.valid hlt (List.mem_of_getElem? hx)
            have HX := Lib.hid hx
            have HMM := Lib.hid hmm
            clear hx hmm
            by_cases hxn : x < 0
            · go_wp2_with fail
              go_ret2
              exact diaR_none hlt (List.mem_of_getElem? HX.out) hxn (hb3.trans (hb5.mono hb3.size))
            · go_wp2_with fail
              go_round
              case rel => exact ⟨j + 1, by omega, by go_num, by rw [HMM.out], no_neg_take HX.out HNO.out hxn⟩
              case measure => simp [intOf]; omega
          · obtain rfl : j = E.length := by omega
            rw [List.take_of_length_le (by rw [HDL.out]; exact Nat.le_refl _)] at HNO
            rw [List.take_of_length_le (by rw [HDL.out]; exact Nat.le_refl _)]
            go_wp2_with fail
            go_roundw
            case rel => exact ⟨k + 1, by omega, by go_num, rfl, dok_succ HDO.out HNO.out, hbr.trans (hb5.mono hbr.size)⟩
            case measure => simp [intOf]; omega
      · obtain rfl : k = E.length := by omega
        go_wp2_with fail
        go_ret2
        exact diaR_some h0 HDO.out (hb2.trans (hbr.mono hb2.size))
end Go.Proofs.YtpkjdnplmgfbbaaGreatDoor
