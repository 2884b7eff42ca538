/- Arrays of ints; slices.Repeat of one number. -/
import Derived.Test.YtpkjdnplmgfbbaaDoorGm
import Derived.Test.YtpkjdnplmgfbbaaDoorShelf
import Derived.Laws.CopyOwn
import Derived.IntWalk
import Derived.Test.YtpkjdnplmgfbbaaDoorGrc
namespace Go.Proofs.YtpkjdnplmgfbbaaDoor
open Go.RowKit

/-- An array of ints. -/
def NArr (w : World) (g : Nat) (l : List Int) : Prop := Arr w g 3 (l.map (Value.int .i64))
section
variable {w w' : World} {g : Nat} {l : List Int}
theorem NArr.cell (h : NArr w g l) {i : Nat} (hi : i < l.length) : w.cell? ⟨g, i, none⟩ = some (.int .i64 (l.getD i 0)) := by
  rw [Arr.cell h, List.getElem?_map]; simp [List.getD, List.getElem?_eq_getElem hi]
theorem NArr.frozen (h : NArr w g l) (i : Nat) : w.frozen? ⟨g, i, none⟩ = false := Arr.frozen h i
theorem NArr.set_ (h : NArr w g l) (i : Nat) (x : Int) : NArr (w.setCell ⟨g, i, none⟩ (.int .i64 x)) g (l.set i x) := by
  have := Arr.set_ h i (.int .i64 x)
  unfold NArr
  rwa [List.map_set]
theorem NArr.made {n : Nat} (h : Arr w g 3 (madeCells (Value.int .i64 0).cells (n * 1)).toList) : NArr w g (List.replicate n 0) := by
  unfold NArr
  rw [List.map_replicate]
  have e := toList_madeCells_one (.int .i64 0) n
  rw [Nat.mul_one] at h
  rwa [← e]
theorem NArr.below (h : NArr w g l) (hb : Below w.heap.size w w') : NArr w' g l := Arr.below' h hb
theorem NArr.cast {m : List Int} (h : NArr w g l) (e : l = m) : NArr w g m := e ▸ h
theorem NArr.il (h : NArr w g l) (hs : ∀ x ∈ l, -9223372036854775808 ≤ x ∧ x ≤ 9223372036854775807) (hm : l.length ≤ maxLen) : Il w (some ⟨g, 0, none⟩) l.length l.length l :=
  ⟨⟨by simp, Nat.le_refl _, hm, fun _ => ⟨g, 0, rfl, fun j u hu => by rw [Nat.zero_add, Arr.cell h]; exact hu⟩⟩, hs⟩
end

theorem splice_rep {x : Int} {n k m : Nat} (hm : k + m ≤ n) : splice (List.replicate k (Value.int .i64 x) ++ List.replicate (n - k) (Value.int .i64 0)) k (List.replicate m (Value.int .i64 x)) = List.replicate (k + m) (Value.int .i64 x) ++ List.replicate (n - (k + m)) (Value.int .i64 0) := by
  unfold splice
  rw [List.take_append_of_le_length (by simp), List.take_of_length_le (by simp), List.drop_append, List.drop_eq_nil_of_le (by simp), List.length_replicate, List.length_replicate, List.drop_replicate, List.nil_append, ← List.append_assoc, List.replicate_append_replicate]
  congr 2
  omega

/-- The first k of n cells hold x, the others 0. -/
def half (n k : Nat) (x : Int) : List Value := List.replicate k (Value.int .i64 x) ++ List.replicate (n - k) (Value.int .i64 0)
theorem half_length {n k : Nat} {x : Int} (h : k ≤ n) : (half n k x).length = n := by simp [half]; omega
theorem half_get {n k j : Nat} {x : Int} (h : j < k) : (half n k x)[j]? = some (.int .i64 x) := by
  unfold half; rw [List.getElem?_append_left (by simpa using h)]; simp [h]
theorem half_splice {x : Int} {n k m : Nat} (hm : k + m ≤ n) : splice (half n k x) k (List.replicate m (Value.int .i64 x)) = half n (k + m) x := splice_rep hm
theorem half_full (n : Nat) (x : Int) : half n n x = (List.replicate n x).map (Value.int .i64) := by simp [half]
theorem half_zero (n : Nat) (x : Int) : half n 0 x = (List.replicate n (0 : Int)).map (Value.int .i64) := by simp [half]

theorem size_int : (Tryd.prog.info? 3).map (·.size) = some 1 := by kernel_rfl

theorem Mul_one {w : World} (n : Nat) (hn : n ≤ 1000000) : Calls Tryd.prog 130 #[.int .u64 1, .int .u64 (n : Nat)] w fun e w' => e = .returned (.tuple #[.int .u64 0, .int .u64 (n : Nat)]) ∧ w = w' := by
  refine (Tryd.bits_Mul 1 n (by omega) (by omega) w).mono ?_
  rintro e w' ⟨rfl, rfl⟩
  have e1 : 1 * n / 18446744073709551616 = 0 := by omega
  have e2 : 1 * n % 18446744073709551616 = n := by omega
  rw [e1, e2]
  exact ⟨rfl, rfl⟩

theorem rep_mem {cs : List Value} {m j : Nat} {x : Int} {v : Value} (hcs : cs = List.replicate m (Value.int .i64 x)) (hv : cs[j]? = some v) : j < m ∧ v = .int .i64 x := by
  subst hcs
  rw [List.getElem?_replicate] at hv
  split at hv
  · rename_i h; injection hv with hv; exact ⟨h, hv.symm⟩
  · cases hv
theorem rep_one {cs : List Value} {m : Nat} {x : Int} (hcs : cs = List.replicate m (Value.int .i64 x)) : ∀ v ∈ cs, v.oneCell' = true := fun v hv => by rw [hcs] at hv; rw [List.eq_of_mem_replicate hv]; rfl
theorem rep_src {w w1 : World} {b off G m : Nat} {x : Int} {cs : List Value} (hx : w.cell? ⟨b, off, none⟩ = some (.int .i64 x)) (hb1 : Below G w w1) (hxl : b < G) (hcs : cs = List.replicate m (Value.int .i64 x)) (hm : m ≤ 1) :
    ∀ j v, cs[j]? = some v → w1.cell? ((⟨b, off, none⟩ : Addr).add j) = some v := by
  intro j v hv
  obtain ⟨h1, rfl⟩ := rep_mem hcs hv
  have : j = 0 := by omega
  subst this
  rw [← hx, ← hb1.cell (p := ⟨b, off, none⟩) hxl]
  rfl
theorem half_src {w1 : World} {G n k m : Nat} {t : TypeId} {x : Int} {cs : List Value} (h : Arr w1 G t (half n k x)) (hm : m ≤ k) (hcs : cs = List.replicate m (Value.int .i64 x)) :
    ∀ j v, cs[j]? = some v → w1.cell? ((⟨G, 0, none⟩ : Addr).add j) = some v := by
  intro j v hv
  obtain ⟨h1, rfl⟩ := rep_mem hcs hv
  have e : (⟨G, 0, none⟩ : Addr).add j = ⟨G, j, none⟩ := by
    unfold Addr.add; split
    · rename_i h; subst h; rfl
    · simp
  rw [e, Arr.cell h, half_get (by omega)]

set_option maxHeartbeats 1000000 in
set_option maxRecDepth 100000 in
/-- slices.Repeat of a list of one number. -/
theorem Repeat_any {w : World} {b off c : Nat} {x : Int} (hx : w.cell? ⟨b, off, none⟩ = some (.int .i64 x)) (n : Nat) (hn : n ≤ 1000000) :
    Calls Tryd.prog 102 #[.slice (some ⟨b, off, none⟩) 1 c, .int .i64 (n : Nat)] w fun e w' => e = .returned (.slice (some ⟨w.heap.size, 0, none⟩) n n) ∧ NArr w' w.heap.size (List.replicate n x) ∧ Below w.heap.size w w' ∧ w.heap.size < w'.heap.size := by
  have hxl := cell_some_lt hx
  have HX := Lib.hid hx
  clear hx
  obtain ⟨G, hG⟩ : ∃ G, G = w.heap.size := ⟨_, rfl⟩
  rw [← hG]
  have HG := Lib.hid hG
  clear hG
  go_enter Tryd.func102, Tryd.ntmps102
  go_wp2_with fail
  refine (Mul_one n hn).mono ?_
  rintro e w' ⟨rfl, rfl⟩
  obtain ⟨m0, hm0⟩ : ∃ m0, m0 = min 1 n := ⟨_, rfl⟩
  obtain ⟨cs, hcs⟩ : ∃ cs, cs = List.replicate m0 (Value.int .i64 x) := ⟨_, rfl⟩
  have hcl : cs.length = m0 := by rw [hcs]; simp
  have HCS := Lib.hid hcs
  have HCL := Lib.hid hcl
  have HM0 := Lib.hid hm0
  clear hcs hcl hm0
  go_wp2_with (first
    | (refine wpList_make_arr _ rfl _ _ 28 rfl 3 (.int .i64 0) 1 8 Tryd.underlying28 (by kernel_rfl) _ _ _ _ n rfl rfl rfl rfl (by omega) (by omega) ?_; intro w1 har hb1 hs1; have hna := NArr.made har; rw [← HG.out] at hna hb1 hs1 ⊢; have HNA := Lib.hid hna; have HS1 := Lib.hid hs1; clear har hna hs1)
    | (refine wpList_copy_splice rfl (.tmp 31) (.tmp 32) 28 28 rfl 3 Tryd.underlying28 size_int _ _ n n 1 c rfl rfl G 0 (half n 0 x) 3 (by rw [half_zero]; exact HNA.out) cs (HCL.out.trans HM0.out) (fun h0 => ⟨rfl, _, rfl, rep_src HX.out hb1 (by rw [HG.out]; exact hxl) HCS.out (by rw [HM0.out]; omega)⟩) (by rw [HCL.out, HM0.out, half_length (Nat.zero_le _)]; omega) (rep_one HCS.out) G w hb1 (Nat.le_refl _) ?_; intro w2 HG2 hb2))
  have har2 : Arr w2 G 3 (half n m0 x) := by
    have h := HG2.out
    rw [HCS.out, half_splice (by have := HM0.out; omega), Nat.zero_add] at h
    exact h
  have HA2 := Lib.hid har2
  clear har2 HG2
  rw [HCL.out]
  have hm1 : n = 0 ∨ 1 ≤ m0 := by have := HM0.out; omega
  have hm2 : m0 ≤ n := by have := HM0.out; omega
  clear HCL HM0 HCS cs HNA HS1 hb1 w1
  go_loopw [8] (fun i wr => ∃ k : Nat, k ≤ n ∧ (n = 0 ∨ 1 ≤ k) ∧ i = .int .i64 (k : Nat) ∧ Hid (Arr wr G 3 (half n k x)) ∧ Below G w wr) (fun i _ => n - (intOf i).toNat)
  case atStart => exact ⟨m0, hm2, hm1, rfl, HA2, hb2⟩
  case round =>
    clear HA2 hb2 hm1 hm2
    obtain ⟨k, hk, hk1, rfl, HA, hbr⟩ := hrel
    by_cases hlt : k < n
    · have hk2 : 1 ≤ k := by omega
      obtain ⟨m, hm⟩ : ∃ m, m = Nat.min k (n - k) := ⟨_, rfl⟩
      obtain ⟨cs, hcs⟩ : ∃ cs, cs = List.replicate m (Value.int .i64 x) := ⟨_, rfl⟩
      have hcl : cs.length = m := by rw [hcs]; simp
      have hmk : m ≤ k ∧ k + m ≤ n ∧ 1 ≤ m := by rw [hm]; have : Nat.min k (n - k) = min k (n - k) := rfl; omega
      have HCS := Lib.hid hcs
      have HCL := Lib.hid hcl
      have HM := Lib.hid hm
      clear hcs hcl hm hk1
      have hnk : ¬ n = k := by omega
      obtain ⟨hmk1, hmk2, hmk3⟩ := hmk
      have ha3 : Hid (Arr wr.drew G 3 (half n k x)) := HA
      have hb3 : Below G w wr.drew := hbr.drew
      have hw : IntKind.i64.wrap ((k : Int) + (m : Int)) = (k : Int) + (m : Int) := IntWalk.i64_in _ (by omega)
      go_wp2_with fail
      go_region_law ((refine step_copy_splice (by rfl) (.tmp 41) (.tmp 44) 28 28 (by rfl) 3 Tryd.underlying28 size_int (some ⟨G, k, none⟩) (some ⟨G, 0, none⟩) (n - k) (n - k) k n (by go_simp) (by go_simp) G k (half n k x) 3 ha3.out cs (HCL.out.trans HM.out) (fun h0 => ⟨rfl, _, rfl, half_src ha3.out hmk1 HCS.out⟩) (by rw [HCL.out, half_length hk]; exact hmk2) (rep_one HCS.out) G w hb3 (Nat.le_refl _) ?_; intro w4 HG4 hb4; rw [HCL.out]))
      go_frame
      clear hw
      have ha4 : Hid (Arr w4 G 3 (half n (k + m) x)) := by
        have h := HG4.out
        rw [HCS.out, half_splice hmk2] at h
        exact Lib.hid (show Arr w4 G 3 (half n (k + m) x) from h)
      clear HG4
      go_roundw
      case rel => exact ⟨_, _, _, _, _, _, _, _, _, _, _, _, _, _, ⟨k + m, hmk2, .inr (by omega), by go_num, ha4, hb4⟩, rfl⟩
      case measure => simp [intOf]; omega
    · obtain rfl : k = n := by omega
      go_wp2_with fail
      go_ret
      refine ⟨rfl, ?_, hbr, ?_⟩
      · unfold NArr; rw [← half_full]; exact HA.out
      · exact HA.out.lt
end Go.Proofs.YtpkjdnplmgfbbaaDoor
