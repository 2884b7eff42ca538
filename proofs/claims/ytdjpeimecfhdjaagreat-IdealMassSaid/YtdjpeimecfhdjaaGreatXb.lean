/- Package integer: words divided by one word. Package integer: a multiple of words taken from other words, in place. Package integer: one word of a quotient (Knuth's algorithm D), in place. Package integer: words shifted; the normalization of a divisor. Package integer: quotient and remainder of words. -/
import Derived.Test.YtdjpeimecfhdjaaGreatXa
import Derived.Deep.CutBlock
namespace Go.Proofs.YtdjpeimecfhdjaaGreat
open Go.RowKit
def GivesShort (w : World) (q : List Nat) (r : Nat) (e : Ending) (w' : World) : Prop := ∃ A c, e = .returned (.tuple #[.slice A q.length c, .int .u32 (r : Int)]) ∧ Wd w' (w.heap.size ≤ ·) A q.length c q ∧ Below w.heap.size w w'
theorem or_words {x g : Nat} (hx : x < 4294967296) (hg : g < 4294967296) : bits BinOp.or IntKind.u64 ((x : Int) * 4294967296) (g : Int) = ((x * 4294967296 + g : Nat) : Int) := by
 have e1 : ((x : Int) * 4294967296) = ((x * 4294967296 : Nat) : Int) := by omega
 rw [e1]
 have hof : ∀ a : Nat, a < 18446744073709551616 → (BitVec.ofInt 64 (a : Int)).toNat = a := fun a ha => by
  rw [BitVec.ofInt_natCast, BitVec.toNat_ofNat]; exact Nat.mod_eq_of_lt (by omega)
 show IntKind.u64.wrap ((BitVec.ofInt 64 ((x * 4294967296 : Nat) : Int) ||| BitVec.ofInt 64 (g : Int)).toNat : Int) = _
 rw [BitVec.toNat_or, hof _ (by omega), hof _ (by omega)]
 have e2 : x * 4294967296 ||| g = x * 4294967296 + g := by
  have := Nat.shiftLeft_add_eq_or_of_lt (i := 32) (b := g) (by omega) x
  rw [Nat.shiftLeft_eq] at this
  exact this.symm
 rw [e2]
 exact IntWalk.u64_in _ (by omega)
set_option maxRecDepth 100000 in
set_option maxHeartbeats 1000000 in
theorem short_any {D : Nat → Prop} {A : Option Addr} {n c : Nat} {l : List Nat} {w : World} (h : Wd w D A n c l) (d : Nat) (hd : 0 < d) (hd' : d < 4294967296) (hn : n ≤ 2000000000000) :
  Calls Tryz.prog 236 #[.slice A n c, .int .u32 (d : Int)] w (GivesShort w (dig 4294967296 (val 4294967296 l / d)) (val 4294967296 l % d)) := by
 have HLN := Lib.hid h.len
 go_enter Tryz.func236, Tryz.ntmps236
 go_wp2_with (at_make; go_must (refine wpList_make_arr _ rfl _ _ _ rfl 190 (.int .u32 0) 1 4 Tryz.underlying182 info_u32 _ _ _ _ n rfl rfl (by omega) (by omega) (by omega) (by omega) ?_); intro w1 ha hb hz)
 have HZ := Lib.hid hz
 clear hz
 go_loopw [7, 8] (fun r i wr => ∃ (k x : Nat) (qs : List Nat), k ≤ n ∧ i = .int .i64 ((k : Int) - 1) ∧ r = .int .u64 (x : Int) ∧ x < d ∧ WArr wr w.heap.size qs ∧ Hid (qs.length = n) ∧ (∀ y ∈ qs, y < 4294967296) ∧ Below w.heap.size w wr ∧
      Hid (val 4294967296 (l.drop k) = val 4294967296 (qs.drop k) * d + x)) (fun _ i _ => (intOf i + 1).toNat)
 case atStart =>
  refine ⟨n, 0, List.replicate n 0, by omega, rfl, rfl, hd, WArr.made ha, List.length_replicate, fun y hy => by rw [List.eq_of_mem_replicate hy]; omega, hb, ?_⟩
  show _ = _
  rw [List.drop_of_length_le (by rw [HLN.out]; omega), List.drop_of_length_le (by simp)]
  simp [val]
 case round =>
  obtain ⟨k, x, qs, hk, rfl, rfl, hx, harr, hlen, hsm, hbl, hinv⟩ := hrel
  rcases Nat.eq_zero_or_pos k with h0 | h0
  ·subst h0
   have hlen' := hlen.out
   have hwd := harr.wd hsm (by rw [hlen']; unfold maxLen; omega) (D := (w.heap.size ≤ ·)) (Nat.le_refl _)
   rw [hlen'] at hwd
   clear hlen'
   go_wp2_with (go_at_call 207; ((with_reducible refine (trimmed_any hwd).mono ?_)); rintro e w2 ⟨rfl, rfl⟩)
   go_ret2
   have hi := hinv.out
   simp only [List.drop_zero] at hi
   have e1 : val 4294967296 l / d = val 4294967296 qs := by
    rw [hi, Nat.mul_comm, Nat.mul_add_div hd, Nat.div_eq_of_lt hx, Nat.add_zero]
   have e2 : val 4294967296 l % d = x := by
    rw [hi, Nat.mul_comm, Nat.mul_add_mod, Nat.mod_eq_of_lt hx]
   rw [e1, e2, ← trim_eq_dig (by omega) hsm]
   exact ⟨_, _, rfl, hwd.trim, hbl⟩
  ·obtain ⟨j, rfl⟩ : ∃ j, k = j + 1 := ⟨k - 1, by omega⟩
   obtain ⟨b, off, rfl, hbD, hcl⟩ := h.cells (by omega)
   have hbl0 := cell_lt (hcl 0 (by omega))
   have hc1 : wr.cell? ⟨b, off + j, none⟩ = some (.int .u32 (gw l j)) := by
    rw [hbl.cell (p := ⟨b, off + j, none⟩) hbl0]; exact hcl j (by omega)
   clear hcl
   have g1 := gw_bound h.small (by omega) j
   have hi : (((j + 1 : Nat) : Int) - 1) = (j : Int) := by omega
   rw [hi]
   clear hi
   have hcell := harr.cell (i := j) (by rw [hlen.out]; omega)
   have hfz := harr.frozen j
   go_wp2_with fail
   go_roundw
   case rel =>
    rw [or_words (by omega) g1]
    generalize hs : x * 4294967296 + gw l j = s
    have hq : s / d < 4294967296 := by
     refine Nat.div_lt_of_lt_mul ?_
     have h1 : (x + 1) * 4294967296 ≤ d * 4294967296 := Nat.mul_le_mul_right _ hx
     omega
    have e1 : IntKind.u64.wrap ((s : Int).tdiv (d : Int)) % 4294967296 = ((s / d : Nat) : Int) := by
     rw [Int.tdiv_eq_ediv_of_nonneg (by omega), ← Int.natCast_ediv]
     generalize s / d = q at hq ⊢
     rw [IntWalk.u64_in _ (by omega)]
     omega
    have e2 : (s : Int).tmod (d : Int) = ((s % d : Nat) : Int) := by
     rw [Int.tmod_eq_emod_of_nonneg (by omega), Int.natCast_emod]
    rw [e1, e2]
    refine ⟨j, s % d, qs.set j (s / d), by omega, rfl, rfl, Nat.mod_lt _ hd, harr.set_ j (s / d), by simpa [Hid] using hlen, fun z hz => ?_, hbl.setCell (Nat.le_refl _) _, ?_⟩
    ·rcases List.mem_or_eq_of_mem_set hz with hz | rfl
     ·exact hsm z hz
     ·exact hq
    ·show _ = _
     have hjl : j < l.length := by rw [HLN.out]; omega
     have hjq : j < (qs.set j (s / d)).length := by rw [List.length_set, hlen.out]; omega
     have hds : (qs.set j (s / d)).drop (j + 1) = qs.drop (j + 1) := by rw [List.drop_set_of_lt (by omega)]
     rw [drop_gw hjl, drop_gw hjq, hds, gw_set_self (by rw [hlen.out]; omega)]
     simp only [val]
     have hv := hinv.out
     have h3 := Nat.mod_add_div s d
     rw [hv, Nat.add_mul, Nat.mul_add, ← Nat.mul_assoc]
     rw [Nat.mul_comm (s / d) d]
     omega
   case measure => simp [intOf]
end Go.Proofs.YtdjpeimecfhdjaaGreat
namespace Go.Proofs.YtdjpeimecfhdjaaGreat
open Go.RowKit
def WPre (w : World) (g : Nat) (l : List Nat) : Prop := ∃ tl : List Value, Arr w g 190 (l.map (fun x : Nat => Value.int .u32 (x : Int)) ++ tl)
section
variable {w w' : World} {g : Nat} {l : List Nat}
theorem WPre.cell (h : WPre w g l) {i : Nat} (hi : i < l.length) : w.cell? ⟨g, i, none⟩ = some (.int .u32 (gw l i)) := by
 obtain ⟨tl, h⟩ := h
 rw [Arr.cell h, List.getElem?_append_left (by simpa using hi), List.getElem?_map, gw_lt hi]; rfl
theorem WPre.frozen (h : WPre w g l) (i : Nat) : w.frozen? ⟨g, i, none⟩ = false := by
 obtain ⟨tl, h⟩ := h
 exact Arr.frozen h i
theorem WPre.lt (h : WPre w g l) : g < w.heap.size := by
 obtain ⟨tl, h⟩ := h
 exact h.lt
theorem WPre.below' (h : WPre w g l) (hb : Below w.heap.size w w') : WPre w' g l := by
 obtain ⟨tl, h⟩ := h
 exact ⟨tl, h.below' hb⟩
theorem WPre.far (h : WPre w g l) {p : Addr} (hp : g ≠ p.block) (u : Value) : WPre (w.setCell p u) g l := by
 obtain ⟨tl, h⟩ := h
 exact ⟨tl, h.far hp u⟩
theorem WPre.set_ (h : WPre w g l) (i x : Nat) (hi : i < l.length) : WPre (w.setCell ⟨g, i, none⟩ (.int .u32 (x : Int))) g (l.set i x) := by
 obtain ⟨tl, h⟩ := h
 refine ⟨tl, ?_⟩
 have := Arr.set_ h i (.int .u32 (x : Int))
 rwa [List.set_append_left _ _ (by simpa using hi), ← List.map_set] at this
theorem WPre.wd (h : WPre w g l) (hs : ∀ x ∈ l, x < 4294967296) {c : Nat} (hc : l.length ≤ c) (hm : c ≤ maxLen) {D : Nat → Prop} (hd : D g) : Wd w D (some ⟨g, 0, none⟩) l.length c l :=
 ⟨rfl, hc, hm, hs, fun _ => ⟨g, 0, rfl, hd, fun j hj => by rw [Nat.zero_add]; exact h.cell hj⟩⟩
end
theorem wpre_of_own {w : World} {base n g cap : Nat} {l : List Nat} (h : w.ownsRow base 190 1 (.slice (some ⟨g, 0, none⟩) n cap) n (l.map fun x : Nat => Value.int .u32 (x : Int))) : WPre w g l := by
 rcases h.2 with ⟨h', _⟩ | ⟨g', cap', cur, h', _, hg, _, _, _, htake⟩
 ·simp at h'
 ·simp only [Value.slice.injEq, Option.some.injEq, Addr.mk.injEq, and_true, true_and] at h'
  obtain ⟨rfl, rfl⟩ := h'
  refine ⟨cur.toList.drop (n * 1), ?_⟩
  unfold Arr
  rw [← htake, List.take_append_drop]
  simpa using hg
def splice (full : List Nat) (off : Nat) (new : List Nat) : List Nat := full.take off ++ new ++ full.drop (off + new.length)
theorem splice_length {full : List Nat} {off : Nat} {new : List Nat} (h : off + new.length ≤ full.length) : (splice full off new).length = full.length := by
 simp [splice]; omega
theorem splice_self (full : List Nat) (off m : Nat) (h : off + m ≤ full.length) : splice full off ((full.drop off).take m) = full := by
 unfold splice
 have hl : ((full.drop off).take m).length = m := by simp; omega
 rw [hl, ← List.drop_drop, List.append_assoc, List.take_append_drop, List.take_append_drop]
theorem splice_set {full new : List Nat} {off k x : Nat} (hk : k < new.length) (h : off + new.length ≤ full.length) : (splice full off new).set (off + k) x = splice full off (new.set k x) := by
 have h1 : (full.take off).length = off := by simp; omega
 unfold splice
 rw [List.append_assoc, List.set_append_right _ _ (by omega), List.length_set]
 rw [h1, Nat.add_sub_cancel_left, List.set_append_left _ _ hk, List.append_assoc]
theorem splice_gw {full new : List Nat} {off k : Nat} (hk : k < new.length) (h : off + new.length ≤ full.length) : gw (splice full off new) (off + k) = gw new k := by
 have h1 : (full.take off).length = off := by simp; omega
 unfold splice
 rw [List.append_assoc]
 simp only [gw, List.getD]
 rw [List.getElem?_append_right (by omega), h1, Nat.add_sub_cancel_left, List.getElem?_append_left hk]
theorem splice_mem {full new : List Nat} {off : Nat} (hf : ∀ x ∈ full, x < 4294967296) (hn : ∀ x ∈ new, x < 4294967296) : ∀ x ∈ splice full off new, x < 4294967296 := by
 intro x hx
 unfold splice at hx
 rcases List.mem_append.1 hx with hx | hx
 ·rcases List.mem_append.1 hx with hx | hx
  ·exact hf x (List.mem_of_mem_take hx)
  ·exact hn x hx
 ·exact hf x (List.mem_of_mem_drop hx)
theorem take_step {B p r y q x' x d n k P1 P2 P3 : Nat} (hp : p = n * d + x) (hy : y + p = r + B * x') (hq : q = x') (hi : P1 + n * P2 = P3 + B ^ k * x) :
  P1 + B ^ k * y + n * (P2 + B ^ k * d) = P3 + B ^ k * r + B ^ (k + 1) * q := by
 subst hq
 have e1 : B ^ (k + 1) * q = B ^ k * (B * q) := by rw [Nat.pow_succ, Nat.mul_assoc]
 have e2 : B ^ k * (y + p) = B ^ k * (r + B * q) := by rw [hy]
 rw [hp, Nat.mul_add, Nat.mul_add, Nat.mul_add] at e2
 rw [Nat.mul_add, e1, Nat.mul_left_comm n]
 omega
theorem only_setCell' {a w : World} {g i : Nat} {u : Value} (h : a.grownBy w (some g)) : a.grownBy (w.setCell ⟨g, i, none⟩ u) (some g) :=
 ⟨h.os, h.tape, h.output, by simpa [World.setCell] using h.size, fun k hk hne => (Below.heap_setCell w ⟨g, i, none⟩ u k (fun e => hne (by rw [e]))).trans (h.block k hk hne)⟩
theorem ret_boolT {a b : Bool} (h : a = b) : Ending.returned (.bool a) = .returned (.bool b) := by rw [h]
def GivesTake (w : World) (g off m : Nat) (full : List Nat) (T : Nat) (e : Ending) (w' : World) : Prop :=
 ∃ (new : List Nat) (x : Nat), e = .returned (.bool (decide (x = 0))) ∧ new.length = m ∧ (∀ y ∈ new, y < 4294967296) ∧ val 4294967296 new + T = val 4294967296 ((full.drop off).take m) + 4294967296 ^ m * x ∧
  WPre w' g (splice full off new) ∧ w.grownBy w' (some g)
set_option maxRecDepth 100000 in
set_option maxHeartbeats 1000000 in
theorem take_any {A : Option Addr} {n c g off m cm f : Nat} {l full : List Nat} {w : World} (h : Wd w (· ≠ g) A n c l) (ha : WPre w g full) (hs : ∀ y ∈ full, y < 4294967296) (hm : off + m ≤ full.length) (hf : f < 4294967296) (hmm : m ≤ 4000000000000) (hlm : n ≤ m) :
  Calls Tryz.prog 261 #[.slice (some ⟨g, off, none⟩) m cm, .slice A n c, .int .u64 (f : Int)] w (GivesTake w g off m full (f * val 4294967296 l)) := by
 go_enter Tryz.func261, Tryz.ntmps261
 go_wp2_with fail
 go_loopw [7, 13] (fun cr i wr => ∃ (k x : Nat) (new : List Nat), k ≤ m ∧ i = .int .i64 k ∧ cr = .int .u64 x ∧ x < 4294967296 ∧ WPre wr g (splice full off new) ∧ Hid (new.length = m) ∧ (∀ y ∈ new, y < 4294967296) ∧ w.grownBy wr (some g) ∧ Hid (new.drop k = ((full.drop off).take m).drop k) ∧
      Hid (val 4294967296 (new.take k) + f * val 4294967296 (l.take k) = val 4294967296 (((full.drop off).take m).take k) + 4294967296 ^ k * x)) (fun _ i _ => m - (intOf i).toNat)
 case atStart =>
  exact ⟨0, 0, (full.drop off).take m, by omega, rfl, rfl, by omega, by rw [splice_self _ _ _ hm]; exact ha, by show _ = _; simp; omega, fun y hy => hs y (List.mem_of_mem_drop (List.mem_of_mem_take hy)), World.grownBy.refl _ _, rfl, by simp [Hid, val]⟩
 case round =>
  obtain ⟨k, x, new, hk, rfl, rfl, hx, harr, hlen, hsm, hgr, hdr, hinv⟩ := hrel
  have hw1 : Wd wr (· ≠ g) A n c l := h.keep fun b o hb hlt => hgr.cell_far _ hlt (fun e => hb (by injection e))
  have g2 := gw_bound h.small (by omega) k
  rcases Nat.lt_or_ge k m with hkm | hkm
  ·have hnl : k < new.length := by rw [hlen.out]; exact hkm
   have hcell := harr.cell (i := off + k) (by rw [splice_length (by rw [hlen.out]; exact hm)]; omega)
   rw [splice_gw hnl (by rw [hlen.out]; exact hm)] at hcell
   have hfz := harr.frozen (off + k)
   have g3 := gw_bound hsm (by omega) k
   have hp := mul_bound hf g2
   have hpi : (f : Int) * (gw l k : Int) ≤ 18446744065119617025 := by rw [← Int.natCast_mul]; omega
   have hpi0 : (0 : Int) ≤ (f : Int) * (gw l k : Int) := Int.mul_nonneg (by omega) (by omega)
   rcases Int.lt_or_le (gw new k : Int) (((f : Int) * (gw l k : Int) + x) % 4294967296) with hlt | hlt
   ·go_wp2_with (go_at_call 194; ((with_reducible refine (at_any hw1 _ (by omega)).mono ?_)); rintro e w' ⟨rfl, rfl⟩; rw [Int.toNat_natCast])
    go_roundw
    case rel =>
     have ep : ((f : Int) * (gw l k : Int) + x) = ((f * gw l k + x : Nat) : Int) := by rw [Int.natCast_add, Int.natCast_mul]
     rw [ep] at hlt ⊢
     clear ep hpi hpi0
     have hpb : f * gw l k + x < 18446744073709551616 := by omega
     have hpm : f * gw l k + x ≤ 18446744069414584320 := by omega
     generalize hpp : f * gw l k + x = p at *
     have ey : ((gw new k : Int) - (p : Int)) % 4294967296 = ((gw new k + 4294967296 - p % 4294967296 : Nat) : Int) := by omega
     rw [ey]
     refine ⟨k + 1, p / 4294967296 + 1, new.set k (gw new k + 4294967296 - p % 4294967296), by omega, by go_num, by go_num, by omega, ?_, by simpa [Hid] using hlen, fun z hz => ?_, ?_, ?_, ?_⟩
     ·rw [← splice_set hnl (by rw [hlen.out]; exact hm)]
      exact harr.set_ (off + k) _ (by rw [splice_length (by rw [hlen.out]; exact hm)]; omega)
     ·rcases List.mem_or_eq_of_mem_set hz with hz | rfl
      ·exact hsm z hz
      ·omega
     ·exact only_setCell' hgr
     ·show _ = _
      rw [List.drop_set_of_lt (by omega), ← List.drop_drop, hdr.out, List.drop_drop]
     ·show _ = _
      rw [val_take_succ, val_take_succ, val_take_succ, set_take_ge, gw_set_self hnl]
      have hg : gw ((full.drop off).take m) k = gw new k := by
       have h1 := gw_drop new k 0
       have h2 := gw_drop ((full.drop off).take m) k 0
       rw [hdr.out, h2] at h1
       simpa using h1
      rw [hg]
      exact take_step hpp.symm (by omega) rfl hinv.out
    case measure => simp [intOf]; omega
   ·go_wp2_with (go_at_call 194; ((with_reducible refine (at_any hw1 _ (by omega)).mono ?_)); rintro e w' ⟨rfl, rfl⟩; rw [Int.toNat_natCast])
    go_roundw
    case rel =>
     have ep : ((f : Int) * (gw l k : Int) + x) = ((f * gw l k + x : Nat) : Int) := by rw [Int.natCast_add, Int.natCast_mul]
     rw [ep] at hlt ⊢
     clear ep hpi hpi0
     have hpb : f * gw l k + x < 18446744073709551616 := by omega
     have hpm : f * gw l k + x ≤ 18446744069414584320 := by omega
     generalize hpp : f * gw l k + x = p at *
     have ey : ((gw new k : Int) - (p : Int) % 4294967296) = ((gw new k - p % 4294967296 : Nat) : Int) := by omega
     rw [ey]
     refine ⟨k + 1, p / 4294967296, new.set k (gw new k - p % 4294967296), by omega, by go_num, by go_num, by omega, ?_, by simpa [Hid] using hlen, fun z hz => ?_, ?_, ?_, ?_⟩
     ·rw [← splice_set hnl (by rw [hlen.out]; exact hm)]
      exact harr.set_ (off + k) _ (by rw [splice_length (by rw [hlen.out]; exact hm)]; omega)
     ·rcases List.mem_or_eq_of_mem_set hz with hz | rfl
      ·exact hsm z hz
      ·omega
     ·exact only_setCell' hgr
     ·show _ = _
      rw [List.drop_set_of_lt (by omega), ← List.drop_drop, hdr.out, List.drop_drop]
     ·show _ = _
      rw [val_take_succ, val_take_succ, val_take_succ, set_take_ge, gw_set_self hnl]
      have hg : gw ((full.drop off).take m) k = gw new k := by
       have h1 := gw_drop new k 0
       have h2 := gw_drop ((full.drop off).take m) k 0
       rw [hdr.out, h2] at h1
       simpa using h1
      rw [hg]
      exact take_step hpp.symm (by omega) rfl hinv.out
    case measure => simp [intOf]; omega
  ·obtain rfl : k = m := by omega
   go_wp2_with fail
   go_ret
   have hv := hinv.out
   have hl := hlen.out
   rw [List.take_of_length_le (by omega), List.take_of_length_le (l := l) (by rw [h.len]; exact hlm), List.take_of_length_le (l := (full.drop off).take k) (by simp; omega)] at hv
   refine ⟨new, x, ret_boolT ?_, hl, hsm, hv, harr, hgr⟩
   by_cases hx0 : x = 0
   ·simp [hx0]
   ·simp [hx0]
end Go.Proofs.YtdjpeimecfhdjaaGreat
namespace Go.Proofs.YtdjpeimecfhdjaaGreat
open Go.RowKit
theorem guess_first {B R D top d1 Rl Dl P Q r0 : Nat} (hB : 0 < B) (hR : R = Rl + P * (r0 + B * top)) (hRl : Rl < P) (hr0 : r0 < B) (hD : D = Dl + P * (B * d1)) (hQ : Q * D ≤ R) (hQB : Q < B) (hd1 : 0 < d1) : Q ≤ min (top / d1) (B - 1) := by
 refine Nat.le_min.2 ⟨?_, by omega⟩
 rw [Nat.le_div_iff_mul_le hd1]
 rcases Nat.lt_or_ge top (Q * d1) with h | h
 ·exfalso
  have h1 : P * (B * (top + 1)) ≤ P * (B * (Q * d1)) := Nat.mul_le_mul_left _ (Nat.mul_le_mul_left _ h)
  have h2 : P * (B * (Q * d1)) ≤ Q * D := by
   rw [hD, Nat.mul_add]
   have : Q * (P * (B * d1)) = P * (B * (Q * d1)) := by
    rw [Nat.mul_left_comm, Nat.mul_left_comm Q B]
   omega
  have h3 : P * (r0 + B * top) + P ≤ P * (B * (top + 1)) := by
   have : P * (r0 + B * top + 1) ≤ P * (B * (top + 1)) := Nat.mul_le_mul_left _ (by rw [Nat.mul_add]; omega)
   rw [Nat.mul_add] at this
   omega
  omega
 ·exact h
theorem guess_down {B R D top d1 d0 r0 Rl Dl P Q G : Nat} (hR : R = Rl + P * (r0 + B * top)) (hRl : Rl < P) (hD : D = Dl + P * (d0 + B * d1)) (hQ : Q * D ≤ R) (hG : G * d1 ≤ top) (hlt : (top - G * d1) * B + r0 < G * d0) : Q < G := by
 rcases Nat.lt_or_ge Q G with h | h
 ·exact h
 ·exfalso
  have h1 : G * D ≤ Q * D := Nat.mul_le_mul_right _ h
  have h2 : G * (P * (d0 + B * d1)) ≤ G * D := Nat.mul_le_mul_left _ (by omega)
  have e1 : G * (P * (d0 + B * d1)) = P * (G * d0 + B * (G * d1)) := by
   rw [Nat.mul_left_comm, Nat.mul_add, Nat.mul_left_comm G B]
  have e2 : (top - G * d1) * B = B * top - B * (G * d1) := by rw [Nat.mul_comm, Nat.mul_sub]
  have e3 : B * (G * d1) ≤ B * top := Nat.mul_le_mul_left _ hG
  have h3 : P * (r0 + B * top + 1) ≤ P * (G * d0 + B * (G * d1)) := Nat.mul_le_mul_left _ (by omega)
  rw [Nat.mul_add] at h3
  omega
theorem guess_last {B R D top d1 d0 r0 Rl Dl P Q G : Nat} (hR : R = Rl + P * (r0 + B * top)) (hD : D = Dl + P * (d0 + B * d1)) (hDl : Dl < P) (hQ : R < (Q + 1) * D) (hG : G * d1 ≤ top) (hGB : G < B) (hd1 : 0 < d1) (hle : G * d0 ≤ (top - G * d1) * B + r0) : G ≤ Q + 1 := by
 have e2 : (top - G * d1) * B = B * top - B * (G * d1) := by rw [Nat.mul_comm, Nat.mul_sub]
 have e3 : B * (G * d1) ≤ B * top := Nat.mul_le_mul_left _ hG
 have h1 : P * (G * d0 + B * (G * d1)) ≤ P * (r0 + B * top) := Nat.mul_le_mul_left _ (by omega)
 have e1 : G * D = G * Dl + P * (G * d0 + B * (G * d1)) := by
  rw [hD, Nat.mul_add, Nat.mul_left_comm G P, Nat.mul_add G d0, Nat.mul_left_comm G B]
 have h2 : G * Dl ≤ B * P := Nat.mul_le_mul (Nat.le_of_lt hGB) (Nat.le_of_lt hDl)
 have h3 : B * P ≤ D := by
  have : P * (B * 1) ≤ P * (B * d1) := Nat.mul_le_mul_left _ (Nat.mul_le_mul_left _ hd1)
  rw [hD, Nat.mul_add, Nat.mul_comm B P]
  rw [Nat.mul_one] at this
  omega
 rcases Nat.lt_or_ge (Q + 1) G with h | h
 ·exfalso
  have h4 : (Q + 2) * D ≤ G * D := Nat.mul_le_mul_right _ h
  have e4 : (Q + 2) * D = (Q + 1) * D + D := by rw [← Nat.succ_mul]
  omega
 ·exact h
theorem addback {V G D R M x Q : Nat} (hv : V + G * D = R + M * x) (hx : x ≠ 0) (hG : G ≤ Q + 1) (hQG : Q ≤ G) (hQ : Q * D ≤ R) (hV : V < M) (hD : D < M) : G = Q + 1 ∧ V + D = R - Q * D + M := by
 have h1 : M * 1 ≤ M * x := Nat.mul_le_mul_left _ (by omega)
 have hGQ : G = Q + 1 := by
  rcases Nat.lt_or_ge Q G with h | h
  ·omega
  ·exfalso
   have : G = Q := by omega
   subst this
   omega
 refine ⟨hGQ, ?_⟩
 subst hGQ
 rw [Nat.add_mul, Nat.one_mul] at hv
 rcases Nat.lt_or_ge x 2 with h2 | h2
 ·have : x = 1 := by omega
  subst this
  omega
 ·have h3 : M * 2 ≤ M * x := Nat.mul_le_mul_left _ h2
  omega
def GivesStep (w : World) (g off m : Nat) (full : List Nat) (q r : Nat) (e : Ending) (w' : World) : Prop :=
 ∃ (new : List Nat), e = .returned (.int .u32 (q : Int)) ∧ new.length = m ∧ (∀ y ∈ new, y < 4294967296) ∧ val 4294967296 new = r ∧ WPre w' g (splice full off new) ∧ w.grownBy w' (some g)
set_option maxRecDepth 100000 in
set_option maxHeartbeats 4000000 in
theorem step_any {A : Option Addr} {n c g off cm p : Nat} {l full : List Nat} {w : World} (h : Wd w (· ≠ g) A n c l) (ha : WPre w g full) (hs : ∀ y ∈ full, y < 4294967296) (hm : off + (n + 1) ≤ full.length) (hn : n = p + 2) (hmm : n ≤ 3000000000000) (hd1 : 0 < gw l (p + 1))
  (hlt : val 4294967296 ((full.drop off).take (n + 1)) < 4294967296 * val 4294967296 l) :
  Calls Tryz.prog 245 #[.slice (some ⟨g, off, none⟩) (n + 1) cm, .slice A n c] w (GivesStep w g off (n + 1) full (val 4294967296 ((full.drop off).take (n + 1)) / val 4294967296 l) (val 4294967296 ((full.drop off).take (n + 1)) % val 4294967296 l)) := by
 obtain ⟨b, ob, rfl, hbD, hcl⟩ := h.cells (by omega)
 have hcl1 := hcl (p + 1) (by omega)
 have hcl0 := hcl p (by omega)
 clear hcl
 have hrc : ∀ k, k < n + 1 → w.cell? ⟨g, off + k, none⟩ = some (.int .u32 (gw ((full.drop off).take (n + 1)) k)) := fun k hk => by
  rw [ha.cell (by omega), gw_take hk, gw_drop]
 have hr2 := hrc (p + 2) (by omega)
 have hr1 := hrc (p + 1) (by omega)
 have hr0 := hrc p (by omega)
 clear hrc
 have hos : ∀ y ∈ (full.drop off).take (n + 1), y < 4294967296 := fun y hy => hs y (List.mem_of_mem_drop (List.mem_of_mem_take hy))
 have b2 := gw_bound hos (by omega) (p + 2)
 have b1 := gw_bound hos (by omega) (p + 1)
 have b0 := gw_bound hos (by omega) p
 have a1 := gw_bound h.small (by omega) (p + 1)
 have a0 := gw_bound h.small (by omega) p
 subst hn
 generalize hold : (full.drop off).take (p + 2 + 1) = old at *
 obtain ⟨r2, e2⟩ : ∃ r2, r2 = gw old (p + 2) := ⟨_, rfl⟩
 obtain ⟨r1, e1⟩ : ∃ r1, r1 = gw old (p + 1) := ⟨_, rfl⟩
 obtain ⟨r0, e0⟩ : ∃ r0, r0 = gw old p := ⟨_, rfl⟩
 obtain ⟨d1, f1⟩ : ∃ d1, d1 = gw l (p + 1) := ⟨_, rfl⟩
 obtain ⟨d0, f0⟩ : ∃ d0, d0 = gw l p := ⟨_, rfl⟩
 rw [← e2] at hr2 b2
 rw [← e1] at hr1 b1
 rw [← e0] at hr0 b0
 rw [← f1] at hcl1 a1 hd1
 rw [← f0] at hcl0 a0
 have E2 := Lib.hid e2
 have E1 := Lib.hid e1
 have E0 := Lib.hid e0
 have F1 := Lib.hid f1
 have F0 := Lib.hid f0
 have HOLD := Lib.hid hold
 clear e2 e1 e0 f1 f0 hold
 have i0 : (0 : Int) ≤ (p : Int) := by omega
 have i1 : (0 : Int) ≤ (p : Int) + 1 := by omega
 have i2 : (0 : Int) ≤ (p : Int) + 2 := by omega
 have x1 : IntKind.i64.wrap ((p : Int) + 2 - 1) = (p : Int) + 1 := by rw [IntWalk.i64_in _ (by omega)]; omega
 have x2 : IntKind.i64.wrap ((p : Int) + 2 - 2) = (p : Int) := by rw [IntWalk.i64_in _ (by omega)]; omega
 have y1 : ((p : Int) + 1).toNat = p + 1 := by omega
 have y2 : ((p : Int) + 2).toNat = p + 2 := by omega
 have u1 : IntKind.u64.wrap (r2 : Int) = r2 := IntWalk.u64_in _ (by omega)
 have u2 : IntKind.u64.wrap (r1 : Int) = r1 := IntWalk.u64_in _ (by omega)
 obtain ⟨T, hT⟩ : ∃ T, T = r2 * 4294967296 + r1 := ⟨_, rfl⟩
 have hTb : T < 18446744073709551616 := by omega
 have v1 : bits BinOp.or IntKind.u64 ((r2 : Int) * 4294967296) (r1 : Int) = (T : Int) := by rw [hT]; exact or_words b2 b1
 have HT := Lib.hid hT
 clear hT
 obtain ⟨K, hK⟩ : ∃ K, K = T / d1 := ⟨_, rfl⟩
 have k1 : ((T : Int) / (d1 : Int)) = (K : Int) := by rw [hK]; exact (Int.natCast_ediv T d1).symm
 have HK := Lib.hid hK
 have hKle : K ≤ T := by rw [hK]; exact Nat.div_le_self _ _
 clear hK
 -- the numbers
 have hR : val 4294967296 old = val 4294967296 (old.take p) + 4294967296 ^ p * (r0 + 4294967296 * T) := by
  have hol : old.length = p + 2 + 1 := by rw [← HOLD.out]; simp; omega
  have q := val_split 4294967296 old p
  rw [drop_gw (l := old) (k := p) (by omega), drop_gw (l := old) (k := p + 1) (by omega)] at q
  simp only [Nat.add_assoc, Nat.reduceAdd] at q
  rw [drop_gw (l := old) (k := p + 2) (by omega), List.drop_of_length_le (l := old) (by omega)] at q
  rw [q, E0.out, HT.out, E1.out, E2.out]
  simp only [val]
  congr 2
  omega
 have hD : val 4294967296 l = val 4294967296 (l.take p) + 4294967296 ^ p * (d0 + 4294967296 * d1) := by
  have hol : l.length = p + 2 := h.len
  have q := val_split 4294967296 l p
  rw [drop_gw (l := l) (k := p) (by omega), drop_gw (l := l) (k := p + 1) (by omega), List.drop_of_length_le (l := l) (by omega)] at q
  rw [q, F0.out, F1.out]
  simp only [val]
  congr 2
 have hRl : val 4294967296 (old.take p) < 4294967296 ^ p := by
  have q := val_lt (b := 4294967296) (l := old.take p) (fun y hy => hos y (List.mem_of_mem_take hy))
  exact Nat.lt_of_lt_of_le q (Nat.pow_le_pow_right (by omega) (by simp; omega))
 have hDl : val 4294967296 (l.take p) < 4294967296 ^ p := by
  have q := val_lt (b := 4294967296) (l := l.take p) (fun y hy => h.small y (List.mem_of_mem_take hy))
  exact Nat.lt_of_lt_of_le q (Nat.pow_le_pow_right (by omega) (by simp; omega))
 generalize hvR : val 4294967296 old = R at *
 generalize hvD : val 4294967296 l = D at *
 have hDpos : 0 < D := by
  rw [hD]
  have : 0 < 4294967296 ^ p * (d0 + 4294967296 * d1) := Nat.mul_pos (Nat.pow_pos (by omega)) (by omega)
  omega
 obtain ⟨Q, hQ⟩ : ∃ Q, Q = R / D := ⟨_, rfl⟩
 have hQ1 : Q * D ≤ R := by rw [hQ]; exact Nat.div_mul_le_self R D
 have hQ2 : R < (Q + 1) * D := by
  have q1 := Nat.mod_add_div R D
  have q2 := Nat.mod_lt R hDpos
  rw [hQ, Nat.add_mul, Nat.one_mul, Nat.mul_comm]
  omega
 have hQB : Q < 4294967296 := by rw [hQ]; exact Nat.div_lt_of_lt_mul (by rw [Nat.mul_comm]; exact hlt)
 have hrem : R % D = R - Q * D := by
  have q1 := Nat.mod_add_div R D
  rw [hQ, Nat.mul_comm]
  omega
 rw [← hQ]
 have hG0 := guess_first (by omega) hR hRl b0 (Dl := val 4294967296 (l.take p) + 4294967296 ^ p * d0) (by rw [hD, Nat.mul_add]; omega) hQ1 hQB hd1
 rw [← HK.out] at hG0
 have HG0 := Lib.hid hG0
 have HR := Lib.hid hR
 have HD := Lib.hid hD
 have HRl := Lib.hid hRl
 have HDl := Lib.hid hDl
 have HQ1 := Lib.hid hQ1
 have HQ2 := Lib.hid hQ2
 have HREM := Lib.hid hrem
 have HVR := Lib.hid hvR
 have HVD := Lib.hid hvD
 have HDP := Lib.hid hDpos
 have HLT := Lib.hid hlt
 clear hG0 hR hD hRl hDl hQ1 hQ2 hQ hrem hvR hvD hDpos hlt
 have hKd : K * d1 ≤ T := by rw [HK.out]; exact Nat.div_mul_le_self T d1
 have HKD := Lib.hid hKd
 clear hKd
 go_enter Tryz.func245, Tryz.ntmps245
 go_wp2_with fail
 go_quiet (fail)
 go_upto_region 3 with (fail)
 go_cut [7] (fun gv wx => ∃ (G m : Nat), gv = .int .u64 (G : Int) ∧ G < 4294967296 ∧ Hid (G * d1 ≤ T) ∧ Hid (Q ≤ G) ∧ wx = w.drewN m)
 case first =>
  rcases Nat.lt_or_ge 4294967295 K with hmin | hmin
  ·go_wp2_with fail
   go_meet
   exact ⟨4294967295, _, rfl, by omega, Nat.le_trans (Nat.mul_le_mul_right _ (Nat.le_of_lt hmin)) HKD.out, by have := HG0.out; show _ ≤ _; omega, rfl⟩
  ·go_wp2_with fail
   go_meet
   exact ⟨K, _, rfl, by omega, HKD.out, by have := HG0.out; show _ ≤ _; omega, rfl⟩
 case rest =>
  obtain ⟨G1, m1, rfl, hG1, hGd1, hQG1, rfl⟩ := hcut
  go_upto_block 0 with (fail)
  go_cut [7] (fun gv wx => ∃ (G m : Nat), gv = .int .u64 (G : Int) ∧ G < 4294967296 ∧ Hid (Q ≤ G) ∧ G ≤ Q + 1 ∧ wx = w.drewN m)
  case first =>
   go_wp2_with fail
   go_loopw [7] (fun gv wr => ∃ (G m : Nat), gv = .int .u64 (G : Int) ∧ G < 4294967296 ∧ Hid (G * d1 ≤ T) ∧ Hid (Q ≤ G) ∧ wr = w.drewN m) (fun gv _ => (intOf gv).toNat)
   case atStart => exact ⟨G1, _, rfl, hG1, hGd1, hQG1, rfl⟩
   case round =>
    clear hG1 hGd1 hQG1
    obtain ⟨G, m, rfl, hG, hGd, hQG, rfl⟩ := hrel
    obtain ⟨X0, hX0⟩ : ∃ X0, X0 = G * d0 := ⟨_, rfl⟩
    obtain ⟨X1, hX1⟩ : ∃ X1, X1 = G * d1 := ⟨_, rfl⟩
    obtain ⟨t, ht⟩ : ∃ t, t = T - X1 := ⟨_, rfl⟩
    have p0 := mul_bound hG a0
    rw [← hX0] at p0
    have p1 : X1 ≤ T := by rw [hX1]; exact hGd.out
    have z0 : IntKind.u64.wrap (d0 : Int) = d0 := IntWalk.u64_in _ (by omega)
    have z1 : IntKind.u64.wrap (d1 : Int) = d1 := IntWalk.u64_in _ (by omega)
    have z2 : IntKind.u64.wrap (r0 : Int) = r0 := IntWalk.u64_in _ (by omega)
    have m0 : IntKind.u64.wrap ((G : Int) * (d0 : Int)) = (X0 : Int) := by rw [← Int.natCast_mul, ← hX0]; exact IntWalk.u64_in _ (by omega)
    have m1 : IntKind.u64.wrap ((G : Int) * (d1 : Int)) = (X1 : Int) := by rw [← Int.natCast_mul, ← hX1]; exact IntWalk.u64_in _ (by omega)
    have s1 : IntKind.u64.wrap ((T : Int) - (X1 : Int)) = (t : Int) := by rw [IntWalk.u64_in _ (by omega)]; omega
    have HX0 := Lib.hid hX0
    have HX1 := Lib.hid hX1
    have Ht := Lib.hid ht
    clear hX0 hX1 ht
    obtain ⟨Z, hZ⟩ : ∃ Z : Int, Z = bits BinOp.or IntKind.u64 (IntKind.u64.wrap ((t : Int) * 4294967296)) (r0 : Int) := ⟨_, rfl⟩
    have hZt : t < 4294967296 → Z = ((t * 4294967296 + r0 : Nat) : Int) := fun htB => by
     rw [hZ, IntWalk.u64_in _ (by omega)]; exact or_words htB b0
    have HZT := Lib.hid hZt
    have c2 := hZ.symm
    clear hZt hZ
    have hlast : (4294967296 ≤ t ∨ (X0 : Int) ≤ Z) → G ≤ Q + 1 := fun hh => by
     refine guess_last HR.out HD.out HDl.out HQ2.out hGd.out hG hd1 ?_
     rw [← HX1.out, ← HX0.out, ← Ht.out]
     rcases Nat.lt_or_ge t 4294967296 with h1 | h1
     ·have h2 := HZT.out h1
      rcases hh with h3 | h3
      ·omega
      ·omega
     ·have h3 : 4294967296 * 4294967296 ≤ t * 4294967296 := Nat.mul_le_mul_right _ h1
      omega
    have HLAST := Lib.hid hlast
    clear hlast
    rcases Nat.lt_or_ge t 4294967296 with htB | htB
    ·have c2' : bits BinOp.or IntKind.u64 ((t : Int) * 4294967296) (r0 : Int) = Z := by rw [← c2, IntWalk.u64_in _ (by omega)]
     clear c2
     rcases Int.lt_or_le Z (X0 : Int) with hZX | hZX
     ·have c3 : decide ((t : Int) < 4294967296) = true := by simp; omega
      have c4 : decide (Z < (X0 : Int)) = true := by simp; omega
      go_wp2_with fail
      go_quiet (fail)
      clear c2' c3 c4 s1 m0 m1
      have hdn : Q < G := by
       refine guess_down HR.out HRl.out HD.out HQ1.out hGd.out ?_
       rw [← HX1.out, ← HX0.out, ← Ht.out]
       have h2 := HZT.out htB
       omega
      go_wp2_with fail
      go_roundw
      case rel =>
       refine ⟨G - 1, _, by go_num, by omega, ?_, by show _ ≤ _; omega, rfl⟩
       show _ ≤ _
       exact Nat.le_trans (Nat.mul_le_mul_right _ (Nat.sub_le _ _)) hGd.out
      case measure => simp [intOf]; omega
     ·have hGQ := HLAST.out (.inr hZX)
      have c4 : decide (Z < (X0 : Int)) = false := by simp; omega
      go_wp2_with fail
      go_quiet (fail)
      clear c2' c4 s1 m0 m1
      go_wp2_with fail
      go_meet
      exact ⟨G, _, rfl, hG, hQG, hGQ, World.drewN_drewN _ _ _⟩
    ·have hGQ := HLAST.out (.inl htB)
     have c3 : decide ((t : Int) < 4294967296) = false := by simp; omega
     rcases Int.lt_or_le Z (X0 : Int) with hZX | hZX
     ·have c4 : decide (Z < (X0 : Int)) = true := by simp; omega
      go_wp2_with fail
      go_quiet (fail)
      clear c2 c3 c4 s1 m0 m1
      go_wp2_with fail
      go_meet
      exact ⟨G, _, rfl, hG, hQG, hGQ, World.drewN_drewN _ _ _⟩
     ·have c4 : decide (Z < (X0 : Int)) = false := by simp; omega
      go_wp2_with fail
      go_quiet (fail)
      clear c2 c3 c4 s1 m0 m1
      go_wp2_with fail
      go_meet
      exact ⟨G, _, rfl, hG, hQG, hGQ, World.drewN_drewN _ _ _⟩
  case rest =>
   obtain ⟨G, m, rfl, hG, hQG, hGQ, rfl⟩ := hcut
   clear hG1 hGd1 hQG1
   clear x1 x2 y1 y2 u1 u2 v1 k1
   go_wp2_with fail
   refine (take_any (h.drewN _) (show WPre (w.drewN _) g full from ha) hs hm hG (by omega) (by omega)).mono ?_
   rintro e w3 ⟨new, x, rfl, hnl, hns, hv, harr, hgr⟩
   rw [HOLD.out, HVR.out, HVD.out] at hv
   have hgw : w.grownBy w3 (some g) := ⟨hgr.os, hgr.tape, hgr.output, hgr.size, hgr.block⟩
   have hnb := val_lt hns
   rw [hnl] at hnb
   have HV := Lib.hid hv
   have HNL := Lib.hid hnl
   have HNB := Lib.hid hnb
   clear hv hnl hnb hgr
   by_cases hx0 : x = 0
   ·have hdx : decide (x = 0) = true := by simpa using hx0
    have HX := Lib.hid hx0
    clear hx0
    go_wp2_with fail
    go_ret
    have hv := HV.out
    rw [HX.out, Nat.mul_zero, Nat.add_zero] at hv
    have hGQ2 : G = Q := by
     rcases Nat.lt_or_ge Q G with h1 | h1
     ·exfalso
      have h2 : (Q + 1) * D ≤ G * D := Nat.mul_le_mul_right _ h1
      have h3 := HQ2.out
      omega
     ·have := hQG.out; omega
    rw [hGQ2] at hv
    exact ⟨new, ret_int (by rw [hGQ2]), HNL.out, hns, by rw [HREM.out]; omega, harr, hgw⟩
   ·have hdx : decide (x = 0) = false := by simpa using hx0
    have hab := addback HV.out hx0 hGQ hQG.out HQ1.out HNB.out (by
     have q1 := val_lt h.small
     rw [h.len, HVD.out] at q1
     exact Nat.lt_of_lt_of_le q1 (Nat.pow_le_pow_right (by omega) (by omega)))
    have HAB := Lib.hid hab
    have hG1 : 1 ≤ G := by omega
    clear hab hx0
    go_wp2_with fail
    go_loopw [8, 85] (fun cr i wr => ∃ (k y : Nat) (n2 : List Nat), k ≤ p + 2 + 1 ∧ i = .int .i64 k ∧ cr = .int .u64 y ∧ y ≤ 1 ∧ WPre wr g (splice full off n2) ∧ Hid (n2.length = p + 2 + 1) ∧ (∀ y ∈ n2, y < 4294967296) ∧ w.grownBy wr (some g) ∧ Hid (n2.drop k = new.drop k) ∧
      Hid (val 4294967296 (n2.take k) + 4294967296 ^ k * y = val 4294967296 (new.take k) + val 4294967296 (l.take k))) (fun _ i _ => p + 2 + 1 - (intOf i).toNat)
    case atStart => exact ⟨0, 0, new, by omega, rfl, rfl, by omega, harr, HNL.out, hns, hgw, rfl, by simp [Hid, val]⟩
    case round =>
     obtain ⟨k, y, n2, hk, rfl, rfl, hy, harr2, hlen2, hsm2, hgr2, hdr2, hinv2⟩ := hrel
     have hw2 : Wd wr (· ≠ g) (some ⟨b, ob, none⟩) (p + 2) c l := h.keep fun b o hb hlt => hgr2.cell_far _ hlt (fun e => hb (by injection e))
     have g2 := gw_bound h.small (by omega) k
     have g3 := gw_bound hsm2 (by omega) k
     rcases Nat.lt_or_ge k (p + 2 + 1) with hkm | hkm
     ·have hnl2 : k < n2.length := by rw [hlen2.out]; exact hkm
      have hcell := harr2.cell (i := off + k) (by rw [splice_length (by rw [hlen2.out]; exact hm)]; omega)
      rw [splice_gw hnl2 (by rw [hlen2.out]; exact hm)] at hcell
      have hfz := harr2.frozen (off + k)
      have hk0 : (0 : Int) ≤ (k : Int) := by omega
      have hk1 : (k : Int) < (p : Int) + 2 + 1 := by omega
      have q1 : IntKind.u64.wrap (gw n2 k : Int) = gw n2 k := IntWalk.u64_in _ (by omega)
      have q2 : IntKind.u64.wrap ((gw n2 k : Int) + gw l k) = (gw n2 k : Int) + gw l k := IntWalk.u64_in _ (by omega)
      have q3 : IntKind.u64.wrap ((gw n2 k : Int) + gw l k + y) = (gw n2 k : Int) + gw l k + y := IntWalk.u64_in _ (by omega)
      go_wp2_with fail
      go_quiet ((go_at_call 194; exact quiet_left (at_any (hw2.drewN _) (k : Int) (by omega))))
      clear q1 q2 q3
      go_wp2_with fail
      go_roundw
      case rel =>
       have e : ((gw n2 k : Int) + gw l k + y) = ((gw n2 k + gw l k + y : Nat) : Int) := by omega
       rw [e]
       clear e
       generalize hs : gw n2 k + gw l k + y = s
       refine ⟨k + 1, s / 4294967296, n2.set k (s % 4294967296), by omega, by go_num, by go_num, by omega, ?_, by simpa [Hid] using hlen2, fun z hz => ?_, ?_, ?_, ?_⟩
       ·rw [← splice_set hnl2 (by rw [hlen2.out]; exact hm)]
        have := (show WPre (wr.drewN nq) g (splice full off n2) from harr2).set_ (off + k) (s % 4294967296) (by rw [splice_length (by rw [hlen2.out]; exact hm)]; omega)
        simpa using this
       ·rcases List.mem_or_eq_of_mem_set hz with hz | rfl
        ·exact hsm2 z hz
        ·omega
       ·exact only_setCell' ⟨hgr2.os, hgr2.tape, hgr2.output, hgr2.size, hgr2.block⟩
       ·show _ = _
        rw [List.drop_set_of_lt (by omega), ← List.drop_drop, hdr2.out, List.drop_drop]
       ·show _ = _
        rw [val_take_succ, val_take_succ, val_take_succ, set_take_ge, gw_set_self hnl2]
        have hg : gw new k = gw n2 k := by
         have h1 := gw_drop n2 k 0
         have h2 := gw_drop new k 0
         rw [hdr2.out, h2] at h1
         simpa using h1
        rw [hg]
        exact plus_step k hs.symm rfl rfl _ _ _ hinv2.out
      case measure => simp [intOf]; omega
     ·obtain rfl : k = p + 2 + 1 := by omega
      go_wp2_with fail
      go_ret
      have hv := hinv2.out
      have hl2 := hlen2.out
      rw [List.take_of_length_le (l := n2) (by omega), List.take_of_length_le (l := l) (by rw [h.len]; omega), List.take_of_length_le (l := new) (by rw [HNL.out]; omega), HVD.out, HAB.out.2] at hv
      have hb2 := val_lt hsm2
      rw [hl2] at hb2
      have hRD : R - Q * D < 4294967296 ^ (p + 2 + 1) := by
       have q1 := HNB.out
       have q2 := HAB.out.2
       have q3 := val_lt h.small
       rw [h.len, HVD.out] at q3
       have q4 : 4294967296 ^ (p + 2) ≤ 4294967296 ^ (p + 2 + 1) := Nat.pow_le_pow_right (by omega) (by omega)
       omega
      refine ⟨n2, ret_int (by rw [HAB.out.1]; omega), hl2, hsm2, ?_, harr2, hgr2⟩
      rw [HREM.out]
      rcases Nat.lt_or_ge y 1 with h1 | h1
      ·have : y = 0 := by omega
       rw [this] at hv
       omega
      ·have : y = 1 := by omega
       rw [this] at hv
       omega
end Go.Proofs.YtdjpeimecfhdjaaGreat
namespace Go.Proofs.YtdjpeimecfhdjaaGreat
open Go.RowKit
theorem wd_one (w : World) (D : Nat → Prop) (hd : D w.heap.size) (x : Nat) (hx : x < 4294967296) : Wd (w.alloc (.cells #[.int .u32 (x : Int)] 190)) D (some ⟨w.heap.size, 0, none⟩) 1 1 [x] := by
 have ha : WArr (w.alloc (.cells #[.int .u32 (x : Int)] 190)) w.heap.size [x] := Arr.new w 190 [.int .u32 (x : Int)]
 exact ha.wd (fun y hy => by rw [List.mem_singleton.1 hy]; exact hx) (by simp [maxLen]) hd
set_option maxHeartbeats 400000 in
theorem shifted_any {D : Nat → Prop} {A : Option Addr} {n c : Nat} {l : List Nat} {w : World} (h : Wd w D A n c l) (hn : n ≤ 1000000000000) (s : Nat) (hs : s < 32) :
  Calls Tryz.prog 244 #[.slice A n c, .int .u64 (s : Int)] w (Gives w fun w' v => WdV w' (w.heap.size ≤ ·) v (dig 4294967296 (val 4294967296 l * 2 ^ s))) := by
 have hp : 2 ^ s < 4294967296 := Nat.pow_lt_pow_right (by omega) hs
 have e : ((2 : Int) ^ s % 4294967296) = ((2 ^ s : Nat) : Int) := by
  have : ((2 ^ s : Nat) : Int) = (2 : Int) ^ s := by simp
  rw [← this]
  exact Int.emod_eq_of_lt (Int.natCast_nonneg _) (Int.ofNat_lt.2 hp)
 have E := Lib.hid e
 clear e
 go_enter Tryz.func244, Tryz.ntmps244
 go_wp2_with (go_at_call 164; rw [E.out]; go_must (with_reducible refine (times_any ((h.mono (D' := fun _ => True) (fun _ _ _ => trivial)).alloc _) (wd_one w (fun _ => True) trivial (2 ^ s) hp) (by omega) (by omega)).mono ?_); rintro e w1 ⟨v1, rfl, hv1, hb1⟩)
 go_ret
 refine ⟨_, rfl, ?_, ((Below.refl _ _).alloc (Nat.le_refl _) _).trans (hb1.mono (by simp))⟩
 simp only [val, Nat.mul_zero, Nat.add_zero] at hv1
 obtain ⟨A1, c1, rfl, h1⟩ := hv1
 exact ⟨A1, c1, rfl, h1.mono (fun b hb _ => by have : (w.alloc _).heap.size ≤ b := hb; simp at this; show w.heap.size ≤ b; omega)⟩
end Go.Proofs.YtdjpeimecfhdjaaGreat
namespace Go.Proofs.YtdjpeimecfhdjaaGreat
open Go.RowKit
def Gives2W (w : World) (q r : List Nat) (e : Ending) (w' : World) : Prop := ∃ v1 v2, e = .returned (.tuple #[v1, v2]) ∧ WdV w' (fun _ => True) v1 q ∧ WdV w' (fun _ => True) v2 r ∧ Below w.heap.size w w'
theorem div_inv_step {B D A2 Q L W j : Nat} (h : A2 = Q * (B ^ (j + 1) * D) + (L + B ^ j * W)) (hL : L < B ^ j) (hD : 0 < D) :
  A2 = (W / D + B * Q) * (B ^ j * D) + (L + B ^ j * (W % D)) ∧ L + B ^ j * (W % D) < D * B ^ j := by
 have h1 := Nat.mod_add_div W D
 have h2 := Nat.mod_lt W hD
 constructor
 ·rw [h]
  have e1 : B ^ j * W = B ^ j * (W % D) + W / D * (B ^ j * D) := by
   conv => lhs; rw [← h1]
   rw [Nat.mul_add, Nat.mul_left_comm (W / D), Nat.mul_comm D]
  have e2 : Q * (B ^ (j + 1) * D) = B * Q * (B ^ j * D) := by
   rw [Nat.pow_succ, Nat.mul_comm (B ^ j) B, Nat.mul_assoc B, ← Nat.mul_assoc Q B, Nat.mul_comm Q B]
  rw [e1, e2, Nat.add_mul]
  omega
 ·have h3 : B ^ j * (W % D + 1) ≤ B ^ j * D := Nat.mul_le_mul_left _ h2
  rw [Nat.mul_add, Nat.mul_one] at h3
  rw [Nat.mul_comm D]
  omega
theorem Wd.cut {w : World} {D : Nat → Prop} {A : Option Addr} {n c : Nat} {l : List Nat} (h : Wd w D A n c l) {k : Nat} (hk : k ≤ n) : Wd w D A k c (l.take k) :=
 ⟨by rw [List.length_take, h.len]; omega, by have := h.cap; omega, h.room, fun x hx => h.small x (List.mem_of_mem_take hx), fun hn => by
  obtain ⟨b, off, e, hb, hc⟩ := h.cells (by omega)
  exact ⟨b, off, e, hb, fun j hj => by rw [hc j (by omega), gw_take hj]⟩⟩
theorem val_take_add (b : Nat) (l : List Nat) (j m : Nat) (h : j ≤ l.length) : val b (l.take (j + m)) = val b (l.take j) + b ^ j * val b ((l.drop j).take m) := by
 rw [List.take_add, val_append, List.length_take, Nat.min_eq_left h]
theorem divide_less {D D' : Nat → Prop} {A A' : Option Addr} {n c n' c' : Nat} {l l' : List Nat} {w : World} (h : Wd w D A n c l) (h' : Wd w D' A' n' c' l') (ht : trim l = l) (ht' : trim l' = l') (hlt : val 4294967296 l < val 4294967296 l') :
  Calls Tryz.prog 210 #[.slice A n c, .slice A' n' c'] w (Gives2W w (dig 4294967296 (val 4294967296 l / val 4294967296 l')) (dig 4294967296 (val 4294967296 l % val 4294967296 l'))) := by
 have hcmp : cmpN (val 4294967296 l) (val 4294967296 l') < 0 := by rw [cmpN_lt hlt]; omega
 have hdl : dig 4294967296 (val 4294967296 l) = l := by rw [← trim_eq_dig (by omega) h.small, ht]
 rw [Nat.div_eq_of_lt hlt, Nat.mod_eq_of_lt hlt, dig_zero, hdl]
 replace h := h.mono (D' := fun _ => True) (fun _ _ _ => trivial)
 replace h' := h'.mono (D' := fun _ => True) (fun _ _ _ => trivial)
 clear hlt hdl
 have HT := Lib.hid ht
 have HT' := Lib.hid ht'
 clear ht ht'
 go_enter Tryz.func210, Tryz.ntmps210
 go_wp2_with (go_at_call 217; ((with_reducible refine (compare_b h h' HT.out HT'.out).mono ?_)); rintro e w1 ⟨rfl, hb1⟩)
 go_ret2
 exact ⟨_, _, rfl, (Wd.nil 0 (by unfold maxLen; omega)).v, (h.below hb1).v, hb1⟩
theorem divide_short {D D' : Nat → Prop} {A A' : Option Addr} {n c c' : Nat} {l l' : List Nat} {w : World} (h : Wd w D A n c l) (h' : Wd w D' A' 1 c' l') (ht : trim l = l) (ht' : trim l' = l') (hle : val 4294967296 l' ≤ val 4294967296 l) (hn : n ≤ 1000000000000) :
  Calls Tryz.prog 210 #[.slice A n c, .slice A' 1 c'] w (Gives2W w (dig 4294967296 (val 4294967296 l / val 4294967296 l')) (dig 4294967296 (val 4294967296 l % val 4294967296 l'))) := by
 have hcmp : 0 ≤ cmpN (val 4294967296 l) (val 4294967296 l') := by unfold cmpN; split <;> (try split) <;> omega
 replace h := h.mono (D' := fun _ => True) (fun _ _ _ => trivial)
 replace h' := h'.mono (D' := fun _ => True) (fun _ _ _ => trivial)
 obtain ⟨d, hd⟩ : ∃ d, d = gw l' 0 := ⟨_, rfl⟩
 have hl' : l' = [d] := by
  have := h'.len
  match l', this with
  | [x], _ => rw [hd]; rfl
 have hv : val 4294967296 l' = d := by rw [hl']; simp [val]
 have hd0 : 0 < d := by
  have := trim_last ht' (k := 0) h'.len
  omega
 have hd1 : d < 4294967296 := by rw [hd]; exact gw_bound h'.small (by omega) 0
 obtain ⟨b, off, rfl, hbD, hcl⟩ := h'.cells (by omega)
 have hc1 := hcl 0 (by omega)
 rw [← hd, Nat.add_zero] at hc1
 clear hcl hle
 have hlt : b < w.heap.size := cell_lt hc1
 rw [hv] at hcmp ⊢
 have HV := Lib.hid hv
 have HT := Lib.hid ht
 have HT' := Lib.hid ht'
 clear ht ht' hv hd hl'
 have hm : val 4294967296 l % d < 4294967296 := Nat.lt_trans (Nat.mod_lt _ hd0) hd1
 go_enter Tryz.func210, Tryz.ntmps210
 go_wp2_with (first
  | (go_at_call 217; ((with_reducible refine (compare_b h h' HT.out HT'.out).mono ?_)); rintro e w1 ⟨rfl, hb1⟩; rw [HV.out]; obtain ⟨q1, z1⟩ := bcell hb1)
  | (go_at_call 236; ((with_reducible refine (short_any (h.below hb1) d hd0 hd1 (by omega)).mono ?_)); rintro e w2 ⟨A2, c2, rfl, hq, hb2⟩)
  | (go_at_call 147; go_must (refine (of_any (val 4294967296 l % d) _ (by omega)).mono ?_); rintro e w3 ⟨v3, rfl, ⟨A3, c3, rfl, hr⟩, hb3⟩))
 go_ret2
 exact ⟨_, _, rfl, ((hq.below hb3).mono (fun _ _ _ => trivial)).v, (hr.mono (fun _ _ _ => trivial)).v, (hb1.trans (hb2.mono hb1.size)).trans (hb3.mono (by have := hb1.size; have := hb2.size; omega))⟩
set_option maxRecDepth 100000 in
set_option maxHeartbeats 4000000 in
theorem divide_long {D D' : Nat → Prop} {A A' : Option Addr} {n c n' c' p : Nat} {l l' : List Nat} {w : World} (h : Wd w D A n c l) (h' : Wd w D' A' n' c' l') (ht : trim l = l) (ht' : trim l' = l') (hle : val 4294967296 l' ≤ val 4294967296 l) (hn : n ≤ 900000000000) (hp : n' = p + 2) :
  Calls Tryz.prog 210 #[.slice A n c, .slice A' n' c'] w (Gives2W w (dig 4294967296 (val 4294967296 l / val 4294967296 l')) (dig 4294967296 (val 4294967296 l % val 4294967296 l'))) := by
 have hcmp : 0 ≤ cmpN (val 4294967296 l) (val 4294967296 l') := by unfold cmpN; split <;> (try split) <;> omega
 replace h := h.mono (D' := fun _ => True) (fun _ _ _ => trivial)
 replace h' := h'.mono (D' := fun _ => True) (fun _ _ _ => trivial)
 have hnn : n' ≤ n := by
  rcases Nat.lt_or_ge n n' with h1 | h1
  ·have := val_lt_of_length (b := 4294967296) (by omega) h.small ht' (by rw [h.len, h'.len]; exact h1)
   omega
  ·exact h1
 subst hp
 obtain ⟨t, ht1⟩ : ∃ t, t = gw l' (p + 1) := ⟨_, rfl⟩
 have ht0 : 0 < t := by
  have := trim_last ht' (k := p + 1) h'.len
  omega
 have htb : t < 4294967296 := by rw [ht1]; exact gw_bound h'.small (by omega) _
 obtain ⟨b, off, rfl, hbD, hcl⟩ := h'.cells (by omega)
 have hc1 := hcl (p + 1) (by omega)
 rw [← ht1] at hc1
 clear hcl
 have hlt : b < w.heap.size := cell_lt hc1
 have hvt : 4294967296 ^ (p + 1) * t ≤ val 4294967296 l' ∧ val 4294967296 l' < 4294967296 ^ (p + 1) * (t + 1) := by
  have q := val_take_succ 4294967296 l' (p + 1)
  rw [List.take_of_length_le (by rw [h'.len]; omega), ← ht1] at q
  have q2 := val_lt (b := 4294967296) (l := l'.take (p + 1)) (fun y hy => h'.small y (List.mem_of_mem_take hy))
  rw [List.length_take, h'.len, Nat.min_eq_left (by omega)] at q2
  rw [Nat.mul_add]
  omega
 have HVT := Lib.hid hvt
 have HT := Lib.hid ht
 have HT' := Lib.hid ht'
 have HLE := Lib.hid hle
 have hvl := val_lt h.small
 rw [h.len] at hvl
 have HVL := Lib.hid hvl
 clear ht ht' hle hvt ht1 hvl
 generalize hva : val 4294967296 l = a at *
 generalize hvb : val 4294967296 l' = d at *
 have HA := Lib.hid hva
 have HB := Lib.hid hvb
 clear hva hvb
 have hcd : decide (cmpN a d < 0) = false := by simp; omega
 have i1 : (0 : Int) ≤ (p : Int) + 1 := by omega
 have x1 : (p : Int) + 2 - 1 = (p : Int) + 1 := by omega
 have y1 : ((p : Int) + 1).toNat = p + 1 := by omega
 have hp1 : ((p : Int) + 2 == 1) = false := by rw [beq_eq_false_iff_ne]; omega
 go_enter Tryz.func210, Tryz.ntmps210
 go_wp2_with (go_at_call 217; ((with_reducible refine (compare_b h h' HT.out HT'.out).mono ?_)); rintro e w1 ⟨rfl, hb1⟩; rw [HA.out, HB.out]; obtain ⟨q1, z1⟩ := bcell hb1)
 go_loop [8] (fun sv => ∃ k : Nat, k < 32 ∧ sv = .int .u64 (k : Int) ∧ Hid (t * 2 ^ k < 4294967296)) (fun sv => 32 - (intOf sv).toNat)
 case atStart => exact ⟨0, by omega, rfl, by show _ < _; omega⟩
 case round =>
  obtain ⟨s, hs, rfl, hts⟩ := hrel
  have e1 : ((t : Int) * 2 ^ s) = ((t * 2 ^ s : Nat) : Int) := by rw [Int.natCast_mul]; simp
  generalize hT2 : t * 2 ^ s = T at *
  have e2 : ((t : Int) * 2 ^ s % 4294967296) = (T : Int) := by rw [e1]; have := hts.out; omega
  clear e1
  have hTb := hts.out
  have HT2 := Lib.hid hT2
  clear hT2
  rcases Nat.lt_or_ge T 2147483648 with hT | hT
  ·have hs30 : s ≤ 30 := by
    rcases Nat.lt_or_ge s 31 with h1 | h1
    ·omega
    ·exfalso
     have : s = 31 := by omega
     have h2 := HT2.out
     rw [this] at h2
     omega
   have hdec : decide ((T : Int) < 2147483648) = true := by simp; omega
   iterate 34 go_step
   clear e2 hdec
   go_wp2_with fail
   go_round
   case rel =>
    refine ⟨s + 1, by omega, by go_num, ?_⟩
    show _ < _
    rw [Nat.pow_succ, ← Nat.mul_assoc, HT2.out]
    omega
   case measure => simp [intOf]; omega
  ·have hdec : decide ((T : Int) < 2147483648) = false := by simp; omega
   iterate 34 go_step
   clear e2 hdec hts
   -- the numbers
   have hT2 := HT2.out
   have hS0 : 0 < 2 ^ s := Nat.pow_pos (by omega)
   have hS31 : 2 ^ s ≤ 2 ^ 31 := Nat.pow_le_pow_right (by omega) (by omega)
   have hS32 : (t + 1) * 2 ^ s ≤ 4294967296 := by
    have e : 2 ^ (32 - s) * 2 ^ s = 4294967296 := by rw [← Nat.pow_add, Nat.sub_add_cancel (by omega)]
    have h1 : t < 2 ^ (32 - s) := by
     rcases Nat.lt_or_ge t (2 ^ (32 - s)) with h1 | h1
     ·exact h1
     ·have := Nat.mul_le_mul_right (2 ^ s) h1
      omega
    have := Nat.mul_le_mul_right (2 ^ s) (show t + 1 ≤ 2 ^ (32 - s) from h1)
    omega
   have hD1 : 4294967296 ^ (p + 1) * 2147483648 ≤ d * 2 ^ s := by
    have h1 := Nat.mul_le_mul_right (2 ^ s) HVT.out.1
    rw [Nat.mul_assoc, hT2] at h1
    exact Nat.le_trans (Nat.mul_le_mul_left _ hT) h1
   have hD2 : d * 2 ^ s < 4294967296 ^ (p + 2) := by
    have h1 := Nat.mul_lt_mul_of_pos_right HVT.out.2 hS0
    rw [Nat.mul_assoc] at h1
    have h2 := Nat.mul_le_mul_left (4294967296 ^ (p + 1)) hS32
    rw [Nat.pow_succ 4294967296 (p + 1)]
    omega
   have hA2 : a * 2 ^ s < 4294967296 ^ n * 2147483648 := by
    have h1 := Nat.mul_lt_mul_of_pos_right HVL.out hS0
    have h2 := Nat.mul_le_mul_left (4294967296 ^ n) hS31
    omega
   have hdl : (dig 4294967296 (d * 2 ^ s)).length = p + 2 := by
    have h1 := dig_length_le (b := 4294967296) (by omega) hD2
    have h2 := val_lt (dig_lt (b := 4294967296) (by omega) (d * 2 ^ s))
    rw [val_dig (by omega)] at h2
    rcases Nat.lt_or_ge (dig 4294967296 (d * 2 ^ s)).length (p + 2) with h3 | h3
    ·exfalso
     have h4 : 4294967296 ^ (dig 4294967296 (d * 2 ^ s)).length ≤ 4294967296 ^ (p + 1) := Nat.pow_le_pow_right (by omega) (by omega)
     have h5 : 0 < 4294967296 ^ (p + 1) := Nat.pow_pos (by omega)
     omega
    ·omega
   have hal : (dig 4294967296 (a * 2 ^ s)).length ≤ n + 1 := dig_length_le (by omega) (by rw [Nat.pow_succ]; exact Nat.lt_of_lt_of_le hA2 (Nat.mul_le_mul_left _ (by omega)))
   have HD1 := Lib.hid hD1
   have HD2 := Lib.hid hD2
   have HA2 := Lib.hid hA2
   have HS0 := Lib.hid hS0
   clear hT2 hS31 hS32 hD1 hD2 hA2 hS0 hT hTb HT2
   have hL2 := dig_lt (b := 4294967296) (by omega) (d * 2 ^ s)
   generalize hX : dig 4294967296 (d * 2 ^ s) = ld at *
   generalize hY : dig 4294967296 (a * 2 ^ s) = la at *
   have HX := Lib.hid hX
   have HY := Lib.hid hY
   have HDL := Lib.hid hdl
   clear hX hY hdl
   have hlas : ∀ y ∈ la, y < 4294967296 := by rw [← HY.out]; exact dig_lt (by omega) _
   go_wp2_with (first
    | (go_at_call 244; ((with_reducible refine (shifted_any (h'.below hb1) (by omega) s hs).mono ?_)); rintro e w2 ⟨v2, rfl, ⟨A2, c2, rfl, hd2⟩, hb2⟩; rw [HB.out, HX.out, HDL.out] at hd2 ⊢)
    | (go_at_call 244; ((with_reducible refine (shifted_any (((h.below hb1).below hb2).alloc _) (by omega) s hs).mono ?_)); rintro e w3 ⟨v3, rfl, ⟨A3, c3, rfl, hd3⟩, hb3⟩; rw [HA.out, HY.out] at hd3 ⊢)
    | (at_builtin; go_must (refine wpList_app _ rfl _ _ _ _ rfl w2.heap.size 190 190 (.int .u32 0) 1 4 Tryz.underlying182 Tryz.underlying182 info_u32 rfl (by omega) (.slice (some ⟨w2.heap.size, 0, none⟩) 0 0) 0 [] rfl (World.ownsRow.kept (row := none) (World.ownsRow_lit w2 #[] 0 (Nat.le_refl _) (by unfold maxLen; omega) rfl) ⟨hb3.os, hb3.tape, hb3.output, hb3.size, fun k hk _ => hb3.block k hk⟩ (.inr (by simp [Value.ownBlock]))) A3 la.length c3 _ rfl hd3.src (words_oneCell _) (by unfold maxLen; omega) (by omega) (by have := hb3.size; simp at this; omega) ?_); intro v4 w4 hown4 hgr4 hat4; rw [Nat.zero_add, List.nil_append] at hown4; obtain ⟨A4, c4, rfl, hc4a, hc4b⟩ := own_slice hown4))
   have hbw2 : Below w.heap.size w w2 := hb1.trans (hb2.mono hb1.size)
   have hbw4 : Below w2.heap.size w2 w4 := (((Below.refl _ _).alloc (Nat.le_refl _) _).trans (hb3.mono (by simp))).grown hgr4 (by have := hb3.size; simp at this; omega) (fun g hg => by simp [Value.ownBlock] at hg; omega)
   have hvla : val 4294967296 la = a * 2 ^ s := by rw [← HY.out, val_dig (by omega)]
   have HVLA := Lib.hid hvla
   clear hvla hgr4 hat4
   go_loopg [10] (n + 1 - la.length) (fun gk rv wr => ∃ (X : List Nat) (A5 : Option Addr) (c5 : Nat), rv = .slice A5 X.length c5 ∧ wr.ownsRow w2.heap.size 190 1 (.slice A5 X.length c5) X.length (X.map fun x : Nat => Value.int .u32 (x : Int)) ∧ X.length ≤ n + 1 ∧ gk = n + 1 - X.length ∧ (∀ y ∈ X, y < 4294967296) ∧ Hid (val 4294967296 X = a * 2 ^ s) ∧ Below w2.heap.size w2 wr)
   case atStart => exact ⟨la, A4, c4, rfl, hown4, hal, rfl, hlas, HVLA.out, hbw4⟩
   case round =>
    clear hown4 hc4a hc4b
    obtain ⟨X, A5, c5, rfl, hown5, hX5, hg5, hsm5, hv5, hb5⟩ := hrel
    have HG5 := Lib.hid hg5
    clear hg5
    generalize hxl : X.length = m at *
    have HXL := Lib.hid hxl
    clear hxl
    rcases Nat.lt_or_ge n m with hm | hm
    ·obtain rfl : m = n + 1 := by omega
     obtain ⟨g, cap, hgv, hbg, hnc, hcm, _, _⟩ := own_cells hown5 (by omega)
     injection hgv with hgA _ hgc
     subst hgA hgc
     have hpre := wpre_of_own hown5
     have hglt := hpre.lt
     obtain ⟨wo, rfl⟩ : ∃ wo : World, wo = wr := ⟨_, rfl⟩
     obtain ⟨NQ, hNQ⟩ : ∃ NQ, NQ + p + 1 = n := ⟨n - p - 1, by omega⟩
     have hNQ1 : NQ ≤ n := by omega
     have hNQ2 : NQ + p + 1 ≤ n := by omega
     have HNQ := Lib.hid hNQ
     clear hNQ
     have hd5 : Wd wo (fun b => b < w2.heap.size) A2 (p + 2) c2 ld := ((hd2.mono (D' := fun b => b < w2.heap.size) (fun b _ hb => hb)).below hb5)
     go_wp2_with (at_make; go_must (refine wpList_make_arr _ rfl _ _ _ rfl 190 (.int .u32 0) 1 4 Tryz.underlying182 info_u32 _ _ _ _ NQ rfl rfl (by have := HNQ.out; omega) (by have := HNQ.out; omega) (by omega) (by omega) ?_); intro w7 ha7 hb7 hz7)
     have HZ7 := Lib.hid hz7
     clear hz7
     have hwo2 : w2.heap.size ≤ wo.heap.size := hb5.size
     go_loopw [13] (fun iv wr => ∃ (k : Nat) (rs qs : List Nat), k ≤ NQ ∧ iv = .int .i64 ((k : Int) - 1) ∧ WPre wr g rs ∧ Hid (rs.length = n + 1) ∧ (∀ y ∈ rs, y < 4294967296) ∧ WArr wr wo.heap.size qs ∧ Hid (qs.length = NQ) ∧ (∀ y ∈ qs, y < 4294967296) ∧ Wd wr (fun b => b < w2.heap.size) A2 (p + 2) c2 ld ∧ Below w2.heap.size w2 wr ∧
       Hid (a * 2 ^ s = val 4294967296 (qs.drop k) * (4294967296 ^ k * (d * 2 ^ s)) + val 4294967296 (rs.take (k + (p + 2)))) ∧ Hid (val 4294967296 (rs.take (k + (p + 2))) < (d * 2 ^ s) * 4294967296 ^ k)) (fun iv _ => (intOf iv + 1).toNat)
     case atStart =>
      refine ⟨NQ, X, List.replicate NQ 0, Nat.le_refl _, by first | rfl | (congr 1; have := HNQ.out; omega), hpre.below' hb7, HXL.out, hsm5, WArr.made ha7, List.length_replicate, fun y hy => by rw [List.eq_of_mem_replicate hy]; omega, hd5.below hb7, hb5.trans (hb7.mono hwo2), ?_, ?_⟩
      ·show _ = _
       rw [List.drop_of_length_le (by simp), List.take_of_length_le (by rw [HXL.out]; have := HNQ.out; omega), hv5.out]
       simp [val]
      ·show _ < _
       rw [List.take_of_length_le (by rw [HXL.out]; have := HNQ.out; omega), hv5.out]
       refine Nat.lt_of_lt_of_le HA2.out ?_
       refine Nat.le_trans ?_ (Nat.mul_le_mul_right _ HD1.out)
       rw [Nat.mul_assoc, Nat.mul_comm 2147483648, ← Nat.mul_assoc, ← Nat.pow_add, show p + 1 + NQ = n from by have := HNQ.out; omega]
       exact Nat.le_refl _
     case round =>
      obtain ⟨k, rs, qs, hk, rfl, hpr, hrl, hrs, hqa, hql, hqs, hdw, hb8, hinv, hbd⟩ := hrel
      have hDpos : 0 < d * 2 ^ s := by
       have h1 := HD1.out
       have h2 : 0 < 4294967296 ^ (p + 1) := Nat.pow_pos (by omega)
       omega
      rcases Nat.eq_zero_or_pos k with h0 | h0
      ·subst h0
       have hi := hinv.out
       have hb' := hbd.out
       simp only [List.drop_zero, Nat.pow_zero, Nat.one_mul, Nat.zero_add, Nat.mul_one] at hi hb'
       have hS0 := HS0.out
       have eq1 : val 4294967296 qs = a / d := by
        rw [← Nat.mul_div_mul_right a d hS0, hi, Nat.mul_comm, Nat.mul_add_div hDpos, Nat.div_eq_of_lt hb', Nat.add_zero]
       have eq2 : val 4294967296 (rs.take (p + 2)) = a % d * 2 ^ s := by
        have h1 := Nat.mul_mod_mul_right (2 ^ s) a d
        rw [hi, Nat.mul_comm (val 4294967296 qs), Nat.mul_add_mod, Nat.mod_eq_of_lt hb'] at h1
        exact h1
       have hp2 : 2 ^ s < 4294967296 := Nat.pow_lt_pow_right (by omega) hs
       have e3 : ((2 : Int) ^ s % 4294967296) = ((2 ^ s : Nat) : Int) := by
        have : ((2 ^ s : Nat) : Int) = (2 : Int) ^ s := by simp
        rw [← this]
        exact Int.emod_eq_of_lt (Int.natCast_nonneg _) (Int.ofNat_lt.2 hp2)
       have E3 := Lib.hid e3
       have EQ1 := Lib.hid eq1
       have EQ2 := Lib.hid eq2
       clear hi hb' eq1 eq2 e3
       have hrw : Wd wr (fun _ => True) (some ⟨g, 0, none⟩) (p + 2) c5 (rs.take (p + 2)) := by
        have h1 := hpr.wd hrs (c := c5) (by rw [hrl.out]; exact hnc) hcm (D := fun _ => True) trivial
        rw [hrl.out] at h1
        exact h1.cut (by omega)
       have hql' := hql.out
       have hqw : Wd wr (fun _ => True) (some ⟨wo.heap.size, 0, none⟩) NQ NQ qs := by
        have h1 := hqa.wd hqs (by rw [hql']; unfold maxLen; omega) (D := fun _ => True) trivial
        rw [hql'] at h1
        exact h1
       clear hql'
       go_wp2_with (first
        | (go_at_call 207; ((with_reducible refine (trimmed_any hrw).mono ?_)); rintro e w9 ⟨rfl, rfl⟩)
        | (go_at_call 236; rw [E3.out]; go_must (with_reducible refine (short_any hrw.trim (2 ^ s) hS0 hp2 (by have := trim_length_le (rs.take (p + 2)); rw [hrw.len] at this; omega)).mono ?_); rintro e w10 ⟨A10, c10, rfl, hq10, hb10⟩)
        | (go_at_call 207; ((with_reducible refine (trimmed_any (hqw.below hb10)).mono ?_)); rintro e w11 ⟨rfl, rfl⟩))
       go_ret2
       refine ⟨_, _, rfl, ?_, ?_, ?_⟩
       ·rw [← EQ1.out, ← trim_eq_dig (by omega) hqs]
        exact (hqw.below hb10).trim.v
       ·rw [show a % d = val 4294967296 (trim (rs.take (p + 2))) / 2 ^ s from by rw [val_trim, EQ2.out, Nat.mul_div_cancel _ hS0]]
        exact (hq10.mono (fun _ _ _ => trivial)).v
       ·exact (hbw2.trans (hb8.mono hbw2.size)).trans (hb10.mono (by have := hbw2.size; have := hb8.size; omega))
      ·obtain ⟨j, rfl⟩ : ∃ j, k = j + 1 := ⟨k - 1, by omega⟩
       have hi : (((j + 1 : Nat) : Int) - 1) = (j : Int) := by omega
       rw [hi]
       clear hi
       have hcell := hqa.cell (i := j) (by rw [hql.out]; omega)
       have hfz := hqa.frozen j
       have hneg : wo.heap.size ≠ g := by omega
       have hldl : ld.length = p + 2 := HDL.out
       have hldv : val 4294967296 ld = d * 2 ^ s := by rw [← HX.out, val_dig (by omega)]
       have htop : 0 < gw ld (p + 1) := by
        have := trim_last (l := ld) (by rw [← HX.out]; exact trim_dig (by omega) _) (k := p + 1) hldl
        omega
       have hsp : val 4294967296 (rs.take (j + 1 + (p + 2))) = val 4294967296 (rs.take j) + 4294967296 ^ j * val 4294967296 ((rs.drop j).take (p + 2 + 1)) := by
        rw [show j + 1 + (p + 2) = j + (p + 2 + 1) from by omega]
        exact val_take_add _ _ _ _ (by rw [hrl.out]; omega)
       have hLj : val 4294967296 (rs.take j) < 4294967296 ^ j := by
        have q := val_lt (b := 4294967296) (l := rs.take j) (fun y hy => hrs y (List.mem_of_mem_take hy))
        exact Nat.lt_of_lt_of_le q (Nat.pow_le_pow_right (by omega) (by simp; omega))
       have hWlt : val 4294967296 ((rs.drop j).take (p + 2 + 1)) < 4294967296 * val 4294967296 ld := by
        have q := hbd.out
        rw [hsp, Nat.pow_succ, ← Nat.mul_assoc, Nat.mul_right_comm, ← hldv] at q
        rcases Nat.lt_or_ge (val 4294967296 ((rs.drop j).take (p + 2 + 1))) (4294967296 * val 4294967296 ld) with h1 | h1
        ·exact h1
        ·exfalso
         have h2 := Nat.mul_le_mul_left (4294967296 ^ j) h1
         rw [Nat.mul_comm 4294967296, Nat.mul_comm (4294967296 ^ j) (val 4294967296 ld * 4294967296)] at h2
         omega
       have hstep := step_any (g := g) (off := j) (cm := c5 - j) (p := p) (full := rs) (w := wr) (hdw.mono (D' := (· ≠ g)) (fun b hb _ => by have : b < w2.heap.size := hb; show b ≠ g; omega)) hpr hrs (by rw [hrl.out]; omega) rfl (by omega) htop hWlt
       have hst := div_inv_step (B := 4294967296) (show _ from hsp ▸ hinv.out) hLj hDpos
       rw [hldv] at hstep
       have hqb : val 4294967296 ((rs.drop j).take (p + 2 + 1)) / (d * 2 ^ s) < 4294967296 := Nat.div_lt_of_lt_mul (by rw [hldv, Nat.mul_comm] at hWlt; exact hWlt)
       have hnl' : j + (p + 2 + 1) ≤ rs.length := by rw [hrl.out]; omega
       clear hsp hldv hldl htop hWlt
       generalize hWd : val 4294967296 ((rs.drop j).take (p + 2 + 1)) = V at *
       generalize hqd : V / (d * 2 ^ s) = q at *
       generalize hrd : V % (d * 2 ^ s) = r at *
       have HST := Lib.hid hst
       have HSTEP := Lib.hid hstep
       have HNL' := Lib.hid hnl'
       clear hst hstep hWd hqd hrd hnl'
       have hj0 : (0 : Int) ≤ (j : Int) := by omega
       go_wp2_with (go_at_call 245; rw [show j + (p + 2) + 1 - j = p + 2 + 1 from by omega]; go_must (with_reducible refine HSTEP.out.mono ?_); rintro e w9 ⟨new, rfl, hnl, hns, hnv, hpr9, hgr9⟩; have k1 := hgr9.cell_far ⟨wo.heap.size, j, none⟩ (by have := Arr.lt hqa; exact this) (by simpa using hneg); have k2 := hgr9.frozen_far ⟨wo.heap.size, j, none⟩ (by have := Arr.lt hqa; exact this) (by simpa using hneg))
       go_roundw
       case rel =>
        have hnl' := HNL'.out
        have hsl : (splice rs j new).length = n + 1 := by rw [splice_length (by rw [hnl]; exact hnl'), hrl.out]
        have hq9 : WArr w9 wo.heap.size qs := (hgr9.block _ (Arr.lt hqa) (by simpa using hneg)).trans hqa
        have e1 : (splice rs j new).take (j + (p + 2)) = rs.take j ++ new.take (p + 2) := by
         unfold splice
         rw [List.append_assoc, List.take_append, List.take_of_length_le (by simp; omega)]
         congr 1
         rw [List.length_take, Nat.min_eq_left (by omega), Nat.add_sub_cancel_left, List.take_append_of_le_length (by omega)]
        have e2 : val 4294967296 (new.take (p + 2)) = r := by
         rw [val_take_of_lt ?_]
         ·exact hnv
         ·rw [hnv]
          have h1 := HST.out.2
          have h2 := HD2.out
          rcases Nat.lt_or_ge r (4294967296 ^ (p + 2)) with h3 | h3
          ·exact h3
          ·exfalso
           have h4 := Nat.mul_le_mul_left (4294967296 ^ j) h3
           have h5 := Nat.mul_le_mul_left (4294967296 ^ j) (Nat.le_of_lt h2)
           rw [Nat.mul_comm (d * 2 ^ s)] at h1
           omega
        refine ⟨j, splice rs j new, qs.set j q, by omega, rfl, hpr9.far (p := ⟨wo.heap.size, j, none⟩) (fun e => hneg e.symm) _, hsl, splice_mem hrs hns, hq9.set_ j q, by simpa [Hid] using hql, fun z hz => ?_, ?_, ?_, ?_, ?_⟩
        ·rcases List.mem_or_eq_of_mem_set hz with hz | rfl
         ·exact hqs z hz
         ·exact hqb
        ·have h1 : Wd w9 (fun b => b < w2.heap.size) A2 (p + 2) c2 ld := hdw.keep (fun b o hb hlt => hgr9.cell_far ⟨b, o, none⟩ hlt (fun e => by injection e with e; have e : b = g := e; omega))
         exact h1.setCell (p := ⟨wo.heap.size, j, none⟩) (by simp; omega) _
        ·exact (hb8.grown hgr9 hb8.size (fun k hk => by injection hk with hk; omega)).setCell (p := ⟨wo.heap.size, j, none⟩) (by show w2.heap.size ≤ wo.heap.size; omega) _
        ·show _ = _
         have hjq : j < (qs.set j q).length := by rw [List.length_set, hql.out]; omega
         have hds : (qs.set j q).drop (j + 1) = qs.drop (j + 1) := by rw [List.drop_set_of_lt (by omega)]
         rw [e1, val_append, e2, List.length_take, Nat.min_eq_left (by omega), drop_gw hjq, hds, gw_set_self (by rw [hql.out]; omega)]
         simp only [val]
         exact HST.out.1
        ·show _ < _
         rw [e1, val_append, e2, List.length_take, Nat.min_eq_left (by omega)]
         exact HST.out.2
       case measure => simp [intOf]
    ·go_wp2_with (at_builtin; go_must (refine wpList_push _ rfl _ _ _ _ rfl w2.heap.size 190 190 (.int .u32 0) 1 4 Tryz.underlying182 Tryz.underlying182 info_u32 rfl (by omega) (.slice A5 m c5) m _ rfl hown5 [_] rfl rfl (by simp [Value.oneCell']) (by unfold maxLen; omega) (by omega) hb5.size ?_); intro A6 c6 w6 hown6 hgr6 hb6)
     go_roundg (n + 1 - (m + 1))
     case measure => have := HG5.out; omega
     case rel =>
      have e : (X ++ [0]).length = m + 1 := by rw [List.length_append, HXL.out]; rfl
      refine ⟨X ++ [0], A6, c6, by rw [e], ?_, by omega, by rw [e], fun y hy => ?_, ?_, hb5.trans hb6⟩
      ·rw [e, List.map_append]
       exact hown6
      ·rcases List.mem_append.1 hy with hy | hy
       ·exact hsm5 y hy
       ·rw [List.mem_singleton.1 hy]; omega
      ·show _ = _
       rw [val_snoc, Nat.mul_zero, Nat.add_zero]
       exact hv5.out
theorem divide_any {D D' : Nat → Prop} {A A' : Option Addr} {n c n' c' : Nat} {l l' : List Nat} {w : World} (h : Wd w D A n c l) (h' : Wd w D' A' n' c' l') (ht : trim l = l) (ht' : trim l' = l') (hpos : 0 < val 4294967296 l') (hn : n ≤ 900000000000) :
  Calls Tryz.prog 210 #[.slice A n c, .slice A' n' c'] w (Gives2W w (dig 4294967296 (val 4294967296 l / val 4294967296 l')) (dig 4294967296 (val 4294967296 l % val 4294967296 l'))) := by
 rcases Nat.lt_or_ge (val 4294967296 l) (val 4294967296 l') with hlt | hle
 ·exact divide_less h h' ht ht' hlt
 ·match n', h' with
  | 0, h' =>
   have := h'.len
   rw [List.eq_nil_of_length_eq_zero this] at hpos
   simp [val] at hpos
  | 1, h' => exact divide_short h h' ht ht' hle (by omega)
  | p + 2, h' => exact divide_long h h' ht ht' hle hn rfl
end Go.Proofs.YtdjpeimecfhdjaaGreat
