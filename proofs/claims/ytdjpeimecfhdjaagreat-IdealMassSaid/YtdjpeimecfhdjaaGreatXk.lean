/- Package lattice: within, Check. slices.IndexFunc and ContainsFunc of a list of ints. netOf: the Hermite form of rows over a denominator, in lowest terms (packages lattice and ideal). -/
import Derived.Test.YtdjpeimecfhdjaaGreatXj
import Derived.Test.YtdjpeimecfhdjaaGreatXf
import Derived.Shelf.Abstract
namespace Go.Proofs.YtdjpeimecfhdjaaGreat
open Go.RowKit
def Asks (w : World) (f : FuncId) (lb : Array Value) (l : List Int) (p : Int → Bool) : Prop :=
 ∀ x, x ∈ l → ∀ W, Below w.heap.size w W → Calls Tryz.prog f (#[.int .i64 x] ++ lb) W fun e W' => e = .returned (.bool (p x)) ∧ Below W.heap.size W W'
def IdxR (w : World) (l : List Int) (p : Int → Bool) (e : Ending) (w' : World) : Prop :=
 ((∃ (i : Nat) (y : Int), l[i]? = some y ∧ l.find? p = some y ∧ e = .returned (.int .i64 (i : Nat))) ∨ (l.find? p = none ∧ e = .returned (.int .i64 (-1)))) ∧ Below w.heap.size w w'
theorem find_at {l : List Int} {p : Int → Bool} {k : Nat} {x : Int} (hn : ∀ y ∈ l.take k, p y = false) (hx : l[k]? = some x) (hp : p x = true) : l.find? p = some x := by
 have e : l = l.take k ++ x :: l.drop (k + 1) := by
  have hk := lt_of_get hx
  rw [List.getElem?_eq_getElem hk] at hx
  injection hx with hx
  rw [← hx, ← List.drop_eq_getElem_cons hk, List.take_append_drop]
 rw [e, List.find?_append, List.find?_eq_none.2 (fun y hy => by rw [hn y hy]; simp)]
 simp [hp]
theorem none_take {l : List Int} {p : Int → Bool} {k : Nat} {x : Int} (hn : ∀ y ∈ l.take k, p y = false) (hx : l[k]? = some x) (hp : p x = false) : ∀ y ∈ l.take (k + 1), p y = false := by
 rw [List.take_add_one, hx]
 intro y hy
 rcases List.mem_append.1 hy with h | h
 ·exact hn y h
 ·have : y = x := by simpa using h
  subst this; exact hp
set_option maxHeartbeats 1000000 in
theorem IndexFunc_any {w : World} {D : Nat → Prop} {A : Option Addr} {n c : Nat} {l : List Int} (h : IsD w D (.slice A n c) l) (hn : n ≤ 1000000000) {f : FuncId} {lb : Array Value} {p : Int → Bool} (hf : Asks w f lb l p)
  (eg : ∀ args w, (callFunc f args).run Tryz.prog w = .ok (.enter f args) w) :
  Calls Tryz.prog 239 #[.slice A n c, .func (.func f) #[] lb] w (IdxR w l p) := by
 have HL := Lib.hid h.len
 have HF := Lib.hid hf
 have EG := Lib.hid eg
 clear hf eg
 go_enter Tryz.func239, Tryz.ntmps239
 go_wp2_with fail
 go_loopw [8] (fun i wr => ∃ (k : Nat), k ≤ n ∧ i = .int .i64 (k : Nat) ∧ (∀ y ∈ l.take k, p y = false) ∧ Below w.heap.size w wr) (fun i _ => n - (intOf i).toNat)
 case atStart => exact ⟨0, Nat.zero_le _, rfl, fun y hy => by simp at hy, Below.refl _ _⟩
 case round =>
  obtain ⟨k, hk, rfl, hn, hbr⟩ := hrel
  have HN := Lib.hid hn
  clear hn
  by_cases hlt : k < n
  ·obtain ⟨b, off, rfl, _, cx⟩ := (Foot.below h hbr).at hlt
   have HX := Lib.hid (gz_lt (l := l) (j := k) (by rw [HL.out]; exact hlt))
   generalize gz l k = x at *
   have eg := EG.out
   go_wp2_with fail
   refine (HF.out x (List.mem_of_getElem? HX.out) _ hbr).mono ?_
   rintro e w1 ⟨rfl, hb1⟩
   clear eg
   have hb2 := hbr.trans (hb1.mono hbr.size)
   cases hp : p x
   ·have HP := Lib.hid hp
    clear hp
    go_wp2_with fail
    go_roundw
    case rel => exact ⟨k + 1, by omega, by go_num, none_take HN.out HX.out HP.out, hb2⟩
    case measure => simp [intOf]; omega
   ·have HP := Lib.hid hp
    clear hp
    go_wp2_with fail
    go_ret
    exact ⟨.inl ⟨k, x, HX.out, find_at HN.out HX.out HP.out, rfl⟩, hb2⟩
  ·go_wp2_with fail
   go_ret
   refine ⟨.inr ⟨List.find?_eq_none.2 fun y hy => ?_, rfl⟩, hbr⟩
   have := HN.out y (by rw [List.take_of_length_le (by rw [HL.out]; omega)]; exact hy)
   rw [this]; simp
theorem ContainsFunc_any {w : World} {D : Nat → Prop} {A : Option Addr} {n c : Nat} {l : List Int} (h : IsD w D (.slice A n c) l) (hn : n ≤ 1000000000) {f : FuncId} {lb : Array Value} {p : Int → Bool} (hf : Asks w f lb l p)
  (eg : ∀ args w, (callFunc f args).run Tryz.prog w = .ok (.enter f args) w) :
  Calls Tryz.prog 200 #[.slice A n c, .func (.func f) #[] lb] w fun e w' => e = .returned (.bool (l.any p)) ∧ Below w.heap.size w w' := by
 have EG := Lib.hid eg
 clear eg
 have HF := Lib.hid hf
 clear hf
 go_enter Tryz.func200, Tryz.ntmps200
 go_wp2_with (go_at_call 239; refine (IndexFunc_any h hn HF.out EG.out).mono ?_; rintro e w1 ⟨⟨i, y, hi1, hi2, rfl⟩ | ⟨hi2, rfl⟩, hb1⟩)
 ·have e : l.any p = true := List.any_eq_true.2 ⟨y, List.mem_of_getElem? hi1, List.find?_some hi2⟩
  have HE := Lib.hid e
  clear e hi1 hi2
  go_ret
  exact ⟨by rw [HE.out]; rfl, hb1⟩
 ·have e : l.any p = false := by
   rw [List.any_eq_false]
   intro x hx
   have := List.find?_eq_none.1 hi2 x hx
   simpa using this
  have HE := Lib.hid e
  clear e hi2
  go_ret
  exact ⟨by rw [HE.out]; rfl, hb1⟩
set_option maxHeartbeats 1000000 in
theorem within_any (x lim : Int) (w : World) (h0 : 0 ≤ lim) (h1 : lim ≤ 1000000000000000000) :
  Calls Tryz.prog 202 #[.int .i64 x, .int .i64 lim] w fun e w' => e = .returned (.bool (decide (-lim ≤ x ∧ x ≤ lim))) ∧ w = w' := by
 have hwn : IntKind.i64.wrap (-lim) = -lim := IntWalk.i64_in _ (by omega)
 by_cases c1 : -lim ≤ x
 ·by_cases c2 : x ≤ lim
  ·rw [decide_eq_true (show -lim ≤ x ∧ x ≤ lim from ⟨c1, c2⟩)]
   go_enter Tryz.func202, Tryz.ntmps202
   go_wp2_with fail
   go_ret
   exact ⟨rfl, rfl⟩
  ·rw [decide_eq_false (show ¬ (-lim ≤ x ∧ x ≤ lim) from fun h => c2 h.2)]
   go_enter Tryz.func202, Tryz.ntmps202
   go_wp2_with fail
   go_ret
   exact ⟨rfl, rfl⟩
 ·rw [decide_eq_false (show ¬ (-lim ≤ x ∧ x ≤ lim) from fun h => c1 h.1)]
  go_enter Tryz.func202, Tryz.ntmps202
  go_wp2_with fail
  go_ret
  exact ⟨rfl, rfl⟩
theorem Check1_any (x : Int) (w : World) :
  Calls Tryz.prog 219 #[.int .i64 x] w fun e w' => e = .returned (.bool (!decide (-1000000000000000 ≤ x ∧ x ≤ 1000000000000000))) ∧ Below w.heap.size w w' := by
 have hw := within_any x 1000000000000000 w (by omega) (by omega)
 generalize decide (-1000000000000000 ≤ x ∧ x ≤ 1000000000000000) = bb at *
 have HW := Lib.hid hw
 clear hw
 go_enter Tryz.func219, Tryz.ntmps219
 go_wp2_with (go_at_call 202; refine HW.out.mono ?_; rintro e w1 ⟨rfl, rfl⟩)
 go_ret
 exact ⟨rfl, Below.refl _ _⟩
def LatV (w : World) (v : Value) (dim den : Int) (L : List (List Int)) : Prop := ∃ A q c, v = .agg #[.int .i64 dim, .slice A q c, .int .i64 den] ∧ RowsD IsD w (fun _ => True) (.slice A q c) L
theorem LatV.below {w w' : World} {v : Value} {dim den : Int} {L : List (List Int)} (h : LatV w v dim den L) (hb : Below w.heap.size w w') : LatV w' v dim den L := by
 obtain ⟨A, q, c, e, h1⟩ := h
 exact ⟨A, q, c, e, RowsD.below h1 hb⟩
def badX (x : Int) : Bool := !decide (-1000000000000000 ≤ x ∧ x ≤ 1000000000000000)
def rowsE (dim : Int) : List (List Int) → Int
 | [] => 0
 | r :: R => if (r.length : Int) ≠ dim then 9 else if r.any badX then 2 else rowsE dim R
def chkL (dim den : Int) (L : List (List Int)) : Int :=
 if dim < 1 ∨ 6 < dim ∨ den < 1 ∨ 1000000000000000 < den then 2 else if 64 < L.length then 8 else rowsE dim L
theorem drop_rw {L : List (List Int)} {i : Nat} (hi : i < L.length) : L.drop i = rw_ L i :: L.drop (i + 1) := by
 rw [List.drop_eq_getElem_cons hi]
 have := rw_some hi
 rw [List.getElem?_eq_getElem hi] at this
 injection this with this
 rw [this]
set_option maxRecDepth 100000 in
set_option maxHeartbeats 4000000 in
theorem laCheck_any {w : World} {v : Value} {dim den : Int} {L : List (List Int)} (h : LatV w v dim den L) :
  Calls Tryz.prog 158 #[v] w fun e w' => e = .returned (.int .i64 (chkL dim den L)) ∧ Below w.heap.size w w' := by
 obtain ⟨A, q, c, rfl, h⟩ := h
 have hr := RowsD.room h
 have HL := Lib.hid hr.1.symm
 have hqc := hr.2
 unfold maxLen at hqc
 clear hr
 obtain ⟨W, hW⟩ : ∃ W, W = w.alloc (.cells #[.int .i64 dim, .slice A q c, .int .i64 den] 26) := ⟨_, rfl⟩
 have hbW : Below w.heap.size w W := by rw [hW]; exact (Below.refl _ _).alloc (Nat.le_refl _) _
 have b0 : W.cell? ⟨w.heap.size, 0, none⟩ = some (.int .i64 dim) := by rw [hW]; go_simp
 have b1 : W.cell? ⟨w.heap.size, 1, none⟩ = some (.slice A q c) := by rw [hW]; go_simp
 have b2 : W.cell? ⟨w.heap.size, 2, none⟩ = some (.int .i64 den) := by rw [hW]; go_simp
 have hsW : w.heap.size < W.heap.size := cell_lt b0
 have HWW := Lib.hid hW
 clear hW
 generalize hchk : chkL dim den L = E at *
 have HC := Lib.hid hchk
 clear hchk
 by_cases d1 : dim < 1
 ·have hE : E = 2 := by rw [← HC.out]; exact if_pos (.inl d1)
  subst hE
  go_enter Tryz.func158, Tryz.ntmps158
  go_upto_region 1 with (fail)
  rw [← HWW.out]
  go_wp2_with fail
  go_ret
  exact ⟨rfl, hbW⟩
 ·by_cases d2 : 6 < dim
  ·have hE : E = 2 := by rw [← HC.out]; exact if_pos (.inr (.inl d2))
   subst hE
   go_enter Tryz.func158, Tryz.ntmps158
   go_upto_region 1 with (fail)
   rw [← HWW.out]
   go_wp2_with fail
   go_ret
   exact ⟨rfl, hbW⟩
  ·by_cases d3 : den < 1
   ·have hE : E = 2 := by rw [← HC.out]; exact if_pos (.inr (.inr (.inl d3)))
    subst hE
    go_enter Tryz.func158, Tryz.ntmps158
    go_upto_region 1 with (fail)
    rw [← HWW.out]
    go_wp2_with fail
    go_ret
    exact ⟨rfl, hbW⟩
   ·by_cases d4 : 1000000000000000 < den
    ·have hE : E = 2 := by rw [← HC.out]; exact if_pos (.inr (.inr (.inr d4)))
     subst hE
     go_enter Tryz.func158, Tryz.ntmps158
     go_upto_region 1 with (fail)
     rw [← HWW.out]
     go_wp2_with fail
     go_ret
     exact ⟨rfl, hbW⟩
    ·have hE : E = if 64 < q then 8 else rowsE dim L := by rw [← HC.out]; unfold chkL; rw [if_neg (by omega), HL.out]
     clear HC
     by_cases d5 : 64 < q
     ·rw [if_pos d5] at hE
      subst hE
      have d6 : (64 : Int) < (q : Int) := by omega
      go_enter Tryz.func158, Tryz.ntmps158
      go_upto_region 1 with (fail)
      rw [← HWW.out]
      go_wp2_with fail
      go_ret
      exact ⟨rfl, hbW⟩
     ·rw [if_neg d5] at hE
      have HE := Lib.hid hE
      clear hE
      have d6 : ¬ (64 : Int) < (q : Int) := by omega
      go_enter Tryz.func158, Tryz.ntmps158
      go_upto_region 1 with (fail)
      rw [← HWW.out]
      go_wp2_with fail
      go_loopw [32] (fun iv wr => ∃ i : Nat, iv = .int .i64 i ∧ i ≤ q ∧ Hid (E = rowsE dim (L.drop i)) ∧ Below W.heap.size W wr) (fun iv _ => q - (intOf iv).toNat)
      case atStart => exact ⟨0, rfl, by omega, HE, Below.refl _ _⟩
      case round =>
       obtain ⟨i, rfl, hi, HEI, hbr⟩ := hrel
       rcases Nat.lt_or_ge i q with hiq | hiq
       ·have hx := rw_some (L := L) (i := i) (by rw [HL.out]; exact hiq)
        obtain ⟨b, off, u, rfl, hc, hu⟩ := (RowsD.below (RowsD.below h hbW) hbr).at hx
        obtain ⟨Au, cu, rfl, hpu⟩ := hu
        have hpv : IsD wr (fun _ => True) (.slice Au (rw_ L i).length cu) (rw_ L i) := ⟨Au, cu, rfl, hpu⟩
        have hd := HEI.out
        rw [drop_rw (by rw [HL.out]; exact hiq)] at hd
        unfold rowsE at hd
        have c0 := keepW hbr hsW b0
        have HPV := Lib.hid hpv
        have a1 : (0 : Int) ≤ (i : Int) := by omega
        have a2 : (i : Int) < (q : Int) := by omega
        clear hpv hpu hx
        by_cases e1 : ((rw_ L i).length : Int) = dim
        ·rw [if_neg (fun h => h e1)] at hd
         have e2 : (((rw_ L i).length : Int) != dim) = false := by simpa using e1
         have e3 : (rw_ L i).length ≤ 6 := by omega
         have HCF := Lib.hid (ContainsFunc_any HPV.out (by omega) (f := 219) (lb := #[]) (p := badX) (fun x _ W' _ => Check1_any x W') (Go.Proofs.enters_of Tryz.func219 (by kernel_rfl) rfl))
         have HD := Lib.hid hd
         have E1 := Lib.hid e1
         clear hd e1
         generalize (rw_ L i).length = ln at *
         cases hany : (rw_ L i).any badX
         ·rw [hany] at HCF HD
          clear hany
          have HEN : Hid (E = rowsE dim (L.drop (i + 1))) := Lib.hid (by have := HD.out; simpa using this)
          go_wp2_with (go_at_call 200; go_must (refine HCF.out.mono ?_); rintro e w3 ⟨rfl, hb3⟩)
          go_round
          case rel => exact ⟨i + 1, by go_num, by omega, HEN, hbr.trans (hb3.mono hbr.size)⟩
          case measure => simp [intOf]; omega
         ·rw [hany] at HCF HD
          clear hany
          have hE : E = 2 := by have := HD.out; simpa using this
          subst hE
          go_wp2_with (go_at_call 200; go_must (refine HCF.out.mono ?_); rintro e w3 ⟨rfl, hb3⟩)
          go_ret
          exact ⟨rfl, hbW.trans ((hbr.trans (hb3.mono hbr.size)).mono (Nat.le_of_lt hsW))⟩
        ·rw [if_pos e1] at hd
         subst hd
         have e2 : (((rw_ L i).length : Int) != dim) = true := by simpa using e1
         generalize (rw_ L i).length = ln at *
         go_wp2_with fail
         go_ret
         exact ⟨rfl, hbW.trans (hbr.mono (Nat.le_of_lt hsW))⟩
       ·obtain rfl : i = q := by omega
        have hE := HEI.out
        rw [List.drop_of_length_le (by rw [HL.out]; exact Nat.le_refl _)] at hE
        unfold rowsE at hE
        subst hE
        go_wp2_with fail
        go_ret
        exact ⟨rfl, hbW.trans (hbr.mono (Nat.le_of_lt hsW))⟩
end Go.Proofs.YtdjpeimecfhdjaaGreat

namespace Go.Proofs.YtdjpeimecfhdjaaGreat
open Go.RowKit
def netR (H : List (List Int)) (g : Int) : List (List Int) := ovr H (cntM g H)
def netD (H : List (List Int)) (g : Int) : Int := g / cntM g H
theorem cntM_ne {g : Int} (hg : g ≠ 0) (L : List (List Int)) : cntM g L ≠ 0 := by
 have hR : ∀ (l : List Int) (g : Int), g ≠ 0 → cntR g l ≠ 0 := by
  intro l
  induction l with
  | nil => exact fun g hg => hg
  | cons x r ih =>
   intro g hg
   refine ih _ ?_
   intro h
   have h2 : Int.gcd g x = 0 := Int.ofNat_eq_zero.mp h
   exact hg (Int.gcd_eq_zero_iff.1 h2).1
 induction L generalizing g with
 | nil => exact hg
 | cons l r ih => exact ih (hR l g hg)
theorem keepA {B : Nat} {w w' : World} {P : Nat} {t : TypeId} {xs : List Value} (h : Arr w P t xs) (hb : Below B w w') (hP : P < B) : Arr w' P t xs := (hb.block P hP).trans h
theorem Arr.rd {w : World} {P : Nat} {t : TypeId} {xs : List Value} (h : Arr w P t xs) {i : Nat} {u : Value} (hu : xs[i]? = some u) : w.cell? ⟨P, i, none⟩ = some u := (h.cell i).trans hu
theorem fitM_wl {L : List (List Int)} (h : fitM L = true) : ∀ l ∈ L, ∀ x ∈ l, wl x.natAbs ≤ 900000000000 := fun l hl x hx => Nat.le_trans (fit_wl (fitR_mem (fitM_mem h hl) hx)) (by omega)
set_option maxRecDepth 100000 in
set_option maxHeartbeats 4000000 in
theorem inetOf_any {w : World} {D D2 : Nat → Prop} {A : Option Addr} {q c n f : Nat} {aA aB : Int} {L H : List (List Int)} {kv : Value} {g : Int} (h : RowsD PvD w D (.slice A q c) L) (hk : NIntV w D2 kv g) (hq : q ≤ 1000000) (hs : ∀ l ∈ L, l.length = n) (hn : n ≤ 1000000) (hn0 : 0 < n) (hf : fitM L = true) (hg : wl g.natAbs ≤ 900000000000) (hg0 : g ≠ 0) (hM : herm f L = some H) :
  Calls Tryz.prog 159 #[.agg #[.int .i64 aA, .int .i64 aB], .slice A q c, kv] w (Gives w fun w' v => ∃ A1 c1 n1 A2 m2 c2, v = .agg #[.int .i64 aA, .int .i64 aB, .slice A1 H.length c1, .bool n1, .slice A2 m2 c2] ∧ RowsD PvD w' (fun b => D b ∨ w.heap.size ≤ b) (.slice A1 H.length c1) (netR H g) ∧ NIntV w' (w.heap.size ≤ ·) (.agg #[.bool n1, .slice A2 m2 c2]) (netD H g)) := by
 have hr := RowsD.room h
 have HL := Lib.hid hr.1.symm
 clear hr
 replace h := RowsD.mono (D' := fun b => D b ∧ b < w.heap.size) h fun _ h1 hb => ⟨h1, hb⟩
 obtain ⟨nk, Ak, mk, ck, rfl, hk⟩ := hk.shp
 obtain ⟨W, hW⟩ : ∃ W, W = (((w.alloc (.cells #[.int .i64 aA, .int .i64 aB] 23)).alloc (.cells #[.bool nk, .slice Ak mk ck] 40)).alloc (.cells #[.int .i64 0, .int .i64 0, .slice none 0 0, .bool false, .slice none 0 0] 136)) := ⟨_, rfl⟩
 obtain ⟨P, hP⟩ : ∃ P, P = (w.heap.size + 1) := ⟨_, rfl⟩
 obtain ⟨R, hR⟩ : ∃ R, R = (w.heap.size + 1 + 1) := ⟨_, rfl⟩
 have hbW : Below w.heap.size w W := by rw [hW]; exact (((Below.refl _ _).alloc (Nat.le_refl _) _).alloc (by simp) _).alloc (by simp; omega) _
 have p0 : W.cell? ⟨P, 0, none⟩ = some (.bool nk) := by rw [hW, hP]; go_simp
 have p1 : W.cell? ⟨P, 1, none⟩ = some (.slice Ak mk ck) := by rw [hW, hP]; go_simp
 have q0 : W.cell? ⟨w.heap.size, 0, none⟩ = some (.int .i64 aA) := by rw [hW]; go_simp
 have q1 : W.cell? ⟨w.heap.size, 1, none⟩ = some (.int .i64 aB) := by rw [hW]; go_simp
 have hA0 : w.heap.size < W.heap.size := cell_lt q0
 have hRA : Arr W R 136 [.int .i64 0, .int .i64 0, .slice none 0 0, .bool false, .slice none 0 0] := by
  rw [hW, hR]
  have := Arr.new ((w.alloc (.cells #[.int .i64 aA, .int .i64 aB] 23)).alloc (.cells #[.bool nk, .slice Ak mk ck] 40)) 136 [.int .i64 0, .int .i64 0, .slice none 0 0, .bool false, .slice none 0 0]
  simpa using this
 have hP0 : P < W.heap.size := cell_lt p0
 have hR0 : R < W.heap.size := hRA.lt
 have hwR : w.heap.size ≤ R := by omega
 have HWW := Lib.hid hW
 have HPP := Lib.hid hP
 have HRR := Lib.hid hR
 clear hW hP hR
 have hHs := herm_shp hM hs hf
 have HHE := Lib.hid (Hermite_any (RowsD.below h hbW) hq hs hn hn0 hf hM)
 have HKV := Lib.hid (hk.below hbW).tt
 have HFH := Lib.hid (fitM_wl hHs.2.1)
 have HRN := Lib.hid (show ∀ l ∈ H, l.length ≤ 1000000 from fun l hl => by rw [hHs.1 l hl]; exact hn)
 have hHq : H.length ≤ 1000000 := by have := hHs.2.2; rw [HL.out] at this; omega
 have HGW := Lib.hid hg
 have HG0 := Lib.hid hg0
 have HC0 := Lib.hid (cntM_ne hg0 H)
 have HCW := Lib.hid (wl_cntM (B := 900000000000) H hg (fitM_wl hHs.2.1))
 clear h hk hs hf hM hHs hg hg0
 go_enter Tryz.func159, Tryz.ntmps159
 go_upto_region 1 with (fail)
 rw [← HWW.out, ← HRR.out, ← HPP.out]
 go_upto_region 3 with (first
  | (go_at_call 141; go_must (refine HHE.out.mono ?_); rintro e w1 ⟨v1, rfl, hv1, hb1⟩; obtain ⟨A1, c1, rfl⟩ := RowsD.slice hv1; have p2 := keepW hb1 hP0 p0; have p3 := keepW hb1 hP0 p1; have HV1 := Lib.hid hv1)
  | (go_at_call 220; go_must (refine (Content_any (RowsD.t HV1.out) (HKV.out.below hb1) hHq HRN.out HGW.out HFH.out).mono ?_); rintro e w2 ⟨v2, rfl, hv2, hb2⟩; obtain ⟨n2, A2, m2, c2, rfl, hw2⟩ := hv2.shp))
 have hb12 := hb1.trans (hb2.mono hb1.size)
 obtain ⟨w3, hw3⟩ : ∃ w3, w3 = w2.alloc (.cells #[.bool n2, .slice A2 m2 c2] 40) := ⟨_, rfl⟩
 obtain ⟨G, hG⟩ : ∃ G, G = w2.heap.size := ⟨_, rfl⟩
 have HB3 : Below w2.heap.size w2 w3 := by rw [hw3]; exact (Below.refl _ _).alloc (Nat.le_refl _) _
 have g0 : w3.cell? ⟨G, 0, none⟩ = some (.bool n2) := by rw [hw3, hG]; go_simp
 have g1 : w3.cell? ⟨G, 1, none⟩ = some (.slice A2 m2 c2) := by rw [hw3, hG]; go_simp
 rw [← hw3, ← hG]
 have hgG : G < w3.heap.size := cell_lt g0
 clear hw3 hG
 have hb3 : Below W.heap.size W w3 := hb12.trans (HB3.mono hb12.size)
 replace p0 := keepW hb3 hP0 p0
 replace p1 := keepW hb3 hP0 p1
 replace q0 := keepW hb3 hA0 q0
 replace q1 := keepW hb3 hA0 q1
 have hA2 : w.heap.size < w3.heap.size := Nat.lt_of_lt_of_le hA0 hb3.size
 have hP2 : P < w3.heap.size := Nat.lt_of_lt_of_le hP0 hb3.size
 have hg2 : G < w3.heap.size := hgG
 have HRA := Lib.hid (keepA hRA hb3 hR0)
 have HV3 := Lib.hid (RowsD.below (RowsD.below HV1.out hb2) HB3)
 have HW3 := Lib.hid (hw2.below HB3)
 have HK3 := Lib.hid ((HKV.out.below hb12).below HB3)
 have HB := Lib.hid hb3
 clear hRA hw2 hv2 hb1 hb2 hb12 HB3 hb3 p2 p3 hv1
 have hs0 : Below w3.heap.size w3 w3.drew := (Below.refl _ _).drew
 refine wp_region_tq5 (.read 0 (.read 1 (.read 2 (.read 4 (.read 5 (.step 3 (.step 6 (.read 7 (.step 8 .nil))))))))) [8] (by kernel_rfl) (by rfl) (by kernel_rfl) (by kernel_rfl) (fun W => Below w3.heap.size w3 W) ?_
 change goU _ _ _ _ _ _ _ w3.drew
 refine goU_read 14 hs0 (by rfl) (by rfl) ?_ (by rfl) (fun wz hSw => ?_) ?_
 rotate_left
 ·have y0 := keepW hSw hP2 p0; have y1 := keepW hSw hP2 p1; have y2 := keepW hSw hg2 g0; have y3 := keepW hSw hg2 g1; have y4 := keepW hSw hA2 q0; have y5 := keepW hSw hA2 q1; go_simp
  try with_reducible rfl
 simp only [sIB, List.set]
 refine goU_read 15 hs0 (by rfl) (by rfl) ?_ (by rfl) (fun wz hSw => ?_) ?_
 rotate_left
 ·have y0 := keepW hSw hP2 p0; have y1 := keepW hSw hP2 p1; have y2 := keepW hSw hg2 g0; have y3 := keepW hSw hg2 g1; have y4 := keepW hSw hA2 q0; have y5 := keepW hSw hA2 q1; go_simp
  try with_reducible rfl
 simp only [sIB, List.set]
 refine goU_read 16 hs0 (by rfl) (by rfl) ?_ (by rfl) (fun wz hSw => ?_) ?_
 rotate_left
 ·have y0 := keepW hSw hP2 p0; have y1 := keepW hSw hP2 p1; have y2 := keepW hSw hg2 g0; have y3 := keepW hSw hg2 g1; have y4 := keepW hSw hA2 q0; have y5 := keepW hSw hA2 q1; go_simp
  try with_reducible rfl
 simp only [sIB, List.set]
 refine goU_read 18 hs0 (by rfl) (by rfl) ?_ (by rfl) (fun wz hSw => ?_) ?_
 rotate_left
 ·have y0 := keepW hSw hP2 p0; have y1 := keepW hSw hP2 p1; have y2 := keepW hSw hg2 g0; have y3 := keepW hSw hg2 g1; have y4 := keepW hSw hA2 q0; have y5 := keepW hSw hA2 q1; go_simp
  try with_reducible rfl
 simp only [sIB, List.set]
 refine goU_read 19 hs0 (by rfl) (by rfl) ?_ (by rfl) (fun wz hSw => ?_) ?_
 rotate_left
 ·have y0 := keepW hSw hP2 p0; have y1 := keepW hSw hP2 p1; have y2 := keepW hSw hg2 g0; have y3 := keepW hSw hg2 g1; have y4 := keepW hSw hA2 q0; have y5 := keepW hSw hA2 q1; go_simp
  try with_reducible rfl
 simp only [sIB, List.set]
 refine goU_call 17 (by rfl) (by rfl) (by rfl) (by go_simp) (Over_any (RowsD.below HV3.out hs0) (HW3.out.below hs0) hHq HRN.out HCW.out HC0.out HFH.out) ?_
 rintro e w4 ⟨v4, rfl, hv4, hb4⟩
 obtain ⟨A4, c4, rfl⟩ := RowsD.slice_ hv4 (n := H.length) (by unfold ovr; rw [List.length_map])
 have HV4 := Lib.hid hv4
 have hs1 := hs0.trans (hb4.mono hs0.size)
 refine ⟨_, rfl, fun _ => hs1, ?_⟩
 simp only [sIB, List.set]
 refine goU_call 20 (by rfl) (by rfl) (by rfl) (by go_simp) (wQuo_any (HK3.out.below hs1).int (HW3.out.below hs1).int HGW.out HCW.out HC0.out) ?_
 rintro e w5 ⟨v5, rfl, hv5, hb5⟩
 obtain ⟨n5, A5, m5, c5, rfl, hw5⟩ := hv5.shp
 have hs2 := hs1.trans (hb5.mono hs1.size)
 refine ⟨_, rfl, fun _ => hs2, ?_⟩
 simp only [sIB, List.set]
 clear hv4 hv5
 refine goU_read 21 hs2 (by rfl) (by rfl) ?_ (by rfl) (fun wz hSw => ?_) ?_
 rotate_left
 ·go_simp
  try with_reducible rfl
 simp only [sIB, List.set]
 have HV5 := Lib.hid (RowsD.below HV4.out hb5)
 have HRB := Lib.hid (keepA HRA.out hs2 (Nat.lt_of_lt_of_le hR0 HB.out.size))
 have r0 := HRB.out.rd (i := 0) rfl
 have r1 := HRB.out.rd (i := 1) rfl
 have r2 := HRB.out.rd (i := 2) rfl
 have r3 := HRB.out.rd (i := 3) rfl
 have r4 := HRB.out.rd (i := 4) rfl
 have f0 := HRB.out.frozen 0
 have f1 := HRB.out.frozen 1
 have f2 := HRB.out.frozen 2
 have f3 := HRB.out.frozen 3
 have f4 := HRB.out.frozen 4
 have hRl : R < w5.heap.size := HRB.out.lt
 refine goU_step (by rfl) ?_
 go_wp2_with fail
 try (refine ⟨fun h => absurd h (by decide), ?_⟩)
 refine goU_nilN ?_
 go_wp2_with fail
 refine bodyPost_ret (v := .agg #[.int .i64 aA, .int .i64 aB, .slice A4 H.length c4, .bool n5, .slice A5 m5 c5]) (by simp [results, Tryz.results159, go_sem, r0, r1, r2, r3, r4]) rfl ⟨_, rfl, ⟨A4, c4, n5, A5, m5, c5, rfl, ?_, ?_⟩, ?_⟩
 all_goals have hfr : ∀ (i : Nat) (u : Value) (V : World), Frm (· = R) V (V.setCell ⟨R, i, none⟩ u) := fun i u V => Frm.setCell (O := (· = R)) (p := ⟨R, i, none⟩) (fun _ => rfl) u
 ·refine RowsD.mono (Frm.foot (((((hfr _ _ _).trans (hfr _ _ _)).trans (hfr _ _ _)).trans (hfr _ _ _)).trans (hfr _ _ _)) HV5.out fun b hb e => ?_) fun b hb _ => ?_
  ·have h1 := HB.out.size
   have h2 := hs0.size
   rcases hb with (⟨_, h3⟩ | h3) | h3 <;> omega
  ·have h1 := HB.out.size
   have h2 := hs0.size
   have h4 := hbW.size
   rcases hb with (⟨h3, _⟩ | h3) | h3
   ·exact .inl h3
   ·exact .inr (by omega)
   ·exact .inr (by omega)
 ·refine NIntV.mono (Frm.nint (((((hfr _ _ _).trans (hfr _ _ _)).trans (hfr _ _ _)).trans (hfr _ _ _)).trans (hfr _ _ _)) hw5 fun b (hb : _ ≤ b) e => ?_) fun b (hb : _ ≤ b) _ => ?_
  ·have h1 := HB.out.size
   have h2 := hs1.size
   omega
  ·have h1 := HB.out.size
   have h2 := hs1.size
   have h4 := hbW.size
   show w.heap.size ≤ b
   omega
 ·exact (hbW.trans ((HB.out.trans (hs2.mono HB.out.size)).mono hbW.size)).trans (Frm.below (((((hfr _ _ _).trans (hfr _ _ _)).trans (hfr _ _ _)).trans (hfr _ _ _)).trans (hfr _ _ _)) (by have := HB.out.size; have := hs2.size; have := hbW.size; omega) fun b e => by rw [e]; exact hwR)
end Go.Proofs.YtdjpeimecfhdjaaGreat
