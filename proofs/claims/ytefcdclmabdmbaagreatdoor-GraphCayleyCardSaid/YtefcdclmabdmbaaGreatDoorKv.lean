/- The reference's Cayley: what it puts into a row; plain facts on classes. -/
import Derived.Test.YtefcdclmabdmbaaGreatDoorKe
import Derived.Test.YtefcdclmabdmbaaGreatDoorKl
import Derived.Test.YtefcdclmabdmbaaGreatDoorKn
import Derived.Test.YtefcdclmabdmbaaGreatDoorKu
import Derived.Test.YtefcdclmabdmbaaGreatDoorKq
import Derived.ChangeKeysEq
namespace Go.Proofs.YtefcdclmabdmbaaGreatDoor
open Go.RowKit

theorem toZ_take (l : List Nat) (k : Nat) : (toZ l).take k = toZ (l.take k) := by simp [toZ]
theorem toZ_drop (l : List Nat) (k : Nat) : (toZ l).drop k = toZ (l.drop k) := by simp [toZ]
theorem add_at0 (g k : Nat) : (Addr.mk g 0 none).add k = ⟨g, k, none⟩ := by
  unfold Addr.add
  split
  · rename_i h0; subst h0; rfl
  · simp
theorem add_atk (g k j : Nat) : (Addr.mk g k none).add j = ⟨g, k + j, none⟩ := by
  unfold Addr.add
  split
  · rename_i h0; subst h0; rfl
  · simp
/-- l[:k], and what an append of it reads. -/
theorem cut_take {wr : World} {base : Nat} {A : Option Addr} {n c : Nat} {l : List Int} (h : OwnZ wr base (.slice A n c) l) {k : Nat} (hk : k ≤ n) :
    ∃ A1 c1, (∀ W : World, (Instr.slice 55 (.slice A n c) none (some (.int .i64 (k : Nat))) none).run Tryz.prog W = .ok (.slice A1 k c1) W) ∧ ∀ W : World, OwnZ W base (.slice A n c) l → Src W 1 A1 k ((l.take k).map (Value.int .i64)) := by
  have hn := h.len
  obtain ⟨A', c', e, h1, h2⟩ := own_slice h.1
  injection e with e1 e2 e3
  subst e1 e3
  refine ⟨if c = 0 then A else A.map (·.add (0 * 1)), c - 0, fun W => ?_, fun W hW => ⟨by simp; omega, fun hk0 => ?_⟩⟩
  · have z0 : (0 : Int) ≤ (k : Nat) := by omega
    have z1 : ((k : Nat) : Int) ≤ (c : Nat) := by omega
    simp [go_sem, z0, z1, sliced]
  · obtain ⟨g, cap, e, _, _, _, _, hc⟩ := own_cells hW.1 (by omega)
    injection e with e1 e2 e3
    subst e1 e3
    refine ⟨⟨g, 0, none⟩, ?_, fun j u hu => ?_⟩
    · rw [if_neg (by omega)]
      simp [add_at0]
    · rw [add_at0]
      rw [List.getElem?_map] at hu
      refine hc j u ?_
      rw [List.getElem?_map]
      rw [List.getElem?_take] at hu
      split at hu
      · exact hu
      · simp at hu
/-- l[k:], and what an append of it reads. -/
theorem cut_drop {wr : World} {base : Nat} {A : Option Addr} {n c : Nat} {l : List Int} (h : OwnZ wr base (.slice A n c) l) {k : Nat} (hk : k ≤ n) :
    ∃ A1 c1, (∀ W : World, (Instr.slice 55 (.slice A n c) (some (.int .i64 (k : Nat))) none none).run Tryz.prog W = .ok (.slice A1 (n - k) c1) W) ∧ ∀ W : World, OwnZ W base (.slice A n c) l → Src W 1 A1 (n - k) ((l.drop k).map (Value.int .i64)) := by
  have hn := h.len
  obtain ⟨A', c', e, h1, h2⟩ := own_slice h.1
  injection e with e1 e2 e3
  subst e1 e3
  refine ⟨if c = k then A else A.map (·.add (k * 1)), c - k, fun W => ?_, fun W hW => ⟨by simp; omega, fun hk0 => ?_⟩⟩
  · have z0 : (0 : Int) ≤ (k : Nat) := by omega
    have z1 : ((k : Nat) : Int) ≤ (n : Nat) := by omega
    simp [go_sem, z0, z1, sliced]
  · obtain ⟨g, cap, e, _, _, _, _, hc⟩ := own_cells hW.1 (by omega)
    injection e with e1 e2 e3
    subst e1 e3
    refine ⟨⟨g, k, none⟩, ?_, fun j u hu => ?_⟩
    · rw [if_neg (by omega)]
      simp [add_at0]
    · rw [add_atk]
      rw [List.getElem?_map, List.getElem?_drop] at hu
      refine hc (k + j) u ?_
      rw [List.getElem?_map]
      exact hu
/-- append(own ints, ints...), with its destination. -/
theorem wpList_appZ (w0 : World) (d : Nat) {ops : Array Oper} {rest : List Oper} {o : Oper} {a : Act} {Q : Exit → Act → World → Prop} (hgd : o.guard = none) (hd : o.dst = some d) (s x : Operand)
    (ho : o.op = .call { callee := .builtin .append, args := #[s, x], argTypes := #[55, 55] })
    (base : Nat) (A : Option Addr) (n c : Nat) (l : List Int) (hs : a.eval s = .slice A n c) (hown : w0.ownsRow base 3 1 (.slice A n c) n (l.map (Value.int .i64)))
    (B : Option Addr) (m cm : Nat) (y : List Int) (hx : a.eval x = .slice B m cm) (hr : Src w0 1 B m (y.map (Value.int .i64))) (h63 : n + m ≤ 1000000000) (hbase : base ≤ w0.heap.size)
    (h : ∀ A' c' w', w'.ownsRow base 3 1 (.slice A' (n + m) c') (n + m) ((l ++ y).map (Value.int .i64)) → w0.grownBy w' (Value.slice A n c).ownBlock → Below base w0 w' → wpList Tryz.prog ops Q rest { a with tmps := a.tmps.setIfInBounds d (.slice A' (n + m) c') } w') :
    wpList Tryz.prog ops Q (o :: rest) a w0 := by
  refine wpList_app _ hgd s x 55 55 ho base 3 3 (.int .i64 0) 1 8 Tryz.underlying55 Tryz.underlying55 info_intZ rfl (by omega) _ n (l.map (Value.int .i64)) hs hown B m cm (y.map (Value.int .i64)) hx hr (by simp [Value.oneCell']) (by unfold maxLen; omega) (by omega) hbase ?_
  intro v' w' hown' hg hob
  obtain ⟨A', c', rfl, _, _⟩ := own_slice hown'
  rw [put_some hd]
  rw [← List.map_append] at hown'
  exact h A' c' w' hown' hg ((Below.refl _ _).grown hg hbase (fun k hk => (World.ownsRow.lt hown k hk).1))

/-! classes -/
theorem rl5_ne {half : Bool} : ∀ {n : Nat} {m : Nq}, m ∈ rl5 half n → det5 m ≠ 0
  | 0, m, h => by simp [rl5] at h
  | n + 1, m, h => by
    unfold rl5 at h
    rcases List.mem_append.1 h with h | h
    · exact rl5_ne h
    · cases hk : kp5 half n
      · rw [hk] at h; simp at h
      · rw [hk] at h
        have e : m = of5 n := by simpa using h
        rw [e]
        unfold kp5 at hk
        simp only [Bool.and_eq_true, Bool.not_eq_true'] at hk
        intro e0
        rw [e0] at hk
        exact absurd hk.1 (by decide)
theorem md5_mix (a b : Nat) (s t : Int) : (((a : Int) * s + (b : Int) * t) % 5).toNat = (a * (s % 5).toNat + b * (t % 5).toNat) % 5 := by
  have e1 : (s % 5) = (((s % 5).toNat : Nat) : Int) := by omega
  have e2 : (t % 5) = (((t % 5).toNat : Nat) : Int) := by omega
  have h : ((a : Int) * s + (b : Int) * t) % 5 = (((a * (s % 5).toNat + b * (t % 5).toNat) % 5 : Nat) : Int) := by
    push_cast
    rw [← e1, ← e2]
    simp [Int.add_emod, Int.mul_emod]
  rw [h]
  rfl
/-- The matrix that the reference takes. -/
theorem md5_tms (m : Nq) (q : Qt) : md5 ((m.1 : Nat) * (q.1 + 2 * q.2.1) + (m.2.1 : Nat) * (-q.2.2.1 + 2 * q.2.2.2)) ((m.1 : Nat) * (q.2.2.1 + 2 * q.2.2.2) + (m.2.1 : Nat) * (q.1 - 2 * q.2.1)) ((m.2.2.1 : Nat) * (q.1 + 2 * q.2.1) + (m.2.2.2 : Nat) * (-q.2.2.1 + 2 * q.2.2.2)) ((m.2.2.1 : Nat) * (q.2.2.1 + 2 * q.2.2.2) + (m.2.2.2 : Nat) * (q.1 - 2 * q.2.1)) = tms5 m (cg5 q) := by
  unfold md5 tms5 cg5
  simp only [md5_mix]
theorem sqM5 {d : Nat} (h : d < 5) : sqM ((d : Nat) : Int) 5 = sq5 d := by
  have key : ∀ d, d < 5 → sqM ((d : Nat) : Int) 5 = sq5 d := by decide +kernel
  exact key d h
/-- A matrix whose determinant is not 0: that of its class is not 0. -/
theorem nrm5_det {m : Nq} (h : In5 m) (hd : det5 m ≠ 0) : det5 (nrm5 m) ≠ 0 := by
  have key : ∀ a, a < 5 → ∀ b, b < 5 → ∀ c, c < 5 → ∀ d, d < 5 → det5 (a, b, c, d) ≠ 0 → det5 (nrm5 (a, b, c, d)) ≠ 0 := by decide +kernel
  exact key _ h.1 _ h.2.1 _ h.2.2.1 _ h.2.2.2 hd
theorem of5_code (k : Nat) : code5 (of5 k) = k := by unfold code5 of5; simp only; omega
theorem code5_of {m : Nq} {k : Nat} (h : of5 k = m) : Nat.beq (code5 m) k = true := by rw [← h, of5_code]; exact Nat.beq_refl k
theorem code5_not {m y : Nq} {k : Nat} (h : of5 k = m) (hm : In5 m) (hy : In5 y) (hne : y ≠ m) : Nat.beq (code5 y) k = false := by
  cases hb : Nat.beq (code5 y) k with
  | false => rfl
  | true =>
    have h2 := Nat.eq_of_beq_eq_true hb
    rw [← of5_code k, h] at h2
    exact absurd (code5_inj hy hm h2) hne
/-- One of the four numbers is not 0 modulo 5. -/
theorem md5_some {a b c d : Int} (h : det5 (nrm5 (md5 a b c d)) ≠ 0) : a % 5 ≠ 0 ∨ b % 5 ≠ 0 ∨ c % 5 ≠ 0 ∨ d % 5 ≠ 0 := by
  by_cases h1 : a % 5 = 0
  · by_cases h2 : b % 5 = 0
    · by_cases h3 : c % 5 = 0
      · by_cases h4 : d % 5 = 0
        · exfalso
          apply h
          unfold md5
          rw [h1, h2, h3, h4]
          decide
        · exact .inr (.inr (.inr h4))
      · exact .inr (.inr (.inl h3))
    · exact .inr (.inl h2)
  · exact .inl h1
theorem det5_mod (a b c d : Nat) : ((a : Int) * d - (b : Int) * c) % 5 = ((det5 (a, b, c, d) : Nat) : Int) := by
  unfold det5
  simp only
  rw [Int.natCast_emod, Int.natCast_add, Int.natCast_mul, Int.natCast_mul, Int.natCast_mul]
  show _ = ((a : Int) * d + 4 * ((b : Int) * c)) % 5
  generalize (a : Int) * d = x
  generalize (b : Int) * c = y
  omega
/-! contracts at q = 5, hidden -/
theorem mod5_any {x : Int} {r : Nat} (h : x % 5 = (r : Nat)) : Hid (∀ w : World, Calls Tryz.prog 25 #[.int .i64 x, .int .i64 5] w fun e w' => e = .returned (.int .i64 (r : Nat)) ∧ w = w') :=
  Lib.hid fun w => (bMod_any (w := w) (a := x) (m := 5) (by omega) (by omega)).mono fun e w' ⟨h1, h2⟩ => ⟨by rw [h1, ← h]; rfl, h2⟩
theorem sq5_any {x : Nat} {b : Bool} (hx : x ≤ 1000) (h : b = sqM (x : Nat) 5) : Hid (∀ w : World, Calls Tryz.prog 63 #[.int .i64 (x : Nat), .int .i64 5] w fun e w' => e = .returned (.bool b) ∧ w = w') :=
  Lib.hid fun w => (isSquare_any (w := w) (n := ((x : Nat) : Int)) (q := 5) (by omega) (by omega) (by omega)).mono fun e w' ⟨h1, h2⟩ => ⟨by rw [h1, h], h2⟩
theorem cls5_any {a b c d : Int} {y : Nq} (hy : y = nrm5 (md5 a b c d)) (hd : det5 y ≠ 0) : Hid (∀ w : World, Calls Tryz.prog 80 #[.agg #[.int .i64 a, .int .i64 b, .int .i64 c, .int .i64 d], .int .i64 5] w fun e w' => e = .returned (.agg #[.int .i64 (y.1 : Nat), .int .i64 (y.2.1 : Nat), .int .i64 (y.2.2.1 : Nat), .int .i64 (y.2.2.2 : Nat)]) ∧ Below w.heap.size w w') :=
  Lib.hid fun w => (rclass5_any (w := w) (md5_some (by rw [← hy]; exact hd))).mono fun e w' ⟨h1, h2⟩ => ⟨by rw [h1, hy]; rfl, h2⟩
/-- The class of a matrix of residues. -/
theorem cls5_nat {a b c d : Nat} {y : Nq} (h : In5 (a, b, c, d)) (hd : det5 (a, b, c, d) ≠ 0) (hy : y = nrm5 (a, b, c, d)) : Hid (∀ w : World, Calls Tryz.prog 80 #[.agg #[.int .i64 (a : Nat), .int .i64 (b : Nat), .int .i64 (c : Nat), .int .i64 (d : Nat)], .int .i64 5] w fun e w' => e = .returned (.agg #[.int .i64 (y.1 : Nat), .int .i64 (y.2.1 : Nat), .int .i64 (y.2.2.1 : Nat), .int .i64 (y.2.2.2 : Nat)]) ∧ Below w.heap.size w w') :=
  cls5_any (by rw [md5_nat h]; exact hy) (by rw [hy]; exact nrm5_det h hd)
theorem kp5_of {hf : Bool} {k dd : Nat} {m : Nq} (h : of5 k = m) (hd : dd = det5 m) : Hid (kp5 hf k = (!(Nat.beq dd 0) && (Nat.beq (code5 (nrm5 m)) k && (!hf || sq5 dd)))) := Lib.hid (by unfold kp5; rw [h, ← hd])
theorem beq0_not {d : Nat} (h : d ≠ 0) : Nat.beq d 0 = false := by
  cases hb : Nat.beq d 0 with
  | false => rfl
  | true => exact absurd (Nat.eq_of_beq_eq_true hb) h
theorem kp5_zero {hf : Bool} {k : Nat} {m : Nq} (H : Hid (kp5 hf k = (!(Nat.beq 0 0) && (Nat.beq (code5 (nrm5 m)) k && (!hf || sq5 0))))) : Hid (false = kp5 hf k) := Lib.hid (by rw [H.out]; rfl)
theorem kp5_diff {hf : Bool} {k dd : Nat} {m y : Nq} (H : Hid (kp5 hf k = (!(Nat.beq dd 0) && (Nat.beq (code5 (nrm5 m)) k && (!hf || sq5 dd))))) (HO : Hid (of5 k = m)) (hm : In5 m) (HY : Hid (y = nrm5 m)) (hyi : In5 y) (h : ¬ y = m) : Hid (false = kp5 hf k) :=
  Lib.hid (by rw [H.out, ← HY.out, code5_not HO.out hm hyi h]; simp)
theorem kp5_same {hf : Bool} {k dd : Nat} {m : Nq} (H : Hid (kp5 hf k = (!(Nat.beq dd 0) && (Nat.beq (code5 (nrm5 m)) k && (!hf || sq5 dd))))) (HO : Hid (of5 k = m)) (HY : Hid (m = nrm5 m)) (hz : ¬ dd = 0) {b : Bool} (hb : b = (!hf || sq5 dd)) : Hid (b = kp5 hf k) :=
  Lib.hid (by rw [H.out, ← HY.out, code5_of HO.out, beq0_not hz, hb]; rfl)
/-! the test of two classes -/
theorem run_eq4 (a b c d a' b' c' d' : Int) (w : World) : (Op.equalIn 10000 104 (.agg #[.int .i64 a, .int .i64 b, .int .i64 c, .int .i64 d]) (.agg #[.int .i64 a', .int .i64 b', .int .i64 c', .int .i64 d'])).run Tryz.prog w = .ok (a == a' && (b == b' && (c == c' && d == d'))) w := by
  have h0 : (Tryz.prog.info? 3).isSome = true := by kernel_rfl
  obtain ⟨i, hi⟩ := Option.isSome_iff_exists.1 h0
  rw [show (10000 : Nat) = 9999 + 1 from rfl, run_equalIn_array w 9999 _ _ Tryz.underlying104 hi]
  rw [show Tryz.prog.cellsOf 3 = 1 by kernel_rfl]
  rw [show List.range 4 = [0, 1, 2, 3] from rfl]
  cases h1 : (a == a') <;> cases h2 : (b == b') <;> cases h3 : (c == c') <;> cases h4 : (d == d') <;> simp [Op.eqItems, go_sem, h1, h2, h3, h4]
theorem run_eq4_same (a b c d : Nat) (w : World) : (Op.equalIn 10000 104 (.agg #[.int .i64 (a : Nat), .int .i64 (b : Nat), .int .i64 (c : Nat), .int .i64 (d : Nat)]) (.agg #[.int .i64 (a : Nat), .int .i64 (b : Nat), .int .i64 (c : Nat), .int .i64 (d : Nat)])).run Tryz.prog w = .ok true w := by
  rw [run_eq4]
  simp
theorem run_eq4_diff {a b c d a' b' c' d' : Nat} (h : ¬ (a, b, c, d) = (a', b', c', d')) (w : World) : (Op.equalIn 10000 104 (.agg #[.int .i64 (a : Nat), .int .i64 (b : Nat), .int .i64 (c : Nat), .int .i64 (d : Nat)]) (.agg #[.int .i64 (a' : Nat), .int .i64 (b' : Nat), .int .i64 (c' : Nat), .int .i64 (d' : Nat)])).run Tryz.prog w = .ok false w := by
  rw [run_eq4]
  congr 1
  rw [Bool.eq_false_iff]
  intro h2
  simp only [Bool.and_eq_true, beq_iff_eq] at h2
  apply h
  obtain ⟨h3, h4, h5, h6⟩ := h2
  rw [Int.ofNat.inj h3, Int.ofNat.inj h4, Int.ofNat.inj h5, Int.ofNat.inj h6]
theorem rl5_no {hf : Bool} {k : Nat} (h : Hid (false = kp5 hf k)) : rl5 hf (k + 1) = rl5 hf k := by
  show rl5 hf k ++ (bif kp5 hf k then [of5 k] else []) = _
  rw [← h.out]
  simp
theorem rl5_yes {hf : Bool} {k : Nat} {m : Nq} (h : Hid (true = kp5 hf k)) (ho : Hid (of5 k = m)) : rl5 hf (k + 1) = rl5 hf k ++ [m] := by
  show rl5 hf k ++ (bif kp5 hf k then [of5 k] else []) = _
  rw [← h.out, ho.out]
  rfl
theorem rl5_le {hf : Bool} : ∀ {k : Nat}, (rl5 hf k).length ≤ k
  | 0 => Nat.le_refl _
  | k + 1 => by
    have := rl5_le (hf := hf) (k := k)
    unfold rl5
    rw [List.length_append]
    cases kp5 hf k <;> simp <;> omega
/-! the graph under way -/
def ob4 (m : Nq) : Obj := .cells #[.int .i64 (m.1 : Nat), .int .i64 (m.2.1 : Nat), .int .i64 (m.2.2.1 : Nat), .int .i64 (m.2.2.2 : Nat)] 104 (0, 0)
/-- What the reads of a graph under way need. -/
def SG4 (Ob Mb : Nat) (sN sE : Value) (m : Nq) (V : World) : Prop := V.heap[Ob]? = some (.cells #[sN, sE] 25 (0, 0)) ∧ V.heap[Mb]? = some (ob4 m)
theorem SG4.below {Ob Mb : Nat} {sN sE : Value} {m : Nq} {V V' : World} (h : SG4 Ob Mb sN sE m V) (hb : Below V.heap.size V V') : SG4 Ob Mb sN sE m V' :=
  ⟨(hb.block _ (Array.getElem?_eq_some_iff.1 h.1).1).trans h.1, (hb.block _ (Array.getElem?_eq_some_iff.1 h.2).1).trans h.2⟩
theorem SG4.grown {Ob Mb : Nat} {sN sE : Value} {m : Nq} {V V' : World} {ob : Option Nat} (h : SG4 Ob Mb sN sE m V) (hg : V.grownBy V' ob) (ho : ∀ g, ob = some g → g ≠ Ob ∧ g ≠ Mb) : SG4 Ob Mb sN sE m V' :=
  ⟨(hg.block _ (Array.getElem?_eq_some_iff.1 h.1).1 (fun e => (ho _ e.symm).1 rfl)).trans h.1, (hg.block _ (Array.getElem?_eq_some_iff.1 h.2).1 (fun e => (ho _ e.symm).2 rfl)).trans h.2⟩
/-- Behind the store of the names. -/
theorem name_done {WO v0 V : World} {Ob Mb : Nat} {m : Nq} {vN vE x : Value} {N : List ByteArray} {E : List (List Int)}
    (hO : SG4 Ob Mb x vE m V) (gb : GB V (Ob + 1) vN vE N E) (bw : Below (Ob + 1) v0 V) (hw : Below Ob WO v0) (hne : Mb ≠ Ob) :
    SG4 Ob Mb vN vE m (V.setCell ⟨Ob, 0, none⟩ vN) ∧ GB (V.setCell ⟨Ob, 0, none⟩ vN) (Ob + 1) vN vE N E ∧ Below Ob WO (V.setCell ⟨Ob, 0, none⟩ vN) := by
  have hu : Upd (fun b => b = Ob) V (V.setCell ⟨Ob, 0, none⟩ vN) := ⟨rfl, rfl, rfl, by simp [World.setCell], fun k hk hS => Below.heap_setCell _ ⟨Ob, 0, none⟩ _ k hS⟩
  exact ⟨⟨Go.Joins.block_setCell (i := 0) hO.1 vN, (hu.block _ (Array.getElem?_eq_some_iff.1 hO.2).1 hne).trans hO.2⟩, gb.updG hu (fun k hk => by omega), (hw.trans (bw.mono (by omega))).setCell (p := ⟨Ob, 0, none⟩) (Nat.le_refl _) _⟩
/-- Behind the store of the rows. -/
theorem edge_done {WO V : World} {Ob : Nat} {vN vE x : Value} {N : List ByteArray} {E : List (List Int)}
    (hO : V.heap[Ob]? = some (.cells #[vN, x] 25 (0, 0))) (gb : GB V (Ob + 1) vN vE N E) (hw : Below Ob WO V) :
    (V.setCell ⟨Ob, 1, none⟩ vE).heap[Ob]? = some (.cells #[vN, vE] 25 (0, 0)) ∧ GB (V.setCell ⟨Ob, 1, none⟩ vE) (Ob + 1) vN vE N E ∧ Below Ob WO (V.setCell ⟨Ob, 1, none⟩ vE) := by
  have hu : Upd (fun b => b = Ob) V (V.setCell ⟨Ob, 1, none⟩ vE) := ⟨rfl, rfl, rfl, by simp [World.setCell], fun k hk hS => Below.heap_setCell _ ⟨Ob, 1, none⟩ _ k hS⟩
  exact ⟨Go.Joins.block_setCell (i := 1) hO vE, gb.updG hu (fun k hk => by omega), hw.setCell (p := ⟨Ob, 1, none⟩) (Nat.le_refl _) _⟩
theorem rst_nil {V : World} {base : Nat} {vN vE : Value} {N : List ByteArray} {E : List (List Int)} (h : GB V base vN vE N E) : RSt V base vN vE (.slice none 0 0) N E [] :=
  ⟨h, (OwnZ.nil V V.heap.size).row (fun b h1 h2 => by omega)⟩
/-- One digit. -/
def dg1 (x : Nat) : ByteArray := ⟨#[UInt8.ofNat (48 + x)]⟩
theorem dec1_any {x : Nat} (h : x < 5) : Hid (∀ w : World, Calls Tryz.prog 82 #[.int .i64 (x : Nat)] w fun e w' => e = .returned (.string (dg1 x)) ∧ w = w') := by
  have key : ∀ x, x < 5 → (⟨(Lib.itoa ((x : Nat) : Int)).toArray⟩ : ByteArray) = dg1 x := by decide +kernel
  exact Lib.hid fun w => (Decimal_any (w := w) ((x : Nat) : Int) (by omega) (by omega)).mono fun e w' ⟨h1, h2⟩ => ⟨by rw [h1, key x h], h2⟩
theorem dg1_name (m : Nq) : ((((((dg1 m.1 ++ ⟨#[44]⟩) ++ dg1 m.2.1) ++ ⟨#[44]⟩) ++ dg1 m.2.2.1) ++ ⟨#[44]⟩) ++ dg1 m.2.2.2 : ByteArray) = nm5 m := rfl
theorem dg1_size (x : Nat) : (dg1 x).size = 1 := rfl
theorem mul60 {m : Nat} {s : Int} (hm : m < 5) (h1 : -60 ≤ s) (h2 : s ≤ 60) : -240 ≤ (m : Int) * s ∧ (m : Int) * s ≤ 240 := by
  have : m = 0 ∨ m = 1 ∨ m = 2 ∨ m = 3 ∨ m = 4 := by omega
  rcases this with rfl | rfl | rfl | rfl | rfl <;> constructor <;> omega
/-! parts of a function's code -/
def blkOf (n : Nat) : Code → Option Code
  | .block m c => bif Nat.beq m n then some (.block m c) else blkOf n c
  | .seq a b => match blkOf n a with
    | some c => some c
    | none => blkOf n b
  | .cond _ a b => match blkOf n a with
    | some c => some c
    | none => blkOf n b
  | .loop c => blkOf n c
  | .scope c => blkOf n c
  | _ => none
def regOf (n : Nat) : Code → Option Code
  | .region m ops d => bif Nat.beq m n then some (.region m ops d) else none
  | .block _ c => regOf n c
  | .seq a b => match regOf n a with
    | some c => some c
    | none => regOf n b
  | .cond _ a b => match regOf n a with
    | some c => some c
    | none => regOf n b
  | .loop c => regOf n c
  | .scope c => regOf n c
  | _ => none
noncomputable def cayBlk (n : Nat) : Code := (blkOf n ((Tryz.f21.body).getD .skip)).getD .skip
noncomputable def cayReg (n : Nat) : Code := (regOf n ((Tryz.f21.body).getD .skip)).getD .skip
end Go.Proofs.YtefcdclmabdmbaaGreatDoor
