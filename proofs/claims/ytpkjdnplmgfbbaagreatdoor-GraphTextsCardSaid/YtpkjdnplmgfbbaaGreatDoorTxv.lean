/- The laid variables, out of the row's list. -/
import Derived.Test.YtpkjdnplmgfbbaaGreatDoorLawT
import Derived.Test.YtpkjdnplmgfbbaaGreatDoorRows
import Derived.LaidMore
import Derived.Lib.LaidTab
import Derived.Stop.LaidErr
namespace Go.Proofs.YtpkjdnplmgfbbaaGreatDoor
open Go.RowKit Go.Shelf

theorem plain_laid (w : World) (h : laidMetH Tryz.prog Rows.graphTextsRow.laid w) : laidMet Tryz.prog Rows.graphTextsRow.laid w := by
  rw [MakeChecks.laidMetH_plain _ _ _ (by kernel_rfl)] at h
  exact h
theorem iface_head {n nm : String} {d : DataW Unit} {r : List (String × DataW Unit)} {W : World} {g : Nat} {ti : TypeId} {ms : Array (String × TypeId)}
    (h : laidMet Tryz.prog ((n, .iface nm d) :: r) W) (hg : Tryz.prog.globalNamed n = some g) (ht : (Tryz.prog.globals[g]?).map (·.type) = some ti) (hi : Tryz.prog.underlying ti = some (.interface ms)) :
    ∃ tp p, W.var? Tryz.prog n = some #[.iface tp p] := by
  obtain ⟨ps, ⟨g0, t0, cs0, f0, p0, q0, hg0, ht0, hv0, hd0, _, e0⟩, _, hrows⟩ := h
  obtain rfl := Option.some.inj (hg.symm.trans hg0)
  obtain rfl := Option.some.inj (ht.symm.trans ht0)
  have h9 := iface_of_trod hi hd0
  obtain ⟨_, u, v, h1, _, _⟩ := h9
  refine ⟨u, v, ?_⟩
  rw [hv0, Array.eq_one_of_toList h1]
set_option maxRecDepth 100000 in
theorem pow_laid : (("internal/strconv.uint64pow10", Rows.laid_internal_strconv_uint64pow10) : String × DataW Unit) = ("internal/strconv.uint64pow10", Lib.tabData .u64 Lib.pow10Tab) := by kernel_rfl
theorem g_tab : Tryz.prog.globalNamed "internal/strconv.uint64pow10" = some 3 := by kernel_rfl
theorem g_syn : Tryz.prog.globalNamed "strconv.ErrSyntax" = some 0 := by kernel_rfl
theorem g_rng : Tryz.prog.globalNamed "strconv.ErrRange" = some 1 := by kernel_rfl
theorem t_tab : (Tryz.prog.globals[3]?).map (·.type) = some 178 := by kernel_rfl
theorem t_syn : (Tryz.prog.globals[0]?).map (·.type) = some 89 := by kernel_rfl
theorem t_rng : (Tryz.prog.globals[1]?).map (·.type) = some 89 := by kernel_rfl
set_option maxRecDepth 100000 in
theorem vrs_laid (w : World) (h0 : laidMetH Tryz.prog Rows.graphTextsRow.laid w) : Vrs w := by
  have h := plain_laid w h0
  have h1 : laidMet Tryz.prog (("internal/strconv.uint64pow10", Rows.laid_internal_strconv_uint64pow10) :: _) w := h.tail.tail
  have h2 : laidMet Tryz.prog (("strconv.ErrRange", Rows.laid_strconv_ErrRange) :: _) w := h1.tail.tail
  have h3 : laidMet Tryz.prog (("strconv.ErrSyntax", Rows.laid_strconv_ErrSyntax) :: _) w := h2.tail
  rw [pow_laid] at h1
  exact ⟨Lib.tabIs_of_head g_tab t_tab Tryz.underlying178 Tryz.underlying111 (by kernel_rfl) (by kernel_rfl) h1, iface_head h3 g_syn t_syn Tryz.underlying89, iface_head h2 g_rng t_rng Tryz.underlying89⟩
end Go.Proofs.YtpkjdnplmgfbbaaGreatDoor
