/- Plain numbers: the numbers with a prime between 1000 and 31622 fail. No program in sight. -/
import Derived.Test.YtefcdclmabdmbaaGreatDoorKg
namespace Go.Proofs.YtefcdclmabdmbaaGreatDoor
set_option maxRecDepth 1000000 in
theorem tabF0 : rg t1 7 500 = true := by decide +kernel
set_option maxRecDepth 1000000 in
theorem tabF1 : rg t1 7 628 = true := by decide +kernel
set_option maxRecDepth 1000000 in
theorem tabF2 : rg t1 8 756 = true := by decide +kernel
set_option maxRecDepth 1000000 in
theorem tabF3 : rg t1 8 1012 = true := by decide +kernel
set_option maxRecDepth 1000000 in
theorem tabF4 : rg t1 9 1268 = true := by decide +kernel
set_option maxRecDepth 1000000 in
theorem tabF5 : rg t1 10 1780 = true := by decide +kernel
set_option maxRecDepth 1000000 in
theorem tabF6 : rg t1 11 2804 = true := by decide +kernel
set_option maxRecDepth 1000000 in
theorem tabF7 : rg t1 12 4852 = true := by decide +kernel
set_option maxRecDepth 1000000 in
theorem tabF8 : rg t1 13 8948 = true := by decide +kernel
theorem tabF {i : Nat} (h1 : 500 ≤ i) (h2 : i < 17140) : t1 i = true := by
  rcases Nat.lt_or_ge i 628 with h | h
  · exact rg_spec 7 500 tabF0 i (by omega) (by omega)
  ·
    rcases Nat.lt_or_ge i 756 with h | h
    · exact rg_spec 7 628 tabF1 i (by omega) (by omega)
    ·
      rcases Nat.lt_or_ge i 1012 with h | h
      · exact rg_spec 8 756 tabF2 i (by omega) (by omega)
      ·
        rcases Nat.lt_or_ge i 1268 with h | h
        · exact rg_spec 8 1012 tabF3 i (by omega) (by omega)
        ·
          rcases Nat.lt_or_ge i 1780 with h | h
          · exact rg_spec 9 1268 tabF4 i (by omega) (by omega)
          ·
            rcases Nat.lt_or_ge i 2804 with h | h
            · exact rg_spec 10 1780 tabF5 i (by omega) (by omega)
            ·
              rcases Nat.lt_or_ge i 4852 with h | h
              · exact rg_spec 11 2804 tabF6 i (by omega) (by omega)
              ·
                rcases Nat.lt_or_ge i 8948 with h | h
                · exact rg_spec 12 4852 tabF7 i (by omega) (by omega)
                · exact rg_spec 13 8948 tabF8 i (by omega) (by omega)
end Go.Proofs.YtefcdclmabdmbaaGreatDoor
