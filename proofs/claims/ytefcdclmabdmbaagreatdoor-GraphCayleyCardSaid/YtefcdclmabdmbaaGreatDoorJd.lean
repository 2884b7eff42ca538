/- Plain numbers: the numbers with two primes below 1000, one of them above 100, fail. No program in sight. -/
import Derived.Test.YtefcdclmabdmbaaGreatDoorKg
namespace Go.Proofs.YtefcdclmabdmbaaGreatDoor
set_option maxRecDepth 1000000 in
theorem tabG0 : rg tB2 3 101 = true := by decide +kernel
set_option maxRecDepth 1000000 in
theorem tabG1 : rg tB2 3 109 = true := by decide +kernel
set_option maxRecDepth 1000000 in
theorem tabG2 : rg tB2 4 117 = true := by decide +kernel
set_option maxRecDepth 1000000 in
theorem tabG3 : rg tB2 4 133 = true := by decide +kernel
set_option maxRecDepth 1000000 in
theorem tabG4 : rg tB2 4 149 = true := by decide +kernel
set_option maxRecDepth 1000000 in
theorem tabG5 : rg tB2 5 165 = true := by decide +kernel
set_option maxRecDepth 1000000 in
theorem tabG6 : rg tB2 5 197 = true := by decide +kernel
set_option maxRecDepth 1000000 in
theorem tabG7 : rg tB2 6 229 = true := by decide +kernel
set_option maxRecDepth 1000000 in
theorem tabG8 : rg tB2 6 293 = true := by decide +kernel
set_option maxRecDepth 1000000 in
theorem tabG9 : rg tB2 7 357 = true := by decide +kernel
set_option maxRecDepth 1000000 in
theorem tabG10 : rg tB2 8 485 = true := by decide +kernel
set_option maxRecDepth 1000000 in
theorem tabG11 : rg tB2 9 741 = true := by decide +kernel
theorem tabG {i : Nat} (h1 : 101 ≤ i) (h2 : i < 1253) : tB2 i = true := by
  rcases Nat.lt_or_ge i 109 with h | h
  · exact rg_spec 3 101 tabG0 i (by omega) (by omega)
  ·
    rcases Nat.lt_or_ge i 117 with h | h
    · exact rg_spec 3 109 tabG1 i (by omega) (by omega)
    ·
      rcases Nat.lt_or_ge i 133 with h | h
      · exact rg_spec 4 117 tabG2 i (by omega) (by omega)
      ·
        rcases Nat.lt_or_ge i 149 with h | h
        · exact rg_spec 4 133 tabG3 i (by omega) (by omega)
        ·
          rcases Nat.lt_or_ge i 165 with h | h
          · exact rg_spec 4 149 tabG4 i (by omega) (by omega)
          ·
            rcases Nat.lt_or_ge i 197 with h | h
            · exact rg_spec 5 165 tabG5 i (by omega) (by omega)
            ·
              rcases Nat.lt_or_ge i 229 with h | h
              · exact rg_spec 5 197 tabG6 i (by omega) (by omega)
              ·
                rcases Nat.lt_or_ge i 293 with h | h
                · exact rg_spec 6 229 tabG7 i (by omega) (by omega)
                ·
                  rcases Nat.lt_or_ge i 357 with h | h
                  · exact rg_spec 6 293 tabG8 i (by omega) (by omega)
                  ·
                    rcases Nat.lt_or_ge i 485 with h | h
                    · exact rg_spec 7 357 tabG9 i (by omega) (by omega)
                    ·
                      rcases Nat.lt_or_ge i 741 with h | h
                      · exact rg_spec 8 485 tabG10 i (by omega) (by omega)
                      · exact rg_spec 9 741 tabG11 i (by omega) (by omega)
end Go.Proofs.YtefcdclmabdmbaaGreatDoor
