/- The document's answers for layer 1: Sub, power. -/
import Derived.Test.YtgmhldapndhoeaaRefC
set_option linter.unusedVariables false
set_option linter.unusedSimpArgs false
namespace Go.Proofs.Ytgmhldapndhoeaa
open Go Go.Eng Go.Proofs Go.NatM Go.RowKit

theorem cmp3_neg {x y : Nat} (h : x < y) : cmp3 x y = -1 := if_pos h
theorem cmp3_nneg {x y : Nat} (h : y ≤ x) : 0 ≤ cmp3 x y := by unfold cmp3; rw [if_neg (by omega)]; split <;> omega
end Go.Proofs.Ytgmhldapndhoeaa
