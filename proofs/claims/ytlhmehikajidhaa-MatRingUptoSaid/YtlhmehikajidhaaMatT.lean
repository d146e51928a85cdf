/- Layer 9: MatRing answers true. -/
import Derived.Test.YtlhmehikajidhaaMatS
import Derived.Test.YtlhmehikajidhaaOpenM
set_option linter.unusedVariables false
set_option linter.unusedSimpArgs false
namespace Go.Proofs.Ytlhmehikajidhaa
open Go Go.Eng Go.Proofs Go.NatM Go.RowKit

theorem ring_ok (w : World) (a : MV) (rA : RM w.heap a 1048576) (b : MV) (rB : RM w.heap b 1048576) (c : MV) (rC : RM w.heap c 1048576) :
    Cl Try.prog 6 #[.agg (mvc a).toArray, .agg (mvc b).toArray, .agg (mvc c).toArray] w (YesM w) := by
  by_cases hA : ∃ r m, Sound a r m
  · obtain ⟨r, m, hA⟩ := hA
    by_cases hB : ∃ r m, Sound b r m
    · obtain ⟨m2, n, hB⟩ := hB
      by_cases hC : ∃ r m, Sound c r m
      · obtain ⟨p, q, hC⟩ := hC
        by_cases h1 : m = m2
        · subst h1
          by_cases h2 : n = p
          · subst h2; exact ring_fit w a b c rA rB rC (Nat.le_refl _) hA hB hC
          · exact ring_uf2 w a b c rA rB rC (Nat.le_refl _) hA hB hC h2
        · exact ring_unfit w a b c hA hB hC h1
      · exact ring_nc w a b c hA hB (fun r q h => hC ⟨r, q, h⟩)
    · exact ring_nb w a b c hA (fun r q h => hB ⟨r, q, h⟩)
  · exact ring_na w a b c (fun r q h => hA ⟨r, q, h⟩)
end Go.Proofs.Ytlhmehikajidhaa
