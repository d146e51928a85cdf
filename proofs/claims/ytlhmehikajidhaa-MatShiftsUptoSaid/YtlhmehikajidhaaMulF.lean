/- Layers 1 and 2: contracts of nat.Shl, mulnat.MulLow. -/
import Derived.Test.YtlhmehikajidhaaMulE
set_option linter.unusedVariables false
set_option linter.unusedSimpArgs false
namespace Go.Proofs.Ytlhmehikajidhaa
open Go Go.Eng Go.Proofs Go.NatM

end Go.Proofs.Ytlhmehikajidhaa
