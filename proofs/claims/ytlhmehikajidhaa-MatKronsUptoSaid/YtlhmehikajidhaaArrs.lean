/- The array types of this translation. -/
import Derived.Test.YtlhmehikajidhaaTypes
import Derived.Test.YtlhmehikajidhaaEngC
namespace Go.Proofs.Ytlhmehikajidhaa
open Go Go.Eng Go.Proofs
instance : UArr Try.prog 25 4 24 := ⟨Try.underlying25⟩
instance : UArr Try.prog 112 0 16 := ⟨Try.underlying112⟩
end Go.Proofs.Ytlhmehikajidhaa
