/- The array types of this translation. -/
import Derived.Test.YtgmhldapndhoeaaDoorTypes
import Derived.Test.YtgmhldapndhoeaaDoorEngC
namespace Go.Proofs.YtgmhldapndhoeaaDoor
open Go Go.Eng Go.Proofs
instance : UArr Tryd.prog 59 64 5 := ⟨Tryd.underlying59⟩
instance : UArr Tryd.prog 77 0 16 := ⟨Tryd.underlying77⟩
end Go.Proofs.YtgmhldapndhoeaaDoor
