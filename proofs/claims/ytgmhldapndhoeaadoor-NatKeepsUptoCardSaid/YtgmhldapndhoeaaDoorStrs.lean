/- The struct types of this translation. -/
import Derived.Test.YtgmhldapndhoeaaDoorTypes
import Derived.Test.YtgmhldapndhoeaaDoorEngS
set_option linter.unusedVariables false
namespace Go.Proofs.YtgmhldapndhoeaaDoor
open Go Go.Eng Go.Proofs
instance : UStruct Tryd.prog 7 [(0, 1), (1, 1), (2, 1), (3, 1)] := ⟨⟨_, Tryd.underlying7, by kernel_rfl⟩⟩
instance : UStruct Tryd.prog 8 [(0, 1), (1, 1), (2, 1), (3, 1)] := ⟨⟨_, Tryd.underlying8, by kernel_rfl⟩⟩
instance : UStruct Tryd.prog 13 [(0, 1), (1, 1)] := ⟨⟨_, Tryd.underlying13, by kernel_rfl⟩⟩
instance : UStruct Tryd.prog 14 [(0, 1), (1, 1)] := ⟨⟨_, Tryd.underlying14, by kernel_rfl⟩⟩
instance : UStruct Tryd.prog 18 [(0, 1)] := ⟨⟨_, Tryd.underlying18, by kernel_rfl⟩⟩
instance : UStruct Tryd.prog 19 [(0, 1)] := ⟨⟨_, Tryd.underlying19, by kernel_rfl⟩⟩
instance : UStruct Tryd.prog 40 [(0, 1), (1, 1), (2, 1), (3, 1)] := ⟨⟨_, Tryd.underlying40, by kernel_rfl⟩⟩
instance : UStruct Tryd.prog 41 [(0, 1), (1, 1), (2, 1), (3, 1)] := ⟨⟨_, Tryd.underlying41, by kernel_rfl⟩⟩
instance : UStruct Tryd.prog 46 [(0, 1), (1, 1), (2, 1)] := ⟨⟨_, Tryd.underlying46, by kernel_rfl⟩⟩
instance : UStruct Tryd.prog 47 [(0, 1), (1, 1), (2, 1)] := ⟨⟨_, Tryd.underlying47, by kernel_rfl⟩⟩
instance : UStruct Tryd.prog 68 [(0, 1), (1, 1)] := ⟨⟨_, Tryd.underlying68, by kernel_rfl⟩⟩
instance : UStruct Tryd.prog 69 [(0, 1), (1, 1)] := ⟨⟨_, Tryd.underlying69, by kernel_rfl⟩⟩
instance : UStruct Tryd.prog 75 [(0, 1), (1, 1), (2, 1), (3, 1)] := ⟨⟨_, Tryd.underlying75, by kernel_rfl⟩⟩
instance : UStruct Tryd.prog 76 [(0, 1), (1, 1), (2, 1), (3, 1)] := ⟨⟨_, Tryd.underlying76, by kernel_rfl⟩⟩
instance : UStruct Tryd.prog 78 [(0, 0)] := ⟨⟨_, Tryd.underlying78, by kernel_rfl⟩⟩
instance : UStruct Tryd.prog 79 [(0, 0)] := ⟨⟨_, Tryd.underlying79, by kernel_rfl⟩⟩
instance : UStruct Tryd.prog 88 [(0, 1), (1, 1), (2, 1), (3, 1), (4, 1), (5, 1), (6, 1), (7, 1), (8, 1), (9, 1), (10, 1)] := ⟨⟨_, Tryd.underlying88, by kernel_rfl⟩⟩
instance : UStruct Tryd.prog 89 [(0, 1), (1, 1), (2, 1), (3, 1), (4, 1), (5, 1), (6, 1), (7, 1), (8, 1), (9, 1), (10, 1)] := ⟨⟨_, Tryd.underlying89, by kernel_rfl⟩⟩
end Go.Proofs.YtgmhldapndhoeaaDoor
