/- The struct types of this translation. -/
import Derived.Test.YtgmhldapndhoeaaTypes
import Derived.Test.YtgmhldapndhoeaaEngS
set_option linter.unusedVariables false
namespace Go.Proofs.Ytgmhldapndhoeaa
open Go Go.Eng Go.Proofs
instance : UStruct Try.prog 7 [(0, 1), (1, 1), (2, 1), (3, 1)] := ⟨⟨_, Try.underlying7, by kernel_rfl⟩⟩
instance : UStruct Try.prog 8 [(0, 1), (1, 1), (2, 1), (3, 1)] := ⟨⟨_, Try.underlying8, by kernel_rfl⟩⟩
instance : UStruct Try.prog 13 [(0, 1), (1, 1)] := ⟨⟨_, Try.underlying13, by kernel_rfl⟩⟩
instance : UStruct Try.prog 14 [(0, 1), (1, 1)] := ⟨⟨_, Try.underlying14, by kernel_rfl⟩⟩
instance : UStruct Try.prog 18 [(0, 1)] := ⟨⟨_, Try.underlying18, by kernel_rfl⟩⟩
instance : UStruct Try.prog 19 [(0, 1)] := ⟨⟨_, Try.underlying19, by kernel_rfl⟩⟩
instance : UStruct Try.prog 45 [(0, 1), (1, 1), (2, 1), (3, 1), (4, 1), (5, 1)] := ⟨⟨_, Try.underlying45, by kernel_rfl⟩⟩
instance : UStruct Try.prog 46 [(0, 1), (1, 1), (2, 1), (3, 1), (4, 1), (5, 1)] := ⟨⟨_, Try.underlying46, by kernel_rfl⟩⟩
instance : UStruct Try.prog 54 [(0, 1), (1, 1), (2, 1)] := ⟨⟨_, Try.underlying54, by kernel_rfl⟩⟩
instance : UStruct Try.prog 55 [(0, 1), (1, 1), (2, 1)] := ⟨⟨_, Try.underlying55, by kernel_rfl⟩⟩
instance : UStruct Try.prog 72 [(0, 1), (1, 1)] := ⟨⟨_, Try.underlying72, by kernel_rfl⟩⟩
instance : UStruct Try.prog 73 [(0, 1), (1, 1)] := ⟨⟨_, Try.underlying73, by kernel_rfl⟩⟩
instance : UStruct Try.prog 79 [(0, 1), (1, 1), (2, 1), (3, 1)] := ⟨⟨_, Try.underlying79, by kernel_rfl⟩⟩
instance : UStruct Try.prog 80 [(0, 1), (1, 1), (2, 1), (3, 1)] := ⟨⟨_, Try.underlying80, by kernel_rfl⟩⟩
instance : UStruct Try.prog 82 [(0, 0)] := ⟨⟨_, Try.underlying82, by kernel_rfl⟩⟩
instance : UStruct Try.prog 83 [(0, 0)] := ⟨⟨_, Try.underlying83, by kernel_rfl⟩⟩
instance : UStruct Try.prog 91 [(0, 1), (1, 1), (2, 1), (3, 1), (4, 1), (5, 1), (6, 1), (7, 1), (8, 1), (9, 1), (10, 1)] := ⟨⟨_, Try.underlying91, by kernel_rfl⟩⟩
instance : UStruct Try.prog 92 [(0, 1), (1, 1), (2, 1), (3, 1), (4, 1), (5, 1), (6, 1), (7, 1), (8, 1), (9, 1), (10, 1)] := ⟨⟨_, Try.underlying92, by kernel_rfl⟩⟩
end Go.Proofs.Ytgmhldapndhoeaa
