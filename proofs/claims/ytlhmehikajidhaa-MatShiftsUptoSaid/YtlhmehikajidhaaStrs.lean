/- The struct types of this translation. -/
import Derived.Test.YtlhmehikajidhaaTypes
import Derived.Test.YtlhmehikajidhaaEngS
set_option linter.unusedVariables false
namespace Go.Proofs.Ytlhmehikajidhaa
open Go Go.Eng Go.Proofs
instance : UStruct Try.prog 7 [(0, 1), (1, 1), (2, 1), (3, 1)] := ⟨⟨_, Try.underlying7, by kernel_rfl⟩⟩
instance : UStruct Try.prog 8 [(0, 1), (1, 1), (2, 1), (3, 1)] := ⟨⟨_, Try.underlying8, by kernel_rfl⟩⟩
instance : UStruct Try.prog 13 [(0, 1), (1, 1)] := ⟨⟨_, Try.underlying13, by kernel_rfl⟩⟩
instance : UStruct Try.prog 14 [(0, 1), (1, 1)] := ⟨⟨_, Try.underlying14, by kernel_rfl⟩⟩
instance : UStruct Try.prog 18 [(0, 1)] := ⟨⟨_, Try.underlying18, by kernel_rfl⟩⟩
instance : UStruct Try.prog 19 [(0, 1)] := ⟨⟨_, Try.underlying19, by kernel_rfl⟩⟩
instance : UStruct Try.prog 23 [(0, 1), (1, 1), (2, 1)] := ⟨⟨_, Try.underlying23, by kernel_rfl⟩⟩
instance : UStruct Try.prog 24 [(0, 1), (1, 1), (2, 1)] := ⟨⟨_, Try.underlying24, by kernel_rfl⟩⟩
instance : UStruct Try.prog 36 [(0, 1), (1, 1)] := ⟨⟨_, Try.underlying36, by kernel_rfl⟩⟩
instance : UStruct Try.prog 37 [(0, 1), (1, 1)] := ⟨⟨_, Try.underlying37, by kernel_rfl⟩⟩
instance : UStruct Try.prog 61 [(0, 1), (1, 3), (4, 3), (7, 1), (8, 2), (10, 1), (11, 1), (12, 1), (13, 1), (14, 1)] := ⟨⟨_, Try.underlying61, by kernel_rfl⟩⟩
instance : UStruct Try.prog 62 [(0, 1), (1, 3), (4, 3), (7, 1), (8, 2), (10, 1), (11, 1), (12, 1), (13, 1), (14, 1)] := ⟨⟨_, Try.underlying62, by kernel_rfl⟩⟩
instance : UStruct Try.prog 64 [(0, 3), (3, 2), (5, 1), (6, 1), (7, 1), (8, 1), (9, 1)] := ⟨⟨_, Try.underlying64, by kernel_rfl⟩⟩
instance : UStruct Try.prog 65 [(0, 3), (3, 2), (5, 1), (6, 1), (7, 1), (8, 1), (9, 1)] := ⟨⟨_, Try.underlying65, by kernel_rfl⟩⟩
instance : UStruct Try.prog 110 [(0, 1), (1, 1), (2, 1), (3, 1)] := ⟨⟨_, Try.underlying110, by kernel_rfl⟩⟩
instance : UStruct Try.prog 111 [(0, 1), (1, 1), (2, 1), (3, 1)] := ⟨⟨_, Try.underlying111, by kernel_rfl⟩⟩
instance : UStruct Try.prog 113 [(0, 0)] := ⟨⟨_, Try.underlying113, by kernel_rfl⟩⟩
instance : UStruct Try.prog 114 [(0, 0)] := ⟨⟨_, Try.underlying114, by kernel_rfl⟩⟩
instance : UStruct Try.prog 123 [(0, 1), (1, 1), (2, 1), (3, 1), (4, 1), (5, 1), (6, 1), (7, 1), (8, 1), (9, 1), (10, 1)] := ⟨⟨_, Try.underlying123, by kernel_rfl⟩⟩
instance : UStruct Try.prog 124 [(0, 1), (1, 1), (2, 1), (3, 1), (4, 1), (5, 1), (6, 1), (7, 1), (8, 1), (9, 1), (10, 1)] := ⟨⟨_, Try.underlying124, by kernel_rfl⟩⟩
end Go.Proofs.Ytlhmehikajidhaa
