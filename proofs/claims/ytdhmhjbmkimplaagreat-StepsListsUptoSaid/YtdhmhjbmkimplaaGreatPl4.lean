/- The types and functions of this translation, as the engine asks for them. The struct types of this translation. Plain laws of naturals as lists of words to the base 2^64, the lowest first. No program in sight. Layer 1: contracts of package nat. -/
import Derived.Test.YtdhmhjbmkimplaaGreatProg
import Derived.Test.YtdhmhjbmkimplaaGreatPl2
import Derived.Test.YtdhmhjbmkimplaaGreatPl3
set_option linter.unusedVariables false
set_option linter.unusedSimpArgs false
namespace Go.Proofs.YtdhmhjbmkimplaaGreat
open Go Go.Eng Go.Proofs
instance : USize Tryz.prog 1 (.nilFunc) 1 8 := ⟨by kernel_rfl⟩
instance : UOne Tryz.prog 1 := ⟨⟨_, Tryz.underlying1, rfl⟩⟩
instance : USize Tryz.prog 2 (.int .i64 0) 1 8 := ⟨by kernel_rfl⟩
instance : UInt Tryz.prog 2 .i64 := ⟨Tryz.underlying2⟩
instance : UOne Tryz.prog 2 := ⟨⟨_, Tryz.underlying2, rfl⟩⟩
instance : USize Tryz.prog 3 (.int .i64 0) 1 8 := ⟨by kernel_rfl⟩
instance : UInt Tryz.prog 3 .i64 := ⟨Tryz.underlying3⟩
instance : UOne Tryz.prog 3 := ⟨⟨_, Tryz.underlying3, rfl⟩⟩
instance : USize Tryz.prog 4 (.bool false) 1 1 := ⟨by kernel_rfl⟩
instance : UBool Tryz.prog 4 := ⟨Tryz.underlying4⟩
instance : UOne Tryz.prog 4 := ⟨⟨_, Tryz.underlying4, rfl⟩⟩
instance : USize Tryz.prog 5 (.int .u8 0) 1 1 := ⟨by kernel_rfl⟩
instance : UInt Tryz.prog 5 .u8 := ⟨Tryz.underlying5⟩
instance : UOne Tryz.prog 5 := ⟨⟨_, Tryz.underlying5, rfl⟩⟩
instance : USize Tryz.prog 6 (.int .u8 0) 1 1 := ⟨by kernel_rfl⟩
instance : UInt Tryz.prog 6 .u8 := ⟨Tryz.underlying6⟩
instance : UOne Tryz.prog 6 := ⟨⟨_, Tryz.underlying6, rfl⟩⟩
instance : USize Tryz.prog 7 (.agg #[.int .i64 0, .int .i64 0, .bool false, .int .u8 0]) 4 24 := ⟨by kernel_rfl⟩
instance : UAgg Tryz.prog 7 := ⟨⟨_, Tryz.underlying7⟩⟩
instance : UField Tryz.prog 7 0 2 0 := ⟨⟨_, _, Tryz.underlying7, rfl, rfl, rfl, by kernel_rfl⟩⟩
instance : UField Tryz.prog 7 1 3 1 := ⟨⟨_, _, Tryz.underlying7, rfl, rfl, rfl, by kernel_rfl⟩⟩
instance : UField Tryz.prog 7 2 4 2 := ⟨⟨_, _, Tryz.underlying7, rfl, rfl, rfl, by kernel_rfl⟩⟩
instance : UField Tryz.prog 7 3 6 3 := ⟨⟨_, _, Tryz.underlying7, rfl, rfl, rfl, by kernel_rfl⟩⟩
instance : USize Tryz.prog 8 (.agg #[.int .i64 0, .int .i64 0, .bool false, .int .u8 0]) 4 24 := ⟨by kernel_rfl⟩
instance : UAgg Tryz.prog 8 := ⟨⟨_, Tryz.underlying8⟩⟩
instance : UField Tryz.prog 8 0 2 0 := ⟨⟨_, _, Tryz.underlying8, rfl, rfl, rfl, by kernel_rfl⟩⟩
instance : UField Tryz.prog 8 1 3 1 := ⟨⟨_, _, Tryz.underlying8, rfl, rfl, rfl, by kernel_rfl⟩⟩
instance : UField Tryz.prog 8 2 4 2 := ⟨⟨_, _, Tryz.underlying8, rfl, rfl, rfl, by kernel_rfl⟩⟩
instance : UField Tryz.prog 8 3 6 3 := ⟨⟨_, _, Tryz.underlying8, rfl, rfl, rfl, by kernel_rfl⟩⟩
instance : USize Tryz.prog 9 (.string ⟨#[]⟩) 1 16 := ⟨by kernel_rfl⟩
instance : UOne Tryz.prog 9 := ⟨⟨_, Tryz.underlying9, rfl⟩⟩
instance : USize Tryz.prog 10 (.string ⟨#[]⟩) 1 16 := ⟨by kernel_rfl⟩
instance : UOne Tryz.prog 10 := ⟨⟨_, Tryz.underlying10, rfl⟩⟩
instance : USize Tryz.prog 11 (.string ⟨#[]⟩) 1 16 := ⟨by kernel_rfl⟩
instance : UOne Tryz.prog 11 := ⟨⟨_, Tryz.underlying11, rfl⟩⟩
instance : USize Tryz.prog 12 (.int .u64 0) 1 8 := ⟨by kernel_rfl⟩
instance : UInt Tryz.prog 12 .u64 := ⟨Tryz.underlying12⟩
instance : UOne Tryz.prog 12 := ⟨⟨_, Tryz.underlying12, rfl⟩⟩
instance : USize Tryz.prog 13 (.agg #[.string ⟨#[]⟩, .int .u64 0]) 2 24 := ⟨by kernel_rfl⟩
instance : UAgg Tryz.prog 13 := ⟨⟨_, Tryz.underlying13⟩⟩
instance : UField Tryz.prog 13 0 9 0 := ⟨⟨_, _, Tryz.underlying13, rfl, rfl, rfl, by kernel_rfl⟩⟩
instance : UField Tryz.prog 13 1 12 1 := ⟨⟨_, _, Tryz.underlying13, rfl, rfl, rfl, by kernel_rfl⟩⟩
instance : USize Tryz.prog 14 (.agg #[.string ⟨#[]⟩, .int .u64 0]) 2 24 := ⟨by kernel_rfl⟩
instance : UAgg Tryz.prog 14 := ⟨⟨_, Tryz.underlying14⟩⟩
instance : UField Tryz.prog 14 0 9 0 := ⟨⟨_, _, Tryz.underlying14, rfl, rfl, rfl, by kernel_rfl⟩⟩
instance : UField Tryz.prog 14 1 12 1 := ⟨⟨_, _, Tryz.underlying14, rfl, rfl, rfl, by kernel_rfl⟩⟩
instance : USize Tryz.prog 15 (.pointer none) 1 8 := ⟨by kernel_rfl⟩
instance : UOne Tryz.prog 15 := ⟨⟨_, Tryz.underlying15, rfl⟩⟩
instance : USize Tryz.prog 16 (.pointer none) 1 8 := ⟨by kernel_rfl⟩
instance : UOne Tryz.prog 16 := ⟨⟨_, Tryz.underlying16, rfl⟩⟩
instance : USize Tryz.prog 17 (.pointer none) 1 8 := ⟨by kernel_rfl⟩
instance : UOne Tryz.prog 17 := ⟨⟨_, Tryz.underlying17, rfl⟩⟩
instance : USize Tryz.prog 18 (.agg #[.pointer none]) 1 8 := ⟨by kernel_rfl⟩
instance : UAgg Tryz.prog 18 := ⟨⟨_, Tryz.underlying18⟩⟩
instance : UField Tryz.prog 18 0 17 0 := ⟨⟨_, _, Tryz.underlying18, rfl, rfl, rfl, by kernel_rfl⟩⟩
instance : USize Tryz.prog 19 (.agg #[.pointer none]) 1 8 := ⟨by kernel_rfl⟩
instance : UAgg Tryz.prog 19 := ⟨⟨_, Tryz.underlying19⟩⟩
instance : UField Tryz.prog 19 0 17 0 := ⟨⟨_, _, Tryz.underlying19, rfl, rfl, rfl, by kernel_rfl⟩⟩
instance : USize Tryz.prog 20 (.nilIface) 1 16 := ⟨by kernel_rfl⟩
instance : UOne Tryz.prog 20 := ⟨⟨_, Tryz.underlying20, rfl⟩⟩
instance : USize Tryz.prog 21 (.int .i32 0) 1 4 := ⟨by kernel_rfl⟩
instance : UInt Tryz.prog 21 .i32 := ⟨Tryz.underlying21⟩
instance : UOne Tryz.prog 21 := ⟨⟨_, Tryz.underlying21, rfl⟩⟩
instance : USize Tryz.prog 22 (.slice none 0 0) 1 24 := ⟨by kernel_rfl⟩
instance : USlice Tryz.prog 22 51 := ⟨Tryz.underlying22⟩
instance : UOne Tryz.prog 22 := ⟨⟨_, Tryz.underlying22, rfl⟩⟩
instance : USize Tryz.prog 23 (.agg #[.int .i64 0, .int .i64 0, .slice none 0 0]) 3 40 := ⟨by kernel_rfl⟩
instance : UAgg Tryz.prog 23 := ⟨⟨_, Tryz.underlying23⟩⟩
instance : UField Tryz.prog 23 0 3 0 := ⟨⟨_, _, Tryz.underlying23, rfl, rfl, rfl, by kernel_rfl⟩⟩
instance : UField Tryz.prog 23 1 3 1 := ⟨⟨_, _, Tryz.underlying23, rfl, rfl, rfl, by kernel_rfl⟩⟩
instance : UField Tryz.prog 23 2 22 2 := ⟨⟨_, _, Tryz.underlying23, rfl, rfl, rfl, by kernel_rfl⟩⟩
instance : USize Tryz.prog 24 (.agg #[.int .i64 0, .int .i64 0, .slice none 0 0]) 3 40 := ⟨by kernel_rfl⟩
instance : UAgg Tryz.prog 24 := ⟨⟨_, Tryz.underlying24⟩⟩
instance : UField Tryz.prog 24 0 3 0 := ⟨⟨_, _, Tryz.underlying24, rfl, rfl, rfl, by kernel_rfl⟩⟩
instance : UField Tryz.prog 24 1 3 1 := ⟨⟨_, _, Tryz.underlying24, rfl, rfl, rfl, by kernel_rfl⟩⟩
instance : UField Tryz.prog 24 2 22 2 := ⟨⟨_, _, Tryz.underlying24, rfl, rfl, rfl, by kernel_rfl⟩⟩
instance : USize Tryz.prog 25 (.slice none 0 0) 1 24 := ⟨by kernel_rfl⟩
instance : USlice Tryz.prog 25 53 := ⟨Tryz.underlying25⟩
instance : UOne Tryz.prog 25 := ⟨⟨_, Tryz.underlying25, rfl⟩⟩
instance : USize Tryz.prog 26 (.nilFunc) 1 8 := ⟨by kernel_rfl⟩
instance : UOne Tryz.prog 26 := ⟨⟨_, Tryz.underlying26, rfl⟩⟩
instance : USize Tryz.prog 27 (.int .i64 0) 1 8 := ⟨by kernel_rfl⟩
instance : UInt Tryz.prog 27 .i64 := ⟨Tryz.underlying27⟩
instance : UOne Tryz.prog 27 := ⟨⟨_, Tryz.underlying27, rfl⟩⟩
instance : USize Tryz.prog 29 (.nilFunc) 1 8 := ⟨by kernel_rfl⟩
instance : UOne Tryz.prog 29 := ⟨⟨_, Tryz.underlying29, rfl⟩⟩
instance : USize Tryz.prog 30 (.nilFunc) 1 8 := ⟨by kernel_rfl⟩
instance : UOne Tryz.prog 30 := ⟨⟨_, Tryz.underlying30, rfl⟩⟩
instance : USize Tryz.prog 32 (.nilFunc) 1 8 := ⟨by kernel_rfl⟩
instance : UOne Tryz.prog 32 := ⟨⟨_, Tryz.underlying32, rfl⟩⟩
instance : USize Tryz.prog 33 (.nilFunc) 1 8 := ⟨by kernel_rfl⟩
instance : UOne Tryz.prog 33 := ⟨⟨_, Tryz.underlying33, rfl⟩⟩
instance : USize Tryz.prog 34 (.nilFunc) 1 8 := ⟨by kernel_rfl⟩
instance : UOne Tryz.prog 34 := ⟨⟨_, Tryz.underlying34, rfl⟩⟩
instance : USize Tryz.prog 35 (.nilFunc) 1 8 := ⟨by kernel_rfl⟩
instance : UOne Tryz.prog 35 := ⟨⟨_, Tryz.underlying35, rfl⟩⟩
instance : USize Tryz.prog 37 (.nilFunc) 1 8 := ⟨by kernel_rfl⟩
instance : UOne Tryz.prog 37 := ⟨⟨_, Tryz.underlying37, rfl⟩⟩
instance : USize Tryz.prog 38 (.nilFunc) 1 8 := ⟨by kernel_rfl⟩
instance : UOne Tryz.prog 38 := ⟨⟨_, Tryz.underlying38, rfl⟩⟩
instance : USize Tryz.prog 39 (.nilFunc) 1 8 := ⟨by kernel_rfl⟩
instance : UOne Tryz.prog 39 := ⟨⟨_, Tryz.underlying39, rfl⟩⟩
instance : USize Tryz.prog 40 (.slice none 0 0) 1 24 := ⟨by kernel_rfl⟩
instance : USlice Tryz.prog 40 55 := ⟨Tryz.underlying40⟩
instance : UOne Tryz.prog 40 := ⟨⟨_, Tryz.underlying40, rfl⟩⟩
instance : USize Tryz.prog 41 (.pointer none) 1 8 := ⟨by kernel_rfl⟩
instance : UOne Tryz.prog 41 := ⟨⟨_, Tryz.underlying41, rfl⟩⟩
instance : USize Tryz.prog 43 (.nilFunc) 1 8 := ⟨by kernel_rfl⟩
instance : UOne Tryz.prog 43 := ⟨⟨_, Tryz.underlying43, rfl⟩⟩
instance : USize Tryz.prog 44 (.agg #[.int .i64 0, .int .i64 0, .slice none 0 0, .slice none 0 0, .slice none 0 0]) 5 88 := ⟨by kernel_rfl⟩
instance : UAgg Tryz.prog 44 := ⟨⟨_, Tryz.underlying44⟩⟩
instance : UField Tryz.prog 44 0 24 0 := ⟨⟨_, _, Tryz.underlying44, rfl, rfl, rfl, by kernel_rfl⟩⟩
instance : UField Tryz.prog 44 1 25 3 := ⟨⟨_, _, Tryz.underlying44, rfl, rfl, rfl, by kernel_rfl⟩⟩
instance : UField Tryz.prog 44 2 25 4 := ⟨⟨_, _, Tryz.underlying44, rfl, rfl, rfl, by kernel_rfl⟩⟩
instance : USize Tryz.prog 45 (.agg #[.int .i64 0, .int .i64 0, .slice none 0 0, .slice none 0 0, .slice none 0 0]) 5 88 := ⟨by kernel_rfl⟩
instance : UAgg Tryz.prog 45 := ⟨⟨_, Tryz.underlying45⟩⟩
instance : UField Tryz.prog 45 0 24 0 := ⟨⟨_, _, Tryz.underlying45, rfl, rfl, rfl, by kernel_rfl⟩⟩
instance : UField Tryz.prog 45 1 25 3 := ⟨⟨_, _, Tryz.underlying45, rfl, rfl, rfl, by kernel_rfl⟩⟩
instance : UField Tryz.prog 45 2 25 4 := ⟨⟨_, _, Tryz.underlying45, rfl, rfl, rfl, by kernel_rfl⟩⟩
instance : USize Tryz.prog 47 (.nilFunc) 1 8 := ⟨by kernel_rfl⟩
instance : UOne Tryz.prog 47 := ⟨⟨_, Tryz.underlying47, rfl⟩⟩
instance : USize Tryz.prog 48 (.nilFunc) 1 8 := ⟨by kernel_rfl⟩
instance : UOne Tryz.prog 48 := ⟨⟨_, Tryz.underlying48, rfl⟩⟩
instance : USize Tryz.prog 49 (.slice none 0 0) 1 24 := ⟨by kernel_rfl⟩
instance : USlice Tryz.prog 49 101 := ⟨Tryz.underlying49⟩
instance : UOne Tryz.prog 49 := ⟨⟨_, Tryz.underlying49, rfl⟩⟩
instance : USize Tryz.prog 50 (.agg #[.bool false, .slice none 0 0]) 2 32 := ⟨by kernel_rfl⟩
instance : UAgg Tryz.prog 50 := ⟨⟨_, Tryz.underlying50⟩⟩
instance : UField Tryz.prog 50 0 4 0 := ⟨⟨_, _, Tryz.underlying50, rfl, rfl, rfl, by kernel_rfl⟩⟩
instance : UField Tryz.prog 50 1 49 1 := ⟨⟨_, _, Tryz.underlying50, rfl, rfl, rfl, by kernel_rfl⟩⟩
instance : USize Tryz.prog 51 (.agg #[.bool false, .slice none 0 0]) 2 32 := ⟨by kernel_rfl⟩
instance : UAgg Tryz.prog 51 := ⟨⟨_, Tryz.underlying51⟩⟩
instance : UField Tryz.prog 51 0 4 0 := ⟨⟨_, _, Tryz.underlying51, rfl, rfl, rfl, by kernel_rfl⟩⟩
instance : UField Tryz.prog 51 1 49 1 := ⟨⟨_, _, Tryz.underlying51, rfl, rfl, rfl, by kernel_rfl⟩⟩
instance : USize Tryz.prog 52 (.agg #[.int .i64 0, .int .i64 0, .int .i64 0, .bool false, .slice none 0 0]) 5 56 := ⟨by kernel_rfl⟩
instance : UAgg Tryz.prog 52 := ⟨⟨_, Tryz.underlying52⟩⟩
instance : UField Tryz.prog 52 0 3 0 := ⟨⟨_, _, Tryz.underlying52, rfl, rfl, rfl, by kernel_rfl⟩⟩
instance : UField Tryz.prog 52 1 3 1 := ⟨⟨_, _, Tryz.underlying52, rfl, rfl, rfl, by kernel_rfl⟩⟩
instance : UField Tryz.prog 52 2 3 2 := ⟨⟨_, _, Tryz.underlying52, rfl, rfl, rfl, by kernel_rfl⟩⟩
instance : UField Tryz.prog 52 3 51 3 := ⟨⟨_, _, Tryz.underlying52, rfl, rfl, rfl, by kernel_rfl⟩⟩
instance : USize Tryz.prog 53 (.agg #[.int .i64 0, .int .i64 0, .int .i64 0, .bool false, .slice none 0 0]) 5 56 := ⟨by kernel_rfl⟩
instance : UAgg Tryz.prog 53 := ⟨⟨_, Tryz.underlying53⟩⟩
instance : UField Tryz.prog 53 0 3 0 := ⟨⟨_, _, Tryz.underlying53, rfl, rfl, rfl, by kernel_rfl⟩⟩
instance : UField Tryz.prog 53 1 3 1 := ⟨⟨_, _, Tryz.underlying53, rfl, rfl, rfl, by kernel_rfl⟩⟩
instance : UField Tryz.prog 53 2 3 2 := ⟨⟨_, _, Tryz.underlying53, rfl, rfl, rfl, by kernel_rfl⟩⟩
instance : UField Tryz.prog 53 3 51 3 := ⟨⟨_, _, Tryz.underlying53, rfl, rfl, rfl, by kernel_rfl⟩⟩
instance : USize Tryz.prog 54 (.agg #[.int .i64 0, .int .i64 0, .int .i64 0, .int .i64 0, .int .i64 0, .bool false, .slice none 0 0]) 7 72 := ⟨by kernel_rfl⟩
instance : UAgg Tryz.prog 54 := ⟨⟨_, Tryz.underlying54⟩⟩
instance : UField Tryz.prog 54 0 3 0 := ⟨⟨_, _, Tryz.underlying54, rfl, rfl, rfl, by kernel_rfl⟩⟩
instance : UField Tryz.prog 54 1 3 1 := ⟨⟨_, _, Tryz.underlying54, rfl, rfl, rfl, by kernel_rfl⟩⟩
instance : UField Tryz.prog 54 2 53 2 := ⟨⟨_, _, Tryz.underlying54, rfl, rfl, rfl, by kernel_rfl⟩⟩
instance : USize Tryz.prog 55 (.agg #[.int .i64 0, .int .i64 0, .int .i64 0, .int .i64 0, .int .i64 0, .bool false, .slice none 0 0]) 7 72 := ⟨by kernel_rfl⟩
instance : UAgg Tryz.prog 55 := ⟨⟨_, Tryz.underlying55⟩⟩
instance : UField Tryz.prog 55 0 3 0 := ⟨⟨_, _, Tryz.underlying55, rfl, rfl, rfl, by kernel_rfl⟩⟩
instance : UField Tryz.prog 55 1 3 1 := ⟨⟨_, _, Tryz.underlying55, rfl, rfl, rfl, by kernel_rfl⟩⟩
instance : UField Tryz.prog 55 2 53 2 := ⟨⟨_, _, Tryz.underlying55, rfl, rfl, rfl, by kernel_rfl⟩⟩
instance : USize Tryz.prog 56 (.nilFunc) 1 8 := ⟨by kernel_rfl⟩
instance : UOne Tryz.prog 56 := ⟨⟨_, Tryz.underlying56, rfl⟩⟩
instance : USize Tryz.prog 57 (.pointer none) 1 8 := ⟨by kernel_rfl⟩
instance : UOne Tryz.prog 57 := ⟨⟨_, Tryz.underlying57, rfl⟩⟩
instance : USize Tryz.prog 58 (.nilFunc) 1 8 := ⟨by kernel_rfl⟩
instance : UOne Tryz.prog 58 := ⟨⟨_, Tryz.underlying58, rfl⟩⟩
instance : USize Tryz.prog 59 (.nilFunc) 1 8 := ⟨by kernel_rfl⟩
instance : UOne Tryz.prog 59 := ⟨⟨_, Tryz.underlying59, rfl⟩⟩
instance : USize Tryz.prog 60 (.nilFunc) 1 8 := ⟨by kernel_rfl⟩
instance : UOne Tryz.prog 60 := ⟨⟨_, Tryz.underlying60, rfl⟩⟩
instance : USize Tryz.prog 61 (.nilFunc) 1 8 := ⟨by kernel_rfl⟩
instance : UOne Tryz.prog 61 := ⟨⟨_, Tryz.underlying61, rfl⟩⟩
instance : USize Tryz.prog 62 (.pointer none) 1 8 := ⟨by kernel_rfl⟩
instance : UOne Tryz.prog 62 := ⟨⟨_, Tryz.underlying62, rfl⟩⟩
instance : USize Tryz.prog 63 (.nilFunc) 1 8 := ⟨by kernel_rfl⟩
instance : UOne Tryz.prog 63 := ⟨⟨_, Tryz.underlying63, rfl⟩⟩
instance : USize Tryz.prog 64 (.nilFunc) 1 8 := ⟨by kernel_rfl⟩
instance : UOne Tryz.prog 64 := ⟨⟨_, Tryz.underlying64, rfl⟩⟩
instance : USize Tryz.prog 65 (.pointer none) 1 8 := ⟨by kernel_rfl⟩
instance : UOne Tryz.prog 65 := ⟨⟨_, Tryz.underlying65, rfl⟩⟩
instance : USize Tryz.prog 66 (.slice none 0 0) 1 24 := ⟨by kernel_rfl⟩
instance : USlice Tryz.prog 66 49 := ⟨Tryz.underlying66⟩
instance : UOne Tryz.prog 66 := ⟨⟨_, Tryz.underlying66, rfl⟩⟩
instance : USize Tryz.prog 67 (.slice none 0 0) 1 24 := ⟨by kernel_rfl⟩
instance : USlice Tryz.prog 67 22 := ⟨Tryz.underlying67⟩
instance : UOne Tryz.prog 67 := ⟨⟨_, Tryz.underlying67, rfl⟩⟩
instance : USize Tryz.prog 68 (.slice none 0 0) 1 24 := ⟨by kernel_rfl⟩
instance : USlice Tryz.prog 68 154 := ⟨Tryz.underlying68⟩
instance : UOne Tryz.prog 68 := ⟨⟨_, Tryz.underlying68, rfl⟩⟩
instance : USize Tryz.prog 69 (.agg #[.slice none 0 0, .slice none 0 0, .slice none 0 0]) 3 72 := ⟨by kernel_rfl⟩
instance : UAgg Tryz.prog 69 := ⟨⟨_, Tryz.underlying69⟩⟩
instance : UField Tryz.prog 69 0 66 0 := ⟨⟨_, _, Tryz.underlying69, rfl, rfl, rfl, by kernel_rfl⟩⟩
instance : UField Tryz.prog 69 1 67 1 := ⟨⟨_, _, Tryz.underlying69, rfl, rfl, rfl, by kernel_rfl⟩⟩
instance : UField Tryz.prog 69 2 68 2 := ⟨⟨_, _, Tryz.underlying69, rfl, rfl, rfl, by kernel_rfl⟩⟩
instance : USize Tryz.prog 70 (.agg #[.slice none 0 0, .slice none 0 0, .slice none 0 0]) 3 72 := ⟨by kernel_rfl⟩
instance : UAgg Tryz.prog 70 := ⟨⟨_, Tryz.underlying70⟩⟩
instance : UField Tryz.prog 70 0 66 0 := ⟨⟨_, _, Tryz.underlying70, rfl, rfl, rfl, by kernel_rfl⟩⟩
instance : UField Tryz.prog 70 1 67 1 := ⟨⟨_, _, Tryz.underlying70, rfl, rfl, rfl, by kernel_rfl⟩⟩
instance : UField Tryz.prog 70 2 68 2 := ⟨⟨_, _, Tryz.underlying70, rfl, rfl, rfl, by kernel_rfl⟩⟩
instance : USize Tryz.prog 71 (.nilFunc) 1 8 := ⟨by kernel_rfl⟩
instance : UOne Tryz.prog 71 := ⟨⟨_, Tryz.underlying71, rfl⟩⟩
instance : USize Tryz.prog 72 (.slice none 0 0) 1 24 := ⟨by kernel_rfl⟩
instance : USlice Tryz.prog 72 24 := ⟨Tryz.underlying72⟩
instance : UOne Tryz.prog 72 := ⟨⟨_, Tryz.underlying72, rfl⟩⟩
instance : USize Tryz.prog 73 (.slice none 0 0) 1 24 := ⟨by kernel_rfl⟩
instance : USlice Tryz.prog 73 25 := ⟨Tryz.underlying73⟩
instance : UOne Tryz.prog 73 := ⟨⟨_, Tryz.underlying73, rfl⟩⟩
instance : USize Tryz.prog 74 (.nilFunc) 1 8 := ⟨by kernel_rfl⟩
instance : UOne Tryz.prog 74 := ⟨⟨_, Tryz.underlying74, rfl⟩⟩
instance : USize Tryz.prog 75 (.nilFunc) 1 8 := ⟨by kernel_rfl⟩
instance : UOne Tryz.prog 75 := ⟨⟨_, Tryz.underlying75, rfl⟩⟩
instance : USize Tryz.prog 76 (.nilFunc) 1 8 := ⟨by kernel_rfl⟩
instance : UOne Tryz.prog 76 := ⟨⟨_, Tryz.underlying76, rfl⟩⟩
instance : USize Tryz.prog 77 (.nilIface) 1 16 := ⟨by kernel_rfl⟩
instance : UOne Tryz.prog 77 := ⟨⟨_, Tryz.underlying77, rfl⟩⟩
instance : USize Tryz.prog 78 (.nilIface) 1 16 := ⟨by kernel_rfl⟩
instance : UOne Tryz.prog 78 := ⟨⟨_, Tryz.underlying78, rfl⟩⟩
instance : USize Tryz.prog 79 (.nilFunc) 1 8 := ⟨by kernel_rfl⟩
instance : UOne Tryz.prog 79 := ⟨⟨_, Tryz.underlying79, rfl⟩⟩
instance : USize Tryz.prog 80 (.nilFunc) 1 8 := ⟨by kernel_rfl⟩
instance : UOne Tryz.prog 80 := ⟨⟨_, Tryz.underlying80, rfl⟩⟩
instance : USize Tryz.prog 81 (.nilFunc) 1 8 := ⟨by kernel_rfl⟩
instance : UOne Tryz.prog 81 := ⟨⟨_, Tryz.underlying81, rfl⟩⟩
instance : USize Tryz.prog 82 (.nilFunc) 1 8 := ⟨by kernel_rfl⟩
instance : UOne Tryz.prog 82 := ⟨⟨_, Tryz.underlying82, rfl⟩⟩
instance : USize Tryz.prog 83 (.nilFunc) 1 8 := ⟨by kernel_rfl⟩
instance : UOne Tryz.prog 83 := ⟨⟨_, Tryz.underlying83, rfl⟩⟩
instance : USize Tryz.prog 84 (.slice none 0 0) 1 24 := ⟨by kernel_rfl⟩
instance : USlice Tryz.prog 84 22 := ⟨Tryz.underlying84⟩
instance : UOne Tryz.prog 84 := ⟨⟨_, Tryz.underlying84, rfl⟩⟩
instance : USize Tryz.prog 85 (.nilFunc) 1 8 := ⟨by kernel_rfl⟩
instance : UOne Tryz.prog 85 := ⟨⟨_, Tryz.underlying85, rfl⟩⟩
instance : USize Tryz.prog 86 (.nilFunc) 1 8 := ⟨by kernel_rfl⟩
instance : UOne Tryz.prog 86 := ⟨⟨_, Tryz.underlying86, rfl⟩⟩
instance : USize Tryz.prog 87 (.nilFunc) 1 8 := ⟨by kernel_rfl⟩
instance : UOne Tryz.prog 87 := ⟨⟨_, Tryz.underlying87, rfl⟩⟩
instance : USize Tryz.prog 88 (.nilFunc) 1 8 := ⟨by kernel_rfl⟩
instance : UOne Tryz.prog 88 := ⟨⟨_, Tryz.underlying88, rfl⟩⟩
instance : USize Tryz.prog 89 (.nilFunc) 1 8 := ⟨by kernel_rfl⟩
instance : UOne Tryz.prog 89 := ⟨⟨_, Tryz.underlying89, rfl⟩⟩
instance : USize Tryz.prog 90 (.nilFunc) 1 8 := ⟨by kernel_rfl⟩
instance : UOne Tryz.prog 90 := ⟨⟨_, Tryz.underlying90, rfl⟩⟩
instance : USize Tryz.prog 91 (.nilFunc) 1 8 := ⟨by kernel_rfl⟩
instance : UOne Tryz.prog 91 := ⟨⟨_, Tryz.underlying91, rfl⟩⟩
instance : USize Tryz.prog 92 (.nilFunc) 1 8 := ⟨by kernel_rfl⟩
instance : UOne Tryz.prog 92 := ⟨⟨_, Tryz.underlying92, rfl⟩⟩
instance : USize Tryz.prog 93 (.nilFunc) 1 8 := ⟨by kernel_rfl⟩
instance : UOne Tryz.prog 93 := ⟨⟨_, Tryz.underlying93, rfl⟩⟩
instance : USize Tryz.prog 94 (.nilFunc) 1 8 := ⟨by kernel_rfl⟩
instance : UOne Tryz.prog 94 := ⟨⟨_, Tryz.underlying94, rfl⟩⟩
instance : USize Tryz.prog 95 (.nilFunc) 1 8 := ⟨by kernel_rfl⟩
instance : UOne Tryz.prog 95 := ⟨⟨_, Tryz.underlying95, rfl⟩⟩
instance : USize Tryz.prog 96 (.slice none 0 0) 1 24 := ⟨by kernel_rfl⟩
instance : USlice Tryz.prog 96 78 := ⟨Tryz.underlying96⟩
instance : UOne Tryz.prog 96 := ⟨⟨_, Tryz.underlying96, rfl⟩⟩
instance : USize Tryz.prog 97 (.agg #[.slice none 0 0, .slice none 0 0]) 2 48 := ⟨by kernel_rfl⟩
instance : UAgg Tryz.prog 97 := ⟨⟨_, Tryz.underlying97⟩⟩
instance : UField Tryz.prog 97 0 96 0 := ⟨⟨_, _, Tryz.underlying97, rfl, rfl, rfl, by kernel_rfl⟩⟩
instance : UField Tryz.prog 97 1 96 1 := ⟨⟨_, _, Tryz.underlying97, rfl, rfl, rfl, by kernel_rfl⟩⟩
instance : USize Tryz.prog 98 (.agg #[.slice none 0 0, .slice none 0 0]) 2 48 := ⟨by kernel_rfl⟩
instance : UAgg Tryz.prog 98 := ⟨⟨_, Tryz.underlying98⟩⟩
instance : UField Tryz.prog 98 0 96 0 := ⟨⟨_, _, Tryz.underlying98, rfl, rfl, rfl, by kernel_rfl⟩⟩
instance : UField Tryz.prog 98 1 96 1 := ⟨⟨_, _, Tryz.underlying98, rfl, rfl, rfl, by kernel_rfl⟩⟩
instance : USize Tryz.prog 99 (.agg #[.slice none 0 0, .slice none 0 0, .slice none 0 0, .int .i64 0]) 4 80 := ⟨by kernel_rfl⟩
instance : UAgg Tryz.prog 99 := ⟨⟨_, Tryz.underlying99⟩⟩
instance : UField Tryz.prog 99 0 98 0 := ⟨⟨_, _, Tryz.underlying99, rfl, rfl, rfl, by kernel_rfl⟩⟩
instance : UField Tryz.prog 99 1 84 2 := ⟨⟨_, _, Tryz.underlying99, rfl, rfl, rfl, by kernel_rfl⟩⟩
instance : UField Tryz.prog 99 2 3 3 := ⟨⟨_, _, Tryz.underlying99, rfl, rfl, rfl, by kernel_rfl⟩⟩
instance : USize Tryz.prog 100 (.agg #[.slice none 0 0, .slice none 0 0, .slice none 0 0, .int .i64 0]) 4 80 := ⟨by kernel_rfl⟩
instance : UAgg Tryz.prog 100 := ⟨⟨_, Tryz.underlying100⟩⟩
instance : UField Tryz.prog 100 0 98 0 := ⟨⟨_, _, Tryz.underlying100, rfl, rfl, rfl, by kernel_rfl⟩⟩
instance : UField Tryz.prog 100 1 84 2 := ⟨⟨_, _, Tryz.underlying100, rfl, rfl, rfl, by kernel_rfl⟩⟩
instance : UField Tryz.prog 100 2 3 3 := ⟨⟨_, _, Tryz.underlying100, rfl, rfl, rfl, by kernel_rfl⟩⟩
instance : USize Tryz.prog 101 (.int .u64 0) 1 8 := ⟨by kernel_rfl⟩
instance : UInt Tryz.prog 101 .u64 := ⟨Tryz.underlying101⟩
instance : UOne Tryz.prog 101 := ⟨⟨_, Tryz.underlying101, rfl⟩⟩
instance : USize Tryz.prog 102 (.nilFunc) 1 8 := ⟨by kernel_rfl⟩
instance : UOne Tryz.prog 102 := ⟨⟨_, Tryz.underlying102, rfl⟩⟩
instance : USize Tryz.prog 103 (.nilFunc) 1 8 := ⟨by kernel_rfl⟩
instance : UOne Tryz.prog 103 := ⟨⟨_, Tryz.underlying103, rfl⟩⟩
instance : USize Tryz.prog 104 (.nilFunc) 1 8 := ⟨by kernel_rfl⟩
instance : UOne Tryz.prog 104 := ⟨⟨_, Tryz.underlying104, rfl⟩⟩
instance : USize Tryz.prog 106 (.nilFunc) 1 8 := ⟨by kernel_rfl⟩
instance : UOne Tryz.prog 106 := ⟨⟨_, Tryz.underlying106, rfl⟩⟩
instance : USize Tryz.prog 107 (.nilFunc) 1 8 := ⟨by kernel_rfl⟩
instance : UOne Tryz.prog 107 := ⟨⟨_, Tryz.underlying107, rfl⟩⟩
instance : USize Tryz.prog 108 (.pointer none) 1 8 := ⟨by kernel_rfl⟩
instance : UOne Tryz.prog 108 := ⟨⟨_, Tryz.underlying108, rfl⟩⟩
instance : USize Tryz.prog 109 (.agg #[.slice none 0 0, .slice none 0 0]) 2 48 := ⟨by kernel_rfl⟩
instance : UAgg Tryz.prog 109 := ⟨⟨_, Tryz.underlying109⟩⟩
instance : UField Tryz.prog 109 0 84 0 := ⟨⟨_, _, Tryz.underlying109, rfl, rfl, rfl, by kernel_rfl⟩⟩
instance : UField Tryz.prog 109 1 25 1 := ⟨⟨_, _, Tryz.underlying109, rfl, rfl, rfl, by kernel_rfl⟩⟩
instance : USize Tryz.prog 110 (.agg #[.slice none 0 0, .slice none 0 0]) 2 48 := ⟨by kernel_rfl⟩
instance : UAgg Tryz.prog 110 := ⟨⟨_, Tryz.underlying110⟩⟩
instance : UField Tryz.prog 110 0 84 0 := ⟨⟨_, _, Tryz.underlying110, rfl, rfl, rfl, by kernel_rfl⟩⟩
instance : UField Tryz.prog 110 1 25 1 := ⟨⟨_, _, Tryz.underlying110, rfl, rfl, rfl, by kernel_rfl⟩⟩
instance : USize Tryz.prog 111 (.nilFunc) 1 8 := ⟨by kernel_rfl⟩
instance : UOne Tryz.prog 111 := ⟨⟨_, Tryz.underlying111, rfl⟩⟩
instance : USize Tryz.prog 112 (.nilFunc) 1 8 := ⟨by kernel_rfl⟩
instance : UOne Tryz.prog 112 := ⟨⟨_, Tryz.underlying112, rfl⟩⟩
instance : USize Tryz.prog 113 (.nilFunc) 1 8 := ⟨by kernel_rfl⟩
instance : UOne Tryz.prog 113 := ⟨⟨_, Tryz.underlying113, rfl⟩⟩
instance : USize Tryz.prog 114 (.agg #[.int .i64 0, .int .i64 0, .bool false, .slice none 0 0]) 4 48 := ⟨by kernel_rfl⟩
instance : UAgg Tryz.prog 114 := ⟨⟨_, Tryz.underlying114⟩⟩
instance : UField Tryz.prog 114 0 3 0 := ⟨⟨_, _, Tryz.underlying114, rfl, rfl, rfl, by kernel_rfl⟩⟩
instance : UField Tryz.prog 114 1 3 1 := ⟨⟨_, _, Tryz.underlying114, rfl, rfl, rfl, by kernel_rfl⟩⟩
instance : UField Tryz.prog 114 2 51 2 := ⟨⟨_, _, Tryz.underlying114, rfl, rfl, rfl, by kernel_rfl⟩⟩
instance : USize Tryz.prog 115 (.agg #[.int .i64 0, .int .i64 0, .bool false, .slice none 0 0]) 4 48 := ⟨by kernel_rfl⟩
instance : UAgg Tryz.prog 115 := ⟨⟨_, Tryz.underlying115⟩⟩
instance : UField Tryz.prog 115 0 3 0 := ⟨⟨_, _, Tryz.underlying115, rfl, rfl, rfl, by kernel_rfl⟩⟩
instance : UField Tryz.prog 115 1 3 1 := ⟨⟨_, _, Tryz.underlying115, rfl, rfl, rfl, by kernel_rfl⟩⟩
instance : UField Tryz.prog 115 2 51 2 := ⟨⟨_, _, Tryz.underlying115, rfl, rfl, rfl, by kernel_rfl⟩⟩
instance : USize Tryz.prog 117 (.nilFunc) 1 8 := ⟨by kernel_rfl⟩
instance : UOne Tryz.prog 117 := ⟨⟨_, Tryz.underlying117, rfl⟩⟩
instance : USize Tryz.prog 118 (.agg #[.slice none 0 0, .slice none 0 0, .slice none 0 0]) 3 72 := ⟨by kernel_rfl⟩
instance : UAgg Tryz.prog 118 := ⟨⟨_, Tryz.underlying118⟩⟩
instance : UField Tryz.prog 118 0 22 0 := ⟨⟨_, _, Tryz.underlying118, rfl, rfl, rfl, by kernel_rfl⟩⟩
instance : UField Tryz.prog 118 1 66 1 := ⟨⟨_, _, Tryz.underlying118, rfl, rfl, rfl, by kernel_rfl⟩⟩
instance : UField Tryz.prog 118 2 22 2 := ⟨⟨_, _, Tryz.underlying118, rfl, rfl, rfl, by kernel_rfl⟩⟩
instance : USize Tryz.prog 119 (.agg #[.slice none 0 0, .slice none 0 0, .slice none 0 0]) 3 72 := ⟨by kernel_rfl⟩
instance : UAgg Tryz.prog 119 := ⟨⟨_, Tryz.underlying119⟩⟩
instance : UField Tryz.prog 119 0 22 0 := ⟨⟨_, _, Tryz.underlying119, rfl, rfl, rfl, by kernel_rfl⟩⟩
instance : UField Tryz.prog 119 1 66 1 := ⟨⟨_, _, Tryz.underlying119, rfl, rfl, rfl, by kernel_rfl⟩⟩
instance : UField Tryz.prog 119 2 22 2 := ⟨⟨_, _, Tryz.underlying119, rfl, rfl, rfl, by kernel_rfl⟩⟩
instance : USize Tryz.prog 120 (.nilFunc) 1 8 := ⟨by kernel_rfl⟩
instance : UOne Tryz.prog 120 := ⟨⟨_, Tryz.underlying120, rfl⟩⟩
instance : USize Tryz.prog 121 (.nilFunc) 1 8 := ⟨by kernel_rfl⟩
instance : UOne Tryz.prog 121 := ⟨⟨_, Tryz.underlying121, rfl⟩⟩
instance : USize Tryz.prog 122 (.nilFunc) 1 8 := ⟨by kernel_rfl⟩
instance : UOne Tryz.prog 122 := ⟨⟨_, Tryz.underlying122, rfl⟩⟩
instance : USize Tryz.prog 123 (.nilFunc) 1 8 := ⟨by kernel_rfl⟩
instance : UOne Tryz.prog 123 := ⟨⟨_, Tryz.underlying123, rfl⟩⟩
instance : USize Tryz.prog 124 (.agg #[.int .i64 0, .int .i64 0]) 2 16 := ⟨by kernel_rfl⟩
instance : UAgg Tryz.prog 124 := ⟨⟨_, Tryz.underlying124⟩⟩
instance : UField Tryz.prog 124 0 3 0 := ⟨⟨_, _, Tryz.underlying124, rfl, rfl, rfl, by kernel_rfl⟩⟩
instance : UField Tryz.prog 124 1 3 1 := ⟨⟨_, _, Tryz.underlying124, rfl, rfl, rfl, by kernel_rfl⟩⟩
instance : USize Tryz.prog 125 (.agg #[.int .i64 0, .int .i64 0]) 2 16 := ⟨by kernel_rfl⟩
instance : UAgg Tryz.prog 125 := ⟨⟨_, Tryz.underlying125⟩⟩
instance : UField Tryz.prog 125 0 3 0 := ⟨⟨_, _, Tryz.underlying125, rfl, rfl, rfl, by kernel_rfl⟩⟩
instance : UField Tryz.prog 125 1 3 1 := ⟨⟨_, _, Tryz.underlying125, rfl, rfl, rfl, by kernel_rfl⟩⟩
instance : USize Tryz.prog 126 (.agg #[.int .i64 0]) 1 8 := ⟨by kernel_rfl⟩
instance : UAgg Tryz.prog 126 := ⟨⟨_, Tryz.underlying126⟩⟩
instance : UField Tryz.prog 126 0 3 0 := ⟨⟨_, _, Tryz.underlying126, rfl, rfl, rfl, by kernel_rfl⟩⟩
instance : USize Tryz.prog 127 (.agg #[.int .i64 0]) 1 8 := ⟨by kernel_rfl⟩
instance : UAgg Tryz.prog 127 := ⟨⟨_, Tryz.underlying127⟩⟩
instance : UField Tryz.prog 127 0 3 0 := ⟨⟨_, _, Tryz.underlying127, rfl, rfl, rfl, by kernel_rfl⟩⟩
instance : USize Tryz.prog 128 (.agg #[]) 0 0 := ⟨by kernel_rfl⟩
instance : UAgg Tryz.prog 128 := ⟨⟨_, Tryz.underlying128⟩⟩
instance : USize Tryz.prog 129 (.agg #[]) 0 0 := ⟨by kernel_rfl⟩
instance : UAgg Tryz.prog 129 := ⟨⟨_, Tryz.underlying129⟩⟩
instance : USize Tryz.prog 130 (.nilFunc) 1 8 := ⟨by kernel_rfl⟩
instance : UOne Tryz.prog 130 := ⟨⟨_, Tryz.underlying130, rfl⟩⟩
instance : USize Tryz.prog 131 (.nilFunc) 1 8 := ⟨by kernel_rfl⟩
instance : UOne Tryz.prog 131 := ⟨⟨_, Tryz.underlying131, rfl⟩⟩
instance : USize Tryz.prog 132 (.nilFunc) 1 8 := ⟨by kernel_rfl⟩
instance : UOne Tryz.prog 132 := ⟨⟨_, Tryz.underlying132, rfl⟩⟩
instance : USize Tryz.prog 133 (.nilFunc) 1 8 := ⟨by kernel_rfl⟩
instance : UOne Tryz.prog 133 := ⟨⟨_, Tryz.underlying133, rfl⟩⟩
instance : USize Tryz.prog 134 (.nilFunc) 1 8 := ⟨by kernel_rfl⟩
instance : UOne Tryz.prog 134 := ⟨⟨_, Tryz.underlying134, rfl⟩⟩
instance : USize Tryz.prog 135 (.nilFunc) 1 8 := ⟨by kernel_rfl⟩
instance : UOne Tryz.prog 135 := ⟨⟨_, Tryz.underlying135, rfl⟩⟩
instance : USize Tryz.prog 136 (.nilFunc) 1 8 := ⟨by kernel_rfl⟩
instance : UOne Tryz.prog 136 := ⟨⟨_, Tryz.underlying136, rfl⟩⟩
instance : USize Tryz.prog 137 (.nilFunc) 1 8 := ⟨by kernel_rfl⟩
instance : UOne Tryz.prog 137 := ⟨⟨_, Tryz.underlying137, rfl⟩⟩
instance : USize Tryz.prog 138 (.nilFunc) 1 8 := ⟨by kernel_rfl⟩
instance : UOne Tryz.prog 138 := ⟨⟨_, Tryz.underlying138, rfl⟩⟩
instance : USize Tryz.prog 139 (.nilFunc) 1 8 := ⟨by kernel_rfl⟩
instance : UOne Tryz.prog 139 := ⟨⟨_, Tryz.underlying139, rfl⟩⟩
instance : USize Tryz.prog 141 (.nilFunc) 1 8 := ⟨by kernel_rfl⟩
instance : UOne Tryz.prog 141 := ⟨⟨_, Tryz.underlying141, rfl⟩⟩
instance : USize Tryz.prog 142 (.nilFunc) 1 8 := ⟨by kernel_rfl⟩
instance : UOne Tryz.prog 142 := ⟨⟨_, Tryz.underlying142, rfl⟩⟩
instance : USize Tryz.prog 144 (.nilFunc) 1 8 := ⟨by kernel_rfl⟩
instance : UOne Tryz.prog 144 := ⟨⟨_, Tryz.underlying144, rfl⟩⟩
instance : USize Tryz.prog 145 (.nilFunc) 1 8 := ⟨by kernel_rfl⟩
instance : UOne Tryz.prog 145 := ⟨⟨_, Tryz.underlying145, rfl⟩⟩
instance : USize Tryz.prog 146 (.nilFunc) 1 8 := ⟨by kernel_rfl⟩
instance : UOne Tryz.prog 146 := ⟨⟨_, Tryz.underlying146, rfl⟩⟩
instance : USize Tryz.prog 148 (.nilFunc) 1 8 := ⟨by kernel_rfl⟩
instance : UOne Tryz.prog 148 := ⟨⟨_, Tryz.underlying148, rfl⟩⟩
instance : USize Tryz.prog 149 (.nilFunc) 1 8 := ⟨by kernel_rfl⟩
instance : UOne Tryz.prog 149 := ⟨⟨_, Tryz.underlying149, rfl⟩⟩
instance : USize Tryz.prog 150 (.nilFunc) 1 8 := ⟨by kernel_rfl⟩
instance : UOne Tryz.prog 150 := ⟨⟨_, Tryz.underlying150, rfl⟩⟩
instance : USize Tryz.prog 151 (.nilFunc) 1 8 := ⟨by kernel_rfl⟩
instance : UOne Tryz.prog 151 := ⟨⟨_, Tryz.underlying151, rfl⟩⟩
instance : USize Tryz.prog 152 (.nilFunc) 1 8 := ⟨by kernel_rfl⟩
instance : UOne Tryz.prog 152 := ⟨⟨_, Tryz.underlying152, rfl⟩⟩
instance : USize Tryz.prog 153 (.nilFunc) 1 8 := ⟨by kernel_rfl⟩
instance : UOne Tryz.prog 153 := ⟨⟨_, Tryz.underlying153, rfl⟩⟩
instance : USize Tryz.prog 154 (.slice none 0 0) 1 24 := ⟨by kernel_rfl⟩
instance : USlice Tryz.prog 154 3 := ⟨Tryz.underlying154⟩
instance : UOne Tryz.prog 154 := ⟨⟨_, Tryz.underlying154, rfl⟩⟩
instance : USize Tryz.prog 155 (.nilFunc) 1 8 := ⟨by kernel_rfl⟩
instance : UOne Tryz.prog 155 := ⟨⟨_, Tryz.underlying155, rfl⟩⟩
instance : USize Tryz.prog 156 (.nilFunc) 1 8 := ⟨by kernel_rfl⟩
instance : UOne Tryz.prog 156 := ⟨⟨_, Tryz.underlying156, rfl⟩⟩
instance : USize Tryz.prog 157 (.pointer none) 1 8 := ⟨by kernel_rfl⟩
instance : UOne Tryz.prog 157 := ⟨⟨_, Tryz.underlying157, rfl⟩⟩
instance : USize Tryz.prog 158 (.nilFunc) 1 8 := ⟨by kernel_rfl⟩
instance : UOne Tryz.prog 158 := ⟨⟨_, Tryz.underlying158, rfl⟩⟩
instance : USize Tryz.prog 160 (.nilFunc) 1 8 := ⟨by kernel_rfl⟩
instance : UOne Tryz.prog 160 := ⟨⟨_, Tryz.underlying160, rfl⟩⟩
instance : USize Tryz.prog 161 (.nilFunc) 1 8 := ⟨by kernel_rfl⟩
instance : UOne Tryz.prog 161 := ⟨⟨_, Tryz.underlying161, rfl⟩⟩
instance : USize Tryz.prog 162 (.nilFunc) 1 8 := ⟨by kernel_rfl⟩
instance : UOne Tryz.prog 162 := ⟨⟨_, Tryz.underlying162, rfl⟩⟩
instance : USize Tryz.prog 163 (.slice none 0 0) 1 24 := ⟨by kernel_rfl⟩
instance : USlice Tryz.prog 163 165 := ⟨Tryz.underlying163⟩
instance : UOne Tryz.prog 163 := ⟨⟨_, Tryz.underlying163, rfl⟩⟩
instance : USize Tryz.prog 164 (.agg #[.bool false, .slice none 0 0, .bool false, .slice none 0 0]) 4 64 := ⟨by kernel_rfl⟩
instance : UAgg Tryz.prog 164 := ⟨⟨_, Tryz.underlying164⟩⟩
instance : UField Tryz.prog 164 0 51 0 := ⟨⟨_, _, Tryz.underlying164, rfl, rfl, rfl, by kernel_rfl⟩⟩
instance : UField Tryz.prog 164 1 51 2 := ⟨⟨_, _, Tryz.underlying164, rfl, rfl, rfl, by kernel_rfl⟩⟩
instance : USize Tryz.prog 165 (.agg #[.bool false, .slice none 0 0, .bool false, .slice none 0 0]) 4 64 := ⟨by kernel_rfl⟩
instance : UAgg Tryz.prog 165 := ⟨⟨_, Tryz.underlying165⟩⟩
instance : UField Tryz.prog 165 0 51 0 := ⟨⟨_, _, Tryz.underlying165, rfl, rfl, rfl, by kernel_rfl⟩⟩
instance : UField Tryz.prog 165 1 51 2 := ⟨⟨_, _, Tryz.underlying165, rfl, rfl, rfl, by kernel_rfl⟩⟩
instance : USize Tryz.prog 167 (.nilFunc) 1 8 := ⟨by kernel_rfl⟩
instance : UOne Tryz.prog 167 := ⟨⟨_, Tryz.underlying167, rfl⟩⟩
instance : USize Tryz.prog 168 (.nilFunc) 1 8 := ⟨by kernel_rfl⟩
instance : UOne Tryz.prog 168 := ⟨⟨_, Tryz.underlying168, rfl⟩⟩
instance : USize Tryz.prog 169 (.nilFunc) 1 8 := ⟨by kernel_rfl⟩
instance : UOne Tryz.prog 169 := ⟨⟨_, Tryz.underlying169, rfl⟩⟩
instance : USize Tryz.prog 171 (.nilFunc) 1 8 := ⟨by kernel_rfl⟩
instance : UOne Tryz.prog 171 := ⟨⟨_, Tryz.underlying171, rfl⟩⟩
instance : USize Tryz.prog 172 (.int .u64 0) 1 8 := ⟨by kernel_rfl⟩
instance : UInt Tryz.prog 172 .u64 := ⟨Tryz.underlying172⟩
instance : UOne Tryz.prog 172 := ⟨⟨_, Tryz.underlying172, rfl⟩⟩
instance : USize Tryz.prog 173 (.nilFunc) 1 8 := ⟨by kernel_rfl⟩
instance : UOne Tryz.prog 173 := ⟨⟨_, Tryz.underlying173, rfl⟩⟩
instance : USize Tryz.prog 174 (.nilFunc) 1 8 := ⟨by kernel_rfl⟩
instance : UOne Tryz.prog 174 := ⟨⟨_, Tryz.underlying174, rfl⟩⟩
instance : USize Tryz.prog 175 (.nilFunc) 1 8 := ⟨by kernel_rfl⟩
instance : UOne Tryz.prog 175 := ⟨⟨_, Tryz.underlying175, rfl⟩⟩
instance : USize Tryz.prog 176 (.nilFunc) 1 8 := ⟨by kernel_rfl⟩
instance : UOne Tryz.prog 176 := ⟨⟨_, Tryz.underlying176, rfl⟩⟩
instance : USize Tryz.prog 177 (.nilFunc) 1 8 := ⟨by kernel_rfl⟩
instance : UOne Tryz.prog 177 := ⟨⟨_, Tryz.underlying177, rfl⟩⟩
instance : USize Tryz.prog 179 (.nilFunc) 1 8 := ⟨by kernel_rfl⟩
instance : UOne Tryz.prog 179 := ⟨⟨_, Tryz.underlying179, rfl⟩⟩
instance : USize Tryz.prog 180 (.nilFunc) 1 8 := ⟨by kernel_rfl⟩
instance : UOne Tryz.prog 180 := ⟨⟨_, Tryz.underlying180, rfl⟩⟩
instance : USize Tryz.prog 181 (.nilFunc) 1 8 := ⟨by kernel_rfl⟩
instance : UOne Tryz.prog 181 := ⟨⟨_, Tryz.underlying181, rfl⟩⟩
instance : USize Tryz.prog 183 (.nilFunc) 1 8 := ⟨by kernel_rfl⟩
instance : UOne Tryz.prog 183 := ⟨⟨_, Tryz.underlying183, rfl⟩⟩
instance : USize Tryz.prog 185 (.nilFunc) 1 8 := ⟨by kernel_rfl⟩
instance : UOne Tryz.prog 185 := ⟨⟨_, Tryz.underlying185, rfl⟩⟩
instance : USize Tryz.prog 186 (.nilFunc) 1 8 := ⟨by kernel_rfl⟩
instance : UOne Tryz.prog 186 := ⟨⟨_, Tryz.underlying186, rfl⟩⟩
instance : USize Tryz.prog 187 (.nilFunc) 1 8 := ⟨by kernel_rfl⟩
instance : UOne Tryz.prog 187 := ⟨⟨_, Tryz.underlying187, rfl⟩⟩
instance : USize Tryz.prog 188 (.nilFunc) 1 8 := ⟨by kernel_rfl⟩
instance : UOne Tryz.prog 188 := ⟨⟨_, Tryz.underlying188, rfl⟩⟩
instance : USize Tryz.prog 189 (.nilFunc) 1 8 := ⟨by kernel_rfl⟩
instance : UOne Tryz.prog 189 := ⟨⟨_, Tryz.underlying189, rfl⟩⟩
instance : USize Tryz.prog 190 (.nilFunc) 1 8 := ⟨by kernel_rfl⟩
instance : UOne Tryz.prog 190 := ⟨⟨_, Tryz.underlying190, rfl⟩⟩
instance : USize Tryz.prog 191 (.nilIface) 1 16 := ⟨by kernel_rfl⟩
instance : UOne Tryz.prog 191 := ⟨⟨_, Tryz.underlying191, rfl⟩⟩
instance : USize Tryz.prog 192 (.nilIface) 1 16 := ⟨by kernel_rfl⟩
instance : UOne Tryz.prog 192 := ⟨⟨_, Tryz.underlying192, rfl⟩⟩
instance : USize Tryz.prog 193 (.nilFunc) 1 8 := ⟨by kernel_rfl⟩
instance : UOne Tryz.prog 193 := ⟨⟨_, Tryz.underlying193, rfl⟩⟩
instance : USize Tryz.prog 194 (.nilFunc) 1 8 := ⟨by kernel_rfl⟩
instance : UOne Tryz.prog 194 := ⟨⟨_, Tryz.underlying194, rfl⟩⟩
instance : USize Tryz.prog 195 (.nilFunc) 1 8 := ⟨by kernel_rfl⟩
instance : UOne Tryz.prog 195 := ⟨⟨_, Tryz.underlying195, rfl⟩⟩
instance : USize Tryz.prog 196 (.pointer none) 1 8 := ⟨by kernel_rfl⟩
instance : UOne Tryz.prog 196 := ⟨⟨_, Tryz.underlying196, rfl⟩⟩
instance : USize Tryz.prog 197 (.nilFunc) 1 8 := ⟨by kernel_rfl⟩
instance : UOne Tryz.prog 197 := ⟨⟨_, Tryz.underlying197, rfl⟩⟩
instance : USize Tryz.prog 198 (.agg #[.pointer none, .pointer none, .pointer none, .string ⟨#[]⟩]) 4 40 := ⟨by kernel_rfl⟩
instance : UAgg Tryz.prog 198 := ⟨⟨_, Tryz.underlying198⟩⟩
instance : UField Tryz.prog 198 0 17 0 := ⟨⟨_, _, Tryz.underlying198, rfl, rfl, rfl, by kernel_rfl⟩⟩
instance : UField Tryz.prog 198 1 17 1 := ⟨⟨_, _, Tryz.underlying198, rfl, rfl, rfl, by kernel_rfl⟩⟩
instance : UField Tryz.prog 198 2 17 2 := ⟨⟨_, _, Tryz.underlying198, rfl, rfl, rfl, by kernel_rfl⟩⟩
instance : UField Tryz.prog 198 3 9 3 := ⟨⟨_, _, Tryz.underlying198, rfl, rfl, rfl, by kernel_rfl⟩⟩
instance : USize Tryz.prog 199 (.agg #[.pointer none, .pointer none, .pointer none, .string ⟨#[]⟩]) 4 40 := ⟨by kernel_rfl⟩
instance : UAgg Tryz.prog 199 := ⟨⟨_, Tryz.underlying199⟩⟩
instance : UField Tryz.prog 199 0 17 0 := ⟨⟨_, _, Tryz.underlying199, rfl, rfl, rfl, by kernel_rfl⟩⟩
instance : UField Tryz.prog 199 1 17 1 := ⟨⟨_, _, Tryz.underlying199, rfl, rfl, rfl, by kernel_rfl⟩⟩
instance : UField Tryz.prog 199 2 17 2 := ⟨⟨_, _, Tryz.underlying199, rfl, rfl, rfl, by kernel_rfl⟩⟩
instance : UField Tryz.prog 199 3 9 3 := ⟨⟨_, _, Tryz.underlying199, rfl, rfl, rfl, by kernel_rfl⟩⟩
instance : USize Tryz.prog 200 (.agg #[]) 0 0 := ⟨by kernel_rfl⟩
instance : USize Tryz.prog 201 (.agg #[]) 0 0 := ⟨by kernel_rfl⟩
instance : UAgg Tryz.prog 201 := ⟨⟨_, Tryz.underlying201⟩⟩
instance : USize Tryz.prog 202 (.agg #[]) 0 0 := ⟨by kernel_rfl⟩
instance : UAgg Tryz.prog 202 := ⟨⟨_, Tryz.underlying202⟩⟩
instance : USize Tryz.prog 203 (.nilFunc) 1 8 := ⟨by kernel_rfl⟩
instance : UOne Tryz.prog 203 := ⟨⟨_, Tryz.underlying203, rfl⟩⟩
instance : USize Tryz.prog 204 (.int .u32 0) 1 4 := ⟨by kernel_rfl⟩
instance : UInt Tryz.prog 204 .u32 := ⟨Tryz.underlying204⟩
instance : UOne Tryz.prog 204 := ⟨⟨_, Tryz.underlying204, rfl⟩⟩
instance : USize Tryz.prog 205 (.int .u8 0) 1 1 := ⟨by kernel_rfl⟩
instance : UInt Tryz.prog 205 .u8 := ⟨Tryz.underlying205⟩
instance : UOne Tryz.prog 205 := ⟨⟨_, Tryz.underlying205, rfl⟩⟩
instance : USize Tryz.prog 206 (.int .u8 0) 1 1 := ⟨by kernel_rfl⟩
instance : UInt Tryz.prog 206 .u8 := ⟨Tryz.underlying206⟩
instance : UOne Tryz.prog 206 := ⟨⟨_, Tryz.underlying206, rfl⟩⟩
instance : USize Tryz.prog 207 (.nilFunc) 1 8 := ⟨by kernel_rfl⟩
instance : UOne Tryz.prog 207 := ⟨⟨_, Tryz.underlying207, rfl⟩⟩
instance : USize Tryz.prog 208 (.pointer none) 1 8 := ⟨by kernel_rfl⟩
instance : UOne Tryz.prog 208 := ⟨⟨_, Tryz.underlying208, rfl⟩⟩
instance : USize Tryz.prog 209 (.int .i32 0) 1 4 := ⟨by kernel_rfl⟩
instance : UInt Tryz.prog 209 .i32 := ⟨Tryz.underlying209⟩
instance : UOne Tryz.prog 209 := ⟨⟨_, Tryz.underlying209, rfl⟩⟩
instance : USize Tryz.prog 210 (.int .i32 0) 1 4 := ⟨by kernel_rfl⟩
instance : UInt Tryz.prog 210 .i32 := ⟨Tryz.underlying210⟩
instance : UOne Tryz.prog 210 := ⟨⟨_, Tryz.underlying210, rfl⟩⟩
instance : USize Tryz.prog 211 (.agg #[.int .u64 0, .int .u64 0, .int .u32 0, .int .u8 0, .int .u8 0, .int .u8 0, .int .u8 0, .nilFunc, .pointer none, .int .i32 0, .int .i32 0]) 11 48 := ⟨by kernel_rfl⟩
instance : UAgg Tryz.prog 211 := ⟨⟨_, Tryz.underlying211⟩⟩
instance : UField Tryz.prog 211 0 12 0 := ⟨⟨_, _, Tryz.underlying211, rfl, rfl, rfl, by kernel_rfl⟩⟩
instance : UField Tryz.prog 211 1 12 1 := ⟨⟨_, _, Tryz.underlying211, rfl, rfl, rfl, by kernel_rfl⟩⟩
instance : UField Tryz.prog 211 2 204 2 := ⟨⟨_, _, Tryz.underlying211, rfl, rfl, rfl, by kernel_rfl⟩⟩
instance : UField Tryz.prog 211 3 205 3 := ⟨⟨_, _, Tryz.underlying211, rfl, rfl, rfl, by kernel_rfl⟩⟩
instance : UField Tryz.prog 211 4 5 4 := ⟨⟨_, _, Tryz.underlying211, rfl, rfl, rfl, by kernel_rfl⟩⟩
instance : UField Tryz.prog 211 5 5 5 := ⟨⟨_, _, Tryz.underlying211, rfl, rfl, rfl, by kernel_rfl⟩⟩
instance : UField Tryz.prog 211 6 206 6 := ⟨⟨_, _, Tryz.underlying211, rfl, rfl, rfl, by kernel_rfl⟩⟩
instance : UField Tryz.prog 211 7 207 7 := ⟨⟨_, _, Tryz.underlying211, rfl, rfl, rfl, by kernel_rfl⟩⟩
instance : UField Tryz.prog 211 8 208 8 := ⟨⟨_, _, Tryz.underlying211, rfl, rfl, rfl, by kernel_rfl⟩⟩
instance : UField Tryz.prog 211 9 209 9 := ⟨⟨_, _, Tryz.underlying211, rfl, rfl, rfl, by kernel_rfl⟩⟩
instance : UField Tryz.prog 211 10 210 10 := ⟨⟨_, _, Tryz.underlying211, rfl, rfl, rfl, by kernel_rfl⟩⟩
instance : USize Tryz.prog 212 (.agg #[.int .u64 0, .int .u64 0, .int .u32 0, .int .u8 0, .int .u8 0, .int .u8 0, .int .u8 0, .nilFunc, .pointer none, .int .i32 0, .int .i32 0]) 11 48 := ⟨by kernel_rfl⟩
instance : UAgg Tryz.prog 212 := ⟨⟨_, Tryz.underlying212⟩⟩
instance : UField Tryz.prog 212 0 12 0 := ⟨⟨_, _, Tryz.underlying212, rfl, rfl, rfl, by kernel_rfl⟩⟩
instance : UField Tryz.prog 212 1 12 1 := ⟨⟨_, _, Tryz.underlying212, rfl, rfl, rfl, by kernel_rfl⟩⟩
instance : UField Tryz.prog 212 2 204 2 := ⟨⟨_, _, Tryz.underlying212, rfl, rfl, rfl, by kernel_rfl⟩⟩
instance : UField Tryz.prog 212 3 205 3 := ⟨⟨_, _, Tryz.underlying212, rfl, rfl, rfl, by kernel_rfl⟩⟩
instance : UField Tryz.prog 212 4 5 4 := ⟨⟨_, _, Tryz.underlying212, rfl, rfl, rfl, by kernel_rfl⟩⟩
instance : UField Tryz.prog 212 5 5 5 := ⟨⟨_, _, Tryz.underlying212, rfl, rfl, rfl, by kernel_rfl⟩⟩
instance : UField Tryz.prog 212 6 206 6 := ⟨⟨_, _, Tryz.underlying212, rfl, rfl, rfl, by kernel_rfl⟩⟩
instance : UField Tryz.prog 212 7 207 7 := ⟨⟨_, _, Tryz.underlying212, rfl, rfl, rfl, by kernel_rfl⟩⟩
instance : UField Tryz.prog 212 8 208 8 := ⟨⟨_, _, Tryz.underlying212, rfl, rfl, rfl, by kernel_rfl⟩⟩
instance : UField Tryz.prog 212 9 209 9 := ⟨⟨_, _, Tryz.underlying212, rfl, rfl, rfl, by kernel_rfl⟩⟩
instance : UField Tryz.prog 212 10 210 10 := ⟨⟨_, _, Tryz.underlying212, rfl, rfl, rfl, by kernel_rfl⟩⟩
instance : USize Tryz.prog 213 (.nilFunc) 1 8 := ⟨by kernel_rfl⟩
instance : UOne Tryz.prog 213 := ⟨⟨_, Tryz.underlying213, rfl⟩⟩
instance : USize Tryz.prog 214 (.agg #[.string ⟨#[]⟩]) 1 16 := ⟨by kernel_rfl⟩
instance : UAgg Tryz.prog 214 := ⟨⟨_, Tryz.underlying214⟩⟩
instance : UField Tryz.prog 214 0 9 0 := ⟨⟨_, _, Tryz.underlying214, rfl, rfl, rfl, by kernel_rfl⟩⟩
instance : USize Tryz.prog 215 (.agg #[.string ⟨#[]⟩]) 1 16 := ⟨by kernel_rfl⟩
instance : UAgg Tryz.prog 215 := ⟨⟨_, Tryz.underlying215⟩⟩
instance : UField Tryz.prog 215 0 9 0 := ⟨⟨_, _, Tryz.underlying215, rfl, rfl, rfl, by kernel_rfl⟩⟩
instance : USize Tryz.prog 216 (.pointer none) 1 8 := ⟨by kernel_rfl⟩
instance : IsFn Tryz.prog 3 := ⟨⟨_, Tryz.func3, by kernel_rfl, by kernel_rfl⟩⟩
instance : IsFn Tryz.prog 4 := ⟨⟨_, Tryz.func4, by kernel_rfl, by kernel_rfl⟩⟩
instance : IsFn Tryz.prog 5 := ⟨⟨_, Tryz.func5, by kernel_rfl, by kernel_rfl⟩⟩
instance : IsFn Tryz.prog 6 := ⟨⟨_, Tryz.func6, by kernel_rfl, by kernel_rfl⟩⟩
instance : IsFn Tryz.prog 7 := ⟨⟨_, Tryz.func7, by kernel_rfl, by kernel_rfl⟩⟩
instance : IsFn Tryz.prog 8 := ⟨⟨_, Tryz.func8, by kernel_rfl, by kernel_rfl⟩⟩
instance : IsFn Tryz.prog 9 := ⟨⟨_, Tryz.func9, by kernel_rfl, by kernel_rfl⟩⟩
instance : IsFn Tryz.prog 10 := ⟨⟨_, Tryz.func10, by kernel_rfl, by kernel_rfl⟩⟩
instance : IsFn Tryz.prog 11 := ⟨⟨_, Tryz.func11, by kernel_rfl, by kernel_rfl⟩⟩
instance : IsFn Tryz.prog 12 := ⟨⟨_, Tryz.func12, by kernel_rfl, by kernel_rfl⟩⟩
instance : IsFn Tryz.prog 13 := ⟨⟨_, Tryz.func13, by kernel_rfl, by kernel_rfl⟩⟩
instance : IsFn Tryz.prog 14 := ⟨⟨_, Tryz.func14, by kernel_rfl, by kernel_rfl⟩⟩
instance : IsFn Tryz.prog 15 := ⟨⟨_, Tryz.func15, by kernel_rfl, by kernel_rfl⟩⟩
instance : IsFn Tryz.prog 16 := ⟨⟨_, Tryz.func16, by kernel_rfl, by kernel_rfl⟩⟩
instance : IsFn Tryz.prog 17 := ⟨⟨_, Tryz.func17, by kernel_rfl, by kernel_rfl⟩⟩
instance : IsFn Tryz.prog 18 := ⟨⟨_, Tryz.func18, by kernel_rfl, by kernel_rfl⟩⟩
instance : IsFn Tryz.prog 19 := ⟨⟨_, Tryz.func19, by kernel_rfl, by kernel_rfl⟩⟩
instance : IsFn Tryz.prog 20 := ⟨⟨_, Tryz.func20, by kernel_rfl, by kernel_rfl⟩⟩
instance : IsFn Tryz.prog 21 := ⟨⟨_, Tryz.func21, by kernel_rfl, by kernel_rfl⟩⟩
instance : IsFn Tryz.prog 22 := ⟨⟨_, Tryz.func22, by kernel_rfl, by kernel_rfl⟩⟩
instance : IsFn Tryz.prog 23 := ⟨⟨_, Tryz.func23, by kernel_rfl, by kernel_rfl⟩⟩
instance : IsFn Tryz.prog 24 := ⟨⟨_, Tryz.func24, by kernel_rfl, by kernel_rfl⟩⟩
instance : IsFn Tryz.prog 25 := ⟨⟨_, Tryz.func25, by kernel_rfl, by kernel_rfl⟩⟩
instance : IsFn Tryz.prog 26 := ⟨⟨_, Tryz.func26, by kernel_rfl, by kernel_rfl⟩⟩
instance : IsFn Tryz.prog 27 := ⟨⟨_, Tryz.func27, by kernel_rfl, by kernel_rfl⟩⟩
instance : IsFn Tryz.prog 28 := ⟨⟨_, Tryz.func28, by kernel_rfl, by kernel_rfl⟩⟩
instance : IsFn Tryz.prog 29 := ⟨⟨_, Tryz.func29, by kernel_rfl, by kernel_rfl⟩⟩
instance : IsFn Tryz.prog 30 := ⟨⟨_, Tryz.func30, by kernel_rfl, by kernel_rfl⟩⟩
instance : IsFn Tryz.prog 31 := ⟨⟨_, Tryz.func31, by kernel_rfl, by kernel_rfl⟩⟩
instance : IsFn Tryz.prog 32 := ⟨⟨_, Tryz.func32, by kernel_rfl, by kernel_rfl⟩⟩
instance : IsFn Tryz.prog 33 := ⟨⟨_, Tryz.func33, by kernel_rfl, by kernel_rfl⟩⟩
instance : IsFn Tryz.prog 34 := ⟨⟨_, Tryz.func34, by kernel_rfl, by kernel_rfl⟩⟩
instance : IsFn Tryz.prog 35 := ⟨⟨_, Tryz.func35, by kernel_rfl, by kernel_rfl⟩⟩
instance : IsFn Tryz.prog 36 := ⟨⟨_, Tryz.func36, by kernel_rfl, by kernel_rfl⟩⟩
instance : IsFn Tryz.prog 37 := ⟨⟨_, Tryz.func37, by kernel_rfl, by kernel_rfl⟩⟩
instance : IsFn Tryz.prog 38 := ⟨⟨_, Tryz.func38, by kernel_rfl, by kernel_rfl⟩⟩
instance : IsFn Tryz.prog 39 := ⟨⟨_, Tryz.func39, by kernel_rfl, by kernel_rfl⟩⟩
instance : IsFn Tryz.prog 40 := ⟨⟨_, Tryz.func40, by kernel_rfl, by kernel_rfl⟩⟩
instance : IsFn Tryz.prog 41 := ⟨⟨_, Tryz.func41, by kernel_rfl, by kernel_rfl⟩⟩
instance : IsFn Tryz.prog 42 := ⟨⟨_, Tryz.func42, by kernel_rfl, by kernel_rfl⟩⟩
instance : IsFn Tryz.prog 43 := ⟨⟨_, Tryz.func43, by kernel_rfl, by kernel_rfl⟩⟩
instance : IsFn Tryz.prog 44 := ⟨⟨_, Tryz.func44, by kernel_rfl, by kernel_rfl⟩⟩
instance : IsFn Tryz.prog 45 := ⟨⟨_, Tryz.func45, by kernel_rfl, by kernel_rfl⟩⟩
instance : IsFn Tryz.prog 46 := ⟨⟨_, Tryz.func46, by kernel_rfl, by kernel_rfl⟩⟩
instance : IsFn Tryz.prog 47 := ⟨⟨_, Tryz.func47, by kernel_rfl, by kernel_rfl⟩⟩
instance : IsFn Tryz.prog 48 := ⟨⟨_, Tryz.func48, by kernel_rfl, by kernel_rfl⟩⟩
instance : IsFn Tryz.prog 49 := ⟨⟨_, Tryz.func49, by kernel_rfl, by kernel_rfl⟩⟩
instance : IsFn Tryz.prog 50 := ⟨⟨_, Tryz.func50, by kernel_rfl, by kernel_rfl⟩⟩
instance : IsFn Tryz.prog 51 := ⟨⟨_, Tryz.func51, by kernel_rfl, by kernel_rfl⟩⟩
instance : IsFn Tryz.prog 52 := ⟨⟨_, Tryz.func52, by kernel_rfl, by kernel_rfl⟩⟩
instance : IsFn Tryz.prog 53 := ⟨⟨_, Tryz.func53, by kernel_rfl, by kernel_rfl⟩⟩
instance : IsFn Tryz.prog 54 := ⟨⟨_, Tryz.func54, by kernel_rfl, by kernel_rfl⟩⟩
instance : IsFn Tryz.prog 55 := ⟨⟨_, Tryz.func55, by kernel_rfl, by kernel_rfl⟩⟩
instance : IsFn Tryz.prog 56 := ⟨⟨_, Tryz.func56, by kernel_rfl, by kernel_rfl⟩⟩
instance : IsFn Tryz.prog 57 := ⟨⟨_, Tryz.func57, by kernel_rfl, by kernel_rfl⟩⟩
instance : IsFn Tryz.prog 58 := ⟨⟨_, Tryz.func58, by kernel_rfl, by kernel_rfl⟩⟩
instance : IsFn Tryz.prog 59 := ⟨⟨_, Tryz.func59, by kernel_rfl, by kernel_rfl⟩⟩
instance : IsFn Tryz.prog 60 := ⟨⟨_, Tryz.func60, by kernel_rfl, by kernel_rfl⟩⟩
instance : IsFn Tryz.prog 61 := ⟨⟨_, Tryz.func61, by kernel_rfl, by kernel_rfl⟩⟩
instance : IsFn Tryz.prog 62 := ⟨⟨_, Tryz.func62, by kernel_rfl, by kernel_rfl⟩⟩
instance : IsFn Tryz.prog 63 := ⟨⟨_, Tryz.func63, by kernel_rfl, by kernel_rfl⟩⟩
instance : IsFn Tryz.prog 64 := ⟨⟨_, Tryz.func64, by kernel_rfl, by kernel_rfl⟩⟩
instance : IsFn Tryz.prog 65 := ⟨⟨_, Tryz.func65, by kernel_rfl, by kernel_rfl⟩⟩
instance : IsFn Tryz.prog 66 := ⟨⟨_, Tryz.func66, by kernel_rfl, by kernel_rfl⟩⟩
instance : IsFn Tryz.prog 67 := ⟨⟨_, Tryz.func67, by kernel_rfl, by kernel_rfl⟩⟩
instance : IsFn Tryz.prog 68 := ⟨⟨_, Tryz.func68, by kernel_rfl, by kernel_rfl⟩⟩
instance : IsFn Tryz.prog 69 := ⟨⟨_, Tryz.func69, by kernel_rfl, by kernel_rfl⟩⟩
instance : IsFn Tryz.prog 70 := ⟨⟨_, Tryz.func70, by kernel_rfl, by kernel_rfl⟩⟩
instance : IsFn Tryz.prog 71 := ⟨⟨_, Tryz.func71, by kernel_rfl, by kernel_rfl⟩⟩
instance : IsFn Tryz.prog 72 := ⟨⟨_, Tryz.func72, by kernel_rfl, by kernel_rfl⟩⟩
instance : IsFn Tryz.prog 73 := ⟨⟨_, Tryz.func73, by kernel_rfl, by kernel_rfl⟩⟩
instance : IsFn Tryz.prog 74 := ⟨⟨_, Tryz.func74, by kernel_rfl, by kernel_rfl⟩⟩
instance : IsFn Tryz.prog 75 := ⟨⟨_, Tryz.func75, by kernel_rfl, by kernel_rfl⟩⟩
instance : IsFn Tryz.prog 76 := ⟨⟨_, Tryz.func76, by kernel_rfl, by kernel_rfl⟩⟩
instance : IsFn Tryz.prog 77 := ⟨⟨_, Tryz.func77, by kernel_rfl, by kernel_rfl⟩⟩
instance : IsFn Tryz.prog 78 := ⟨⟨_, Tryz.func78, by kernel_rfl, by kernel_rfl⟩⟩
instance : IsFn Tryz.prog 79 := ⟨⟨_, Tryz.func79, by kernel_rfl, by kernel_rfl⟩⟩
instance : IsFn Tryz.prog 80 := ⟨⟨_, Tryz.func80, by kernel_rfl, by kernel_rfl⟩⟩
instance : IsFn Tryz.prog 81 := ⟨⟨_, Tryz.func81, by kernel_rfl, by kernel_rfl⟩⟩
instance : IsFn Tryz.prog 82 := ⟨⟨_, Tryz.func82, by kernel_rfl, by kernel_rfl⟩⟩
instance : IsFn Tryz.prog 83 := ⟨⟨_, Tryz.func83, by kernel_rfl, by kernel_rfl⟩⟩
instance : IsFn Tryz.prog 84 := ⟨⟨_, Tryz.func84, by kernel_rfl, by kernel_rfl⟩⟩
instance : IsFn Tryz.prog 85 := ⟨⟨_, Tryz.func85, by kernel_rfl, by kernel_rfl⟩⟩
instance : IsFn Tryz.prog 86 := ⟨⟨_, Tryz.func86, by kernel_rfl, by kernel_rfl⟩⟩
instance : IsFn Tryz.prog 87 := ⟨⟨_, Tryz.func87, by kernel_rfl, by kernel_rfl⟩⟩
instance : IsFn Tryz.prog 88 := ⟨⟨_, Tryz.func88, by kernel_rfl, by kernel_rfl⟩⟩
instance : IsFn Tryz.prog 89 := ⟨⟨_, Tryz.func89, by kernel_rfl, by kernel_rfl⟩⟩
instance : IsFn Tryz.prog 90 := ⟨⟨_, Tryz.func90, by kernel_rfl, by kernel_rfl⟩⟩
instance : IsFn Tryz.prog 91 := ⟨⟨_, Tryz.func91, by kernel_rfl, by kernel_rfl⟩⟩
instance : IsFn Tryz.prog 92 := ⟨⟨_, Tryz.func92, by kernel_rfl, by kernel_rfl⟩⟩
instance : IsFn Tryz.prog 93 := ⟨⟨_, Tryz.func93, by kernel_rfl, by kernel_rfl⟩⟩
instance : IsFn Tryz.prog 94 := ⟨⟨_, Tryz.func94, by kernel_rfl, by kernel_rfl⟩⟩
instance : IsFn Tryz.prog 95 := ⟨⟨_, Tryz.func95, by kernel_rfl, by kernel_rfl⟩⟩
instance : IsFn Tryz.prog 96 := ⟨⟨_, Tryz.func96, by kernel_rfl, by kernel_rfl⟩⟩
instance : IsFn Tryz.prog 97 := ⟨⟨_, Tryz.func97, by kernel_rfl, by kernel_rfl⟩⟩
instance : IsFn Tryz.prog 98 := ⟨⟨_, Tryz.func98, by kernel_rfl, by kernel_rfl⟩⟩
instance : IsFn Tryz.prog 99 := ⟨⟨_, Tryz.func99, by kernel_rfl, by kernel_rfl⟩⟩
instance : IsFn Tryz.prog 100 := ⟨⟨_, Tryz.func100, by kernel_rfl, by kernel_rfl⟩⟩
instance : IsFn Tryz.prog 101 := ⟨⟨_, Tryz.func101, by kernel_rfl, by kernel_rfl⟩⟩
instance : IsFn Tryz.prog 102 := ⟨⟨_, Tryz.func102, by kernel_rfl, by kernel_rfl⟩⟩
instance : IsFn Tryz.prog 103 := ⟨⟨_, Tryz.func103, by kernel_rfl, by kernel_rfl⟩⟩
instance : IsFn Tryz.prog 104 := ⟨⟨_, Tryz.func104, by kernel_rfl, by kernel_rfl⟩⟩
instance : IsFn Tryz.prog 105 := ⟨⟨_, Tryz.func105, by kernel_rfl, by kernel_rfl⟩⟩
instance : IsFn Tryz.prog 106 := ⟨⟨_, Tryz.func106, by kernel_rfl, by kernel_rfl⟩⟩
instance : IsFn Tryz.prog 107 := ⟨⟨_, Tryz.func107, by kernel_rfl, by kernel_rfl⟩⟩
instance : IsFn Tryz.prog 108 := ⟨⟨_, Tryz.func108, by kernel_rfl, by kernel_rfl⟩⟩
instance : IsFn Tryz.prog 109 := ⟨⟨_, Tryz.func109, by kernel_rfl, by kernel_rfl⟩⟩
instance : IsFn Tryz.prog 110 := ⟨⟨_, Tryz.func110, by kernel_rfl, by kernel_rfl⟩⟩
instance : IsFn Tryz.prog 111 := ⟨⟨_, Tryz.func111, by kernel_rfl, by kernel_rfl⟩⟩
instance : IsFn Tryz.prog 112 := ⟨⟨_, Tryz.func112, by kernel_rfl, by kernel_rfl⟩⟩
instance : IsFn Tryz.prog 113 := ⟨⟨_, Tryz.func113, by kernel_rfl, by kernel_rfl⟩⟩
instance : IsFn Tryz.prog 114 := ⟨⟨_, Tryz.func114, by kernel_rfl, by kernel_rfl⟩⟩
instance : IsFn Tryz.prog 115 := ⟨⟨_, Tryz.func115, by kernel_rfl, by kernel_rfl⟩⟩
instance : IsFn Tryz.prog 116 := ⟨⟨_, Tryz.func116, by kernel_rfl, by kernel_rfl⟩⟩
instance : IsFn Tryz.prog 117 := ⟨⟨_, Tryz.func117, by kernel_rfl, by kernel_rfl⟩⟩
instance : IsFn Tryz.prog 118 := ⟨⟨_, Tryz.func118, by kernel_rfl, by kernel_rfl⟩⟩
instance : IsFn Tryz.prog 119 := ⟨⟨_, Tryz.func119, by kernel_rfl, by kernel_rfl⟩⟩
instance : IsFn Tryz.prog 120 := ⟨⟨_, Tryz.func120, by kernel_rfl, by kernel_rfl⟩⟩
instance : IsFn Tryz.prog 121 := ⟨⟨_, Tryz.func121, by kernel_rfl, by kernel_rfl⟩⟩
instance : IsFn Tryz.prog 122 := ⟨⟨_, Tryz.func122, by kernel_rfl, by kernel_rfl⟩⟩
instance : IsFn Tryz.prog 123 := ⟨⟨_, Tryz.func123, by kernel_rfl, by kernel_rfl⟩⟩
instance : IsFn Tryz.prog 124 := ⟨⟨_, Tryz.func124, by kernel_rfl, by kernel_rfl⟩⟩
instance : IsFn Tryz.prog 125 := ⟨⟨_, Tryz.func125, by kernel_rfl, by kernel_rfl⟩⟩
instance : IsFn Tryz.prog 126 := ⟨⟨_, Tryz.func126, by kernel_rfl, by kernel_rfl⟩⟩
instance : IsFn Tryz.prog 127 := ⟨⟨_, Tryz.func127, by kernel_rfl, by kernel_rfl⟩⟩
instance : IsFn Tryz.prog 128 := ⟨⟨_, Tryz.func128, by kernel_rfl, by kernel_rfl⟩⟩
instance : IsFn Tryz.prog 129 := ⟨⟨_, Tryz.func129, by kernel_rfl, by kernel_rfl⟩⟩
instance : IsFn Tryz.prog 130 := ⟨⟨_, Tryz.func130, by kernel_rfl, by kernel_rfl⟩⟩
instance : IsFn Tryz.prog 131 := ⟨⟨_, Tryz.func131, by kernel_rfl, by kernel_rfl⟩⟩
instance : IsFn Tryz.prog 132 := ⟨⟨_, Tryz.func132, by kernel_rfl, by kernel_rfl⟩⟩
instance : IsFn Tryz.prog 133 := ⟨⟨_, Tryz.func133, by kernel_rfl, by kernel_rfl⟩⟩
instance : IsFn Tryz.prog 134 := ⟨⟨_, Tryz.func134, by kernel_rfl, by kernel_rfl⟩⟩
instance : IsFn Tryz.prog 135 := ⟨⟨_, Tryz.func135, by kernel_rfl, by kernel_rfl⟩⟩
instance : IsFn Tryz.prog 136 := ⟨⟨_, Tryz.func136, by kernel_rfl, by kernel_rfl⟩⟩
instance : IsFn Tryz.prog 137 := ⟨⟨_, Tryz.func137, by kernel_rfl, by kernel_rfl⟩⟩
instance : IsFn Tryz.prog 138 := ⟨⟨_, Tryz.func138, by kernel_rfl, by kernel_rfl⟩⟩
instance : IsFn Tryz.prog 139 := ⟨⟨_, Tryz.func139, by kernel_rfl, by kernel_rfl⟩⟩
instance : IsFn Tryz.prog 140 := ⟨⟨_, Tryz.func140, by kernel_rfl, by kernel_rfl⟩⟩
instance : IsFn Tryz.prog 141 := ⟨⟨_, Tryz.func141, by kernel_rfl, by kernel_rfl⟩⟩
instance : IsFn Tryz.prog 142 := ⟨⟨_, Tryz.func142, by kernel_rfl, by kernel_rfl⟩⟩
instance : IsFn Tryz.prog 143 := ⟨⟨_, Tryz.func143, by kernel_rfl, by kernel_rfl⟩⟩
instance : IsFn Tryz.prog 144 := ⟨⟨_, Tryz.func144, by kernel_rfl, by kernel_rfl⟩⟩
instance : IsFn Tryz.prog 145 := ⟨⟨_, Tryz.func145, by kernel_rfl, by kernel_rfl⟩⟩
instance : IsFn Tryz.prog 146 := ⟨⟨_, Tryz.func146, by kernel_rfl, by kernel_rfl⟩⟩
instance : IsFn Tryz.prog 147 := ⟨⟨_, Tryz.func147, by kernel_rfl, by kernel_rfl⟩⟩
instance : IsFn Tryz.prog 148 := ⟨⟨_, Tryz.func148, by kernel_rfl, by kernel_rfl⟩⟩
instance : IsFn Tryz.prog 149 := ⟨⟨_, Tryz.func149, by kernel_rfl, by kernel_rfl⟩⟩
instance : IsFn Tryz.prog 150 := ⟨⟨_, Tryz.func150, by kernel_rfl, by kernel_rfl⟩⟩
instance : IsFn Tryz.prog 151 := ⟨⟨_, Tryz.func151, by kernel_rfl, by kernel_rfl⟩⟩
instance : IsFn Tryz.prog 152 := ⟨⟨_, Tryz.func152, by kernel_rfl, by kernel_rfl⟩⟩
instance : IsFn Tryz.prog 153 := ⟨⟨_, Tryz.func153, by kernel_rfl, by kernel_rfl⟩⟩
instance : IsFn Tryz.prog 154 := ⟨⟨_, Tryz.func154, by kernel_rfl, by kernel_rfl⟩⟩
instance : IsFn Tryz.prog 157 := ⟨⟨_, Tryz.func157, by kernel_rfl, by kernel_rfl⟩⟩
instance : IsFn Tryz.prog 158 := ⟨⟨_, Tryz.func158, by kernel_rfl, by kernel_rfl⟩⟩
instance : IsFn Tryz.prog 159 := ⟨⟨_, Tryz.func159, by kernel_rfl, by kernel_rfl⟩⟩
instance : IsFn Tryz.prog 160 := ⟨⟨_, Tryz.func160, by kernel_rfl, by kernel_rfl⟩⟩
instance : IsFn Tryz.prog 161 := ⟨⟨_, Tryz.func161, by kernel_rfl, by kernel_rfl⟩⟩
instance : IsFn Tryz.prog 162 := ⟨⟨_, Tryz.func162, by kernel_rfl, by kernel_rfl⟩⟩
instance : IsFn Tryz.prog 163 := ⟨⟨_, Tryz.func163, by kernel_rfl, by kernel_rfl⟩⟩
instance : IsFn Tryz.prog 164 := ⟨⟨_, Tryz.func164, by kernel_rfl, by kernel_rfl⟩⟩
instance : IsFn Tryz.prog 165 := ⟨⟨_, Tryz.func165, by kernel_rfl, by kernel_rfl⟩⟩
instance : IsFn Tryz.prog 166 := ⟨⟨_, Tryz.func166, by kernel_rfl, by kernel_rfl⟩⟩
instance : IsFn Tryz.prog 167 := ⟨⟨_, Tryz.func167, by kernel_rfl, by kernel_rfl⟩⟩
instance : IsFn Tryz.prog 168 := ⟨⟨_, Tryz.func168, by kernel_rfl, by kernel_rfl⟩⟩
instance : IsFn Tryz.prog 169 := ⟨⟨_, Tryz.func169, by kernel_rfl, by kernel_rfl⟩⟩
instance : IsFn Tryz.prog 170 := ⟨⟨_, Tryz.func170, by kernel_rfl, by kernel_rfl⟩⟩
instance : IsFn Tryz.prog 171 := ⟨⟨_, Tryz.func171, by kernel_rfl, by kernel_rfl⟩⟩
instance : IsFn Tryz.prog 172 := ⟨⟨_, Tryz.func172, by kernel_rfl, by kernel_rfl⟩⟩
instance : IsFn Tryz.prog 173 := ⟨⟨_, Tryz.func173, by kernel_rfl, by kernel_rfl⟩⟩
instance : IsFn Tryz.prog 174 := ⟨⟨_, Tryz.func174, by kernel_rfl, by kernel_rfl⟩⟩
instance : IsFn Tryz.prog 175 := ⟨⟨_, Tryz.func175, by kernel_rfl, by kernel_rfl⟩⟩
instance : IsFn Tryz.prog 176 := ⟨⟨_, Tryz.func176, by kernel_rfl, by kernel_rfl⟩⟩
instance : IsFn Tryz.prog 177 := ⟨⟨_, Tryz.func177, by kernel_rfl, by kernel_rfl⟩⟩
instance : IsFn Tryz.prog 178 := ⟨⟨_, Tryz.func178, by kernel_rfl, by kernel_rfl⟩⟩
instance : IsFn Tryz.prog 179 := ⟨⟨_, Tryz.func179, by kernel_rfl, by kernel_rfl⟩⟩
instance : IsFn Tryz.prog 180 := ⟨⟨_, Tryz.func180, by kernel_rfl, by kernel_rfl⟩⟩
instance : IsFn Tryz.prog 181 := ⟨⟨_, Tryz.func181, by kernel_rfl, by kernel_rfl⟩⟩
instance : IsFn Tryz.prog 182 := ⟨⟨_, Tryz.func182, by kernel_rfl, by kernel_rfl⟩⟩
instance : IsFn Tryz.prog 183 := ⟨⟨_, Tryz.func183, by kernel_rfl, by kernel_rfl⟩⟩
instance : IsFn Tryz.prog 184 := ⟨⟨_, Tryz.func184, by kernel_rfl, by kernel_rfl⟩⟩
instance : IsFn Tryz.prog 200 := ⟨⟨_, Tryz.func200, by kernel_rfl, by kernel_rfl⟩⟩
instance : IsFn Tryz.prog 201 := ⟨⟨_, Tryz.func201, by kernel_rfl, by kernel_rfl⟩⟩
instance : IsFn Tryz.prog 202 := ⟨⟨_, Tryz.func202, by kernel_rfl, by kernel_rfl⟩⟩
instance : IsFn Tryz.prog 203 := ⟨⟨_, Tryz.func203, by kernel_rfl, by kernel_rfl⟩⟩
instance : IsFn Tryz.prog 204 := ⟨⟨_, Tryz.func204, by kernel_rfl, by kernel_rfl⟩⟩
instance : IsFn Tryz.prog 205 := ⟨⟨_, Tryz.func205, by kernel_rfl, by kernel_rfl⟩⟩
instance : IsFn Tryz.prog 206 := ⟨⟨_, Tryz.func206, by kernel_rfl, by kernel_rfl⟩⟩
instance : IsFn Tryz.prog 207 := ⟨⟨_, Tryz.func207, by kernel_rfl, by kernel_rfl⟩⟩
instance : IsFn Tryz.prog 208 := ⟨⟨_, Tryz.func208, by kernel_rfl, by kernel_rfl⟩⟩
instance : IsFn Tryz.prog 209 := ⟨⟨_, Tryz.func209, by kernel_rfl, by kernel_rfl⟩⟩
instance : IsFn Tryz.prog 210 := ⟨⟨_, Tryz.func210, by kernel_rfl, by kernel_rfl⟩⟩
instance : IsFn Tryz.prog 211 := ⟨⟨_, Tryz.func211, by kernel_rfl, by kernel_rfl⟩⟩
instance : IsFn Tryz.prog 212 := ⟨⟨_, Tryz.func212, by kernel_rfl, by kernel_rfl⟩⟩
instance : IsFn Tryz.prog 213 := ⟨⟨_, Tryz.func213, by kernel_rfl, by kernel_rfl⟩⟩
theorem mixed : Tryz.prog.follows .mixedOrders = true := by kernel_rfl
end Go.Proofs.YtdhmhjbmkimplaaGreat

namespace Go.Proofs.YtdhmhjbmkimplaaGreat
open Go Go.Eng Go.Proofs
instance : UStruct Tryz.prog 7 [(0, 1), (1, 1), (2, 1), (3, 1)] := ⟨⟨_, Tryz.underlying7, by kernel_rfl⟩⟩
instance : UStruct Tryz.prog 8 [(0, 1), (1, 1), (2, 1), (3, 1)] := ⟨⟨_, Tryz.underlying8, by kernel_rfl⟩⟩
instance : UStruct Tryz.prog 13 [(0, 1), (1, 1)] := ⟨⟨_, Tryz.underlying13, by kernel_rfl⟩⟩
instance : UStruct Tryz.prog 14 [(0, 1), (1, 1)] := ⟨⟨_, Tryz.underlying14, by kernel_rfl⟩⟩
instance : UStruct Tryz.prog 18 [(0, 1)] := ⟨⟨_, Tryz.underlying18, by kernel_rfl⟩⟩
instance : UStruct Tryz.prog 19 [(0, 1)] := ⟨⟨_, Tryz.underlying19, by kernel_rfl⟩⟩
instance : UStruct Tryz.prog 23 [(0, 1), (1, 1), (2, 1)] := ⟨⟨_, Tryz.underlying23, by kernel_rfl⟩⟩
instance : UStruct Tryz.prog 24 [(0, 1), (1, 1), (2, 1)] := ⟨⟨_, Tryz.underlying24, by kernel_rfl⟩⟩
instance : UStruct Tryz.prog 44 [(0, 3), (3, 1), (4, 1)] := ⟨⟨_, Tryz.underlying44, by kernel_rfl⟩⟩
instance : UStruct Tryz.prog 45 [(0, 3), (3, 1), (4, 1)] := ⟨⟨_, Tryz.underlying45, by kernel_rfl⟩⟩
instance : UStruct Tryz.prog 50 [(0, 1), (1, 1)] := ⟨⟨_, Tryz.underlying50, by kernel_rfl⟩⟩
instance : UStruct Tryz.prog 51 [(0, 1), (1, 1)] := ⟨⟨_, Tryz.underlying51, by kernel_rfl⟩⟩
instance : UStruct Tryz.prog 52 [(0, 1), (1, 1), (2, 1), (3, 2)] := ⟨⟨_, Tryz.underlying52, by kernel_rfl⟩⟩
instance : UStruct Tryz.prog 53 [(0, 1), (1, 1), (2, 1), (3, 2)] := ⟨⟨_, Tryz.underlying53, by kernel_rfl⟩⟩
instance : UStruct Tryz.prog 54 [(0, 1), (1, 1), (2, 5)] := ⟨⟨_, Tryz.underlying54, by kernel_rfl⟩⟩
instance : UStruct Tryz.prog 55 [(0, 1), (1, 1), (2, 5)] := ⟨⟨_, Tryz.underlying55, by kernel_rfl⟩⟩
instance : UStruct Tryz.prog 69 [(0, 1), (1, 1), (2, 1)] := ⟨⟨_, Tryz.underlying69, by kernel_rfl⟩⟩
instance : UStruct Tryz.prog 70 [(0, 1), (1, 1), (2, 1)] := ⟨⟨_, Tryz.underlying70, by kernel_rfl⟩⟩
instance : UStruct Tryz.prog 97 [(0, 1), (1, 1)] := ⟨⟨_, Tryz.underlying97, by kernel_rfl⟩⟩
instance : UStruct Tryz.prog 98 [(0, 1), (1, 1)] := ⟨⟨_, Tryz.underlying98, by kernel_rfl⟩⟩
instance : UStruct Tryz.prog 99 [(0, 2), (2, 1), (3, 1)] := ⟨⟨_, Tryz.underlying99, by kernel_rfl⟩⟩
instance : UStruct Tryz.prog 100 [(0, 2), (2, 1), (3, 1)] := ⟨⟨_, Tryz.underlying100, by kernel_rfl⟩⟩
instance : UStruct Tryz.prog 109 [(0, 1), (1, 1)] := ⟨⟨_, Tryz.underlying109, by kernel_rfl⟩⟩
instance : UStruct Tryz.prog 110 [(0, 1), (1, 1)] := ⟨⟨_, Tryz.underlying110, by kernel_rfl⟩⟩
instance : UStruct Tryz.prog 114 [(0, 1), (1, 1), (2, 2)] := ⟨⟨_, Tryz.underlying114, by kernel_rfl⟩⟩
instance : UStruct Tryz.prog 115 [(0, 1), (1, 1), (2, 2)] := ⟨⟨_, Tryz.underlying115, by kernel_rfl⟩⟩
instance : UStruct Tryz.prog 118 [(0, 1), (1, 1), (2, 1)] := ⟨⟨_, Tryz.underlying118, by kernel_rfl⟩⟩
instance : UStruct Tryz.prog 119 [(0, 1), (1, 1), (2, 1)] := ⟨⟨_, Tryz.underlying119, by kernel_rfl⟩⟩
instance : UStruct Tryz.prog 124 [(0, 1), (1, 1)] := ⟨⟨_, Tryz.underlying124, by kernel_rfl⟩⟩
instance : UStruct Tryz.prog 125 [(0, 1), (1, 1)] := ⟨⟨_, Tryz.underlying125, by kernel_rfl⟩⟩
instance : UStruct Tryz.prog 126 [(0, 1)] := ⟨⟨_, Tryz.underlying126, by kernel_rfl⟩⟩
instance : UStruct Tryz.prog 127 [(0, 1)] := ⟨⟨_, Tryz.underlying127, by kernel_rfl⟩⟩
instance : UStruct Tryz.prog 128 [] := ⟨⟨_, Tryz.underlying128, by kernel_rfl⟩⟩
instance : UStruct Tryz.prog 129 [] := ⟨⟨_, Tryz.underlying129, by kernel_rfl⟩⟩
instance : UStruct Tryz.prog 164 [(0, 2), (2, 2)] := ⟨⟨_, Tryz.underlying164, by kernel_rfl⟩⟩
instance : UStruct Tryz.prog 165 [(0, 2), (2, 2)] := ⟨⟨_, Tryz.underlying165, by kernel_rfl⟩⟩
instance : UStruct Tryz.prog 198 [(0, 1), (1, 1), (2, 1), (3, 1)] := ⟨⟨_, Tryz.underlying198, by kernel_rfl⟩⟩
instance : UStruct Tryz.prog 199 [(0, 1), (1, 1), (2, 1), (3, 1)] := ⟨⟨_, Tryz.underlying199, by kernel_rfl⟩⟩
instance : UStruct Tryz.prog 201 [(0, 0)] := ⟨⟨_, Tryz.underlying201, by kernel_rfl⟩⟩
instance : UStruct Tryz.prog 202 [(0, 0)] := ⟨⟨_, Tryz.underlying202, by kernel_rfl⟩⟩
instance : UStruct Tryz.prog 211 [(0, 1), (1, 1), (2, 1), (3, 1), (4, 1), (5, 1), (6, 1), (7, 1), (8, 1), (9, 1), (10, 1)] := ⟨⟨_, Tryz.underlying211, by kernel_rfl⟩⟩
instance : UStruct Tryz.prog 212 [(0, 1), (1, 1), (2, 1), (3, 1), (4, 1), (5, 1), (6, 1), (7, 1), (8, 1), (9, 1), (10, 1)] := ⟨⟨_, Tryz.underlying212, by kernel_rfl⟩⟩
instance : UStruct Tryz.prog 214 [(0, 1)] := ⟨⟨_, Tryz.underlying214, by kernel_rfl⟩⟩
instance : UStruct Tryz.prog 215 [(0, 1)] := ⟨⟨_, Tryz.underlying215, by kernel_rfl⟩⟩
end Go.Proofs.YtdhmhjbmkimplaaGreat

namespace Go.NatM

abbrev W : Nat := 18446744073709551616
def U64 (l : List Nat) : Prop := ∀ x ∈ l, x < 18446744073709551616
def val : List Nat → Nat
  | [] => 0
  | x :: l => x + 18446744073709551616 * val l
/-- how many words up to the highest that is not 0 -/
def sz : List Nat → Nat
  | [] => 0
  | x :: l => if sz l = 0 ∧ x = 0 then 0 else sz l + 1
/-- the words of a number, without zeros at the high end -/
def dig (n : Nat) : List Nat := if h : n = 0 then [] else (n % 18446744073709551616) :: dig (n / 18446744073709551616)
termination_by n
decreasing_by exact Nat.div_lt_self (by omega) (by omega)

theorem U64.nil : U64 [] := fun x h => by cases h
theorem U64.cons {x : Nat} {l : List Nat} (h : x < 18446744073709551616) (hl : U64 l) : U64 (x :: l) := fun y hy => by
  rcases List.mem_cons.1 hy with rfl | hy
  · exact h
  · exact hl y hy
theorem U64.head {x : Nat} {l : List Nat} (h : U64 (x :: l)) : x < 18446744073709551616 := h x (by simp)
theorem U64.tail {x : Nat} {l : List Nat} (h : U64 (x :: l)) : U64 l := fun y hy => h y (by simp [hy])
theorem U64.append {l r : List Nat} (h : U64 l) (k : U64 r) : U64 (l ++ r) := fun y hy => (List.mem_append.1 hy).elim (h y) (k y)
theorem U64.take {l : List Nat} (h : U64 l) (n : Nat) : U64 (l.take n) := fun y hy => h y (List.mem_of_mem_take hy)
theorem U64.drop {l : List Nat} (h : U64 l) (n : Nat) : U64 (l.drop n) := fun y hy => h y (List.mem_of_mem_drop hy)
theorem U64.replicate (n : Nat) : U64 (List.replicate n 0) := fun y hy => by rw [(List.mem_replicate.1 hy).2]; omega
theorem U64.one {x : Nat} (h : x < 18446744073709551616) : U64 [x] := U64.cons h U64.nil
theorem U64.getD {l : List Nat} (h : U64 l) (k : Nat) : l.getD k 0 < 18446744073709551616 := by
  rcases Nat.lt_or_ge k l.length with hk | hk
  · have : l.getD k 0 = l[k] := by simp [List.getD, hk]
    rw [this]; exact h _ (List.getElem_mem hk)
  · simp [List.getD, List.getElem?_eq_none hk]
theorem U64.set {l : List Nat} (h : U64 l) (k x : Nat) (hx : x < 18446744073709551616) : U64 (l.set k x) := fun y hy => by
  rcases List.mem_or_eq_of_mem_set hy with hy | rfl
  · exact h y hy
  · exact hx

theorem getD_ge {l : List Nat} {j : Nat} (h : l.length ≤ j) : l.getD j 0 = 0 := by simp [List.getD, List.getElem?_eq_none h]
theorem sz_le (l : List Nat) : sz l ≤ l.length := by
  induction l with
  | nil => simp [sz]
  | cons x l ih => simp only [sz, List.length_cons]; split <;> omega
theorem sz_eq (l : List Nat) (n : Nat) (h1 : n ≤ l.length) (h2 : ∀ j, n ≤ j → l.getD j 0 = 0) (h3 : n = 0 ∨ l.getD (n - 1) 0 ≠ 0) : sz l = n := by
  induction l generalizing n with
  | nil => simp at h1; simp [sz, h1]
  | cons x l ih =>
    rcases n with _ | n
    · have hx : x = 0 := by simpa using h2 0 (by omega)
      have : sz l = 0 := ih 0 (by omega) (fun j _ => by simpa using h2 (j + 1) (by omega)) (.inl rfl)
      simp [sz, this, hx]
    · have hl : sz l = n := by
        refine ih n (by simpa using h1) (fun j hj => by simpa using h2 (j + 1) (by omega)) ?_
        rcases n with _ | n
        · exact .inl rfl
        · right; simpa using h3.resolve_left (by omega)
      simp only [sz]
      rw [if_neg]
      · omega
      · rintro ⟨h0, hx⟩
        have : n = 0 := by omega
        subst this
        simp [hx] at h3
theorem sz_top (l : List Nat) : sz l = 0 ∨ l.getD (sz l - 1) 0 ≠ 0 := by
  induction l with
  | nil => simp [sz]
  | cons x l ih =>
    simp only [sz]
    split
    · exact .inl rfl
    · rename_i h
      right
      rcases Nat.eq_zero_or_pos (sz l) with h0 | h0
      · have hx : x ≠ 0 := fun hx => h ⟨h0, hx⟩
        simp [h0, hx]
      · rcases ih with h1 | h1
        · omega
        · rw [show sz l + 1 - 1 = (sz l - 1) + 1 by omega]; simpa using h1
theorem sz_zero (l : List Nat) (j : Nat) (h : sz l ≤ j) : l.getD j 0 = 0 := by
  induction l generalizing j with
  | nil => simp
  | cons x l ih =>
    simp only [sz] at h
    split at h
    · rename_i h0
      rcases j with _ | j
      · simpa using h0.2
      · simpa using ih j (by omega)
    · rcases j with _ | j
      · omega
      · simpa using ih j (by omega)

theorem val_append (l r : List Nat) : val (l ++ r) = val l + 18446744073709551616 ^ l.length * val r := by
  induction l with
  | nil => simp [val]
  | cons x l ih => simp only [List.cons_append, val, ih, List.length_cons, Nat.pow_succ, Nat.mul_add, Nat.add_assoc]; congr 2; rw [← Nat.mul_assoc, Nat.mul_comm 18446744073709551616]
theorem val_one (x : Nat) : val [x] = x := by simp [val]
theorem val_snoc (l : List Nat) (x : Nat) : val (l ++ [x]) = val l + 18446744073709551616 ^ l.length * x := by rw [val_append, val_one]
theorem val_zeros (n : Nat) : val (List.replicate n 0) = 0 := by
  induction n with
  | zero => rfl
  | succ n ih => simp [List.replicate_succ, val, ih]
theorem val_take_succ (l : List Nat) (i : Nat) : val (l.take (i + 1)) = val (l.take i) + 18446744073709551616 ^ i * l.getD i 0 := by
  rcases Nat.lt_or_ge i l.length with h | h
  · rw [List.take_succ_eq_append_getElem h, val_snoc]
    simp [List.getD, h, Nat.min_eq_left (Nat.le_of_lt h)]
  · rw [List.take_of_length_le h, List.take_of_length_le (by omega), getD_ge h]; simp
theorem val_lt {l : List Nat} (h : U64 l) : val l < 18446744073709551616 ^ l.length := by
  induction l with
  | nil => simp [val]
  | cons x l ih =>
    have h1 := ih h.tail
    have h2 := h.head
    simp only [val, List.length_cons, Nat.pow_succ]
    have h3 : val l + 1 ≤ 18446744073709551616 ^ l.length := h1
    have h4 := Nat.mul_le_mul_left 18446744073709551616 h3
    rw [Nat.mul_comm (18446744073709551616 ^ l.length)]
    omega
theorem val_sz (l : List Nat) : val (l.take (sz l)) = val l := by
  induction l with
  | nil => rfl
  | cons x l ih =>
    simp only [sz]
    split
    · rename_i h
      rw [h.1] at ih
      simp only [List.take_zero, val] at ih ⊢
      rw [← ih, h.2]
    · simp only [List.take_succ_cons, val, ih]
theorem val_take_ge (l : List Nat) (k : Nat) (h : sz l ≤ k) : val (l.take k) = val l := by
  have e : l = l.take k ++ l.drop k := (List.take_append_drop k l).symm
  have h0 : val (l.drop k) = 0 := by
    have : l.drop k = List.replicate (l.drop k).length 0 := by
      apply List.ext_getElem
      · simp
      · intro i h1 h2
        have hz := sz_zero l (k + i) (by omega)
        simp only [List.getElem_drop, List.getElem_replicate]
        rw [List.length_drop] at h1
        have hki : k + i < l.length := by omega
        have : l.getD (k + i) 0 = l[k + i] := by simp [List.getD, hki]
        omega
    rw [this, val_zeros]
  conv => rhs; rw [e, val_append, h0]
  simp

theorem dig_zero : dig 0 = [] := by rw [dig]; simp
theorem dig_pos {n : Nat} (h : n ≠ 0) : dig n = (n % 18446744073709551616) :: dig (n / 18446744073709551616) := by rw [dig]; simp [h]
theorem val_dig (n : Nat) : val (dig n) = n := by
  induction n using Nat.strongRecOn with
  | _ n ih =>
    rcases Nat.eq_zero_or_pos n with rfl | h
    · rw [dig_zero]; rfl
    · rw [dig_pos (by omega), val, ih _ (Nat.div_lt_self h (by omega))]; omega
theorem U64_dig (n : Nat) : U64 (dig n) := by
  induction n using Nat.strongRecOn with
  | _ n ih =>
    rcases Nat.eq_zero_or_pos n with rfl | h
    · rw [dig_zero]; exact U64.nil
    · rw [dig_pos (by omega)]; exact U64.cons (Nat.mod_lt _ (by omega)) (ih _ (Nat.div_lt_self h (by omega)))
/-- the words up to the highest that is not 0 are the digits of the number -/
theorem take_sz {l : List Nat} (h : U64 l) : l.take (sz l) = dig (val l) := by
  induction l with
  | nil => simp [sz, val, dig_zero]
  | cons x l ih =>
    have hx := h.head
    have ih' := ih h.tail
    simp only [sz, val]
    split
    · rename_i h0
      rw [h0.1] at ih'
      have hv : val l = 0 := by rw [← val_sz l, h0.1]; rfl
      rw [h0.2, hv]; simp [dig_zero]
    · rename_i h0
      have hne : x + 18446744073709551616 * val l ≠ 0 := by
        intro he
        have hx0 : x = 0 := by omega
        have hv : val l = 0 := by omega
        apply h0
        refine ⟨?_, hx0⟩
        rcases sz_top l with h1 | h1
        · exact h1
        · rw [hv, dig_zero] at ih'
          have := congrArg List.length ih'
          rw [List.length_take, List.length_nil] at this
          have := sz_le l
          omega
      rw [dig_pos hne, List.take_succ_cons, ih']
      congr 1
      · omega
      · congr 1; omega
theorem dig_length {l : List Nat} (h : U64 l) : (dig (val l)).length = sz l := by rw [← take_sz h, List.length_take]; have := sz_le l; omega
theorem sz_dig (n : Nat) : sz (dig n) = (dig n).length := by
  have h := dig_length (U64_dig n)
  rw [val_dig] at h
  exact h.symm
theorem dig_length_le {n k : Nat} (h : n < 18446744073709551616 ^ k) : (dig n).length ≤ k := by
  induction k generalizing n with
  | zero => have : n = 0 := by simpa using h
            rw [this, dig_zero]; simp
  | succ k ih =>
    rcases Nat.eq_zero_or_pos n with rfl | h0
    · rw [dig_zero]; simp
    · rw [dig_pos (by omega), List.length_cons]
      have := ih (n := n / 18446744073709551616) (by rw [Nat.div_lt_iff_lt_mul (by omega)]; rw [Nat.pow_succ] at h; exact h)
      omega
/-- a list of so many words more is not below -/
theorem pow_le_val {l : List Nat} (h : sz l ≠ 0) : 18446744073709551616 ^ (sz l - 1) ≤ val l := by
  rw [← val_sz l]
  obtain ⟨k, hk⟩ : ∃ k, sz l = k + 1 := ⟨sz l - 1, by omega⟩
  have ht := (sz_top l).resolve_left h
  rw [hk, val_take_succ]
  rw [hk] at ht
  simp only [Nat.add_sub_cancel] at ht ⊢
  have : 18446744073709551616 ^ k * 1 ≤ 18446744073709551616 ^ k * l.getD k 0 := Nat.mul_le_mul_left _ (by omega)
  omega
theorem val_lt_sz {l : List Nat} (h : U64 l) : val l < 18446744073709551616 ^ sz l := by
  have := val_lt (h.take (sz l))
  rw [val_sz, List.length_take, Nat.min_eq_left (sz_le l)] at this
  exact this
theorem lt_of_sz_lt {l r : List Nat} (hl : U64 l) (h : sz l < sz r) : val l < val r :=
  Nat.lt_of_lt_of_le (val_lt_sz hl) (Nat.le_trans (Nat.pow_le_pow_right (by omega) (by omega)) (pow_le_val (by omega)))
/-- a new word behind what is done, before zeros -/
theorem set_zeros (D : List Nat) (r x : Nat) : (D ++ List.replicate (r + 1) 0).set D.length x = (D ++ [x]) ++ List.replicate r 0 := by
  rw [List.set_append_right _ _ (Nat.le_refl _), Nat.sub_self, List.replicate_succ, List.set_cons_zero, List.append_assoc]; rfl
theorem val_ext {a b : List Nat} (h : ∀ j, a.getD j 0 = b.getD j 0) : val a = val b := by
  induction a generalizing b with
  | nil =>
    induction b with
    | nil => rfl
    | cons y b ih =>
      have h0 := h 0
      have := ih fun j => by simpa using h (j + 1)
      simp at h0
      simp [val, ← h0, ← this]
  | cons x a ih =>
    cases b with
    | nil =>
      have h0 := h 0
      have := ih (b := []) fun j => by simpa using h (j + 1)
      simp at h0
      simp [val, h0, this]
    | cons y b =>
      have h0 := h 0
      have := ih (b := b) fun j => by simpa using h (j + 1)
      simp at h0
      simp [val, h0, this]
theorem getD_drop (l : List Nat) (k j : Nat) : (l.drop k).getD j 0 = l.getD (k + j) 0 := by simp [List.getD, List.getElem?_drop]
theorem val_split (l : List Nat) (k : Nat) : val l = val (l.take k) + 18446744073709551616 ^ k * val (l.drop k) := by
  induction k generalizing l with
  | zero => simp [val]
  | succ k ih =>
    cases l with
    | nil => simp [val]
    | cons x l =>
      have := ih l
      simp only [List.take_succ_cons, List.drop_succ_cons, val, this, Nat.pow_succ]
      rw [Nat.mul_add, Nat.add_assoc, Nat.mul_comm (18446744073709551616 ^ k) 18446744073709551616, Nat.mul_assoc]
theorem val_drop (l : List Nat) (k : Nat) : val (l.drop k) = l.getD k 0 + 18446744073709551616 * val (l.drop (k + 1)) := by
  rcases Nat.lt_or_ge k l.length with h | h
  · rw [List.drop_eq_getElem_cons h, val]; simp [List.getD, h]
  · rw [List.drop_of_length_le h, List.drop_of_length_le (by omega), getD_ge h]; rfl
theorem U64.take_lt {l : List Nat} (h : U64 l) (k : Nat) : val (l.take k) < 18446744073709551616 ^ k :=
  Nat.lt_of_lt_of_le (val_lt (h.take k)) (Nat.pow_le_pow_right (by omega) (by rw [List.length_take]; omega))
/-- the highest place at which two lists differ decides -/
theorem val_lt_of {a b : List Nat} (ha : U64 a) (k : Nat) (h1 : ∀ j, k < j → a.getD j 0 = b.getD j 0) (h2 : a.getD k 0 < b.getD k 0) : val a < val b := by
  have e : val (a.drop (k + 1)) = val (b.drop (k + 1)) := val_ext fun j => by rw [getD_drop, getD_drop]; exact h1 _ (by omega)
  have l1 := ha.take_lt k
  rw [val_split a k, val_split b k, val_drop a k, val_drop b k, e]
  generalize val (b.drop (k + 1)) = q
  generalize 18446744073709551616 ^ k = p at l1 ⊢
  have : p * (a.getD k 0 + 18446744073709551616 * q) + p ≤ p * (b.getD k 0 + 18446744073709551616 * q) := by
    rw [← Nat.mul_succ]
    exact Nat.mul_le_mul_left _ (by omega)
  omega
def cmp3 (m n : Nat) : Int := if m < n then -1 else if n < m then 1 else 0
theorem add_step {p vD va vb s c' x y c : Nat} (h : vD + p * c = va + vb) (e : s + 18446744073709551616 * c' = x + y + c) :
    vD + p * s + p * 18446744073709551616 * c' = (va + p * x) + (vb + p * y) := by
  have e1 : p * (s + 18446744073709551616 * c') = p * (x + y + c) := by rw [e]
  rw [Nat.mul_add, Nat.mul_add, Nat.mul_add, ← Nat.mul_assoc] at e1
  omega
theorem sub_step {p vD va vb s c' x y c : Nat} (h : vD + vb = va + p * c) (e : s + y + c = x + 18446744073709551616 * c') :
    (vD + p * s) + (vb + p * y) = (va + p * x) + p * 18446744073709551616 * c' := by
  have e1 : p * (s + y + c) = p * (x + 18446744073709551616 * c') := by rw [e]
  rw [Nat.mul_add, Nat.mul_add, Nat.mul_add, ← Nat.mul_assoc] at e1
  omega
/-- the number of binary digits -/
def bl (n : Nat) : Nat := if n = 0 then 0 else Nat.log2 n + 1
theorem bl_le {n k : Nat} : bl n ≤ k ↔ n < 2 ^ k := by
  unfold bl
  split
  · rename_i h; subst h; simp [Nat.two_pow_pos]
  · rename_i h
    rw [← Nat.log2_lt h]; omega
theorem lt_two_pow_bl (n : Nat) : n < 2 ^ bl n := bl_le.1 (Nat.le_refl _)
theorem two_pow_bl_le {n : Nat} (h : n ≠ 0) : 2 ^ (bl n - 1) ≤ n := by
  rcases Nat.lt_or_ge n (2 ^ (bl n - 1)) with h1 | h1
  · have := bl_le.2 h1
    have hb : bl n ≠ 0 := by unfold bl; rw [if_neg h]; omega
    omega
  · exact h1
theorem bl_eq {n k : Nat} (h1 : 2 ^ k ≤ n) (h2 : n < 2 ^ (k + 1)) : bl n = k + 1 := by
  have a := bl_le.2 h2
  rcases Nat.lt_or_ge k (bl n) with h | h
  · omega
  · have := bl_le.1 h; omega
theorem bl_shift {n k : Nat} (h : 1 ≤ n / 2 ^ k) : bl n = k + bl (n / 2 ^ k) := by
  have hne : n / 2 ^ k ≠ 0 := by omega
  obtain ⟨j, hj⟩ : ∃ j, bl (n / 2 ^ k) = j + 1 := ⟨bl (n / 2 ^ k) - 1, by unfold bl; rw [if_neg hne]; omega⟩
  have a := two_pow_bl_le hne
  have b := lt_two_pow_bl (n / 2 ^ k)
  rw [hj] at a b
  simp only [Nat.add_sub_cancel] at a
  have hp := Nat.two_pow_pos k
  rw [hj, ← Nat.add_assoc]
  refine bl_eq ?_ ?_
  · rw [Nat.pow_add, Nat.mul_comm]
    exact (Nat.le_div_iff_mul_le hp).1 a
  · rw [show k + j + 1 = (j + 1) + k by omega, Nat.pow_add]
    exact (Nat.div_lt_iff_lt_mul hp).1 b
end Go.NatM

namespace Go.Proofs.YtdhmhjbmkimplaaGreat
open Go Go.Eng Go.Proofs

open Go.NatM

/-- a new list of words, L, of at most K words -/
def RetN (w : World) (L : List Nat) (K : Nat) (e : Ending) (w' : World) : Prop := ∃ A n c, e = .returned (.slice A n c) ∧ Ow u64v w'.heap w.heap.size 101 A n c L ∧ Ext w w' ∧ n ≤ K
theorem RetN.mk {w w' : World} {L : List Nat} {A : Option Addr} {n c K : Nat} (h : Ow u64v w'.heap w.heap.size 101 A n c L) (he : Ext w w') (hk : n ≤ K) : RetN w L K (.returned (.slice A n c)) w' := ⟨A, n, c, rfl, h, he, hk⟩
/-- a new list of words, L, of at most K words, and an error -/
def RetNE (w : World) (L : List Nat) (K : Nat) (err : Int) (e : Ending) (w' : World) : Prop := ∃ A n c, e = .returned (.tuple #[.slice A n c, .int .i64 err]) ∧ Ow u64v w'.heap w.heap.size 101 A n c L ∧ Ext w w' ∧ n ≤ K
theorem RetNE.mk {w w' : World} {L : List Nat} {err : Int} {A : Option Addr} {n c K : Nat} (h : Ow u64v w'.heap w.heap.size 101 A n c L) (he : Ext w w') (hk : n ≤ K) : RetNE w L K err (.returned (.tuple #[.slice A n c, .int .i64 err])) w' := ⟨A, n, c, rfl, h, he, hk⟩

theorem size_ok (H : Array Obj) (B : Nat) (A : Option Addr) (n c : Nat) (l : List Nat) (hs : Sl u64v H B A n c l) (hn : n < 9223372036854775808) :
    Pure Tryz.prog 130 #[.slice A n c] H (.int .i64 (sz l : Int)) := by
  refine Pure.of fun w hw => ?_
  subst hw
  have hlen := hs.len
  refine enter Tryz.func130 rfl rfl rfl ?_
  repeat' (first | refine TL.ev (ev_simple rfl) rfl ?_ | refine TL.ev (ev_len rfl) rfl ?_ | refine T.seq ?_ | refine T.region ?_ | refine TL.nil ?_ | refine T.block ?_ | refine G.next ?_)
  refine T.loop (fun k : Nat => [(0, .slice A n c), (3, .int .i64 (k : Int))]) (fun k w' => w' = w ∧ k ≤ n ∧ ∀ j, k ≤ j → l.getD j 0 = 0) (fun k => k) n (by repeat (first | exact Sub.nil _ | refine Sub.cons rfl ?_ | refine Sub.cons' rfl (int_congr (by omega)) ?_)) ⟨rfl, Nat.le_refl _, ?_⟩ ?_
  · intro j hj; simp [List.getD, List.getElem?_eq_none (show l.length ≤ j by omega)]
  · rintro k w' ⟨rfl, hk, hz⟩
    repeat' (first | refine TL.ev (ev_simple rfl) rfl ?_ | refine TL.grun rfl rfl rfl ?_ | refine TL.gskip rfl rfl rfl rfl ?_ | (refine TL.cmpG rfl rfl rfl rfl (fun hc => ?_) (fun hc => ?_) <;> try (exfalso; omega)) | refine TL.ev (ev_arN rfl rfl rfl (by omega)) rfl ?_ | refine TL.ev (ev_indexN rfl rfl (by omega) (by first | exact Or.inr rfl | exact Sl.some (by assumption))) rfl ?_ | refine TL.ev (ev_loadU rfl (by assumption) (by omega)) rfl ?_ | refine T.seq ?_ | refine T.region ?_ | refine TL.nil ?_ | refine T.block ?_ | refine T.cond_t rfl ?_ | refine T.cond_f rfl ?_ | refine T.exit ?_ | refine T.ret ?_ | refine T.skip ?_ | refine G.next ?_ | refine G.blockN ?_ | refine G.blockE ?_ | refine G.thenE ?_)
    · refine G.again (k - 1) (by repeat (first | exact Sub.nil _ | refine Sub.cons rfl ?_ | refine Sub.cons' rfl (int_congr (by omega)) ?_)) ⟨rfl, by omega, fun j hj => ?_⟩ (by omega)
      rcases Nat.lt_or_ge j k with h | h
      · obtain rfl : j = k - 1 := by omega
        omega
      · exact hz j h
    · rw [sz_eq l k (by omega) hz (.inr (by omega))]
      exact G.ret1 rfl rfl ⟨rfl, Qt.refl _⟩
    · rw [sz_eq l k (by omega) hz (.inl (by omega))]
      exact G.ret1 rfl rfl ⟨rfl, Qt.refl _⟩

theorem own_ok (w : World) (B : Nat) (A : Option Addr) (n c : Nat) (l : List Nat) (hs : Sl u64v w.heap B A n c l) (hu : U64 l) (hn : n ≤ 35184372088832) :
    Cl Tryz.prog 132 #[.slice A n c] w (RetN w (dig (val l)) n) := by
  have hlen := hs.len
  have hsz := sz_le l
  refine enter Tryz.func132 rfl rfl rfl ?_
  repeat' (first | refine TL.ev (ev_simple rfl) rfl ?_ | (refine TL.callP rfl rfl (size_ok _ _ _ _ _ _ hs (by omega)) (fun _ => ?_)) | (refine TL.makeU rfl rfl rfl (by omega) (by omega) (fun w1 b1 eb hB hE hz => ?_); have hs1 := hs.ext hE) | (refine TL.copy (f := u64v) (fun _ => rfl) rfl rfl rfl hB hs1 (by simp) (fun w2 hB2 hU => ?_)) | refine T.seq ?_ | refine T.region ?_ | refine TL.nil ?_ | refine T.ret ?_ | refine G.next ?_)
  have e : List.take 0 (List.replicate (sz l) 0) ++ List.take (min n (sz l)) l ++ List.drop (0 + min n (sz l)) (List.replicate (sz l) 0) = l.take (sz l) := by
    rw [Nat.min_eq_right (by omega)]; simp
  rw [e, take_sz hu] at hB2
  have hl : (dig (val l)).length = sz l := dig_length hu
  simp only [World.heap_drewN] at eb
  refine G.ret1 rfl rfl (RetN.mk ?_ (((ext_drewN w _).trans hE).upd hU (by omega)) (by omega))
  have := hB2.ow (lo := w.heap.size) (k := (dig (val l)).length) (Nat.le_refl _) rfl (by unfold maxLen; omega) (by omega)
  rw [List.take_length] at this
  rwa [hl] at this
theorem least_ok (w : World) (B : Nat) (A : Option Addr) (n c : Nat) (l : List Nat) (hs : Sl u64v w.heap B A n c l) (hu : U64 l) (hn : n ≤ 35184372088832) :
    Cl Tryz.prog 110 #[.slice A n c] w (RetN w (dig (val l)) n) := by
  refine enter Tryz.func110 rfl rfl rfl ?_
  repeat' (first | refine TL.ev (ev_simple rfl) rfl ?_ | (refine TL.call rfl rfl ((own_ok _ _ _ _ _ _ hs hu hn).mono ?_); rintro _ w1 ⟨A1, n1, c1, rfl, hO, hE, hK⟩; refine Back.mk ?_) | refine T.seq ?_ | refine T.region ?_ | refine TL.nil ?_ | refine T.ret ?_ | refine G.next ?_)
  exact G.ret1 rfl rfl (RetN.mk hO hE hK)

theorem add64_run (w : World) {z1 z2 z3 : Int} {x y c : Nat} [e1 : IsN z1 x] [e2 : IsN z2 y] [e3 : IsN z3 c] (hc : c ≤ 1) :
    (callFunc 155 #[.int .u64 z1, .int .u64 z2, .int .u64 z3]).run Tryz.prog w = .ok (.value (.tuple #[.int .u64 (((x + y + c) % 18446744073709551616 : Nat) : Int), .int .u64 (((x + y + c) / 18446744073709551616 : Nat) : Int)])) w := by
  rw [e1.out, e2.out, e3.out, run_callFunc_extern Tryz.func155 (by kernel_rfl) (by kernel_rfl) (by kernel_rfl) (e := add64Entry) (by kernel_rfl), run_add64 x y c (by omega) (by omega) (by omega) (by omega)]
  simp only [Result.andThen]
  congr 5 <;> omega
def sub64Entry' : Array Value → Sem Value := fun args => do
  let (x, y, b) ← Extern.MathBitsCarry.three "Sub64" args
  pure (Extern.MathBitsCarry.pair ((x + Extern.MathBitsCarry.m64 - y - b) % Extern.MathBitsCarry.m64) (if x < y + b then 1 else 0))
theorem run_sub64' {P : Program} (x y b : Nat) (hb : b ≤ 1) (w : World) :
    (sub64Entry' #[.int .u64 x, .int .u64 y, .int .u64 b]).run P w =
      .ok (.tuple #[.int .u64 (((x + 18446744073709551616 - y - b) % 18446744073709551616 : Nat) : Int), .int .u64 ((if x < y + b then 1 else 0 : Nat) : Int)]) w := by
  have : b = 0 ∨ b = 1 := by omega
  rcases this with rfl | rfl <;> rfl
theorem sub64_run (w : World) {z1 z2 z3 : Int} {x y c : Nat} [e1 : IsN z1 x] [e2 : IsN z2 y] [e3 : IsN z3 c] (hc : c ≤ 1) :
    (callFunc 156 #[.int .u64 z1, .int .u64 z2, .int .u64 z3]).run Tryz.prog w = .ok (.value (.tuple #[.int .u64 (((x + 18446744073709551616 - y - c) % 18446744073709551616 : Nat) : Int), .int .u64 ((if x < y + c then 1 else 0 : Nat) : Int)])) w := by
  rw [e1.out, e2.out, e3.out, run_callFunc_extern Tryz.func156 (by kernel_rfl) (by kernel_rfl) (by kernel_rfl) (e := sub64Entry') (by kernel_rfl), run_sub64' x y c hc]
  rfl

theorem cmp_ok (H : Array Obj) (B B' : Nat) (A A' : Option Addr) (n c n' c' : Nat) (l l' : List Nat) (hs : Sl u64v H B A n c l) (hs' : Sl u64v H B' A' n' c' l') (hu : U64 l) (hu' : U64 l') (hn : n ≤ 35184372088832) (hn' : n' ≤ 35184372088832) :
    Pure Tryz.prog 128 #[.slice A n c, .slice A' n' c'] H (.int .i64 (cmp3 (val l) (val l'))) := by
  refine Pure.of fun w hw => ?_
  subst hw
  have hlen := hs.len
  have hlen' := hs'.len
  have hsz := sz_le l
  have hsz' := sz_le l'
  refine enter Tryz.func128 rfl rfl rfl ?_
  repeat' (first | refine TL.ev (ev_simple rfl) rfl ?_ | (refine TL.cmpG rfl rfl rfl rfl (fun hc => ?_) (fun hc => ?_) <;> try (exfalso; omega)) | refine TL.ev (ev_arI rfl rfl rfl (by omega)) rfl ?_ | (refine TL.callP rfl rfl (size_ok _ _ _ _ _ _ hs (by omega)) (fun _ => ?_)) | (refine TL.callP rfl rfl (size_ok _ _ _ _ _ _ hs' (by omega)) (fun _ => ?_)) | refine T.seq ?_ | refine T.region ?_ | refine TL.nil ?_ | refine T.block ?_ | refine T.cond_t rfl ?_ | refine T.cond_f rfl ?_ | refine T.ret ?_ | refine T.skip ?_ | refine G.next ?_ | refine G.thenR ?_)
  · exact G.ret1 rfl rfl ⟨by rw [cmp3, if_pos (lt_of_sz_lt hu (by omega))], ((Qt.refl w).drewN _).drewN _⟩
  · have := lt_of_sz_lt (l := l') (r := l) hu' (by omega)
    exact G.ret1 rfl rfl ⟨by rw [cmp3, if_neg (by omega), if_pos this], ((Qt.refl w).drewN _).drewN _⟩
  · refine T.loop (fun k : Nat => [(0, .slice A n c), (1, .slice A' n' c'), (7, .int .i64 ((k : Int) - 1))]) (fun k w' => Qt w w' ∧ k ≤ sz l ∧ ∀ j, k ≤ j → l.getD j 0 = l'.getD j 0) (fun k => k) (sz l) (by repeat (first | exact Sub.nil _ | refine Sub.cons rfl ?_ | refine Sub.cons' rfl (int_congr (by omega)) ?_)) ⟨((Qt.refl w).drewN _).drewN _, Nat.le_refl _, ?_⟩ ?_
    · intro j hj; rw [sz_zero l j hj, sz_zero l' j (by omega)]
    · rintro k w' ⟨hq, hk, hz⟩
      have hH : w'.heap = w.heap := by obtain ⟨m, rfl⟩ := hq; rfl
      rw [← hH] at hs hs'
      repeat' (first | refine TL.ev (ev_simple rfl) rfl ?_ | (refine TL.cmpG rfl rfl rfl rfl (fun hc => ?_) (fun hc => ?_) <;> try (exfalso; omega)) | refine TL.ev (ev_arI rfl rfl rfl (by omega)) rfl ?_ | refine TL.ev (ev_index rfl rfl (by omega) (by first | exact Or.inr rfl | exact Sl.some (by assumption))) rfl ?_ | refine TL.ev (ev_loadU rfl (by assumption) (by omega)) rfl ?_ | refine T.seq ?_ | refine T.region ?_ | refine TL.nil ?_ | refine T.block ?_ | refine T.cond_t rfl ?_ | refine T.cond_f rfl ?_ | refine T.exit ?_ | refine T.ret ?_ | refine T.skip ?_ | refine G.next ?_ | refine G.blockN ?_ | refine G.blockE ?_ | refine G.blockR ?_ | refine G.thenE ?_ | refine G.thenR ?_ | refine T.regionQ mixed (by kernel_rfl) ?_ | refine TL.nilQ (fun _ => ?_))
      · have e1 : ((k : Int) - 1).toNat = k - 1 := by omega
        rw [e1] at hc
        have := val_lt_of hu (k - 1) (fun j hj => hz j (by omega)) (by omega)
        exact G.ret1 rfl rfl ⟨by rw [cmp3, if_pos this], hq.drewN _⟩
      · have e1 : ((k : Int) - 1).toNat = k - 1 := by omega
        rw [e1] at hc
        have := val_lt_of hu' (k - 1) (fun j hj => (hz j (by omega)).symm) (by omega)
        exact G.ret1 rfl rfl ⟨by rw [cmp3, if_neg (by omega), if_pos this], (hq.drewN _).drewN _⟩
      · have e1 : ((k : Int) - 1).toNat = k - 1 := by omega
        rename_i hc1 _ _
        rw [e1] at hc hc1
        refine G.again (k - 1) (by repeat (first | exact Sub.nil _ | refine Sub.cons rfl ?_ | refine Sub.cons' rfl (int_congr (by omega)) ?_)) ⟨(hq.drewN _).drewN _, by omega, fun j hj => ?_⟩ (by omega)
        rcases Nat.lt_or_ge j k with h | h
        · obtain rfl : j = k - 1 := by omega
          omega
        · exact hz j h
      · have := val_ext (a := l) (b := l') (fun j => hz j (by omega))
        exact G.ret1 rfl rfl ⟨by rw [cmp3, if_neg (by omega), if_neg (by omega)], hq⟩
end Go.Proofs.YtdhmhjbmkimplaaGreat
