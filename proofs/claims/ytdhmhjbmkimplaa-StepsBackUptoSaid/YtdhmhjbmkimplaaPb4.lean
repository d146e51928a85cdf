/- The types and functions of this translation, as the engine asks for them. The struct types of this translation. Plain laws of naturals as lists of words to the base 2^64, the lowest first. No program in sight. Layer 1: contracts of package nat. Layer 1: contracts of nat.Add and nat.Sub. -/
import Derived.Test.YtdhmhjbmkimplaaProg
import Derived.Test.YtdhmhjbmkimplaaPb2
import Derived.Test.YtdhmhjbmkimplaaPb3
set_option linter.unusedVariables false
set_option linter.unusedSimpArgs false
namespace Go.Proofs.Ytdhmhjbmkimplaa
open Go Go.Eng Go.Proofs
instance : USize Try.prog 1 (.nilFunc) 1 8 := ⟨by kernel_rfl⟩
instance : UOne Try.prog 1 := ⟨⟨_, Try.underlying1, rfl⟩⟩
instance : USize Try.prog 2 (.int .i64 0) 1 8 := ⟨by kernel_rfl⟩
instance : UInt Try.prog 2 .i64 := ⟨Try.underlying2⟩
instance : UOne Try.prog 2 := ⟨⟨_, Try.underlying2, rfl⟩⟩
instance : USize Try.prog 3 (.int .i64 0) 1 8 := ⟨by kernel_rfl⟩
instance : UInt Try.prog 3 .i64 := ⟨Try.underlying3⟩
instance : UOne Try.prog 3 := ⟨⟨_, Try.underlying3, rfl⟩⟩
instance : USize Try.prog 4 (.bool false) 1 1 := ⟨by kernel_rfl⟩
instance : UBool Try.prog 4 := ⟨Try.underlying4⟩
instance : UOne Try.prog 4 := ⟨⟨_, Try.underlying4, rfl⟩⟩
instance : USize Try.prog 5 (.int .u8 0) 1 1 := ⟨by kernel_rfl⟩
instance : UInt Try.prog 5 .u8 := ⟨Try.underlying5⟩
instance : UOne Try.prog 5 := ⟨⟨_, Try.underlying5, rfl⟩⟩
instance : USize Try.prog 6 (.int .u8 0) 1 1 := ⟨by kernel_rfl⟩
instance : UInt Try.prog 6 .u8 := ⟨Try.underlying6⟩
instance : UOne Try.prog 6 := ⟨⟨_, Try.underlying6, rfl⟩⟩
instance : USize Try.prog 7 (.agg #[.int .i64 0, .int .i64 0, .bool false, .int .u8 0]) 4 24 := ⟨by kernel_rfl⟩
instance : UAgg Try.prog 7 := ⟨⟨_, Try.underlying7⟩⟩
instance : UField Try.prog 7 0 2 0 := ⟨⟨_, _, Try.underlying7, rfl, rfl, rfl, by kernel_rfl⟩⟩
instance : UField Try.prog 7 1 3 1 := ⟨⟨_, _, Try.underlying7, rfl, rfl, rfl, by kernel_rfl⟩⟩
instance : UField Try.prog 7 2 4 2 := ⟨⟨_, _, Try.underlying7, rfl, rfl, rfl, by kernel_rfl⟩⟩
instance : UField Try.prog 7 3 6 3 := ⟨⟨_, _, Try.underlying7, rfl, rfl, rfl, by kernel_rfl⟩⟩
instance : USize Try.prog 8 (.agg #[.int .i64 0, .int .i64 0, .bool false, .int .u8 0]) 4 24 := ⟨by kernel_rfl⟩
instance : UAgg Try.prog 8 := ⟨⟨_, Try.underlying8⟩⟩
instance : UField Try.prog 8 0 2 0 := ⟨⟨_, _, Try.underlying8, rfl, rfl, rfl, by kernel_rfl⟩⟩
instance : UField Try.prog 8 1 3 1 := ⟨⟨_, _, Try.underlying8, rfl, rfl, rfl, by kernel_rfl⟩⟩
instance : UField Try.prog 8 2 4 2 := ⟨⟨_, _, Try.underlying8, rfl, rfl, rfl, by kernel_rfl⟩⟩
instance : UField Try.prog 8 3 6 3 := ⟨⟨_, _, Try.underlying8, rfl, rfl, rfl, by kernel_rfl⟩⟩
instance : USize Try.prog 9 (.string ⟨#[]⟩) 1 16 := ⟨by kernel_rfl⟩
instance : UOne Try.prog 9 := ⟨⟨_, Try.underlying9, rfl⟩⟩
instance : USize Try.prog 10 (.string ⟨#[]⟩) 1 16 := ⟨by kernel_rfl⟩
instance : UOne Try.prog 10 := ⟨⟨_, Try.underlying10, rfl⟩⟩
instance : USize Try.prog 11 (.string ⟨#[]⟩) 1 16 := ⟨by kernel_rfl⟩
instance : UOne Try.prog 11 := ⟨⟨_, Try.underlying11, rfl⟩⟩
instance : USize Try.prog 12 (.int .u64 0) 1 8 := ⟨by kernel_rfl⟩
instance : UInt Try.prog 12 .u64 := ⟨Try.underlying12⟩
instance : UOne Try.prog 12 := ⟨⟨_, Try.underlying12, rfl⟩⟩
instance : USize Try.prog 13 (.agg #[.string ⟨#[]⟩, .int .u64 0]) 2 24 := ⟨by kernel_rfl⟩
instance : UAgg Try.prog 13 := ⟨⟨_, Try.underlying13⟩⟩
instance : UField Try.prog 13 0 9 0 := ⟨⟨_, _, Try.underlying13, rfl, rfl, rfl, by kernel_rfl⟩⟩
instance : UField Try.prog 13 1 12 1 := ⟨⟨_, _, Try.underlying13, rfl, rfl, rfl, by kernel_rfl⟩⟩
instance : USize Try.prog 14 (.agg #[.string ⟨#[]⟩, .int .u64 0]) 2 24 := ⟨by kernel_rfl⟩
instance : UAgg Try.prog 14 := ⟨⟨_, Try.underlying14⟩⟩
instance : UField Try.prog 14 0 9 0 := ⟨⟨_, _, Try.underlying14, rfl, rfl, rfl, by kernel_rfl⟩⟩
instance : UField Try.prog 14 1 12 1 := ⟨⟨_, _, Try.underlying14, rfl, rfl, rfl, by kernel_rfl⟩⟩
instance : USize Try.prog 15 (.pointer none) 1 8 := ⟨by kernel_rfl⟩
instance : UOne Try.prog 15 := ⟨⟨_, Try.underlying15, rfl⟩⟩
instance : USize Try.prog 16 (.pointer none) 1 8 := ⟨by kernel_rfl⟩
instance : UOne Try.prog 16 := ⟨⟨_, Try.underlying16, rfl⟩⟩
instance : USize Try.prog 17 (.pointer none) 1 8 := ⟨by kernel_rfl⟩
instance : UOne Try.prog 17 := ⟨⟨_, Try.underlying17, rfl⟩⟩
instance : USize Try.prog 18 (.agg #[.pointer none]) 1 8 := ⟨by kernel_rfl⟩
instance : UAgg Try.prog 18 := ⟨⟨_, Try.underlying18⟩⟩
instance : UField Try.prog 18 0 17 0 := ⟨⟨_, _, Try.underlying18, rfl, rfl, rfl, by kernel_rfl⟩⟩
instance : USize Try.prog 19 (.agg #[.pointer none]) 1 8 := ⟨by kernel_rfl⟩
instance : UAgg Try.prog 19 := ⟨⟨_, Try.underlying19⟩⟩
instance : UField Try.prog 19 0 17 0 := ⟨⟨_, _, Try.underlying19, rfl, rfl, rfl, by kernel_rfl⟩⟩
instance : USize Try.prog 20 (.nilIface) 1 16 := ⟨by kernel_rfl⟩
instance : UOne Try.prog 20 := ⟨⟨_, Try.underlying20, rfl⟩⟩
instance : USize Try.prog 21 (.int .i32 0) 1 4 := ⟨by kernel_rfl⟩
instance : UInt Try.prog 21 .i32 := ⟨Try.underlying21⟩
instance : UOne Try.prog 21 := ⟨⟨_, Try.underlying21, rfl⟩⟩
instance : USize Try.prog 22 (.slice none 0 0) 1 24 := ⟨by kernel_rfl⟩
instance : USlice Try.prog 22 40 := ⟨Try.underlying22⟩
instance : UOne Try.prog 22 := ⟨⟨_, Try.underlying22, rfl⟩⟩
instance : USize Try.prog 23 (.agg #[.int .i64 0, .int .i64 0, .slice none 0 0]) 3 40 := ⟨by kernel_rfl⟩
instance : UAgg Try.prog 23 := ⟨⟨_, Try.underlying23⟩⟩
instance : UField Try.prog 23 0 3 0 := ⟨⟨_, _, Try.underlying23, rfl, rfl, rfl, by kernel_rfl⟩⟩
instance : UField Try.prog 23 1 3 1 := ⟨⟨_, _, Try.underlying23, rfl, rfl, rfl, by kernel_rfl⟩⟩
instance : UField Try.prog 23 2 22 2 := ⟨⟨_, _, Try.underlying23, rfl, rfl, rfl, by kernel_rfl⟩⟩
instance : USize Try.prog 24 (.agg #[.int .i64 0, .int .i64 0, .slice none 0 0]) 3 40 := ⟨by kernel_rfl⟩
instance : UAgg Try.prog 24 := ⟨⟨_, Try.underlying24⟩⟩
instance : UField Try.prog 24 0 3 0 := ⟨⟨_, _, Try.underlying24, rfl, rfl, rfl, by kernel_rfl⟩⟩
instance : UField Try.prog 24 1 3 1 := ⟨⟨_, _, Try.underlying24, rfl, rfl, rfl, by kernel_rfl⟩⟩
instance : UField Try.prog 24 2 22 2 := ⟨⟨_, _, Try.underlying24, rfl, rfl, rfl, by kernel_rfl⟩⟩
instance : USize Try.prog 25 (.slice none 0 0) 1 24 := ⟨by kernel_rfl⟩
instance : USlice Try.prog 25 42 := ⟨Try.underlying25⟩
instance : UOne Try.prog 25 := ⟨⟨_, Try.underlying25, rfl⟩⟩
instance : USize Try.prog 26 (.nilFunc) 1 8 := ⟨by kernel_rfl⟩
instance : UOne Try.prog 26 := ⟨⟨_, Try.underlying26, rfl⟩⟩
instance : USize Try.prog 27 (.int .i64 0) 1 8 := ⟨by kernel_rfl⟩
instance : UInt Try.prog 27 .i64 := ⟨Try.underlying27⟩
instance : UOne Try.prog 27 := ⟨⟨_, Try.underlying27, rfl⟩⟩
instance : USize Try.prog 28 (.nilFunc) 1 8 := ⟨by kernel_rfl⟩
instance : UOne Try.prog 28 := ⟨⟨_, Try.underlying28, rfl⟩⟩
instance : USize Try.prog 30 (.nilFunc) 1 8 := ⟨by kernel_rfl⟩
instance : UOne Try.prog 30 := ⟨⟨_, Try.underlying30, rfl⟩⟩
instance : USize Try.prog 31 (.nilFunc) 1 8 := ⟨by kernel_rfl⟩
instance : UOne Try.prog 31 := ⟨⟨_, Try.underlying31, rfl⟩⟩
instance : USize Try.prog 32 (.nilFunc) 1 8 := ⟨by kernel_rfl⟩
instance : UOne Try.prog 32 := ⟨⟨_, Try.underlying32, rfl⟩⟩
instance : USize Try.prog 33 (.nilFunc) 1 8 := ⟨by kernel_rfl⟩
instance : UOne Try.prog 33 := ⟨⟨_, Try.underlying33, rfl⟩⟩
instance : USize Try.prog 34 (.nilFunc) 1 8 := ⟨by kernel_rfl⟩
instance : UOne Try.prog 34 := ⟨⟨_, Try.underlying34, rfl⟩⟩
instance : USize Try.prog 35 (.nilFunc) 1 8 := ⟨by kernel_rfl⟩
instance : UOne Try.prog 35 := ⟨⟨_, Try.underlying35, rfl⟩⟩
instance : USize Try.prog 36 (.pointer none) 1 8 := ⟨by kernel_rfl⟩
instance : UOne Try.prog 36 := ⟨⟨_, Try.underlying36, rfl⟩⟩
instance : USize Try.prog 37 (.nilFunc) 1 8 := ⟨by kernel_rfl⟩
instance : UOne Try.prog 37 := ⟨⟨_, Try.underlying37, rfl⟩⟩
instance : USize Try.prog 38 (.slice none 0 0) 1 24 := ⟨by kernel_rfl⟩
instance : USlice Try.prog 38 85 := ⟨Try.underlying38⟩
instance : UOne Try.prog 38 := ⟨⟨_, Try.underlying38, rfl⟩⟩
instance : USize Try.prog 39 (.agg #[.bool false, .slice none 0 0]) 2 32 := ⟨by kernel_rfl⟩
instance : UAgg Try.prog 39 := ⟨⟨_, Try.underlying39⟩⟩
instance : UField Try.prog 39 0 4 0 := ⟨⟨_, _, Try.underlying39, rfl, rfl, rfl, by kernel_rfl⟩⟩
instance : UField Try.prog 39 1 38 1 := ⟨⟨_, _, Try.underlying39, rfl, rfl, rfl, by kernel_rfl⟩⟩
instance : USize Try.prog 40 (.agg #[.bool false, .slice none 0 0]) 2 32 := ⟨by kernel_rfl⟩
instance : UAgg Try.prog 40 := ⟨⟨_, Try.underlying40⟩⟩
instance : UField Try.prog 40 0 4 0 := ⟨⟨_, _, Try.underlying40, rfl, rfl, rfl, by kernel_rfl⟩⟩
instance : UField Try.prog 40 1 38 1 := ⟨⟨_, _, Try.underlying40, rfl, rfl, rfl, by kernel_rfl⟩⟩
instance : USize Try.prog 41 (.agg #[.int .i64 0, .int .i64 0, .int .i64 0, .bool false, .slice none 0 0]) 5 56 := ⟨by kernel_rfl⟩
instance : UAgg Try.prog 41 := ⟨⟨_, Try.underlying41⟩⟩
instance : UField Try.prog 41 0 3 0 := ⟨⟨_, _, Try.underlying41, rfl, rfl, rfl, by kernel_rfl⟩⟩
instance : UField Try.prog 41 1 3 1 := ⟨⟨_, _, Try.underlying41, rfl, rfl, rfl, by kernel_rfl⟩⟩
instance : UField Try.prog 41 2 3 2 := ⟨⟨_, _, Try.underlying41, rfl, rfl, rfl, by kernel_rfl⟩⟩
instance : UField Try.prog 41 3 40 3 := ⟨⟨_, _, Try.underlying41, rfl, rfl, rfl, by kernel_rfl⟩⟩
instance : USize Try.prog 42 (.agg #[.int .i64 0, .int .i64 0, .int .i64 0, .bool false, .slice none 0 0]) 5 56 := ⟨by kernel_rfl⟩
instance : UAgg Try.prog 42 := ⟨⟨_, Try.underlying42⟩⟩
instance : UField Try.prog 42 0 3 0 := ⟨⟨_, _, Try.underlying42, rfl, rfl, rfl, by kernel_rfl⟩⟩
instance : UField Try.prog 42 1 3 1 := ⟨⟨_, _, Try.underlying42, rfl, rfl, rfl, by kernel_rfl⟩⟩
instance : UField Try.prog 42 2 3 2 := ⟨⟨_, _, Try.underlying42, rfl, rfl, rfl, by kernel_rfl⟩⟩
instance : UField Try.prog 42 3 40 3 := ⟨⟨_, _, Try.underlying42, rfl, rfl, rfl, by kernel_rfl⟩⟩
instance : USize Try.prog 44 (.nilFunc) 1 8 := ⟨by kernel_rfl⟩
instance : UOne Try.prog 44 := ⟨⟨_, Try.underlying44, rfl⟩⟩
instance : USize Try.prog 45 (.nilFunc) 1 8 := ⟨by kernel_rfl⟩
instance : UOne Try.prog 45 := ⟨⟨_, Try.underlying45, rfl⟩⟩
instance : USize Try.prog 46 (.nilFunc) 1 8 := ⟨by kernel_rfl⟩
instance : UOne Try.prog 46 := ⟨⟨_, Try.underlying46, rfl⟩⟩
instance : USize Try.prog 47 (.nilFunc) 1 8 := ⟨by kernel_rfl⟩
instance : UOne Try.prog 47 := ⟨⟨_, Try.underlying47, rfl⟩⟩
instance : USize Try.prog 49 (.nilFunc) 1 8 := ⟨by kernel_rfl⟩
instance : UOne Try.prog 49 := ⟨⟨_, Try.underlying49, rfl⟩⟩
instance : USize Try.prog 50 (.nilFunc) 1 8 := ⟨by kernel_rfl⟩
instance : UOne Try.prog 50 := ⟨⟨_, Try.underlying50, rfl⟩⟩
instance : USize Try.prog 52 (.nilFunc) 1 8 := ⟨by kernel_rfl⟩
instance : UOne Try.prog 52 := ⟨⟨_, Try.underlying52, rfl⟩⟩
instance : USize Try.prog 53 (.nilFunc) 1 8 := ⟨by kernel_rfl⟩
instance : UOne Try.prog 53 := ⟨⟨_, Try.underlying53, rfl⟩⟩
instance : USize Try.prog 54 (.nilFunc) 1 8 := ⟨by kernel_rfl⟩
instance : UOne Try.prog 54 := ⟨⟨_, Try.underlying54, rfl⟩⟩
instance : USize Try.prog 55 (.nilFunc) 1 8 := ⟨by kernel_rfl⟩
instance : UOne Try.prog 55 := ⟨⟨_, Try.underlying55, rfl⟩⟩
instance : USize Try.prog 56 (.nilFunc) 1 8 := ⟨by kernel_rfl⟩
instance : UOne Try.prog 56 := ⟨⟨_, Try.underlying56, rfl⟩⟩
instance : USize Try.prog 57 (.nilFunc) 1 8 := ⟨by kernel_rfl⟩
instance : UOne Try.prog 57 := ⟨⟨_, Try.underlying57, rfl⟩⟩
instance : USize Try.prog 58 (.nilFunc) 1 8 := ⟨by kernel_rfl⟩
instance : UOne Try.prog 58 := ⟨⟨_, Try.underlying58, rfl⟩⟩
instance : USize Try.prog 59 (.nilFunc) 1 8 := ⟨by kernel_rfl⟩
instance : UOne Try.prog 59 := ⟨⟨_, Try.underlying59, rfl⟩⟩
instance : USize Try.prog 61 (.nilFunc) 1 8 := ⟨by kernel_rfl⟩
instance : UOne Try.prog 61 := ⟨⟨_, Try.underlying61, rfl⟩⟩
instance : USize Try.prog 62 (.slice none 0 0) 1 24 := ⟨by kernel_rfl⟩
instance : USlice Try.prog 62 22 := ⟨Try.underlying62⟩
instance : UOne Try.prog 62 := ⟨⟨_, Try.underlying62, rfl⟩⟩
instance : USize Try.prog 63 (.slice none 0 0) 1 24 := ⟨by kernel_rfl⟩
instance : USlice Try.prog 63 22 := ⟨Try.underlying63⟩
instance : UOne Try.prog 63 := ⟨⟨_, Try.underlying63, rfl⟩⟩
instance : USize Try.prog 64 (.nilFunc) 1 8 := ⟨by kernel_rfl⟩
instance : UOne Try.prog 64 := ⟨⟨_, Try.underlying64, rfl⟩⟩
instance : USize Try.prog 65 (.nilIface) 1 16 := ⟨by kernel_rfl⟩
instance : UOne Try.prog 65 := ⟨⟨_, Try.underlying65, rfl⟩⟩
instance : USize Try.prog 66 (.nilIface) 1 16 := ⟨by kernel_rfl⟩
instance : UOne Try.prog 66 := ⟨⟨_, Try.underlying66, rfl⟩⟩
instance : USize Try.prog 67 (.nilFunc) 1 8 := ⟨by kernel_rfl⟩
instance : UOne Try.prog 67 := ⟨⟨_, Try.underlying67, rfl⟩⟩
instance : USize Try.prog 68 (.nilFunc) 1 8 := ⟨by kernel_rfl⟩
instance : UOne Try.prog 68 := ⟨⟨_, Try.underlying68, rfl⟩⟩
instance : USize Try.prog 69 (.nilFunc) 1 8 := ⟨by kernel_rfl⟩
instance : UOne Try.prog 69 := ⟨⟨_, Try.underlying69, rfl⟩⟩
instance : USize Try.prog 70 (.nilFunc) 1 8 := ⟨by kernel_rfl⟩
instance : UOne Try.prog 70 := ⟨⟨_, Try.underlying70, rfl⟩⟩
instance : USize Try.prog 71 (.nilFunc) 1 8 := ⟨by kernel_rfl⟩
instance : UOne Try.prog 71 := ⟨⟨_, Try.underlying71, rfl⟩⟩
instance : USize Try.prog 72 (.nilFunc) 1 8 := ⟨by kernel_rfl⟩
instance : UOne Try.prog 72 := ⟨⟨_, Try.underlying72, rfl⟩⟩
instance : USize Try.prog 73 (.nilFunc) 1 8 := ⟨by kernel_rfl⟩
instance : UOne Try.prog 73 := ⟨⟨_, Try.underlying73, rfl⟩⟩
instance : USize Try.prog 74 (.nilFunc) 1 8 := ⟨by kernel_rfl⟩
instance : UOne Try.prog 74 := ⟨⟨_, Try.underlying74, rfl⟩⟩
instance : USize Try.prog 75 (.nilFunc) 1 8 := ⟨by kernel_rfl⟩
instance : UOne Try.prog 75 := ⟨⟨_, Try.underlying75, rfl⟩⟩
instance : USize Try.prog 76 (.slice none 0 0) 1 24 := ⟨by kernel_rfl⟩
instance : USlice Try.prog 76 66 := ⟨Try.underlying76⟩
instance : UOne Try.prog 76 := ⟨⟨_, Try.underlying76, rfl⟩⟩
instance : USize Try.prog 77 (.agg #[.slice none 0 0, .slice none 0 0]) 2 48 := ⟨by kernel_rfl⟩
instance : UAgg Try.prog 77 := ⟨⟨_, Try.underlying77⟩⟩
instance : UField Try.prog 77 0 76 0 := ⟨⟨_, _, Try.underlying77, rfl, rfl, rfl, by kernel_rfl⟩⟩
instance : UField Try.prog 77 1 76 1 := ⟨⟨_, _, Try.underlying77, rfl, rfl, rfl, by kernel_rfl⟩⟩
instance : USize Try.prog 78 (.agg #[.slice none 0 0, .slice none 0 0]) 2 48 := ⟨by kernel_rfl⟩
instance : UAgg Try.prog 78 := ⟨⟨_, Try.underlying78⟩⟩
instance : UField Try.prog 78 0 76 0 := ⟨⟨_, _, Try.underlying78, rfl, rfl, rfl, by kernel_rfl⟩⟩
instance : UField Try.prog 78 1 76 1 := ⟨⟨_, _, Try.underlying78, rfl, rfl, rfl, by kernel_rfl⟩⟩
instance : USize Try.prog 79 (.agg #[.slice none 0 0, .slice none 0 0, .slice none 0 0, .int .i64 0]) 4 80 := ⟨by kernel_rfl⟩
instance : UAgg Try.prog 79 := ⟨⟨_, Try.underlying79⟩⟩
instance : UField Try.prog 79 0 78 0 := ⟨⟨_, _, Try.underlying79, rfl, rfl, rfl, by kernel_rfl⟩⟩
instance : UField Try.prog 79 1 63 2 := ⟨⟨_, _, Try.underlying79, rfl, rfl, rfl, by kernel_rfl⟩⟩
instance : UField Try.prog 79 2 3 3 := ⟨⟨_, _, Try.underlying79, rfl, rfl, rfl, by kernel_rfl⟩⟩
instance : USize Try.prog 80 (.agg #[.slice none 0 0, .slice none 0 0, .slice none 0 0, .int .i64 0]) 4 80 := ⟨by kernel_rfl⟩
instance : UAgg Try.prog 80 := ⟨⟨_, Try.underlying80⟩⟩
instance : UField Try.prog 80 0 78 0 := ⟨⟨_, _, Try.underlying80, rfl, rfl, rfl, by kernel_rfl⟩⟩
instance : UField Try.prog 80 1 63 2 := ⟨⟨_, _, Try.underlying80, rfl, rfl, rfl, by kernel_rfl⟩⟩
instance : UField Try.prog 80 2 3 3 := ⟨⟨_, _, Try.underlying80, rfl, rfl, rfl, by kernel_rfl⟩⟩
instance : USize Try.prog 81 (.nilFunc) 1 8 := ⟨by kernel_rfl⟩
instance : UOne Try.prog 81 := ⟨⟨_, Try.underlying81, rfl⟩⟩
instance : USize Try.prog 83 (.nilFunc) 1 8 := ⟨by kernel_rfl⟩
instance : UOne Try.prog 83 := ⟨⟨_, Try.underlying83, rfl⟩⟩
instance : USize Try.prog 84 (.nilFunc) 1 8 := ⟨by kernel_rfl⟩
instance : UOne Try.prog 84 := ⟨⟨_, Try.underlying84, rfl⟩⟩
instance : USize Try.prog 85 (.int .u64 0) 1 8 := ⟨by kernel_rfl⟩
instance : UInt Try.prog 85 .u64 := ⟨Try.underlying85⟩
instance : UOne Try.prog 85 := ⟨⟨_, Try.underlying85, rfl⟩⟩
instance : USize Try.prog 86 (.nilFunc) 1 8 := ⟨by kernel_rfl⟩
instance : UOne Try.prog 86 := ⟨⟨_, Try.underlying86, rfl⟩⟩
instance : USize Try.prog 87 (.nilFunc) 1 8 := ⟨by kernel_rfl⟩
instance : UOne Try.prog 87 := ⟨⟨_, Try.underlying87, rfl⟩⟩
instance : USize Try.prog 88 (.nilFunc) 1 8 := ⟨by kernel_rfl⟩
instance : UOne Try.prog 88 := ⟨⟨_, Try.underlying88, rfl⟩⟩
instance : USize Try.prog 89 (.nilFunc) 1 8 := ⟨by kernel_rfl⟩
instance : UOne Try.prog 89 := ⟨⟨_, Try.underlying89, rfl⟩⟩
instance : USize Try.prog 90 (.nilFunc) 1 8 := ⟨by kernel_rfl⟩
instance : UOne Try.prog 90 := ⟨⟨_, Try.underlying90, rfl⟩⟩
instance : USize Try.prog 91 (.pointer none) 1 8 := ⟨by kernel_rfl⟩
instance : UOne Try.prog 91 := ⟨⟨_, Try.underlying91, rfl⟩⟩
instance : USize Try.prog 92 (.agg #[.slice none 0 0, .slice none 0 0]) 2 48 := ⟨by kernel_rfl⟩
instance : UAgg Try.prog 92 := ⟨⟨_, Try.underlying92⟩⟩
instance : UField Try.prog 92 0 63 0 := ⟨⟨_, _, Try.underlying92, rfl, rfl, rfl, by kernel_rfl⟩⟩
instance : UField Try.prog 92 1 25 1 := ⟨⟨_, _, Try.underlying92, rfl, rfl, rfl, by kernel_rfl⟩⟩
instance : USize Try.prog 93 (.agg #[.slice none 0 0, .slice none 0 0]) 2 48 := ⟨by kernel_rfl⟩
instance : UAgg Try.prog 93 := ⟨⟨_, Try.underlying93⟩⟩
instance : UField Try.prog 93 0 63 0 := ⟨⟨_, _, Try.underlying93, rfl, rfl, rfl, by kernel_rfl⟩⟩
instance : UField Try.prog 93 1 25 1 := ⟨⟨_, _, Try.underlying93, rfl, rfl, rfl, by kernel_rfl⟩⟩
instance : USize Try.prog 94 (.nilFunc) 1 8 := ⟨by kernel_rfl⟩
instance : UOne Try.prog 94 := ⟨⟨_, Try.underlying94, rfl⟩⟩
instance : USize Try.prog 95 (.nilFunc) 1 8 := ⟨by kernel_rfl⟩
instance : UOne Try.prog 95 := ⟨⟨_, Try.underlying95, rfl⟩⟩
instance : USize Try.prog 96 (.agg #[.int .i64 0, .int .i64 0, .bool false, .slice none 0 0]) 4 48 := ⟨by kernel_rfl⟩
instance : UAgg Try.prog 96 := ⟨⟨_, Try.underlying96⟩⟩
instance : UField Try.prog 96 0 3 0 := ⟨⟨_, _, Try.underlying96, rfl, rfl, rfl, by kernel_rfl⟩⟩
instance : UField Try.prog 96 1 3 1 := ⟨⟨_, _, Try.underlying96, rfl, rfl, rfl, by kernel_rfl⟩⟩
instance : UField Try.prog 96 2 40 2 := ⟨⟨_, _, Try.underlying96, rfl, rfl, rfl, by kernel_rfl⟩⟩
instance : USize Try.prog 97 (.agg #[.int .i64 0, .int .i64 0, .bool false, .slice none 0 0]) 4 48 := ⟨by kernel_rfl⟩
instance : UAgg Try.prog 97 := ⟨⟨_, Try.underlying97⟩⟩
instance : UField Try.prog 97 0 3 0 := ⟨⟨_, _, Try.underlying97, rfl, rfl, rfl, by kernel_rfl⟩⟩
instance : UField Try.prog 97 1 3 1 := ⟨⟨_, _, Try.underlying97, rfl, rfl, rfl, by kernel_rfl⟩⟩
instance : UField Try.prog 97 2 40 2 := ⟨⟨_, _, Try.underlying97, rfl, rfl, rfl, by kernel_rfl⟩⟩
instance : USize Try.prog 98 (.nilFunc) 1 8 := ⟨by kernel_rfl⟩
instance : UOne Try.prog 98 := ⟨⟨_, Try.underlying98, rfl⟩⟩
instance : USize Try.prog 99 (.nilFunc) 1 8 := ⟨by kernel_rfl⟩
instance : UOne Try.prog 99 := ⟨⟨_, Try.underlying99, rfl⟩⟩
instance : USize Try.prog 100 (.nilFunc) 1 8 := ⟨by kernel_rfl⟩
instance : UOne Try.prog 100 := ⟨⟨_, Try.underlying100, rfl⟩⟩
instance : USize Try.prog 101 (.slice none 0 0) 1 24 := ⟨by kernel_rfl⟩
instance : USlice Try.prog 101 24 := ⟨Try.underlying101⟩
instance : UOne Try.prog 101 := ⟨⟨_, Try.underlying101, rfl⟩⟩
instance : USize Try.prog 102 (.nilFunc) 1 8 := ⟨by kernel_rfl⟩
instance : UOne Try.prog 102 := ⟨⟨_, Try.underlying102, rfl⟩⟩
instance : USize Try.prog 103 (.nilFunc) 1 8 := ⟨by kernel_rfl⟩
instance : UOne Try.prog 103 := ⟨⟨_, Try.underlying103, rfl⟩⟩
instance : USize Try.prog 104 (.nilFunc) 1 8 := ⟨by kernel_rfl⟩
instance : UOne Try.prog 104 := ⟨⟨_, Try.underlying104, rfl⟩⟩
instance : USize Try.prog 105 (.nilFunc) 1 8 := ⟨by kernel_rfl⟩
instance : UOne Try.prog 105 := ⟨⟨_, Try.underlying105, rfl⟩⟩
instance : USize Try.prog 106 (.nilFunc) 1 8 := ⟨by kernel_rfl⟩
instance : UOne Try.prog 106 := ⟨⟨_, Try.underlying106, rfl⟩⟩
instance : USize Try.prog 107 (.agg #[.int .i64 0, .int .i64 0]) 2 16 := ⟨by kernel_rfl⟩
instance : UAgg Try.prog 107 := ⟨⟨_, Try.underlying107⟩⟩
instance : UField Try.prog 107 0 3 0 := ⟨⟨_, _, Try.underlying107, rfl, rfl, rfl, by kernel_rfl⟩⟩
instance : UField Try.prog 107 1 3 1 := ⟨⟨_, _, Try.underlying107, rfl, rfl, rfl, by kernel_rfl⟩⟩
instance : USize Try.prog 108 (.agg #[.int .i64 0, .int .i64 0]) 2 16 := ⟨by kernel_rfl⟩
instance : UAgg Try.prog 108 := ⟨⟨_, Try.underlying108⟩⟩
instance : UField Try.prog 108 0 3 0 := ⟨⟨_, _, Try.underlying108, rfl, rfl, rfl, by kernel_rfl⟩⟩
instance : UField Try.prog 108 1 3 1 := ⟨⟨_, _, Try.underlying108, rfl, rfl, rfl, by kernel_rfl⟩⟩
instance : USize Try.prog 109 (.agg #[.int .i64 0]) 1 8 := ⟨by kernel_rfl⟩
instance : UAgg Try.prog 109 := ⟨⟨_, Try.underlying109⟩⟩
instance : UField Try.prog 109 0 3 0 := ⟨⟨_, _, Try.underlying109, rfl, rfl, rfl, by kernel_rfl⟩⟩
instance : USize Try.prog 110 (.agg #[.int .i64 0]) 1 8 := ⟨by kernel_rfl⟩
instance : UAgg Try.prog 110 := ⟨⟨_, Try.underlying110⟩⟩
instance : UField Try.prog 110 0 3 0 := ⟨⟨_, _, Try.underlying110, rfl, rfl, rfl, by kernel_rfl⟩⟩
instance : USize Try.prog 111 (.agg #[]) 0 0 := ⟨by kernel_rfl⟩
instance : UAgg Try.prog 111 := ⟨⟨_, Try.underlying111⟩⟩
instance : USize Try.prog 112 (.agg #[]) 0 0 := ⟨by kernel_rfl⟩
instance : UAgg Try.prog 112 := ⟨⟨_, Try.underlying112⟩⟩
instance : USize Try.prog 113 (.nilFunc) 1 8 := ⟨by kernel_rfl⟩
instance : UOne Try.prog 113 := ⟨⟨_, Try.underlying113, rfl⟩⟩
instance : USize Try.prog 114 (.pointer none) 1 8 := ⟨by kernel_rfl⟩
instance : UOne Try.prog 114 := ⟨⟨_, Try.underlying114, rfl⟩⟩
instance : USize Try.prog 115 (.nilFunc) 1 8 := ⟨by kernel_rfl⟩
instance : UOne Try.prog 115 := ⟨⟨_, Try.underlying115, rfl⟩⟩
instance : USize Try.prog 116 (.nilFunc) 1 8 := ⟨by kernel_rfl⟩
instance : UOne Try.prog 116 := ⟨⟨_, Try.underlying116, rfl⟩⟩
instance : USize Try.prog 118 (.nilFunc) 1 8 := ⟨by kernel_rfl⟩
instance : UOne Try.prog 118 := ⟨⟨_, Try.underlying118, rfl⟩⟩
instance : USize Try.prog 119 (.nilFunc) 1 8 := ⟨by kernel_rfl⟩
instance : UOne Try.prog 119 := ⟨⟨_, Try.underlying119, rfl⟩⟩
instance : USize Try.prog 121 (.nilFunc) 1 8 := ⟨by kernel_rfl⟩
instance : UOne Try.prog 121 := ⟨⟨_, Try.underlying121, rfl⟩⟩
instance : USize Try.prog 122 (.nilFunc) 1 8 := ⟨by kernel_rfl⟩
instance : UOne Try.prog 122 := ⟨⟨_, Try.underlying122, rfl⟩⟩
instance : USize Try.prog 123 (.nilFunc) 1 8 := ⟨by kernel_rfl⟩
instance : UOne Try.prog 123 := ⟨⟨_, Try.underlying123, rfl⟩⟩
instance : USize Try.prog 124 (.nilFunc) 1 8 := ⟨by kernel_rfl⟩
instance : UOne Try.prog 124 := ⟨⟨_, Try.underlying124, rfl⟩⟩
instance : USize Try.prog 125 (.nilFunc) 1 8 := ⟨by kernel_rfl⟩
instance : UOne Try.prog 125 := ⟨⟨_, Try.underlying125, rfl⟩⟩
instance : USize Try.prog 127 (.nilFunc) 1 8 := ⟨by kernel_rfl⟩
instance : UOne Try.prog 127 := ⟨⟨_, Try.underlying127, rfl⟩⟩
instance : USize Try.prog 128 (.nilFunc) 1 8 := ⟨by kernel_rfl⟩
instance : UOne Try.prog 128 := ⟨⟨_, Try.underlying128, rfl⟩⟩
instance : USize Try.prog 129 (.nilFunc) 1 8 := ⟨by kernel_rfl⟩
instance : UOne Try.prog 129 := ⟨⟨_, Try.underlying129, rfl⟩⟩
instance : USize Try.prog 131 (.nilFunc) 1 8 := ⟨by kernel_rfl⟩
instance : UOne Try.prog 131 := ⟨⟨_, Try.underlying131, rfl⟩⟩
instance : USize Try.prog 132 (.int .u64 0) 1 8 := ⟨by kernel_rfl⟩
instance : UInt Try.prog 132 .u64 := ⟨Try.underlying132⟩
instance : UOne Try.prog 132 := ⟨⟨_, Try.underlying132, rfl⟩⟩
instance : USize Try.prog 133 (.nilFunc) 1 8 := ⟨by kernel_rfl⟩
instance : UOne Try.prog 133 := ⟨⟨_, Try.underlying133, rfl⟩⟩
instance : USize Try.prog 134 (.nilFunc) 1 8 := ⟨by kernel_rfl⟩
instance : UOne Try.prog 134 := ⟨⟨_, Try.underlying134, rfl⟩⟩
instance : USize Try.prog 136 (.nilFunc) 1 8 := ⟨by kernel_rfl⟩
instance : UOne Try.prog 136 := ⟨⟨_, Try.underlying136, rfl⟩⟩
instance : USize Try.prog 138 (.nilFunc) 1 8 := ⟨by kernel_rfl⟩
instance : UOne Try.prog 138 := ⟨⟨_, Try.underlying138, rfl⟩⟩
instance : USize Try.prog 140 (.nilFunc) 1 8 := ⟨by kernel_rfl⟩
instance : UOne Try.prog 140 := ⟨⟨_, Try.underlying140, rfl⟩⟩
instance : USize Try.prog 141 (.nilFunc) 1 8 := ⟨by kernel_rfl⟩
instance : UOne Try.prog 141 := ⟨⟨_, Try.underlying141, rfl⟩⟩
instance : USize Try.prog 142 (.nilFunc) 1 8 := ⟨by kernel_rfl⟩
instance : UOne Try.prog 142 := ⟨⟨_, Try.underlying142, rfl⟩⟩
instance : USize Try.prog 143 (.nilFunc) 1 8 := ⟨by kernel_rfl⟩
instance : UOne Try.prog 143 := ⟨⟨_, Try.underlying143, rfl⟩⟩
instance : USize Try.prog 144 (.nilFunc) 1 8 := ⟨by kernel_rfl⟩
instance : UOne Try.prog 144 := ⟨⟨_, Try.underlying144, rfl⟩⟩
instance : USize Try.prog 145 (.nilFunc) 1 8 := ⟨by kernel_rfl⟩
instance : UOne Try.prog 145 := ⟨⟨_, Try.underlying145, rfl⟩⟩
instance : USize Try.prog 146 (.nilIface) 1 16 := ⟨by kernel_rfl⟩
instance : UOne Try.prog 146 := ⟨⟨_, Try.underlying146, rfl⟩⟩
instance : USize Try.prog 147 (.nilIface) 1 16 := ⟨by kernel_rfl⟩
instance : UOne Try.prog 147 := ⟨⟨_, Try.underlying147, rfl⟩⟩
instance : USize Try.prog 148 (.pointer none) 1 8 := ⟨by kernel_rfl⟩
instance : UOne Try.prog 148 := ⟨⟨_, Try.underlying148, rfl⟩⟩
instance : USize Try.prog 149 (.nilFunc) 1 8 := ⟨by kernel_rfl⟩
instance : UOne Try.prog 149 := ⟨⟨_, Try.underlying149, rfl⟩⟩
instance : USize Try.prog 150 (.agg #[.pointer none, .pointer none, .pointer none, .string ⟨#[]⟩]) 4 40 := ⟨by kernel_rfl⟩
instance : UAgg Try.prog 150 := ⟨⟨_, Try.underlying150⟩⟩
instance : UField Try.prog 150 0 17 0 := ⟨⟨_, _, Try.underlying150, rfl, rfl, rfl, by kernel_rfl⟩⟩
instance : UField Try.prog 150 1 17 1 := ⟨⟨_, _, Try.underlying150, rfl, rfl, rfl, by kernel_rfl⟩⟩
instance : UField Try.prog 150 2 17 2 := ⟨⟨_, _, Try.underlying150, rfl, rfl, rfl, by kernel_rfl⟩⟩
instance : UField Try.prog 150 3 9 3 := ⟨⟨_, _, Try.underlying150, rfl, rfl, rfl, by kernel_rfl⟩⟩
instance : USize Try.prog 151 (.agg #[.pointer none, .pointer none, .pointer none, .string ⟨#[]⟩]) 4 40 := ⟨by kernel_rfl⟩
instance : UAgg Try.prog 151 := ⟨⟨_, Try.underlying151⟩⟩
instance : UField Try.prog 151 0 17 0 := ⟨⟨_, _, Try.underlying151, rfl, rfl, rfl, by kernel_rfl⟩⟩
instance : UField Try.prog 151 1 17 1 := ⟨⟨_, _, Try.underlying151, rfl, rfl, rfl, by kernel_rfl⟩⟩
instance : UField Try.prog 151 2 17 2 := ⟨⟨_, _, Try.underlying151, rfl, rfl, rfl, by kernel_rfl⟩⟩
instance : UField Try.prog 151 3 9 3 := ⟨⟨_, _, Try.underlying151, rfl, rfl, rfl, by kernel_rfl⟩⟩
instance : USize Try.prog 152 (.agg #[]) 0 0 := ⟨by kernel_rfl⟩
instance : USize Try.prog 153 (.agg #[]) 0 0 := ⟨by kernel_rfl⟩
instance : UAgg Try.prog 153 := ⟨⟨_, Try.underlying153⟩⟩
instance : USize Try.prog 154 (.agg #[]) 0 0 := ⟨by kernel_rfl⟩
instance : UAgg Try.prog 154 := ⟨⟨_, Try.underlying154⟩⟩
instance : USize Try.prog 155 (.nilFunc) 1 8 := ⟨by kernel_rfl⟩
instance : UOne Try.prog 155 := ⟨⟨_, Try.underlying155, rfl⟩⟩
instance : USize Try.prog 156 (.int .u32 0) 1 4 := ⟨by kernel_rfl⟩
instance : UInt Try.prog 156 .u32 := ⟨Try.underlying156⟩
instance : UOne Try.prog 156 := ⟨⟨_, Try.underlying156, rfl⟩⟩
instance : USize Try.prog 157 (.int .u8 0) 1 1 := ⟨by kernel_rfl⟩
instance : UInt Try.prog 157 .u8 := ⟨Try.underlying157⟩
instance : UOne Try.prog 157 := ⟨⟨_, Try.underlying157, rfl⟩⟩
instance : USize Try.prog 158 (.int .u8 0) 1 1 := ⟨by kernel_rfl⟩
instance : UInt Try.prog 158 .u8 := ⟨Try.underlying158⟩
instance : UOne Try.prog 158 := ⟨⟨_, Try.underlying158, rfl⟩⟩
instance : USize Try.prog 159 (.nilFunc) 1 8 := ⟨by kernel_rfl⟩
instance : UOne Try.prog 159 := ⟨⟨_, Try.underlying159, rfl⟩⟩
instance : USize Try.prog 160 (.pointer none) 1 8 := ⟨by kernel_rfl⟩
instance : UOne Try.prog 160 := ⟨⟨_, Try.underlying160, rfl⟩⟩
instance : USize Try.prog 161 (.int .i32 0) 1 4 := ⟨by kernel_rfl⟩
instance : UInt Try.prog 161 .i32 := ⟨Try.underlying161⟩
instance : UOne Try.prog 161 := ⟨⟨_, Try.underlying161, rfl⟩⟩
instance : USize Try.prog 162 (.int .i32 0) 1 4 := ⟨by kernel_rfl⟩
instance : UInt Try.prog 162 .i32 := ⟨Try.underlying162⟩
instance : UOne Try.prog 162 := ⟨⟨_, Try.underlying162, rfl⟩⟩
instance : USize Try.prog 163 (.agg #[.int .u64 0, .int .u64 0, .int .u32 0, .int .u8 0, .int .u8 0, .int .u8 0, .int .u8 0, .nilFunc, .pointer none, .int .i32 0, .int .i32 0]) 11 48 := ⟨by kernel_rfl⟩
instance : UAgg Try.prog 163 := ⟨⟨_, Try.underlying163⟩⟩
instance : UField Try.prog 163 0 12 0 := ⟨⟨_, _, Try.underlying163, rfl, rfl, rfl, by kernel_rfl⟩⟩
instance : UField Try.prog 163 1 12 1 := ⟨⟨_, _, Try.underlying163, rfl, rfl, rfl, by kernel_rfl⟩⟩
instance : UField Try.prog 163 2 156 2 := ⟨⟨_, _, Try.underlying163, rfl, rfl, rfl, by kernel_rfl⟩⟩
instance : UField Try.prog 163 3 157 3 := ⟨⟨_, _, Try.underlying163, rfl, rfl, rfl, by kernel_rfl⟩⟩
instance : UField Try.prog 163 4 5 4 := ⟨⟨_, _, Try.underlying163, rfl, rfl, rfl, by kernel_rfl⟩⟩
instance : UField Try.prog 163 5 5 5 := ⟨⟨_, _, Try.underlying163, rfl, rfl, rfl, by kernel_rfl⟩⟩
instance : UField Try.prog 163 6 158 6 := ⟨⟨_, _, Try.underlying163, rfl, rfl, rfl, by kernel_rfl⟩⟩
instance : UField Try.prog 163 7 159 7 := ⟨⟨_, _, Try.underlying163, rfl, rfl, rfl, by kernel_rfl⟩⟩
instance : UField Try.prog 163 8 160 8 := ⟨⟨_, _, Try.underlying163, rfl, rfl, rfl, by kernel_rfl⟩⟩
instance : UField Try.prog 163 9 161 9 := ⟨⟨_, _, Try.underlying163, rfl, rfl, rfl, by kernel_rfl⟩⟩
instance : UField Try.prog 163 10 162 10 := ⟨⟨_, _, Try.underlying163, rfl, rfl, rfl, by kernel_rfl⟩⟩
instance : USize Try.prog 164 (.agg #[.int .u64 0, .int .u64 0, .int .u32 0, .int .u8 0, .int .u8 0, .int .u8 0, .int .u8 0, .nilFunc, .pointer none, .int .i32 0, .int .i32 0]) 11 48 := ⟨by kernel_rfl⟩
instance : UAgg Try.prog 164 := ⟨⟨_, Try.underlying164⟩⟩
instance : UField Try.prog 164 0 12 0 := ⟨⟨_, _, Try.underlying164, rfl, rfl, rfl, by kernel_rfl⟩⟩
instance : UField Try.prog 164 1 12 1 := ⟨⟨_, _, Try.underlying164, rfl, rfl, rfl, by kernel_rfl⟩⟩
instance : UField Try.prog 164 2 156 2 := ⟨⟨_, _, Try.underlying164, rfl, rfl, rfl, by kernel_rfl⟩⟩
instance : UField Try.prog 164 3 157 3 := ⟨⟨_, _, Try.underlying164, rfl, rfl, rfl, by kernel_rfl⟩⟩
instance : UField Try.prog 164 4 5 4 := ⟨⟨_, _, Try.underlying164, rfl, rfl, rfl, by kernel_rfl⟩⟩
instance : UField Try.prog 164 5 5 5 := ⟨⟨_, _, Try.underlying164, rfl, rfl, rfl, by kernel_rfl⟩⟩
instance : UField Try.prog 164 6 158 6 := ⟨⟨_, _, Try.underlying164, rfl, rfl, rfl, by kernel_rfl⟩⟩
instance : UField Try.prog 164 7 159 7 := ⟨⟨_, _, Try.underlying164, rfl, rfl, rfl, by kernel_rfl⟩⟩
instance : UField Try.prog 164 8 160 8 := ⟨⟨_, _, Try.underlying164, rfl, rfl, rfl, by kernel_rfl⟩⟩
instance : UField Try.prog 164 9 161 9 := ⟨⟨_, _, Try.underlying164, rfl, rfl, rfl, by kernel_rfl⟩⟩
instance : UField Try.prog 164 10 162 10 := ⟨⟨_, _, Try.underlying164, rfl, rfl, rfl, by kernel_rfl⟩⟩
instance : USize Try.prog 165 (.nilFunc) 1 8 := ⟨by kernel_rfl⟩
instance : UOne Try.prog 165 := ⟨⟨_, Try.underlying165, rfl⟩⟩
instance : USize Try.prog 166 (.agg #[.string ⟨#[]⟩]) 1 16 := ⟨by kernel_rfl⟩
instance : UAgg Try.prog 166 := ⟨⟨_, Try.underlying166⟩⟩
instance : UField Try.prog 166 0 9 0 := ⟨⟨_, _, Try.underlying166, rfl, rfl, rfl, by kernel_rfl⟩⟩
instance : USize Try.prog 167 (.agg #[.string ⟨#[]⟩]) 1 16 := ⟨by kernel_rfl⟩
instance : UAgg Try.prog 167 := ⟨⟨_, Try.underlying167⟩⟩
instance : UField Try.prog 167 0 9 0 := ⟨⟨_, _, Try.underlying167, rfl, rfl, rfl, by kernel_rfl⟩⟩
instance : USize Try.prog 168 (.pointer none) 1 8 := ⟨by kernel_rfl⟩
instance : IsFn Try.prog 3 := ⟨⟨_, Try.func3, by kernel_rfl, by kernel_rfl⟩⟩
instance : IsFn Try.prog 4 := ⟨⟨_, Try.func4, by kernel_rfl, by kernel_rfl⟩⟩
instance : IsFn Try.prog 5 := ⟨⟨_, Try.func5, by kernel_rfl, by kernel_rfl⟩⟩
instance : IsFn Try.prog 6 := ⟨⟨_, Try.func6, by kernel_rfl, by kernel_rfl⟩⟩
instance : IsFn Try.prog 7 := ⟨⟨_, Try.func7, by kernel_rfl, by kernel_rfl⟩⟩
instance : IsFn Try.prog 8 := ⟨⟨_, Try.func8, by kernel_rfl, by kernel_rfl⟩⟩
instance : IsFn Try.prog 9 := ⟨⟨_, Try.func9, by kernel_rfl, by kernel_rfl⟩⟩
instance : IsFn Try.prog 10 := ⟨⟨_, Try.func10, by kernel_rfl, by kernel_rfl⟩⟩
instance : IsFn Try.prog 11 := ⟨⟨_, Try.func11, by kernel_rfl, by kernel_rfl⟩⟩
instance : IsFn Try.prog 12 := ⟨⟨_, Try.func12, by kernel_rfl, by kernel_rfl⟩⟩
instance : IsFn Try.prog 13 := ⟨⟨_, Try.func13, by kernel_rfl, by kernel_rfl⟩⟩
instance : IsFn Try.prog 14 := ⟨⟨_, Try.func14, by kernel_rfl, by kernel_rfl⟩⟩
instance : IsFn Try.prog 15 := ⟨⟨_, Try.func15, by kernel_rfl, by kernel_rfl⟩⟩
instance : IsFn Try.prog 16 := ⟨⟨_, Try.func16, by kernel_rfl, by kernel_rfl⟩⟩
instance : IsFn Try.prog 17 := ⟨⟨_, Try.func17, by kernel_rfl, by kernel_rfl⟩⟩
instance : IsFn Try.prog 18 := ⟨⟨_, Try.func18, by kernel_rfl, by kernel_rfl⟩⟩
instance : IsFn Try.prog 19 := ⟨⟨_, Try.func19, by kernel_rfl, by kernel_rfl⟩⟩
instance : IsFn Try.prog 20 := ⟨⟨_, Try.func20, by kernel_rfl, by kernel_rfl⟩⟩
instance : IsFn Try.prog 21 := ⟨⟨_, Try.func21, by kernel_rfl, by kernel_rfl⟩⟩
instance : IsFn Try.prog 22 := ⟨⟨_, Try.func22, by kernel_rfl, by kernel_rfl⟩⟩
instance : IsFn Try.prog 23 := ⟨⟨_, Try.func23, by kernel_rfl, by kernel_rfl⟩⟩
instance : IsFn Try.prog 24 := ⟨⟨_, Try.func24, by kernel_rfl, by kernel_rfl⟩⟩
instance : IsFn Try.prog 25 := ⟨⟨_, Try.func25, by kernel_rfl, by kernel_rfl⟩⟩
instance : IsFn Try.prog 26 := ⟨⟨_, Try.func26, by kernel_rfl, by kernel_rfl⟩⟩
instance : IsFn Try.prog 27 := ⟨⟨_, Try.func27, by kernel_rfl, by kernel_rfl⟩⟩
instance : IsFn Try.prog 28 := ⟨⟨_, Try.func28, by kernel_rfl, by kernel_rfl⟩⟩
instance : IsFn Try.prog 29 := ⟨⟨_, Try.func29, by kernel_rfl, by kernel_rfl⟩⟩
instance : IsFn Try.prog 30 := ⟨⟨_, Try.func30, by kernel_rfl, by kernel_rfl⟩⟩
instance : IsFn Try.prog 31 := ⟨⟨_, Try.func31, by kernel_rfl, by kernel_rfl⟩⟩
instance : IsFn Try.prog 32 := ⟨⟨_, Try.func32, by kernel_rfl, by kernel_rfl⟩⟩
instance : IsFn Try.prog 33 := ⟨⟨_, Try.func33, by kernel_rfl, by kernel_rfl⟩⟩
instance : IsFn Try.prog 34 := ⟨⟨_, Try.func34, by kernel_rfl, by kernel_rfl⟩⟩
instance : IsFn Try.prog 35 := ⟨⟨_, Try.func35, by kernel_rfl, by kernel_rfl⟩⟩
instance : IsFn Try.prog 36 := ⟨⟨_, Try.func36, by kernel_rfl, by kernel_rfl⟩⟩
instance : IsFn Try.prog 37 := ⟨⟨_, Try.func37, by kernel_rfl, by kernel_rfl⟩⟩
instance : IsFn Try.prog 38 := ⟨⟨_, Try.func38, by kernel_rfl, by kernel_rfl⟩⟩
instance : IsFn Try.prog 39 := ⟨⟨_, Try.func39, by kernel_rfl, by kernel_rfl⟩⟩
instance : IsFn Try.prog 40 := ⟨⟨_, Try.func40, by kernel_rfl, by kernel_rfl⟩⟩
instance : IsFn Try.prog 41 := ⟨⟨_, Try.func41, by kernel_rfl, by kernel_rfl⟩⟩
instance : IsFn Try.prog 42 := ⟨⟨_, Try.func42, by kernel_rfl, by kernel_rfl⟩⟩
instance : IsFn Try.prog 43 := ⟨⟨_, Try.func43, by kernel_rfl, by kernel_rfl⟩⟩
instance : IsFn Try.prog 44 := ⟨⟨_, Try.func44, by kernel_rfl, by kernel_rfl⟩⟩
instance : IsFn Try.prog 45 := ⟨⟨_, Try.func45, by kernel_rfl, by kernel_rfl⟩⟩
instance : IsFn Try.prog 46 := ⟨⟨_, Try.func46, by kernel_rfl, by kernel_rfl⟩⟩
instance : IsFn Try.prog 47 := ⟨⟨_, Try.func47, by kernel_rfl, by kernel_rfl⟩⟩
instance : IsFn Try.prog 48 := ⟨⟨_, Try.func48, by kernel_rfl, by kernel_rfl⟩⟩
instance : IsFn Try.prog 49 := ⟨⟨_, Try.func49, by kernel_rfl, by kernel_rfl⟩⟩
instance : IsFn Try.prog 50 := ⟨⟨_, Try.func50, by kernel_rfl, by kernel_rfl⟩⟩
instance : IsFn Try.prog 51 := ⟨⟨_, Try.func51, by kernel_rfl, by kernel_rfl⟩⟩
instance : IsFn Try.prog 52 := ⟨⟨_, Try.func52, by kernel_rfl, by kernel_rfl⟩⟩
instance : IsFn Try.prog 53 := ⟨⟨_, Try.func53, by kernel_rfl, by kernel_rfl⟩⟩
instance : IsFn Try.prog 54 := ⟨⟨_, Try.func54, by kernel_rfl, by kernel_rfl⟩⟩
instance : IsFn Try.prog 55 := ⟨⟨_, Try.func55, by kernel_rfl, by kernel_rfl⟩⟩
instance : IsFn Try.prog 56 := ⟨⟨_, Try.func56, by kernel_rfl, by kernel_rfl⟩⟩
instance : IsFn Try.prog 57 := ⟨⟨_, Try.func57, by kernel_rfl, by kernel_rfl⟩⟩
instance : IsFn Try.prog 58 := ⟨⟨_, Try.func58, by kernel_rfl, by kernel_rfl⟩⟩
instance : IsFn Try.prog 59 := ⟨⟨_, Try.func59, by kernel_rfl, by kernel_rfl⟩⟩
instance : IsFn Try.prog 60 := ⟨⟨_, Try.func60, by kernel_rfl, by kernel_rfl⟩⟩
instance : IsFn Try.prog 61 := ⟨⟨_, Try.func61, by kernel_rfl, by kernel_rfl⟩⟩
instance : IsFn Try.prog 62 := ⟨⟨_, Try.func62, by kernel_rfl, by kernel_rfl⟩⟩
instance : IsFn Try.prog 63 := ⟨⟨_, Try.func63, by kernel_rfl, by kernel_rfl⟩⟩
instance : IsFn Try.prog 64 := ⟨⟨_, Try.func64, by kernel_rfl, by kernel_rfl⟩⟩
instance : IsFn Try.prog 65 := ⟨⟨_, Try.func65, by kernel_rfl, by kernel_rfl⟩⟩
instance : IsFn Try.prog 66 := ⟨⟨_, Try.func66, by kernel_rfl, by kernel_rfl⟩⟩
instance : IsFn Try.prog 67 := ⟨⟨_, Try.func67, by kernel_rfl, by kernel_rfl⟩⟩
instance : IsFn Try.prog 68 := ⟨⟨_, Try.func68, by kernel_rfl, by kernel_rfl⟩⟩
instance : IsFn Try.prog 69 := ⟨⟨_, Try.func69, by kernel_rfl, by kernel_rfl⟩⟩
instance : IsFn Try.prog 70 := ⟨⟨_, Try.func70, by kernel_rfl, by kernel_rfl⟩⟩
instance : IsFn Try.prog 71 := ⟨⟨_, Try.func71, by kernel_rfl, by kernel_rfl⟩⟩
instance : IsFn Try.prog 72 := ⟨⟨_, Try.func72, by kernel_rfl, by kernel_rfl⟩⟩
instance : IsFn Try.prog 73 := ⟨⟨_, Try.func73, by kernel_rfl, by kernel_rfl⟩⟩
instance : IsFn Try.prog 74 := ⟨⟨_, Try.func74, by kernel_rfl, by kernel_rfl⟩⟩
instance : IsFn Try.prog 75 := ⟨⟨_, Try.func75, by kernel_rfl, by kernel_rfl⟩⟩
instance : IsFn Try.prog 76 := ⟨⟨_, Try.func76, by kernel_rfl, by kernel_rfl⟩⟩
instance : IsFn Try.prog 77 := ⟨⟨_, Try.func77, by kernel_rfl, by kernel_rfl⟩⟩
instance : IsFn Try.prog 78 := ⟨⟨_, Try.func78, by kernel_rfl, by kernel_rfl⟩⟩
instance : IsFn Try.prog 79 := ⟨⟨_, Try.func79, by kernel_rfl, by kernel_rfl⟩⟩
instance : IsFn Try.prog 80 := ⟨⟨_, Try.func80, by kernel_rfl, by kernel_rfl⟩⟩
instance : IsFn Try.prog 81 := ⟨⟨_, Try.func81, by kernel_rfl, by kernel_rfl⟩⟩
instance : IsFn Try.prog 82 := ⟨⟨_, Try.func82, by kernel_rfl, by kernel_rfl⟩⟩
instance : IsFn Try.prog 83 := ⟨⟨_, Try.func83, by kernel_rfl, by kernel_rfl⟩⟩
instance : IsFn Try.prog 84 := ⟨⟨_, Try.func84, by kernel_rfl, by kernel_rfl⟩⟩
instance : IsFn Try.prog 85 := ⟨⟨_, Try.func85, by kernel_rfl, by kernel_rfl⟩⟩
instance : IsFn Try.prog 86 := ⟨⟨_, Try.func86, by kernel_rfl, by kernel_rfl⟩⟩
instance : IsFn Try.prog 87 := ⟨⟨_, Try.func87, by kernel_rfl, by kernel_rfl⟩⟩
instance : IsFn Try.prog 88 := ⟨⟨_, Try.func88, by kernel_rfl, by kernel_rfl⟩⟩
instance : IsFn Try.prog 89 := ⟨⟨_, Try.func89, by kernel_rfl, by kernel_rfl⟩⟩
instance : IsFn Try.prog 90 := ⟨⟨_, Try.func90, by kernel_rfl, by kernel_rfl⟩⟩
instance : IsFn Try.prog 91 := ⟨⟨_, Try.func91, by kernel_rfl, by kernel_rfl⟩⟩
instance : IsFn Try.prog 92 := ⟨⟨_, Try.func92, by kernel_rfl, by kernel_rfl⟩⟩
instance : IsFn Try.prog 93 := ⟨⟨_, Try.func93, by kernel_rfl, by kernel_rfl⟩⟩
instance : IsFn Try.prog 94 := ⟨⟨_, Try.func94, by kernel_rfl, by kernel_rfl⟩⟩
instance : IsFn Try.prog 95 := ⟨⟨_, Try.func95, by kernel_rfl, by kernel_rfl⟩⟩
instance : IsFn Try.prog 96 := ⟨⟨_, Try.func96, by kernel_rfl, by kernel_rfl⟩⟩
instance : IsFn Try.prog 97 := ⟨⟨_, Try.func97, by kernel_rfl, by kernel_rfl⟩⟩
instance : IsFn Try.prog 100 := ⟨⟨_, Try.func100, by kernel_rfl, by kernel_rfl⟩⟩
instance : IsFn Try.prog 101 := ⟨⟨_, Try.func101, by kernel_rfl, by kernel_rfl⟩⟩
instance : IsFn Try.prog 102 := ⟨⟨_, Try.func102, by kernel_rfl, by kernel_rfl⟩⟩
instance : IsFn Try.prog 103 := ⟨⟨_, Try.func103, by kernel_rfl, by kernel_rfl⟩⟩
instance : IsFn Try.prog 104 := ⟨⟨_, Try.func104, by kernel_rfl, by kernel_rfl⟩⟩
instance : IsFn Try.prog 105 := ⟨⟨_, Try.func105, by kernel_rfl, by kernel_rfl⟩⟩
instance : IsFn Try.prog 106 := ⟨⟨_, Try.func106, by kernel_rfl, by kernel_rfl⟩⟩
instance : IsFn Try.prog 107 := ⟨⟨_, Try.func107, by kernel_rfl, by kernel_rfl⟩⟩
instance : IsFn Try.prog 108 := ⟨⟨_, Try.func108, by kernel_rfl, by kernel_rfl⟩⟩
instance : IsFn Try.prog 109 := ⟨⟨_, Try.func109, by kernel_rfl, by kernel_rfl⟩⟩
instance : IsFn Try.prog 110 := ⟨⟨_, Try.func110, by kernel_rfl, by kernel_rfl⟩⟩
instance : IsFn Try.prog 111 := ⟨⟨_, Try.func111, by kernel_rfl, by kernel_rfl⟩⟩
instance : IsFn Try.prog 127 := ⟨⟨_, Try.func127, by kernel_rfl, by kernel_rfl⟩⟩
instance : IsFn Try.prog 128 := ⟨⟨_, Try.func128, by kernel_rfl, by kernel_rfl⟩⟩
instance : IsFn Try.prog 129 := ⟨⟨_, Try.func129, by kernel_rfl, by kernel_rfl⟩⟩
instance : IsFn Try.prog 130 := ⟨⟨_, Try.func130, by kernel_rfl, by kernel_rfl⟩⟩
instance : IsFn Try.prog 131 := ⟨⟨_, Try.func131, by kernel_rfl, by kernel_rfl⟩⟩
instance : IsFn Try.prog 132 := ⟨⟨_, Try.func132, by kernel_rfl, by kernel_rfl⟩⟩
instance : IsFn Try.prog 133 := ⟨⟨_, Try.func133, by kernel_rfl, by kernel_rfl⟩⟩
instance : IsFn Try.prog 134 := ⟨⟨_, Try.func134, by kernel_rfl, by kernel_rfl⟩⟩
instance : IsFn Try.prog 135 := ⟨⟨_, Try.func135, by kernel_rfl, by kernel_rfl⟩⟩
instance : IsFn Try.prog 136 := ⟨⟨_, Try.func136, by kernel_rfl, by kernel_rfl⟩⟩
instance : IsFn Try.prog 137 := ⟨⟨_, Try.func137, by kernel_rfl, by kernel_rfl⟩⟩
instance : IsFn Try.prog 138 := ⟨⟨_, Try.func138, by kernel_rfl, by kernel_rfl⟩⟩
instance : IsFn Try.prog 139 := ⟨⟨_, Try.func139, by kernel_rfl, by kernel_rfl⟩⟩
theorem mixed : Try.prog.follows .mixedOrders = true := by kernel_rfl
end Go.Proofs.Ytdhmhjbmkimplaa

namespace Go.Proofs.Ytdhmhjbmkimplaa
open Go Go.Eng Go.Proofs
instance : UStruct Try.prog 7 [(0, 1), (1, 1), (2, 1), (3, 1)] := ⟨⟨_, Try.underlying7, by kernel_rfl⟩⟩
instance : UStruct Try.prog 8 [(0, 1), (1, 1), (2, 1), (3, 1)] := ⟨⟨_, Try.underlying8, by kernel_rfl⟩⟩
instance : UStruct Try.prog 13 [(0, 1), (1, 1)] := ⟨⟨_, Try.underlying13, by kernel_rfl⟩⟩
instance : UStruct Try.prog 14 [(0, 1), (1, 1)] := ⟨⟨_, Try.underlying14, by kernel_rfl⟩⟩
instance : UStruct Try.prog 18 [(0, 1)] := ⟨⟨_, Try.underlying18, by kernel_rfl⟩⟩
instance : UStruct Try.prog 19 [(0, 1)] := ⟨⟨_, Try.underlying19, by kernel_rfl⟩⟩
instance : UStruct Try.prog 23 [(0, 1), (1, 1), (2, 1)] := ⟨⟨_, Try.underlying23, by kernel_rfl⟩⟩
instance : UStruct Try.prog 24 [(0, 1), (1, 1), (2, 1)] := ⟨⟨_, Try.underlying24, by kernel_rfl⟩⟩
instance : UStruct Try.prog 39 [(0, 1), (1, 1)] := ⟨⟨_, Try.underlying39, by kernel_rfl⟩⟩
instance : UStruct Try.prog 40 [(0, 1), (1, 1)] := ⟨⟨_, Try.underlying40, by kernel_rfl⟩⟩
instance : UStruct Try.prog 41 [(0, 1), (1, 1), (2, 1), (3, 2)] := ⟨⟨_, Try.underlying41, by kernel_rfl⟩⟩
instance : UStruct Try.prog 42 [(0, 1), (1, 1), (2, 1), (3, 2)] := ⟨⟨_, Try.underlying42, by kernel_rfl⟩⟩
instance : UStruct Try.prog 77 [(0, 1), (1, 1)] := ⟨⟨_, Try.underlying77, by kernel_rfl⟩⟩
instance : UStruct Try.prog 78 [(0, 1), (1, 1)] := ⟨⟨_, Try.underlying78, by kernel_rfl⟩⟩
instance : UStruct Try.prog 79 [(0, 2), (2, 1), (3, 1)] := ⟨⟨_, Try.underlying79, by kernel_rfl⟩⟩
instance : UStruct Try.prog 80 [(0, 2), (2, 1), (3, 1)] := ⟨⟨_, Try.underlying80, by kernel_rfl⟩⟩
instance : UStruct Try.prog 92 [(0, 1), (1, 1)] := ⟨⟨_, Try.underlying92, by kernel_rfl⟩⟩
instance : UStruct Try.prog 93 [(0, 1), (1, 1)] := ⟨⟨_, Try.underlying93, by kernel_rfl⟩⟩
instance : UStruct Try.prog 96 [(0, 1), (1, 1), (2, 2)] := ⟨⟨_, Try.underlying96, by kernel_rfl⟩⟩
instance : UStruct Try.prog 97 [(0, 1), (1, 1), (2, 2)] := ⟨⟨_, Try.underlying97, by kernel_rfl⟩⟩
instance : UStruct Try.prog 107 [(0, 1), (1, 1)] := ⟨⟨_, Try.underlying107, by kernel_rfl⟩⟩
instance : UStruct Try.prog 108 [(0, 1), (1, 1)] := ⟨⟨_, Try.underlying108, by kernel_rfl⟩⟩
instance : UStruct Try.prog 109 [(0, 1)] := ⟨⟨_, Try.underlying109, by kernel_rfl⟩⟩
instance : UStruct Try.prog 110 [(0, 1)] := ⟨⟨_, Try.underlying110, by kernel_rfl⟩⟩
instance : UStruct Try.prog 111 [] := ⟨⟨_, Try.underlying111, by kernel_rfl⟩⟩
instance : UStruct Try.prog 112 [] := ⟨⟨_, Try.underlying112, by kernel_rfl⟩⟩
instance : UStruct Try.prog 150 [(0, 1), (1, 1), (2, 1), (3, 1)] := ⟨⟨_, Try.underlying150, by kernel_rfl⟩⟩
instance : UStruct Try.prog 151 [(0, 1), (1, 1), (2, 1), (3, 1)] := ⟨⟨_, Try.underlying151, by kernel_rfl⟩⟩
instance : UStruct Try.prog 153 [(0, 0)] := ⟨⟨_, Try.underlying153, by kernel_rfl⟩⟩
instance : UStruct Try.prog 154 [(0, 0)] := ⟨⟨_, Try.underlying154, by kernel_rfl⟩⟩
instance : UStruct Try.prog 163 [(0, 1), (1, 1), (2, 1), (3, 1), (4, 1), (5, 1), (6, 1), (7, 1), (8, 1), (9, 1), (10, 1)] := ⟨⟨_, Try.underlying163, by kernel_rfl⟩⟩
instance : UStruct Try.prog 164 [(0, 1), (1, 1), (2, 1), (3, 1), (4, 1), (5, 1), (6, 1), (7, 1), (8, 1), (9, 1), (10, 1)] := ⟨⟨_, Try.underlying164, by kernel_rfl⟩⟩
instance : UStruct Try.prog 166 [(0, 1)] := ⟨⟨_, Try.underlying166, by kernel_rfl⟩⟩
instance : UStruct Try.prog 167 [(0, 1)] := ⟨⟨_, Try.underlying167, by kernel_rfl⟩⟩
end Go.Proofs.Ytdhmhjbmkimplaa

namespace Go.NatM

abbrev W : Nat := 18446744073709551616
def U64 (l : List Nat) : Prop := ∀ x ∈ l, x < 18446744073709551616
def val : List Nat → Nat
  | [] => 0
  | x :: l => x + 18446744073709551616 * val l
/-- how many words up to the highest that is not 0 -/
def sz : List Nat → Nat
  | [] => 0
  | x :: l => if sz l = 0 ∧ x = 0 then 0 else sz l + 1
/-- the words of a number, without zeros at the high end -/
def dig (n : Nat) : List Nat := if h : n = 0 then [] else (n % 18446744073709551616) :: dig (n / 18446744073709551616)
termination_by n
decreasing_by exact Nat.div_lt_self (by omega) (by omega)

theorem U64.nil : U64 [] := fun x h => by cases h
theorem U64.cons {x : Nat} {l : List Nat} (h : x < 18446744073709551616) (hl : U64 l) : U64 (x :: l) := fun y hy => by
  rcases List.mem_cons.1 hy with rfl | hy
  · exact h
  · exact hl y hy
theorem U64.head {x : Nat} {l : List Nat} (h : U64 (x :: l)) : x < 18446744073709551616 := h x (by simp)
theorem U64.tail {x : Nat} {l : List Nat} (h : U64 (x :: l)) : U64 l := fun y hy => h y (by simp [hy])
theorem U64.append {l r : List Nat} (h : U64 l) (k : U64 r) : U64 (l ++ r) := fun y hy => (List.mem_append.1 hy).elim (h y) (k y)
theorem U64.take {l : List Nat} (h : U64 l) (n : Nat) : U64 (l.take n) := fun y hy => h y (List.mem_of_mem_take hy)
theorem U64.drop {l : List Nat} (h : U64 l) (n : Nat) : U64 (l.drop n) := fun y hy => h y (List.mem_of_mem_drop hy)
theorem U64.replicate (n : Nat) : U64 (List.replicate n 0) := fun y hy => by rw [(List.mem_replicate.1 hy).2]; omega
theorem U64.one {x : Nat} (h : x < 18446744073709551616) : U64 [x] := U64.cons h U64.nil
theorem U64.getD {l : List Nat} (h : U64 l) (k : Nat) : l.getD k 0 < 18446744073709551616 := by
  rcases Nat.lt_or_ge k l.length with hk | hk
  · have : l.getD k 0 = l[k] := by simp [List.getD, hk]
    rw [this]; exact h _ (List.getElem_mem hk)
  · simp [List.getD, List.getElem?_eq_none hk]
theorem U64.set {l : List Nat} (h : U64 l) (k x : Nat) (hx : x < 18446744073709551616) : U64 (l.set k x) := fun y hy => by
  rcases List.mem_or_eq_of_mem_set hy with hy | rfl
  · exact h y hy
  · exact hx

theorem getD_ge {l : List Nat} {j : Nat} (h : l.length ≤ j) : l.getD j 0 = 0 := by simp [List.getD, List.getElem?_eq_none h]
theorem sz_le (l : List Nat) : sz l ≤ l.length := by
  induction l with
  | nil => simp [sz]
  | cons x l ih => simp only [sz, List.length_cons]; split <;> omega
theorem sz_eq (l : List Nat) (n : Nat) (h1 : n ≤ l.length) (h2 : ∀ j, n ≤ j → l.getD j 0 = 0) (h3 : n = 0 ∨ l.getD (n - 1) 0 ≠ 0) : sz l = n := by
  induction l generalizing n with
  | nil => simp at h1; simp [sz, h1]
  | cons x l ih =>
    rcases n with _ | n
    · have hx : x = 0 := by simpa using h2 0 (by omega)
      have : sz l = 0 := ih 0 (by omega) (fun j _ => by simpa using h2 (j + 1) (by omega)) (.inl rfl)
      simp [sz, this, hx]
    · have hl : sz l = n := by
        refine ih n (by simpa using h1) (fun j hj => by simpa using h2 (j + 1) (by omega)) ?_
        rcases n with _ | n
        · exact .inl rfl
        · right; simpa using h3.resolve_left (by omega)
      simp only [sz]
      rw [if_neg]
      · omega
      · rintro ⟨h0, hx⟩
        have : n = 0 := by omega
        subst this
        simp [hx] at h3
theorem sz_top (l : List Nat) : sz l = 0 ∨ l.getD (sz l - 1) 0 ≠ 0 := by
  induction l with
  | nil => simp [sz]
  | cons x l ih =>
    simp only [sz]
    split
    · exact .inl rfl
    · rename_i h
      right
      rcases Nat.eq_zero_or_pos (sz l) with h0 | h0
      · have hx : x ≠ 0 := fun hx => h ⟨h0, hx⟩
        simp [h0, hx]
      · rcases ih with h1 | h1
        · omega
        · rw [show sz l + 1 - 1 = (sz l - 1) + 1 by omega]; simpa using h1
theorem sz_zero (l : List Nat) (j : Nat) (h : sz l ≤ j) : l.getD j 0 = 0 := by
  induction l generalizing j with
  | nil => simp
  | cons x l ih =>
    simp only [sz] at h
    split at h
    · rename_i h0
      rcases j with _ | j
      · simpa using h0.2
      · simpa using ih j (by omega)
    · rcases j with _ | j
      · omega
      · simpa using ih j (by omega)

theorem val_append (l r : List Nat) : val (l ++ r) = val l + 18446744073709551616 ^ l.length * val r := by
  induction l with
  | nil => simp [val]
  | cons x l ih => simp only [List.cons_append, val, ih, List.length_cons, Nat.pow_succ, Nat.mul_add, Nat.add_assoc]; congr 2; rw [← Nat.mul_assoc, Nat.mul_comm 18446744073709551616]
theorem val_one (x : Nat) : val [x] = x := by simp [val]
theorem val_snoc (l : List Nat) (x : Nat) : val (l ++ [x]) = val l + 18446744073709551616 ^ l.length * x := by rw [val_append, val_one]
theorem val_zeros (n : Nat) : val (List.replicate n 0) = 0 := by
  induction n with
  | zero => rfl
  | succ n ih => simp [List.replicate_succ, val, ih]
theorem val_take_succ (l : List Nat) (i : Nat) : val (l.take (i + 1)) = val (l.take i) + 18446744073709551616 ^ i * l.getD i 0 := by
  rcases Nat.lt_or_ge i l.length with h | h
  · rw [List.take_succ_eq_append_getElem h, val_snoc]
    simp [List.getD, h, Nat.min_eq_left (Nat.le_of_lt h)]
  · rw [List.take_of_length_le h, List.take_of_length_le (by omega), getD_ge h]; simp
theorem val_lt {l : List Nat} (h : U64 l) : val l < 18446744073709551616 ^ l.length := by
  induction l with
  | nil => simp [val]
  | cons x l ih =>
    have h1 := ih h.tail
    have h2 := h.head
    simp only [val, List.length_cons, Nat.pow_succ]
    have h3 : val l + 1 ≤ 18446744073709551616 ^ l.length := h1
    have h4 := Nat.mul_le_mul_left 18446744073709551616 h3
    rw [Nat.mul_comm (18446744073709551616 ^ l.length)]
    omega
theorem val_sz (l : List Nat) : val (l.take (sz l)) = val l := by
  induction l with
  | nil => rfl
  | cons x l ih =>
    simp only [sz]
    split
    · rename_i h
      rw [h.1] at ih
      simp only [List.take_zero, val] at ih ⊢
      rw [← ih, h.2]
    · simp only [List.take_succ_cons, val, ih]
theorem val_take_ge (l : List Nat) (k : Nat) (h : sz l ≤ k) : val (l.take k) = val l := by
  have e : l = l.take k ++ l.drop k := (List.take_append_drop k l).symm
  have h0 : val (l.drop k) = 0 := by
    have : l.drop k = List.replicate (l.drop k).length 0 := by
      apply List.ext_getElem
      · simp
      · intro i h1 h2
        have hz := sz_zero l (k + i) (by omega)
        simp only [List.getElem_drop, List.getElem_replicate]
        rw [List.length_drop] at h1
        have hki : k + i < l.length := by omega
        have : l.getD (k + i) 0 = l[k + i] := by simp [List.getD, hki]
        omega
    rw [this, val_zeros]
  conv => rhs; rw [e, val_append, h0]
  simp

theorem dig_zero : dig 0 = [] := by rw [dig]; simp
theorem dig_pos {n : Nat} (h : n ≠ 0) : dig n = (n % 18446744073709551616) :: dig (n / 18446744073709551616) := by rw [dig]; simp [h]
theorem val_dig (n : Nat) : val (dig n) = n := by
  induction n using Nat.strongRecOn with
  | _ n ih =>
    rcases Nat.eq_zero_or_pos n with rfl | h
    · rw [dig_zero]; rfl
    · rw [dig_pos (by omega), val, ih _ (Nat.div_lt_self h (by omega))]; omega
theorem U64_dig (n : Nat) : U64 (dig n) := by
  induction n using Nat.strongRecOn with
  | _ n ih =>
    rcases Nat.eq_zero_or_pos n with rfl | h
    · rw [dig_zero]; exact U64.nil
    · rw [dig_pos (by omega)]; exact U64.cons (Nat.mod_lt _ (by omega)) (ih _ (Nat.div_lt_self h (by omega)))
/-- the words up to the highest that is not 0 are the digits of the number -/
theorem take_sz {l : List Nat} (h : U64 l) : l.take (sz l) = dig (val l) := by
  induction l with
  | nil => simp [sz, val, dig_zero]
  | cons x l ih =>
    have hx := h.head
    have ih' := ih h.tail
    simp only [sz, val]
    split
    · rename_i h0
      rw [h0.1] at ih'
      have hv : val l = 0 := by rw [← val_sz l, h0.1]; rfl
      rw [h0.2, hv]; simp [dig_zero]
    · rename_i h0
      have hne : x + 18446744073709551616 * val l ≠ 0 := by
        intro he
        have hx0 : x = 0 := by omega
        have hv : val l = 0 := by omega
        apply h0
        refine ⟨?_, hx0⟩
        rcases sz_top l with h1 | h1
        · exact h1
        · rw [hv, dig_zero] at ih'
          have := congrArg List.length ih'
          rw [List.length_take, List.length_nil] at this
          have := sz_le l
          omega
      rw [dig_pos hne, List.take_succ_cons, ih']
      congr 1
      · omega
      · congr 1; omega
theorem dig_length {l : List Nat} (h : U64 l) : (dig (val l)).length = sz l := by rw [← take_sz h, List.length_take]; have := sz_le l; omega
theorem sz_dig (n : Nat) : sz (dig n) = (dig n).length := by
  have h := dig_length (U64_dig n)
  rw [val_dig] at h
  exact h.symm
theorem dig_length_le {n k : Nat} (h : n < 18446744073709551616 ^ k) : (dig n).length ≤ k := by
  induction k generalizing n with
  | zero => have : n = 0 := by simpa using h
            rw [this, dig_zero]; simp
  | succ k ih =>
    rcases Nat.eq_zero_or_pos n with rfl | h0
    · rw [dig_zero]; simp
    · rw [dig_pos (by omega), List.length_cons]
      have := ih (n := n / 18446744073709551616) (by rw [Nat.div_lt_iff_lt_mul (by omega)]; rw [Nat.pow_succ] at h; exact h)
      omega
/-- a list of so many words more is not below -/
theorem pow_le_val {l : List Nat} (h : sz l ≠ 0) : 18446744073709551616 ^ (sz l - 1) ≤ val l := by
  rw [← val_sz l]
  obtain ⟨k, hk⟩ : ∃ k, sz l = k + 1 := ⟨sz l - 1, by omega⟩
  have ht := (sz_top l).resolve_left h
  rw [hk, val_take_succ]
  rw [hk] at ht
  simp only [Nat.add_sub_cancel] at ht ⊢
  have : 18446744073709551616 ^ k * 1 ≤ 18446744073709551616 ^ k * l.getD k 0 := Nat.mul_le_mul_left _ (by omega)
  omega
theorem val_lt_sz {l : List Nat} (h : U64 l) : val l < 18446744073709551616 ^ sz l := by
  have := val_lt (h.take (sz l))
  rw [val_sz, List.length_take, Nat.min_eq_left (sz_le l)] at this
  exact this
theorem lt_of_sz_lt {l r : List Nat} (hl : U64 l) (h : sz l < sz r) : val l < val r :=
  Nat.lt_of_lt_of_le (val_lt_sz hl) (Nat.le_trans (Nat.pow_le_pow_right (by omega) (by omega)) (pow_le_val (by omega)))
/-- a new word behind what is done, before zeros -/
theorem set_zeros (D : List Nat) (r x : Nat) : (D ++ List.replicate (r + 1) 0).set D.length x = (D ++ [x]) ++ List.replicate r 0 := by
  rw [List.set_append_right _ _ (Nat.le_refl _), Nat.sub_self, List.replicate_succ, List.set_cons_zero, List.append_assoc]; rfl
theorem val_ext {a b : List Nat} (h : ∀ j, a.getD j 0 = b.getD j 0) : val a = val b := by
  induction a generalizing b with
  | nil =>
    induction b with
    | nil => rfl
    | cons y b ih =>
      have h0 := h 0
      have := ih fun j => by simpa using h (j + 1)
      simp at h0
      simp [val, ← h0, ← this]
  | cons x a ih =>
    cases b with
    | nil =>
      have h0 := h 0
      have := ih (b := []) fun j => by simpa using h (j + 1)
      simp at h0
      simp [val, h0, this]
    | cons y b =>
      have h0 := h 0
      have := ih (b := b) fun j => by simpa using h (j + 1)
      simp at h0
      simp [val, h0, this]
theorem getD_drop (l : List Nat) (k j : Nat) : (l.drop k).getD j 0 = l.getD (k + j) 0 := by simp [List.getD, List.getElem?_drop]
theorem val_split (l : List Nat) (k : Nat) : val l = val (l.take k) + 18446744073709551616 ^ k * val (l.drop k) := by
  induction k generalizing l with
  | zero => simp [val]
  | succ k ih =>
    cases l with
    | nil => simp [val]
    | cons x l =>
      have := ih l
      simp only [List.take_succ_cons, List.drop_succ_cons, val, this, Nat.pow_succ]
      rw [Nat.mul_add, Nat.add_assoc, Nat.mul_comm (18446744073709551616 ^ k) 18446744073709551616, Nat.mul_assoc]
theorem val_drop (l : List Nat) (k : Nat) : val (l.drop k) = l.getD k 0 + 18446744073709551616 * val (l.drop (k + 1)) := by
  rcases Nat.lt_or_ge k l.length with h | h
  · rw [List.drop_eq_getElem_cons h, val]; simp [List.getD, h]
  · rw [List.drop_of_length_le h, List.drop_of_length_le (by omega), getD_ge h]; rfl
theorem U64.take_lt {l : List Nat} (h : U64 l) (k : Nat) : val (l.take k) < 18446744073709551616 ^ k :=
  Nat.lt_of_lt_of_le (val_lt (h.take k)) (Nat.pow_le_pow_right (by omega) (by rw [List.length_take]; omega))
/-- the highest place at which two lists differ decides -/
theorem val_lt_of {a b : List Nat} (ha : U64 a) (k : Nat) (h1 : ∀ j, k < j → a.getD j 0 = b.getD j 0) (h2 : a.getD k 0 < b.getD k 0) : val a < val b := by
  have e : val (a.drop (k + 1)) = val (b.drop (k + 1)) := val_ext fun j => by rw [getD_drop, getD_drop]; exact h1 _ (by omega)
  have l1 := ha.take_lt k
  rw [val_split a k, val_split b k, val_drop a k, val_drop b k, e]
  generalize val (b.drop (k + 1)) = q
  generalize 18446744073709551616 ^ k = p at l1 ⊢
  have : p * (a.getD k 0 + 18446744073709551616 * q) + p ≤ p * (b.getD k 0 + 18446744073709551616 * q) := by
    rw [← Nat.mul_succ]
    exact Nat.mul_le_mul_left _ (by omega)
  omega
def cmp3 (m n : Nat) : Int := if m < n then -1 else if n < m then 1 else 0
theorem add_step {p vD va vb s c' x y c : Nat} (h : vD + p * c = va + vb) (e : s + 18446744073709551616 * c' = x + y + c) :
    vD + p * s + p * 18446744073709551616 * c' = (va + p * x) + (vb + p * y) := by
  have e1 : p * (s + 18446744073709551616 * c') = p * (x + y + c) := by rw [e]
  rw [Nat.mul_add, Nat.mul_add, Nat.mul_add, ← Nat.mul_assoc] at e1
  omega
theorem sub_step {p vD va vb s c' x y c : Nat} (h : vD + vb = va + p * c) (e : s + y + c = x + 18446744073709551616 * c') :
    (vD + p * s) + (vb + p * y) = (va + p * x) + p * 18446744073709551616 * c' := by
  have e1 : p * (s + y + c) = p * (x + 18446744073709551616 * c') := by rw [e]
  rw [Nat.mul_add, Nat.mul_add, Nat.mul_add, ← Nat.mul_assoc] at e1
  omega
/-- the number of binary digits -/
def bl (n : Nat) : Nat := if n = 0 then 0 else Nat.log2 n + 1
theorem bl_le {n k : Nat} : bl n ≤ k ↔ n < 2 ^ k := by
  unfold bl
  split
  · rename_i h; subst h; simp [Nat.two_pow_pos]
  · rename_i h
    rw [← Nat.log2_lt h]; omega
theorem lt_two_pow_bl (n : Nat) : n < 2 ^ bl n := bl_le.1 (Nat.le_refl _)
theorem two_pow_bl_le {n : Nat} (h : n ≠ 0) : 2 ^ (bl n - 1) ≤ n := by
  rcases Nat.lt_or_ge n (2 ^ (bl n - 1)) with h1 | h1
  · have := bl_le.2 h1
    have hb : bl n ≠ 0 := by unfold bl; rw [if_neg h]; omega
    omega
  · exact h1
theorem bl_eq {n k : Nat} (h1 : 2 ^ k ≤ n) (h2 : n < 2 ^ (k + 1)) : bl n = k + 1 := by
  have a := bl_le.2 h2
  rcases Nat.lt_or_ge k (bl n) with h | h
  · omega
  · have := bl_le.1 h; omega
theorem bl_shift {n k : Nat} (h : 1 ≤ n / 2 ^ k) : bl n = k + bl (n / 2 ^ k) := by
  have hne : n / 2 ^ k ≠ 0 := by omega
  obtain ⟨j, hj⟩ : ∃ j, bl (n / 2 ^ k) = j + 1 := ⟨bl (n / 2 ^ k) - 1, by unfold bl; rw [if_neg hne]; omega⟩
  have a := two_pow_bl_le hne
  have b := lt_two_pow_bl (n / 2 ^ k)
  rw [hj] at a b
  simp only [Nat.add_sub_cancel] at a
  have hp := Nat.two_pow_pos k
  rw [hj, ← Nat.add_assoc]
  refine bl_eq ?_ ?_
  · rw [Nat.pow_add, Nat.mul_comm]
    exact (Nat.le_div_iff_mul_le hp).1 a
  · rw [show k + j + 1 = (j + 1) + k by omega, Nat.pow_add]
    exact (Nat.div_lt_iff_lt_mul hp).1 b
theorem bl_append {x v : Nat} (p : Nat) (h : x < 2 ^ p) (hv : v ≠ 0) : bl (x + 2 ^ p * v) = p + bl v := by
  have hp := Nat.two_pow_pos p
  have e : (x + 2 ^ p * v) / 2 ^ p = v := by rw [Nat.add_mul_div_left _ _ hp, Nat.div_eq_of_lt h, Nat.zero_add]
  rw [bl_shift (k := p) (by rw [e]; omega), e]
theorem W_pow (k : Nat) : 18446744073709551616 ^ k = 2 ^ (64 * k) := by rw [show (18446744073709551616 : Nat) = 2 ^ 64 by rfl, ← Nat.pow_mul]
/-- by the words -/
theorem bl_val {l : List Nat} (h : U64 l) (hs : sz l ≠ 0) : bl (val l) = 64 * (sz l - 1) + bl (l.getD (sz l - 1) 0) := by
  obtain ⟨k, hk⟩ : ∃ k, sz l = k + 1 := ⟨sz l - 1, by omega⟩
  have ht := (sz_top l).resolve_left hs
  rw [← val_sz l, hk, val_take_succ, W_pow]
  rw [hk] at ht
  simp only [Nat.add_sub_cancel] at ht ⊢
  exact bl_append _ (by rw [← W_pow]; exact h.take_lt k) ht
theorem val_eq_zero {l : List Nat} (h : sz l = 0) : val l = 0 := by rw [← val_sz l, h]; rfl
end Go.NatM

namespace Go.Proofs.Ytdhmhjbmkimplaa
open Go Go.Eng Go.Proofs

open Go.NatM

/-- a new list of words, L, of at most K words -/
def RetN (w : World) (L : List Nat) (K : Nat) (e : Ending) (w' : World) : Prop := ∃ A n c, e = .returned (.slice A n c) ∧ Ow u64v w'.heap w.heap.size 85 A n c L ∧ Ext w w' ∧ n ≤ K
theorem RetN.mk {w w' : World} {L : List Nat} {A : Option Addr} {n c K : Nat} (h : Ow u64v w'.heap w.heap.size 85 A n c L) (he : Ext w w') (hk : n ≤ K) : RetN w L K (.returned (.slice A n c)) w' := ⟨A, n, c, rfl, h, he, hk⟩
/-- a new list of words, L, of at most K words, and an error -/
def RetNE (w : World) (L : List Nat) (K : Nat) (err : Int) (e : Ending) (w' : World) : Prop := ∃ A n c, e = .returned (.tuple #[.slice A n c, .int .i64 err]) ∧ Ow u64v w'.heap w.heap.size 85 A n c L ∧ Ext w w' ∧ n ≤ K
theorem RetNE.mk {w w' : World} {L : List Nat} {err : Int} {A : Option Addr} {n c K : Nat} (h : Ow u64v w'.heap w.heap.size 85 A n c L) (he : Ext w w') (hk : n ≤ K) : RetNE w L K err (.returned (.tuple #[.slice A n c, .int .i64 err])) w' := ⟨A, n, c, rfl, h, he, hk⟩

theorem size_ok (H : Array Obj) (B : Nat) (A : Option Addr) (n c : Nat) (l : List Nat) (hs : Sl u64v H B A n c l) (hn : n < 9223372036854775808) :
    Pure Try.prog 84 #[.slice A n c] H (.int .i64 (sz l : Int)) := by
  refine Pure.of fun w hw => ?_
  subst hw
  have hlen := hs.len
  refine enter Try.func84 rfl rfl rfl ?_
  repeat' (first | refine TL.ev (ev_simple rfl) rfl ?_ | refine TL.ev (ev_len rfl) rfl ?_ | refine T.seq ?_ | refine T.region ?_ | refine TL.nil ?_ | refine T.block ?_ | refine G.next ?_)
  refine T.loop (fun k : Nat => [(0, .slice A n c), (3, .int .i64 (k : Int))]) (fun k w' => w' = w ∧ k ≤ n ∧ ∀ j, k ≤ j → l.getD j 0 = 0) (fun k => k) n (by repeat (first | exact Sub.nil _ | refine Sub.cons rfl ?_ | refine Sub.cons' rfl (int_congr (by omega)) ?_)) ⟨rfl, Nat.le_refl _, ?_⟩ ?_
  · intro j hj; simp [List.getD, List.getElem?_eq_none (show l.length ≤ j by omega)]
  · rintro k w' ⟨rfl, hk, hz⟩
    repeat' (first | refine TL.ev (ev_simple rfl) rfl ?_ | refine TL.grun rfl rfl rfl ?_ | refine TL.gskip rfl rfl rfl rfl ?_ | (refine TL.cmpG rfl rfl rfl rfl (fun hc => ?_) (fun hc => ?_) <;> try (exfalso; omega)) | refine TL.ev (ev_arN rfl rfl rfl (by omega)) rfl ?_ | refine TL.ev (ev_indexN rfl rfl (by omega) (by first | exact Or.inr rfl | exact Sl.some (by assumption))) rfl ?_ | refine TL.ev (ev_loadU rfl (by assumption) (by omega)) rfl ?_ | refine T.seq ?_ | refine T.region ?_ | refine TL.nil ?_ | refine T.block ?_ | refine T.cond_t rfl ?_ | refine T.cond_f rfl ?_ | refine T.exit ?_ | refine T.ret ?_ | refine T.skip ?_ | refine G.next ?_ | refine G.blockN ?_ | refine G.blockE ?_ | refine G.thenE ?_)
    · refine G.again (k - 1) (by repeat (first | exact Sub.nil _ | refine Sub.cons rfl ?_ | refine Sub.cons' rfl (int_congr (by omega)) ?_)) ⟨rfl, by omega, fun j hj => ?_⟩ (by omega)
      rcases Nat.lt_or_ge j k with h | h
      · obtain rfl : j = k - 1 := by omega
        omega
      · exact hz j h
    · rw [sz_eq l k (by omega) hz (.inr (by omega))]
      exact G.ret1 rfl rfl ⟨rfl, Qt.refl _⟩
    · rw [sz_eq l k (by omega) hz (.inl (by omega))]
      exact G.ret1 rfl rfl ⟨rfl, Qt.refl _⟩

theorem own_ok (w : World) (B : Nat) (A : Option Addr) (n c : Nat) (l : List Nat) (hs : Sl u64v w.heap B A n c l) (hu : U64 l) (hn : n ≤ 35184372088832) :
    Cl Try.prog 79 #[.slice A n c] w (RetN w (dig (val l)) n) := by
  have hlen := hs.len
  have hsz := sz_le l
  refine enter Try.func79 rfl rfl rfl ?_
  repeat' (first | refine TL.ev (ev_simple rfl) rfl ?_ | (refine TL.callP rfl rfl (size_ok _ _ _ _ _ _ hs (by omega)) (fun _ => ?_)) | (refine TL.makeU rfl rfl rfl (by omega) (by omega) (fun w1 b1 eb hB hE hz => ?_); have hs1 := hs.ext hE) | (refine TL.copy (f := u64v) (fun _ => rfl) rfl rfl rfl hB hs1 (by simp) (fun w2 hB2 hU => ?_)) | refine T.seq ?_ | refine T.region ?_ | refine TL.nil ?_ | refine T.ret ?_ | refine G.next ?_)
  have e : List.take 0 (List.replicate (sz l) 0) ++ List.take (min n (sz l)) l ++ List.drop (0 + min n (sz l)) (List.replicate (sz l) 0) = l.take (sz l) := by
    rw [Nat.min_eq_right (by omega)]; simp
  rw [e, take_sz hu] at hB2
  have hl : (dig (val l)).length = sz l := dig_length hu
  simp only [World.heap_drewN] at eb
  refine G.ret1 rfl rfl (RetN.mk ?_ (((ext_drewN w _).trans hE).upd hU (by omega)) (by omega))
  have := hB2.ow (lo := w.heap.size) (k := (dig (val l)).length) (Nat.le_refl _) rfl (by unfold maxLen; omega) (by omega)
  rw [List.take_length] at this
  rwa [hl] at this
theorem least_ok (w : World) (B : Nat) (A : Option Addr) (n c : Nat) (l : List Nat) (hs : Sl u64v w.heap B A n c l) (hu : U64 l) (hn : n ≤ 35184372088832) :
    Cl Try.prog 63 #[.slice A n c] w (RetN w (dig (val l)) n) := by
  refine enter Try.func63 rfl rfl rfl ?_
  repeat' (first | refine TL.ev (ev_simple rfl) rfl ?_ | (refine TL.call rfl rfl ((own_ok _ _ _ _ _ _ hs hu hn).mono ?_); rintro _ w1 ⟨A1, n1, c1, rfl, hO, hE, hK⟩; refine Back.mk ?_) | refine T.seq ?_ | refine T.region ?_ | refine TL.nil ?_ | refine T.ret ?_ | refine G.next ?_)
  exact G.ret1 rfl rfl (RetN.mk hO hE hK)

theorem add64_run (w : World) {z1 z2 z3 : Int} {x y c : Nat} [e1 : IsN z1 x] [e2 : IsN z2 y] [e3 : IsN z3 c] (hc : c ≤ 1) :
    (callFunc 98 #[.int .u64 z1, .int .u64 z2, .int .u64 z3]).run Try.prog w = .ok (.value (.tuple #[.int .u64 (((x + y + c) % 18446744073709551616 : Nat) : Int), .int .u64 (((x + y + c) / 18446744073709551616 : Nat) : Int)])) w := by
  rw [e1.out, e2.out, e3.out, run_callFunc_extern Try.func98 (by kernel_rfl) (by kernel_rfl) (by kernel_rfl) (e := add64Entry) (by kernel_rfl), run_add64 x y c (by omega) (by omega) (by omega) (by omega)]
  simp only [Result.andThen]
  congr 5 <;> omega
def sub64Entry' : Array Value → Sem Value := fun args => do
  let (x, y, b) ← Extern.MathBitsCarry.three "Sub64" args
  pure (Extern.MathBitsCarry.pair ((x + Extern.MathBitsCarry.m64 - y - b) % Extern.MathBitsCarry.m64) (if x < y + b then 1 else 0))
theorem run_sub64' {P : Program} (x y b : Nat) (hb : b ≤ 1) (w : World) :
    (sub64Entry' #[.int .u64 x, .int .u64 y, .int .u64 b]).run P w =
      .ok (.tuple #[.int .u64 (((x + 18446744073709551616 - y - b) % 18446744073709551616 : Nat) : Int), .int .u64 ((if x < y + b then 1 else 0 : Nat) : Int)]) w := by
  have : b = 0 ∨ b = 1 := by omega
  rcases this with rfl | rfl <;> rfl
theorem sub64_run (w : World) {z1 z2 z3 : Int} {x y c : Nat} [e1 : IsN z1 x] [e2 : IsN z2 y] [e3 : IsN z3 c] (hc : c ≤ 1) :
    (callFunc 99 #[.int .u64 z1, .int .u64 z2, .int .u64 z3]).run Try.prog w = .ok (.value (.tuple #[.int .u64 (((x + 18446744073709551616 - y - c) % 18446744073709551616 : Nat) : Int), .int .u64 ((if x < y + c then 1 else 0 : Nat) : Int)])) w := by
  rw [e1.out, e2.out, e3.out, run_callFunc_extern Try.func99 (by kernel_rfl) (by kernel_rfl) (by kernel_rfl) (e := sub64Entry') (by kernel_rfl), run_sub64' x y c hc]
  rfl

theorem cmp_ok (H : Array Obj) (B B' : Nat) (A A' : Option Addr) (n c n' c' : Nat) (l l' : List Nat) (hs : Sl u64v H B A n c l) (hs' : Sl u64v H B' A' n' c' l') (hu : U64 l) (hu' : U64 l') (hn : n ≤ 35184372088832) (hn' : n' ≤ 35184372088832) :
    Pure Try.prog 70 #[.slice A n c, .slice A' n' c'] H (.int .i64 (cmp3 (val l) (val l'))) := by
  refine Pure.of fun w hw => ?_
  subst hw
  have hlen := hs.len
  have hlen' := hs'.len
  have hsz := sz_le l
  have hsz' := sz_le l'
  refine enter Try.func70 rfl rfl rfl ?_
  repeat' (first | refine TL.ev (ev_simple rfl) rfl ?_ | (refine TL.cmpG rfl rfl rfl rfl (fun hc => ?_) (fun hc => ?_) <;> try (exfalso; omega)) | refine TL.ev (ev_arI rfl rfl rfl (by omega)) rfl ?_ | (refine TL.callP rfl rfl (size_ok _ _ _ _ _ _ hs (by omega)) (fun _ => ?_)) | (refine TL.callP rfl rfl (size_ok _ _ _ _ _ _ hs' (by omega)) (fun _ => ?_)) | refine T.seq ?_ | refine T.region ?_ | refine TL.nil ?_ | refine T.block ?_ | refine T.cond_t rfl ?_ | refine T.cond_f rfl ?_ | refine T.ret ?_ | refine T.skip ?_ | refine G.next ?_ | refine G.thenR ?_)
  · exact G.ret1 rfl rfl ⟨by rw [cmp3, if_pos (lt_of_sz_lt hu (by omega))], ((Qt.refl w).drewN _).drewN _⟩
  · have := lt_of_sz_lt (l := l') (r := l) hu' (by omega)
    exact G.ret1 rfl rfl ⟨by rw [cmp3, if_neg (by omega), if_pos this], ((Qt.refl w).drewN _).drewN _⟩
  · refine T.loop (fun k : Nat => [(0, .slice A n c), (1, .slice A' n' c'), (7, .int .i64 ((k : Int) - 1))]) (fun k w' => Qt w w' ∧ k ≤ sz l ∧ ∀ j, k ≤ j → l.getD j 0 = l'.getD j 0) (fun k => k) (sz l) (by repeat (first | exact Sub.nil _ | refine Sub.cons rfl ?_ | refine Sub.cons' rfl (int_congr (by omega)) ?_)) ⟨((Qt.refl w).drewN _).drewN _, Nat.le_refl _, ?_⟩ ?_
    · intro j hj; rw [sz_zero l j hj, sz_zero l' j (by omega)]
    · rintro k w' ⟨hq, hk, hz⟩
      have hH : w'.heap = w.heap := by obtain ⟨m, rfl⟩ := hq; rfl
      rw [← hH] at hs hs'
      repeat' (first | refine TL.ev (ev_simple rfl) rfl ?_ | (refine TL.cmpG rfl rfl rfl rfl (fun hc => ?_) (fun hc => ?_) <;> try (exfalso; omega)) | refine TL.ev (ev_arI rfl rfl rfl (by omega)) rfl ?_ | refine TL.ev (ev_index rfl rfl (by omega) (by first | exact Or.inr rfl | exact Sl.some (by assumption))) rfl ?_ | refine TL.ev (ev_loadU rfl (by assumption) (by omega)) rfl ?_ | refine T.seq ?_ | refine T.region ?_ | refine TL.nil ?_ | refine T.block ?_ | refine T.cond_t rfl ?_ | refine T.cond_f rfl ?_ | refine T.exit ?_ | refine T.ret ?_ | refine T.skip ?_ | refine G.next ?_ | refine G.blockN ?_ | refine G.blockE ?_ | refine G.blockR ?_ | refine G.thenE ?_ | refine G.thenR ?_ | refine T.regionQ mixed (by kernel_rfl) ?_ | refine TL.nilQ (fun _ => ?_))
      · have e1 : ((k : Int) - 1).toNat = k - 1 := by omega
        rw [e1] at hc
        have := val_lt_of hu (k - 1) (fun j hj => hz j (by omega)) (by omega)
        exact G.ret1 rfl rfl ⟨by rw [cmp3, if_pos this], hq.drewN _⟩
      · have e1 : ((k : Int) - 1).toNat = k - 1 := by omega
        rw [e1] at hc
        have := val_lt_of hu' (k - 1) (fun j hj => (hz j (by omega)).symm) (by omega)
        exact G.ret1 rfl rfl ⟨by rw [cmp3, if_neg (by omega), if_pos this], (hq.drewN _).drewN _⟩
      · have e1 : ((k : Int) - 1).toNat = k - 1 := by omega
        rename_i hc1 _ _
        rw [e1] at hc hc1
        refine G.again (k - 1) (by repeat (first | exact Sub.nil _ | refine Sub.cons rfl ?_ | refine Sub.cons' rfl (int_congr (by omega)) ?_)) ⟨(hq.drewN _).drewN _, by omega, fun j hj => ?_⟩ (by omega)
        rcases Nat.lt_or_ge j k with h | h
        · obtain rfl : j = k - 1 := by omega
          omega
        · exact hz j h
      · have := val_ext (a := l) (b := l') (fun j => hz j (by omega))
        exact G.ret1 rfl rfl ⟨by rw [cmp3, if_neg (by omega), if_neg (by omega)], hq⟩
end Go.Proofs.Ytdhmhjbmkimplaa

namespace Go.Proofs.Ytdhmhjbmkimplaa
open Go Go.Eng Go.Proofs Go.NatM

set_option maxRecDepth 100000 in
set_option maxHeartbeats 1000000 in
theorem add_ok (w : World) (B B' : Nat) (A A' : Option Addr) (n c n' c' : Nat) (l l' : List Nat) (hs : Sl u64v w.heap B A n c l) (hs' : Sl u64v w.heap B' A' n' c' l') (hu : U64 l) (hu' : U64 l') (hn : n ≤ 35184372088831) (hn' : n' ≤ 35184372088831) :
    Cl Try.prog 91 #[.slice A n c, .slice A' n' c'] w (RetN w (dig (val l + val l')) (max n n' + 1)) := by
  have hlen := hs.len
  have hlen' := hs'.len
  replace hs := hs.size
  replace hs' := hs'.size
  refine enter Try.func91 rfl rfl rfl ?_
  refine T.seq (T.region ?_)
  repeat' (first | refine TL.ev (ev_simple rfl) rfl ?_ | refine TL.nil ?_ | refine G.next ?_)
  refine T.cut (α := SA Nat × SA Nat) (fun x => [(0, .slice x.1.A x.1.n x.1.c), (1, .slice x.2.A x.2.n x.2.c)]) (fun x w' => Qt w w' ∧ Sl u64v w.heap w.heap.size x.1.A x.1.n x.1.c x.1.l ∧ Sl u64v w.heap w.heap.size x.2.A x.2.n x.2.c x.2.l ∧ U64 x.1.l ∧ U64 x.2.l ∧
    x.1.n ≤ 35184372088831 ∧ x.2.n ≤ 35184372088831 ∧ x.1.n ≤ max n n' ∧ sz x.2.l ≤ sz x.1.l ∧ val x.1.l + val x.2.l = val l + val l') ?_ ?_
  · repeat' (first | refine TL.ev (ev_simple rfl) rfl ?_ | (refine TL.cmpG rfl rfl rfl rfl (fun hc => ?_) (fun hc => ?_) <;> try (exfalso; omega)) | (refine TL.callP rfl rfl (size_ok _ _ _ _ _ _ hs (by omega)) (fun _ => ?_)) | (refine TL.callP rfl rfl (size_ok _ _ _ _ _ _ hs' (by omega)) (fun _ => ?_)) | refine T.seq ?_ | refine T.region ?_ | refine TL.nil ?_ | refine T.cond_t rfl ?_ | refine T.cond_f rfl ?_ | refine T.skip ?_ | refine G.next ?_)
    · exact G.cut (⟨A', n', c', l'⟩, ⟨A, n, c, l⟩) (by repeat (first | exact Sub.nil _ | refine Sub.cons rfl ?_ | refine Sub.cons' rfl (int_congr (by omega)) ?_)) ⟨((Qt.refl w).drewN _).drewN _, hs', hs, hu', hu, hn', hn, by dsimp only; omega, by dsimp only; omega, Nat.add_comm _ _⟩
    · exact G.cut (⟨A, n, c, l⟩, ⟨A', n', c', l'⟩) (by repeat (first | exact Sub.nil _ | refine Sub.cons rfl ?_ | refine Sub.cons' rfl (int_congr (by omega)) ?_)) ⟨((Qt.refl w).drewN _).drewN _, hs, hs', hu, hu', hn, hn', by dsimp only; omega, by dsimp only; omega, rfl⟩
  · rintro ⟨⟨A1, n1, c1, l1⟩, ⟨A2, n2, c2, l2⟩⟩ w0 ⟨⟨q, rfl⟩, g1, g2, u1, u2, m1, m2, mx, hle, hval⟩
    dsimp only at g1 g2 u1 u2 m1 m2 mx hle hval ⊢
    have hl1 := g1.len
    have hl2 := g2.len
    have z1 := sz_le l1
    have z2 := sz_le l2
    repeat' (first | refine TL.ev (ev_simple rfl) rfl ?_ | refine TL.ev (ev_arN rfl rfl rfl (by omega)) rfl ?_ | (refine TL.callP rfl rfl (size_ok _ _ _ _ _ _ g1 (by omega)) (fun _ => ?_)) | (refine TL.callP rfl rfl (size_ok _ _ _ _ _ _ g2 (by omega)) (fun _ => ?_)) | (refine TL.makeU rfl rfl rfl (by omega) (by omega) (fun w1 b1 eb hB hE hz => ?_); simp only [World.heap_drewN] at eb hz; have hE1 : Ext w w1 := ((ext_drewN _ _).trans (ext_drewN _ _)).trans ((ext_drewN _ _).trans hE)) | refine T.seq ?_ | refine T.region ?_ | refine TL.nil ?_ | refine T.block ?_ | refine G.next ?_)
    clear hE
    refine T.loop (α := Nat × List Nat × Nat) (fun x => [(0, .slice A1 n1 c1), (1, .slice A2 n2 c2), (5, .int .i64 (sz l1 : Int)), (6, .int .i64 (sz l2 : Int)), (7, .slice (some ⟨b1, 0, none⟩) (sz l1 + 1) (sz l1 + 1)), (8, .int .u64 (x.2.2 : Int)), (25, .int .i64 (sz l1 : Int)), (26, .int .i64 (x.1 : Int))])
      (fun x w' => x.1 ≤ sz l1 ∧ x.2.1.length = x.1 ∧ U64 x.2.1 ∧ x.2.2 ≤ 1 ∧ Ext w w' ∧ Bk u64v w'.heap b1 85 (x.2.1 ++ List.replicate (sz l1 - x.1 + 1) 0) ∧ val x.2.1 + 18446744073709551616 ^ x.1 * x.2.2 = val (l1.take x.1) + val (l2.take x.1))
      (fun x => sz l1 - x.1) (0, [], 0) (by repeat (first | exact Sub.nil _ | refine Sub.cons rfl ?_ | refine Sub.cons' rfl (int_congr (by omega)) ?_)) ⟨Nat.zero_le _, rfl, U64.nil, Nat.zero_le _, hE1, by simpa using hB, by simp [val]⟩ ?_
    rintro ⟨i, D, cy⟩ w2 ⟨hi, hD, hDu, hcy, hE2, hB2, hv⟩
    dsimp only at hi hD hDu hcy hE2 hB2 hv ⊢
    have k1 := g1.ext hE2
    have k2 := g2.ext hE2
    have x1 := u1.getD i
    have x2 := u2.getD i
    have hlB : (D ++ List.replicate (sz l1 - i + 1) 0).length = sz l1 + 1 := by simp; omega
    repeat' (first | refine TL.ev (ev_simple rfl) rfl ?_ | (refine TL.cmpG rfl rfl rfl rfl (fun hc => ?_) (fun hc => ?_) <;> try (exfalso; omega)) | refine TL.ev (ev_arN rfl rfl rfl (by omega)) rfl ?_ | refine TL.ev (ev_indexN rfl rfl (by omega) (by first | exact Or.inr rfl | exact Sl.some (by assumption))) rfl ?_ | refine TL.ev (ev_loadU rfl (by assumption) (by omega)) rfl ?_ | (refine TL.ev (ev_callx rfl (fun w => add64_run w (by omega))) rfl ?_) | (refine TL.storeU rfl rfl hB2 (by rw [hlB]; omega) (fun w3 hB3 hU => ?_)) | refine T.seq ?_ | refine T.region ?_ | refine TL.nil ?_ | refine T.block ?_ | refine T.cond_t rfl ?_ | refine T.cond_f rfl ?_ | refine T.exit ?_ | refine T.skip ?_ | refine G.next ?_ | refine G.blockN ?_ | refine G.blockE ?_ | refine G.thenE ?_)
    · have e1 : sz l1 - i + 1 = (sz l1 - (i + 1) + 1) + 1 := by omega
      rw [e1, ← hD, set_zeros, hD] at hB3
      have hlt : (l1.getD i 0 + l2.getD i 0 + cy) % 18446744073709551616 < 18446744073709551616 := Nat.mod_lt _ (by omega)
      refine G.again (i + 1, D ++ [(l1.getD i 0 + l2.getD i 0 + cy) % 18446744073709551616], (l1.getD i 0 + l2.getD i 0 + cy) / 18446744073709551616) (by repeat (first | exact Sub.nil _ | refine Sub.cons rfl ?_ | refine Sub.cons' rfl (int_congr (by omega)) ?_)) ⟨by dsimp only; omega, by simp [hD], hDu.append (U64.one hlt), by dsimp only; omega, hE2.upd hU (by omega), hB3, ?_⟩ (by dsimp only; omega)
      dsimp only
      rw [val_snoc, val_take_succ, val_take_succ, hD, Nat.pow_succ]
      exact add_step hv (by omega)
    · have e1 : sz l1 - i + 1 = (sz l1 - (i + 1) + 1) + 1 := by omega
      have e2 : l2.getD i 0 = 0 := sz_zero l2 i (by omega)
      rw [e1, ← hD, set_zeros, hD] at hB3
      have hlt : (l1.getD i 0 + 0 + cy) % 18446744073709551616 < 18446744073709551616 := Nat.mod_lt _ (by omega)
      refine G.again (i + 1, D ++ [(l1.getD i 0 + 0 + cy) % 18446744073709551616], (l1.getD i 0 + 0 + cy) / 18446744073709551616) (by repeat (first | exact Sub.nil _ | refine Sub.cons rfl ?_ | refine Sub.cons' rfl (int_congr (by omega)) ?_)) ⟨by dsimp only; omega, by simp [hD], hDu.append (U64.one hlt), by dsimp only; omega, hE2.upd hU (by omega), hB3, ?_⟩ (by dsimp only; omega)
      dsimp only
      rw [val_snoc, val_take_succ, val_take_succ, hD, Nat.pow_succ, e2]
      exact add_step hv (by omega)
    · have hi' : i = sz l1 := by omega
      subst hi'
      have e1 : sz l1 - sz l1 + 1 = 0 + 1 := by omega
      rw [e1] at hB3
      have e3 := set_zeros D 0 cy
      rw [hD] at e3
      rw [e3, List.replicate_zero, List.append_nil] at hB3
      have hval2 : val (D ++ [cy]) = val l + val l' := by
        rw [val_snoc, hD, hv, val_sz, val_take_ge l2 _ hle, hval]
      have hu3 : U64 (D ++ [cy]) := hDu.append (U64.one (by omega))
      have hs0 := sz_le (D ++ [cy])
      have hl3 : (D ++ [cy]).length = sz l1 + 1 := by simp [hD]
      have hS := hB3.slN hl3 (Nat.le_refl _) hB3.lt
      repeat' (first | refine TL.ev (ev_simple rfl) rfl ?_ | refine TL.ev (ev_sl_h rfl rfl (by omega)) rfl ?_ | (refine TL.callP rfl rfl (size_ok _ _ _ _ _ _ hS (by omega)) (fun _ => ?_)) | refine TL.nil ?_ | refine T.ret ?_ | refine G.next ?_)
      have := hB3.ow (lo := w.heap.size) (k := sz (D ++ [cy])) (c := sz l1 + 1) hs0 (by omega) (by unfold maxLen; omega) (by omega)
      rw [take_sz hu3, hval2] at this
      exact G.ret1 rfl rfl (RetN.mk this ((hE2.upd hU (by omega)).drewN _) (by omega))
end Go.Proofs.Ytdhmhjbmkimplaa
