/-
  No cell of these rows narrows 'for every input' (looked for: loops, veiled, ifaces, maps, wideKeys, modest, calm, conditions, laid).
  DERIVED. THE GIVEN ROWS OF THIS SEAT. 4 by the template 'for every input the law returns true; each argument reads behind the call as it read before'; 0 by the template 'total and deterministic' (their statements: YtdhmhjbmkimplaaTotals.lean).
  GIVEN WITH THE SEED: the statements are not yours to turn. If you find one false, say at which input.
  Laid BY PROGRAM, IN A SANDBOX (cutbox-rows.mjs): the forced cells as the released guide's own fill.sh prints them over the translation d43c68163e66bb37… (all of the seat's roots in one cut). By AI agents, Wed Nov 11 2026. No macro, syntax, notation, axiom, sorry.
-/
import Derived.Test.YtdhmhjbmkimplaaChecked
import GoSem.Claim
import GoSem.ClaimJoined
import GoSem.ClaimMapViews
import Derived.JoinedTies
import Derived.KernelRfl
namespace Go.Proofs.Ytdhmhjbmkimplaa
/- THE CELL 'sum', in the pinned program and in every row, IS THE sha256 OF THE DUMP (.gsa) THAT YtdhmhjbmkimplaaProg.lean LOADS. Nothing in Lean hashes anything: it is a label: what it is worth is what the hold of that sum in a sandbox is worth. -/
noncomputable def Try.pinned : Pinned := { name := "ytdhmhjbmkimplaa", sum := "d43c68163e66bb377f5f7049b71b6e2535abd10d27bc51fbbcb207ef9d6525ba", checked := Try.checked }
namespace Rows
def none {H : Type} : Left H := { results := [], args := [] }

/-- 'trellislaw11.StepsProducts': WHATEVER THE INPUT: true; the input reads as it did. -/
def stepsProductsSpec : ChangeSpec := { name := "stepsProducts", fn := fun _ => fun
  | [d1, d2] => { results := [.lit (.bool true)], args := [d1, d2] }
  | _ => none }
def stepsProductsRow : OpenClaim := { program := "ytdhmhjbmkimplaa", sum := "d43c68163e66bb377f5f7049b71b6e2535abd10d27bc51fbbcb207ef9d6525ba", func := "trellis/trellislaw11.StepsProducts", spec := "stepsProducts", inPlace := ["math/bits.Add64", "math/bits.Sub64"], unfollowed := true, recurses := true, apart := false }
def StepsProductsSaid : Prop := stepsProductsRow.holds Try.pinned (OpenSpec.ofChange stepsProductsSpec)

/-- ITS FALSE NEIGHBOUR: 'it returns false'. Refute it at one input. -/
def stepsProductsWrong : ChangeSpec := { name := "stepsProducts", fn := fun _ => fun
  | [d1, d2] => { results := [.lit (.bool false)], args := [d1, d2] }
  | _ => none }
def StepsProductsWrongFalsely : Prop := stepsProductsRow.holds Try.pinned (OpenSpec.ofChange stepsProductsWrong)

/-- 'trellislaw11.StepsNil': WHATEVER THE INPUT: true; the input reads as it did. -/
def stepsNilSpec : ChangeSpec := { name := "stepsNil", fn := fun _ => fun
  | [] => { results := [.lit (.bool true)], args := [] }
  | _ => none }
def stepsNilRow : OpenClaim := { program := "ytdhmhjbmkimplaa", sum := "d43c68163e66bb377f5f7049b71b6e2535abd10d27bc51fbbcb207ef9d6525ba", func := "trellis/trellislaw11.StepsNil", spec := "stepsNil", unfollowed := true, recurses := true, apart := false }
def StepsNilSaid : Prop := stepsNilRow.holds Try.pinned (OpenSpec.ofChange stepsNilSpec)

/-- ITS FALSE NEIGHBOUR: 'it returns false'. Refute it at one input. -/
def stepsNilWrong : ChangeSpec := { name := "stepsNil", fn := fun _ => fun
  | [] => { results := [.lit (.bool false)], args := [] }
  | _ => none }
def StepsNilWrongFalsely : Prop := stepsNilRow.holds Try.pinned (OpenSpec.ofChange stepsNilWrong)

/-- 'trellislaw11.StepsBack': WHATEVER THE INPUT: true; the input reads as it did. -/
def stepsBackSpec : ChangeSpec := { name := "stepsBack", fn := fun _ => fun
  | [d1, d2] => { results := [.lit (.bool true)], args := [d1, d2] }
  | _ => none }
def stepsBackRow : OpenClaim := { program := "ytdhmhjbmkimplaa", sum := "d43c68163e66bb377f5f7049b71b6e2535abd10d27bc51fbbcb207ef9d6525ba", func := "trellis/trellislaw11.StepsBack", spec := "stepsBack", inPlace := ["math/bits.Add64", "math/bits.Sub64"], unfollowed := true, recurses := true, named := ["math/bits.divideError", "math/bits.overflowError"], apart := false }
def StepsBackSaid : Prop := stepsBackRow.holds Try.pinned (OpenSpec.ofChange stepsBackSpec)

/-- ITS FALSE NEIGHBOUR: 'it returns false'. Refute it at one input. -/
def stepsBackWrong : ChangeSpec := { name := "stepsBack", fn := fun _ => fun
  | [d1, d2] => { results := [.lit (.bool false)], args := [d1, d2] }
  | _ => none }
def StepsBackWrongFalsely : Prop := stepsBackRow.holds Try.pinned (OpenSpec.ofChange stepsBackWrong)

/-- 'trellislaw11.StepsFactorBack': WHATEVER THE INPUT: true; the input reads as it did. -/
def stepsFactorBackSpec : ChangeSpec := { name := "stepsFactorBack", fn := fun _ => fun
  | [d1, d2] => { results := [.lit (.bool true)], args := [d1, d2] }
  | _ => none }
def stepsFactorBackRow : OpenClaim := { program := "ytdhmhjbmkimplaa", sum := "d43c68163e66bb377f5f7049b71b6e2535abd10d27bc51fbbcb207ef9d6525ba", func := "trellis/trellislaw11.StepsFactorBack", spec := "stepsFactorBack", inPlace := ["math/bits.Add64", "math/bits.Sub64"], unfollowed := true, recurses := true, named := ["math/bits.divideError", "math/bits.overflowError"], apart := false }
def StepsFactorBackSaid : Prop := stepsFactorBackRow.holds Try.pinned (OpenSpec.ofChange stepsFactorBackSpec)

/-- ITS FALSE NEIGHBOUR: 'it returns false'. Refute it at one input. -/
def stepsFactorBackWrong : ChangeSpec := { name := "stepsFactorBack", fn := fun _ => fun
  | [d1, d2] => { results := [.lit (.bool false)], args := [d1, d2] }
  | _ => none }
def StepsFactorBackWrongFalsely : Prop := stepsFactorBackRow.holds Try.pinned (OpenSpec.ofChange stepsFactorBackWrong)

/- THE SECOND FORM. 'bulk': how many values and letters a reading holds, each counted each time it is reached (what is shared counts as often as it is met; a slice's spare places count too). A statement '..UptoSaid' is the law's where the arguments, and the package variables that the reading takes, are together of bulk at most 1048576: NARROWER than '..Said'. Prove '..Said' where nothing that the law and all that it calls make is longer than what came in: it says more and counts as full. Else prove '..UptoSaid'. A law counts once. -/
mutual
def uptoBulk {H : Type} : DataW H → Nat
  | .lit (.string bytes) => bytes.length + 1
  | .lit _ => 1
  | .nil => 1
  | .ptr d => uptoBulk d + 1
  | .slice elems spare => uptoBulkAll elems + uptoBulkAll spare + 1
  | .agg parts => uptoBulkAll parts + 1
  | .iface _ d => uptoBulk d + 1
  | .map entries => uptoBulkEntries entries + 1
  | .held _ => 1
def uptoBulkAll {H : Type} : List (DataW H) → Nat
  | [] => 0
  | d :: r => uptoBulk d + uptoBulkAll r
def uptoBulkEntries {H : Type} : List (Lit × DataW H) → Nat
  | [] => 0
  | x :: r => uptoBulkEntry x + uptoBulkEntries r
def uptoBulkEntry {H : Type} : Lit × DataW H → Nat
  | (.string bytes, d) => bytes.length + uptoBulk d + 1
  | (_, d) => uptoBulk d + 1
 end
def uptoSmall : (H : Type) → List (DataW H) → Bool := fun _ ds => decide (uptoBulkAll ds ≤ 1048576)
def OpenSpec.upto (s : _root_.Go.ChangeSpec) : _root_.Go.OpenSpec := { _root_.Go.OpenSpec.ofChange s with cond := some uptoSmall }

/-- 'trellislaw11.StepsProducts', WHERE WHAT IT READS IS OF BULK AT MOST 1048576: true; the input reads as it did. -/
def stepsProductsUptoRow : OpenClaim := { program := "ytdhmhjbmkimplaa", sum := "d43c68163e66bb377f5f7049b71b6e2535abd10d27bc51fbbcb207ef9d6525ba", func := "trellis/trellislaw11.StepsProducts", spec := "stepsProducts", inPlace := ["math/bits.Add64", "math/bits.Sub64"], unfollowed := true, recurses := true, apart := false, narrowed := true }
def StepsProductsUptoSaid : Prop := stepsProductsUptoRow.holds Try.pinned (OpenSpec.upto stepsProductsSpec)

/-- 'trellislaw11.StepsNil', WHERE WHAT IT READS IS OF BULK AT MOST 1048576: true; the input reads as it did. -/
def stepsNilUptoRow : OpenClaim := { program := "ytdhmhjbmkimplaa", sum := "d43c68163e66bb377f5f7049b71b6e2535abd10d27bc51fbbcb207ef9d6525ba", func := "trellis/trellislaw11.StepsNil", spec := "stepsNil", unfollowed := true, recurses := true, apart := false, narrowed := true }
def StepsNilUptoSaid : Prop := stepsNilUptoRow.holds Try.pinned (OpenSpec.upto stepsNilSpec)

/-- 'trellislaw11.StepsBack', WHERE WHAT IT READS IS OF BULK AT MOST 1048576: true; the input reads as it did. -/
def stepsBackUptoRow : OpenClaim := { program := "ytdhmhjbmkimplaa", sum := "d43c68163e66bb377f5f7049b71b6e2535abd10d27bc51fbbcb207ef9d6525ba", func := "trellis/trellislaw11.StepsBack", spec := "stepsBack", inPlace := ["math/bits.Add64", "math/bits.Sub64"], unfollowed := true, recurses := true, named := ["math/bits.divideError", "math/bits.overflowError"], apart := false, narrowed := true }
def StepsBackUptoSaid : Prop := stepsBackUptoRow.holds Try.pinned (OpenSpec.upto stepsBackSpec)

/-- 'trellislaw11.StepsFactorBack', WHERE WHAT IT READS IS OF BULK AT MOST 1048576: true; the input reads as it did. -/
def stepsFactorBackUptoRow : OpenClaim := { program := "ytdhmhjbmkimplaa", sum := "d43c68163e66bb377f5f7049b71b6e2535abd10d27bc51fbbcb207ef9d6525ba", func := "trellis/trellislaw11.StepsFactorBack", spec := "stepsFactorBack", inPlace := ["math/bits.Add64", "math/bits.Sub64"], unfollowed := true, recurses := true, named := ["math/bits.divideError", "math/bits.overflowError"], apart := false, narrowed := true }
def StepsFactorBackUptoSaid : Prop := stepsFactorBackUptoRow.holds Try.pinned (OpenSpec.upto stepsFactorBackSpec)

end Rows
end Go.Proofs.Ytdhmhjbmkimplaa
