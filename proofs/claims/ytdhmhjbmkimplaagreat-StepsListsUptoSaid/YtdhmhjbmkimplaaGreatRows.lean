/-
  No cell of these rows narrows 'for every input' (looked for: loops, veiled, ifaces, maps, wideKeys, modest, calm, conditions, laid).
  DERIVED. THE GIVEN ROWS OF THIS SEAT. 4 by the template 'for every input the law returns true; each argument reads behind the call as it read before'; 0 by the template 'total and deterministic' (their statements: YtdhmhjbmkimplaaGreatTotals.lean).
  GIVEN WITH THE SEED: the statements are not yours to turn. If you find one false, say at which input.
  Laid BY PROGRAM, IN A SANDBOX (cutbox-rows.mjs): the forced cells as the released guide's own fill.sh prints them over the translation 4560e874e17fe779… (all of the seat's roots in one cut). By AI agents, Wed Nov 11 2026. No macro, syntax, notation, axiom, sorry.
-/
import Derived.Test.YtdhmhjbmkimplaaGreatChecked
import GoSem.Claim
import GoSem.ClaimJoined
import GoSem.ClaimMapViews
import Derived.JoinedTies
import Derived.KernelRfl
namespace Go.Proofs.YtdhmhjbmkimplaaGreat
/- THE CELL 'sum', in the pinned program and in every row, IS THE sha256 OF THE DUMP (.gsa) THAT YtdhmhjbmkimplaaGreatProg.lean LOADS. Nothing in Lean hashes anything: it is a label: what it is worth is what the hold of that sum in a sandbox is worth. -/
noncomputable def Tryz.pinned : Pinned := { name := "ytdhmhjbmkimplaagreat", sum := "4560e874e17fe779f200b4b45c967ee0107ee1e4613ae0d0a1977e998dbd022f", checked := Tryz.checked }
namespace Rows
def none {H : Type} : Left H := { results := [], args := [] }

/-- 'trellislaw11.StepsLists': WHATEVER THE INPUT: true; the input reads as it did. -/
def stepsListsSpec : ChangeSpec := { name := "stepsLists", fn := fun _ => fun
  | [d1, d2, d3] => { results := [.lit (.bool true)], args := [d1, d2, d3] }
  | _ => none }
def stepsListsRow : OpenClaim := { program := "ytdhmhjbmkimplaagreat", sum := "4560e874e17fe779f200b4b45c967ee0107ee1e4613ae0d0a1977e998dbd022f", func := "trellis/trellislaw11.StepsLists", spec := "stepsLists", unfollowed := true, recurses := true, apart := false }
def StepsListsSaid : Prop := stepsListsRow.holds Tryz.pinned (OpenSpec.ofChange stepsListsSpec)

/-- ITS FALSE NEIGHBOUR: 'it returns false'. Refute it at one input. -/
def stepsListsWrong : ChangeSpec := { name := "stepsLists", fn := fun _ => fun
  | [d1, d2, d3] => { results := [.lit (.bool false)], args := [d1, d2, d3] }
  | _ => none }
def StepsListsWrongFalsely : Prop := stepsListsRow.holds Tryz.pinned (OpenSpec.ofChange stepsListsWrong)

/-- 'trellislaw11.StepsTapes': WHATEVER THE INPUT: true; the input reads as it did. -/
def stepsTapesSpec : ChangeSpec := { name := "stepsTapes", fn := fun _ => fun
  | [d1, d2, d3] => { results := [.lit (.bool true)], args := [d1, d2, d3] }
  | _ => none }
def stepsTapesRow : OpenClaim := { program := "ytdhmhjbmkimplaagreat", sum := "4560e874e17fe779f200b4b45c967ee0107ee1e4613ae0d0a1977e998dbd022f", func := "trellis/trellislaw11.StepsTapes", spec := "stepsTapes", unfollowed := true, recurses := true, apart := false }
def StepsTapesSaid : Prop := stepsTapesRow.holds Tryz.pinned (OpenSpec.ofChange stepsTapesSpec)

/-- ITS FALSE NEIGHBOUR: 'it returns false'. Refute it at one input. -/
def stepsTapesWrong : ChangeSpec := { name := "stepsTapes", fn := fun _ => fun
  | [d1, d2, d3] => { results := [.lit (.bool false)], args := [d1, d2, d3] }
  | _ => none }
def StepsTapesWrongFalsely : Prop := stepsTapesRow.holds Tryz.pinned (OpenSpec.ofChange stepsTapesWrong)

/-- 'trellislaw11.StepsFactors': WHATEVER THE INPUT: true; the input reads as it did. -/
def stepsFactorsSpec : ChangeSpec := { name := "stepsFactors", fn := fun _ => fun
  | [d] => { results := [.lit (.bool true)], args := [d] }
  | _ => none }
def stepsFactorsRow : OpenClaim := { program := "ytdhmhjbmkimplaagreat", sum := "4560e874e17fe779f200b4b45c967ee0107ee1e4613ae0d0a1977e998dbd022f", func := "trellis/trellislaw11.StepsFactors", spec := "stepsFactors", inPlace := ["math/bits.Add64", "math/bits.Sub64"], unfollowed := true, recurses := true, named := ["math/bits.divideError", "math/bits.overflowError"], apart := false }
def StepsFactorsSaid : Prop := stepsFactorsRow.holds Tryz.pinned (OpenSpec.ofChange stepsFactorsSpec)

/-- ITS FALSE NEIGHBOUR: 'it returns false'. Refute it at one input. -/
def stepsFactorsWrong : ChangeSpec := { name := "stepsFactors", fn := fun _ => fun
  | [d] => { results := [.lit (.bool false)], args := [d] }
  | _ => none }
def StepsFactorsWrongFalsely : Prop := stepsFactorsRow.holds Tryz.pinned (OpenSpec.ofChange stepsFactorsWrong)

/-- 'trellislaw11.StepsKeeps': WHATEVER THE INPUT: true; the input reads as it did. -/
def stepsKeepsSpec : ChangeSpec := { name := "stepsKeeps", fn := fun _ => fun
  | [d1, d2, d3] => { results := [.lit (.bool true)], args := [d1, d2, d3] }
  | _ => none }
def stepsKeepsRow : OpenClaim := { program := "ytdhmhjbmkimplaagreat", sum := "4560e874e17fe779f200b4b45c967ee0107ee1e4613ae0d0a1977e998dbd022f", func := "trellis/trellislaw11.StepsKeeps", spec := "stepsKeeps", inPlace := ["math/bits.Add64", "math/bits.Sub64"], unfollowed := true, recurses := true, named := ["math/bits.divideError", "math/bits.overflowError"], apart := false }
def StepsKeepsSaid : Prop := stepsKeepsRow.holds Tryz.pinned (OpenSpec.ofChange stepsKeepsSpec)

/-- ITS FALSE NEIGHBOUR: 'it returns false'. Refute it at one input. -/
def stepsKeepsWrong : ChangeSpec := { name := "stepsKeeps", fn := fun _ => fun
  | [d1, d2, d3] => { results := [.lit (.bool false)], args := [d1, d2, d3] }
  | _ => none }
def StepsKeepsWrongFalsely : Prop := stepsKeepsRow.holds Tryz.pinned (OpenSpec.ofChange stepsKeepsWrong)

/- THE SECOND FORM. 'bulk': how many values and letters a reading holds, each counted each time it is reached (what is shared counts as often as it is met; a slice's spare places count too). A statement '..UptoSaid' is the law's where the arguments, and the package variables that the reading takes, are together of bulk at most 1048576: NARROWER than '..Said'. Prove '..Said' where nothing that the law and all that it calls make is longer than what came in: it says more and counts as full. Else prove '..UptoSaid'. A law counts once. -/
mutual
def uptoBulk {H : Type} : DataW H → Nat
  | .lit (.string bytes) => bytes.length + 1
  | .lit _ => 1
  | .nil => 1
  | .ptr d => uptoBulk d + 1
  | .slice elems spare => uptoBulkAll elems + uptoBulkAll spare + 1
  | .agg parts => uptoBulkAll parts + 1
  | .iface _ d => uptoBulk d + 1
  | .map entries => uptoBulkEntries entries + 1
  | .held _ => 1
def uptoBulkAll {H : Type} : List (DataW H) → Nat
  | [] => 0
  | d :: r => uptoBulk d + uptoBulkAll r
def uptoBulkEntries {H : Type} : List (Lit × DataW H) → Nat
  | [] => 0
  | x :: r => uptoBulkEntry x + uptoBulkEntries r
def uptoBulkEntry {H : Type} : Lit × DataW H → Nat
  | (.string bytes, d) => bytes.length + uptoBulk d + 1
  | (_, d) => uptoBulk d + 1
 end
def uptoSmall : (H : Type) → List (DataW H) → Bool := fun _ ds => decide (uptoBulkAll ds ≤ 1048576)
def OpenSpec.upto (s : _root_.Go.ChangeSpec) : _root_.Go.OpenSpec := { _root_.Go.OpenSpec.ofChange s with cond := some uptoSmall }

/-- 'trellislaw11.StepsLists', WHERE WHAT IT READS IS OF BULK AT MOST 1048576: true; the input reads as it did. -/
def stepsListsUptoRow : OpenClaim := { program := "ytdhmhjbmkimplaagreat", sum := "4560e874e17fe779f200b4b45c967ee0107ee1e4613ae0d0a1977e998dbd022f", func := "trellis/trellislaw11.StepsLists", spec := "stepsLists", unfollowed := true, recurses := true, apart := false, narrowed := true }
def StepsListsUptoSaid : Prop := stepsListsUptoRow.holds Tryz.pinned (OpenSpec.upto stepsListsSpec)

/-- 'trellislaw11.StepsTapes', WHERE WHAT IT READS IS OF BULK AT MOST 1048576: true; the input reads as it did. -/
def stepsTapesUptoRow : OpenClaim := { program := "ytdhmhjbmkimplaagreat", sum := "4560e874e17fe779f200b4b45c967ee0107ee1e4613ae0d0a1977e998dbd022f", func := "trellis/trellislaw11.StepsTapes", spec := "stepsTapes", unfollowed := true, recurses := true, apart := false, narrowed := true }
def StepsTapesUptoSaid : Prop := stepsTapesUptoRow.holds Tryz.pinned (OpenSpec.upto stepsTapesSpec)

/-- 'trellislaw11.StepsFactors', WHERE WHAT IT READS IS OF BULK AT MOST 1048576: true; the input reads as it did. -/
def stepsFactorsUptoRow : OpenClaim := { program := "ytdhmhjbmkimplaagreat", sum := "4560e874e17fe779f200b4b45c967ee0107ee1e4613ae0d0a1977e998dbd022f", func := "trellis/trellislaw11.StepsFactors", spec := "stepsFactors", inPlace := ["math/bits.Add64", "math/bits.Sub64"], unfollowed := true, recurses := true, named := ["math/bits.divideError", "math/bits.overflowError"], apart := false, narrowed := true }
def StepsFactorsUptoSaid : Prop := stepsFactorsUptoRow.holds Tryz.pinned (OpenSpec.upto stepsFactorsSpec)

/-- 'trellislaw11.StepsKeeps', WHERE WHAT IT READS IS OF BULK AT MOST 1048576: true; the input reads as it did. -/
def stepsKeepsUptoRow : OpenClaim := { program := "ytdhmhjbmkimplaagreat", sum := "4560e874e17fe779f200b4b45c967ee0107ee1e4613ae0d0a1977e998dbd022f", func := "trellis/trellislaw11.StepsKeeps", spec := "stepsKeeps", inPlace := ["math/bits.Add64", "math/bits.Sub64"], unfollowed := true, recurses := true, named := ["math/bits.divideError", "math/bits.overflowError"], apart := false, narrowed := true }
def StepsKeepsUptoSaid : Prop := stepsKeepsUptoRow.holds Tryz.pinned (OpenSpec.upto stepsKeepsSpec)

end Rows
end Go.Proofs.YtdhmhjbmkimplaaGreat
