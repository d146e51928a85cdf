/-
  No cell of these rows narrows 'for every input' (looked for: loops, veiled, ifaces, maps, wideKeys, modest, calm, conditions, laid).
  DERIVED. THE GIVEN ROWS OF THIS SEAT. 6 by the template 'for every input the law returns true; each argument reads behind the call as it read before'; 0 by the template 'total and deterministic' (their statements: YtlhmehikajidhaaTotals.lean).
  GIVEN WITH THE SEED: the statements are not yours to turn. If you find one false, say at which input.
  Laid BY PROGRAM, IN A SANDBOX (cutbox-rows.mjs): the forced cells as the released guide's own fill.sh prints them over the translation 83f63e4972fefb81… (all of the seat's roots in one cut). By AI agents, Wed Nov 11 2026. No macro, syntax, notation, axiom, sorry.
-/
import Derived.Test.YtlhmehikajidhaaChecked
import GoSem.Claim
import GoSem.ClaimJoined
import GoSem.ClaimMapViews
import Derived.JoinedTies
import Derived.KernelRfl
namespace Go.Proofs.Ytlhmehikajidhaa
/- THE CELL 'sum', in the pinned program and in every row, IS THE sha256 OF THE DUMP (.gsa) THAT YtlhmehikajidhaaProg.lean LOADS. Nothing in Lean hashes anything: it is a label: what it is worth is what the hold of that sum in a sandbox is worth. -/
noncomputable def Try.pinned : Pinned := { name := "ytlhmehikajidhaa", sum := "83f63e4972fefb81e6c58dbb09a4990785f8618a5f6db06888a7d90ec5de03d1", checked := Try.checked }
namespace Rows
def none {H : Type} : Left H := { results := [], args := [] }

/-- 'trellislaw09.MatKrons': WHATEVER THE INPUT: true; the input reads as it did. -/
def matKronsSpec : ChangeSpec := { name := "matKrons", fn := fun _ => fun
  | [d] => { results := [.lit (.bool true)], args := [d] }
  | _ => none }
def matKronsRow : OpenClaim := { program := "ytlhmehikajidhaa", sum := "83f63e4972fefb81e6c58dbb09a4990785f8618a5f6db06888a7d90ec5de03d1", func := "trellis/trellislaw09.MatKrons", spec := "matKrons", inPlace := ["math/bits.Add64", "math/bits.Sub64"], unfollowed := true, recurses := true, apart := false }
def MatKronsSaid : Prop := matKronsRow.holds Try.pinned (OpenSpec.ofChange matKronsSpec)

/-- ITS FALSE NEIGHBOUR: 'it returns false'. Refute it at one input. -/
def matKronsWrong : ChangeSpec := { name := "matKrons", fn := fun _ => fun
  | [d] => { results := [.lit (.bool false)], args := [d] }
  | _ => none }
def MatKronsWrongFalsely : Prop := matKronsRow.holds Try.pinned (OpenSpec.ofChange matKronsWrong)

/-- 'trellislaw09.MatTurns': WHATEVER THE INPUT: true; the input reads as it did. -/
def matTurnsSpec : ChangeSpec := { name := "matTurns", fn := fun _ => fun
  | [d1, d2] => { results := [.lit (.bool true)], args := [d1, d2] }
  | _ => none }
def matTurnsRow : OpenClaim := { program := "ytlhmehikajidhaa", sum := "83f63e4972fefb81e6c58dbb09a4990785f8618a5f6db06888a7d90ec5de03d1", func := "trellis/trellislaw09.MatTurns", spec := "matTurns", inPlace := ["math/bits.Add64", "math/bits.Sub64"], unfollowed := true, recurses := true, apart := false }
def MatTurnsSaid : Prop := matTurnsRow.holds Try.pinned (OpenSpec.ofChange matTurnsSpec)

/-- ITS FALSE NEIGHBOUR: 'it returns false'. Refute it at one input. -/
def matTurnsWrong : ChangeSpec := { name := "matTurns", fn := fun _ => fun
  | [d1, d2] => { results := [.lit (.bool false)], args := [d1, d2] }
  | _ => none }
def MatTurnsWrongFalsely : Prop := matTurnsRow.holds Try.pinned (OpenSpec.ofChange matTurnsWrong)

/-- 'trellislaw09.MatLines': WHATEVER THE INPUT: true; the input reads as it did. -/
def matLinesSpec : ChangeSpec := { name := "matLines", fn := fun _ => fun
  | [d1, d2] => { results := [.lit (.bool true)], args := [d1, d2] }
  | _ => none }
def matLinesRow : OpenClaim := { program := "ytlhmehikajidhaa", sum := "83f63e4972fefb81e6c58dbb09a4990785f8618a5f6db06888a7d90ec5de03d1", func := "trellis/trellislaw09.MatLines", spec := "matLines", inPlace := ["math/bits.Add64", "math/bits.Sub64"], unfollowed := true, recurses := true, apart := false }
def MatLinesSaid : Prop := matLinesRow.holds Try.pinned (OpenSpec.ofChange matLinesSpec)

/-- ITS FALSE NEIGHBOUR: 'it returns false'. Refute it at one input. -/
def matLinesWrong : ChangeSpec := { name := "matLines", fn := fun _ => fun
  | [d1, d2] => { results := [.lit (.bool false)], args := [d1, d2] }
  | _ => none }
def MatLinesWrongFalsely : Prop := matLinesRow.holds Try.pinned (OpenSpec.ofChange matLinesWrong)

/-- 'trellislaw09.MatRing': WHATEVER THE INPUT: true; the input reads as it did. -/
def matRingSpec : ChangeSpec := { name := "matRing", fn := fun _ => fun
  | [d1, d2, d3] => { results := [.lit (.bool true)], args := [d1, d2, d3] }
  | _ => none }
def matRingRow : OpenClaim := { program := "ytlhmehikajidhaa", sum := "83f63e4972fefb81e6c58dbb09a4990785f8618a5f6db06888a7d90ec5de03d1", func := "trellis/trellislaw09.MatRing", spec := "matRing", inPlace := ["math/bits.Add64", "math/bits.Sub64"], unfollowed := true, recurses := true, apart := false }
def MatRingSaid : Prop := matRingRow.holds Try.pinned (OpenSpec.ofChange matRingSpec)

/-- ITS FALSE NEIGHBOUR: 'it returns false'. Refute it at one input. -/
def matRingWrong : ChangeSpec := { name := "matRing", fn := fun _ => fun
  | [d1, d2, d3] => { results := [.lit (.bool false)], args := [d1, d2, d3] }
  | _ => none }
def MatRingWrongFalsely : Prop := matRingRow.holds Try.pinned (OpenSpec.ofChange matRingWrong)

/-- 'trellislaw09.MatShifts': WHATEVER THE INPUT: true; the input reads as it did. -/
def matShiftsSpec : ChangeSpec := { name := "matShifts", fn := fun _ => fun
  | [d1, d2, d3] => { results := [.lit (.bool true)], args := [d1, d2, d3] }
  | _ => none }
def matShiftsRow : OpenClaim := { program := "ytlhmehikajidhaa", sum := "83f63e4972fefb81e6c58dbb09a4990785f8618a5f6db06888a7d90ec5de03d1", func := "trellis/trellislaw09.MatShifts", spec := "matShifts", inPlace := ["math/bits.Add64", "math/bits.Sub64"], unfollowed := true, recurses := true, apart := false }
def MatShiftsSaid : Prop := matShiftsRow.holds Try.pinned (OpenSpec.ofChange matShiftsSpec)

/-- ITS FALSE NEIGHBOUR: 'it returns false'. Refute it at one input. -/
def matShiftsWrong : ChangeSpec := { name := "matShifts", fn := fun _ => fun
  | [d1, d2, d3] => { results := [.lit (.bool false)], args := [d1, d2, d3] }
  | _ => none }
def MatShiftsWrongFalsely : Prop := matShiftsRow.holds Try.pinned (OpenSpec.ofChange matShiftsWrong)

/-- 'trellislaw09.MatUnsound': WHATEVER THE INPUT: true; the input reads as it did. -/
def matUnsoundSpec : ChangeSpec := { name := "matUnsound", fn := fun _ => fun
  | [d1, d2, d3] => { results := [.lit (.bool true)], args := [d1, d2, d3] }
  | _ => none }
def matUnsoundRow : OpenClaim := { program := "ytlhmehikajidhaa", sum := "83f63e4972fefb81e6c58dbb09a4990785f8618a5f6db06888a7d90ec5de03d1", func := "trellis/trellislaw09.MatUnsound", spec := "matUnsound", inPlace := ["math/bits.Add64", "math/bits.Sub64"], unfollowed := true, recurses := true, apart := false }
def MatUnsoundSaid : Prop := matUnsoundRow.holds Try.pinned (OpenSpec.ofChange matUnsoundSpec)

/-- ITS FALSE NEIGHBOUR: 'it returns false'. Refute it at one input. -/
def matUnsoundWrong : ChangeSpec := { name := "matUnsound", fn := fun _ => fun
  | [d1, d2, d3] => { results := [.lit (.bool false)], args := [d1, d2, d3] }
  | _ => none }
def MatUnsoundWrongFalsely : Prop := matUnsoundRow.holds Try.pinned (OpenSpec.ofChange matUnsoundWrong)

/- THE SECOND FORM. 'bulk': how many values and letters a reading holds, each counted each time it is reached (what is shared counts as often as it is met; a slice's spare places count too). A statement '..UptoSaid' is the law's where the arguments, and the package variables that the reading takes, are together of bulk at most 1048576: NARROWER than '..Said'. Prove '..Said' where nothing that the law and all that it calls make is longer than what came in: it says more and counts as full. Else prove '..UptoSaid'. A law counts once. -/
mutual
def uptoBulk {H : Type} : DataW H → Nat
  | .lit (.string bytes) => bytes.length + 1
  | .lit _ => 1
  | .nil => 1
  | .ptr d => uptoBulk d + 1
  | .slice elems spare => uptoBulkAll elems + uptoBulkAll spare + 1
  | .agg parts => uptoBulkAll parts + 1
  | .iface _ d => uptoBulk d + 1
  | .map entries => uptoBulkEntries entries + 1
  | .held _ => 1
def uptoBulkAll {H : Type} : List (DataW H) → Nat
  | [] => 0
  | d :: r => uptoBulk d + uptoBulkAll r
def uptoBulkEntries {H : Type} : List (Lit × DataW H) → Nat
  | [] => 0
  | x :: r => uptoBulkEntry x + uptoBulkEntries r
def uptoBulkEntry {H : Type} : Lit × DataW H → Nat
  | (.string bytes, d) => bytes.length + uptoBulk d + 1
  | (_, d) => uptoBulk d + 1
 end
def uptoSmall : (H : Type) → List (DataW H) → Bool := fun _ ds => decide (uptoBulkAll ds ≤ 1048576)
def OpenSpec.upto (s : _root_.Go.ChangeSpec) : _root_.Go.OpenSpec := { _root_.Go.OpenSpec.ofChange s with cond := some uptoSmall }

/-- 'trellislaw09.MatKrons', WHERE WHAT IT READS IS OF BULK AT MOST 1048576: true; the input reads as it did. -/
def matKronsUptoRow : OpenClaim := { program := "ytlhmehikajidhaa", sum := "83f63e4972fefb81e6c58dbb09a4990785f8618a5f6db06888a7d90ec5de03d1", func := "trellis/trellislaw09.MatKrons", spec := "matKrons", inPlace := ["math/bits.Add64", "math/bits.Sub64"], unfollowed := true, recurses := true, apart := false, narrowed := true }
def MatKronsUptoSaid : Prop := matKronsUptoRow.holds Try.pinned (OpenSpec.upto matKronsSpec)

/-- 'trellislaw09.MatTurns', WHERE WHAT IT READS IS OF BULK AT MOST 1048576: true; the input reads as it did. -/
def matTurnsUptoRow : OpenClaim := { program := "ytlhmehikajidhaa", sum := "83f63e4972fefb81e6c58dbb09a4990785f8618a5f6db06888a7d90ec5de03d1", func := "trellis/trellislaw09.MatTurns", spec := "matTurns", inPlace := ["math/bits.Add64", "math/bits.Sub64"], unfollowed := true, recurses := true, apart := false, narrowed := true }
def MatTurnsUptoSaid : Prop := matTurnsUptoRow.holds Try.pinned (OpenSpec.upto matTurnsSpec)

/-- 'trellislaw09.MatLines', WHERE WHAT IT READS IS OF BULK AT MOST 1048576: true; the input reads as it did. -/
def matLinesUptoRow : OpenClaim := { program := "ytlhmehikajidhaa", sum := "83f63e4972fefb81e6c58dbb09a4990785f8618a5f6db06888a7d90ec5de03d1", func := "trellis/trellislaw09.MatLines", spec := "matLines", inPlace := ["math/bits.Add64", "math/bits.Sub64"], unfollowed := true, recurses := true, apart := false, narrowed := true }
def MatLinesUptoSaid : Prop := matLinesUptoRow.holds Try.pinned (OpenSpec.upto matLinesSpec)

/-- 'trellislaw09.MatRing', WHERE WHAT IT READS IS OF BULK AT MOST 1048576: true; the input reads as it did. -/
def matRingUptoRow : OpenClaim := { program := "ytlhmehikajidhaa", sum := "83f63e4972fefb81e6c58dbb09a4990785f8618a5f6db06888a7d90ec5de03d1", func := "trellis/trellislaw09.MatRing", spec := "matRing", inPlace := ["math/bits.Add64", "math/bits.Sub64"], unfollowed := true, recurses := true, apart := false, narrowed := true }
def MatRingUptoSaid : Prop := matRingUptoRow.holds Try.pinned (OpenSpec.upto matRingSpec)

/-- 'trellislaw09.MatShifts', WHERE WHAT IT READS IS OF BULK AT MOST 1048576: true; the input reads as it did. -/
def matShiftsUptoRow : OpenClaim := { program := "ytlhmehikajidhaa", sum := "83f63e4972fefb81e6c58dbb09a4990785f8618a5f6db06888a7d90ec5de03d1", func := "trellis/trellislaw09.MatShifts", spec := "matShifts", inPlace := ["math/bits.Add64", "math/bits.Sub64"], unfollowed := true, recurses := true, apart := false, narrowed := true }
def MatShiftsUptoSaid : Prop := matShiftsUptoRow.holds Try.pinned (OpenSpec.upto matShiftsSpec)

/-- 'trellislaw09.MatUnsound', WHERE WHAT IT READS IS OF BULK AT MOST 1048576: true; the input reads as it did. -/
def matUnsoundUptoRow : OpenClaim := { program := "ytlhmehikajidhaa", sum := "83f63e4972fefb81e6c58dbb09a4990785f8618a5f6db06888a7d90ec5de03d1", func := "trellis/trellislaw09.MatUnsound", spec := "matUnsound", inPlace := ["math/bits.Add64", "math/bits.Sub64"], unfollowed := true, recurses := true, apart := false, narrowed := true }
def MatUnsoundUptoSaid : Prop := matUnsoundUptoRow.holds Try.pinned (OpenSpec.upto matUnsoundSpec)

end Rows
end Go.Proofs.Ytlhmehikajidhaa
