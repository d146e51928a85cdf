/-
  No cell of these rows narrows 'for every input' (looked for: loops, veiled, ifaces, maps, wideKeys, modest, calm, conditions, laid).
  DERIVED. THE GIVEN ROWS OF THIS SEAT. 6 by the template 'for every input the law returns true; each argument reads behind the call as it read before'; 0 by the template 'total and deterministic' (their statements: YtlpheckjogphmaaTotals.lean).
  GIVEN WITH THE SEED: the statements are not yours to turn. If you find one false, say at which input.
  Laid BY PROGRAM, IN A SANDBOX (cutbox-rows.mjs): the forced cells as the released guide's own fill.sh prints them over the translation bb4d92042c187b43… (all of the seat's roots in one cut). By AI agents, Wed Nov 11 2026. No macro, syntax, notation, axiom, sorry.
-/
import Derived.Test.YtlpheckjogphmaaChecked
import GoSem.Claim
import GoSem.ClaimJoined
import GoSem.ClaimMapViews
import Derived.JoinedTies
import Derived.KernelRfl
namespace Go.Proofs.Ytlpheckjogphmaa
/- THE CELL 'sum', in the pinned program and in every row, IS THE sha256 OF THE DUMP (.gsa) THAT YtlpheckjogphmaaProg.lean LOADS. Nothing in Lean hashes anything: it is a label: what it is worth is what the hold of that sum in a sandbox is worth. -/
noncomputable def Try.pinned : Pinned := { name := "ytlpheckjogphmaa", sum := "bb4d92042c187b43209d56628378babbc85f3b52f74b436029fe6a8ebe0d5fe4", checked := Try.checked }
namespace Rows
def none {H : Type} : Left H := { results := [], args := [] }

/-- 'trellislaw10.SparseRanges': WHATEVER THE INPUT: true; the input reads as it did. -/
def sparseRangesSpec : ChangeSpec := { name := "sparseRanges", fn := fun _ => fun
  | [d1, d2, d3] => { results := [.lit (.bool true)], args := [d1, d2, d3] }
  | _ => none }
def sparseRangesRow : OpenClaim := { program := "ytlpheckjogphmaa", sum := "bb4d92042c187b43209d56628378babbc85f3b52f74b436029fe6a8ebe0d5fe4", func := "trellis/trellislaw10.SparseRanges", spec := "sparseRanges", unfollowed := true, recurses := true, plainKeys := false, apart := false }
def SparseRangesSaid : Prop := sparseRangesRow.holds Try.pinned (OpenSpec.ofChange sparseRangesSpec)

/-- ITS FALSE NEIGHBOUR: 'it returns false'. Refute it at one input. -/
def sparseRangesWrong : ChangeSpec := { name := "sparseRanges", fn := fun _ => fun
  | [d1, d2, d3] => { results := [.lit (.bool false)], args := [d1, d2, d3] }
  | _ => none }
def SparseRangesWrongFalsely : Prop := sparseRangesRow.holds Try.pinned (OpenSpec.ofChange sparseRangesWrong)

/-- 'trellislaw10.SparseWide': WHATEVER THE INPUT: true; the input reads as it did. -/
def sparseWideSpec : ChangeSpec := { name := "sparseWide", fn := fun _ => fun
  | [d] => { results := [.lit (.bool true)], args := [d] }
  | _ => none }
def sparseWideRow : OpenClaim := { program := "ytlpheckjogphmaa", sum := "bb4d92042c187b43209d56628378babbc85f3b52f74b436029fe6a8ebe0d5fe4", func := "trellis/trellislaw10.SparseWide", spec := "sparseWide", inPlace := ["math/bits.Add64", "math/bits.Sub64"], unfollowed := true, recurses := true, plainKeys := false, apart := false }
def SparseWideSaid : Prop := sparseWideRow.holds Try.pinned (OpenSpec.ofChange sparseWideSpec)

/-- ITS FALSE NEIGHBOUR: 'it returns false'. Refute it at one input. -/
def sparseWideWrong : ChangeSpec := { name := "sparseWide", fn := fun _ => fun
  | [d] => { results := [.lit (.bool false)], args := [d] }
  | _ => none }
def SparseWideWrongFalsely : Prop := sparseWideRow.holds Try.pinned (OpenSpec.ofChange sparseWideWrong)

/-- 'trellislaw10.SparseFull': WHATEVER THE INPUT: true; the input reads as it did. -/
def sparseFullSpec : ChangeSpec := { name := "sparseFull", fn := fun _ => fun
  | [d1, d2, d3] => { results := [.lit (.bool true)], args := [d1, d2, d3] }
  | _ => none }
def sparseFullRow : OpenClaim := { program := "ytlpheckjogphmaa", sum := "bb4d92042c187b43209d56628378babbc85f3b52f74b436029fe6a8ebe0d5fe4", func := "trellis/trellislaw10.SparseFull", spec := "sparseFull", inPlace := ["math/bits.Add64", "math/bits.Sub64"], unfollowed := true, recurses := true, plainKeys := false, apart := false }
def SparseFullSaid : Prop := sparseFullRow.holds Try.pinned (OpenSpec.ofChange sparseFullSpec)

/-- ITS FALSE NEIGHBOUR: 'it returns false'. Refute it at one input. -/
def sparseFullWrong : ChangeSpec := { name := "sparseFull", fn := fun _ => fun
  | [d1, d2, d3] => { results := [.lit (.bool false)], args := [d1, d2, d3] }
  | _ => none }
def SparseFullWrongFalsely : Prop := sparseFullRow.holds Try.pinned (OpenSpec.ofChange sparseFullWrong)

/-- 'trellislaw10.SparseNil': WHATEVER THE INPUT: true; the input reads as it did. -/
def sparseNilSpec : ChangeSpec := { name := "sparseNil", fn := fun _ => fun
  | [] => { results := [.lit (.bool true)], args := [] }
  | _ => none }
def sparseNilRow : OpenClaim := { program := "ytlpheckjogphmaa", sum := "bb4d92042c187b43209d56628378babbc85f3b52f74b436029fe6a8ebe0d5fe4", func := "trellis/trellislaw10.SparseNil", spec := "sparseNil", inPlace := ["math/bits.Add64", "math/bits.Sub64"], unfollowed := true, recurses := true, plainKeys := false, apart := false }
def SparseNilSaid : Prop := sparseNilRow.holds Try.pinned (OpenSpec.ofChange sparseNilSpec)

/-- ITS FALSE NEIGHBOUR: 'it returns false'. Refute it at one input. -/
def sparseNilWrong : ChangeSpec := { name := "sparseNil", fn := fun _ => fun
  | [] => { results := [.lit (.bool false)], args := [] }
  | _ => none }
def SparseNilWrongFalsely : Prop := sparseNilRow.holds Try.pinned (OpenSpec.ofChange sparseNilWrong)

/-- 'trellislaw10.SparseRing': WHATEVER THE INPUT: true; the input reads as it did. -/
def sparseRingSpec : ChangeSpec := { name := "sparseRing", fn := fun _ => fun
  | [d1, d2] => { results := [.lit (.bool true)], args := [d1, d2] }
  | _ => none }
def sparseRingRow : OpenClaim := { program := "ytlpheckjogphmaa", sum := "bb4d92042c187b43209d56628378babbc85f3b52f74b436029fe6a8ebe0d5fe4", func := "trellis/trellislaw10.SparseRing", spec := "sparseRing", inPlace := ["math/bits.Add64", "math/bits.Sub64"], unfollowed := true, recurses := true, plainKeys := false, apart := false }
def SparseRingSaid : Prop := sparseRingRow.holds Try.pinned (OpenSpec.ofChange sparseRingSpec)

/-- ITS FALSE NEIGHBOUR: 'it returns false'. Refute it at one input. -/
def sparseRingWrong : ChangeSpec := { name := "sparseRing", fn := fun _ => fun
  | [d1, d2] => { results := [.lit (.bool false)], args := [d1, d2] }
  | _ => none }
def SparseRingWrongFalsely : Prop := sparseRingRow.holds Try.pinned (OpenSpec.ofChange sparseRingWrong)

/-- 'trellislaw10.SparseDense': WHATEVER THE INPUT: true; the input reads as it did. -/
def sparseDenseSpec : ChangeSpec := { name := "sparseDense", fn := fun _ => fun
  | [d1, d2] => { results := [.lit (.bool true)], args := [d1, d2] }
  | _ => none }
def sparseDenseRow : OpenClaim := { program := "ytlpheckjogphmaa", sum := "bb4d92042c187b43209d56628378babbc85f3b52f74b436029fe6a8ebe0d5fe4", func := "trellis/trellislaw10.SparseDense", spec := "sparseDense", inPlace := ["math/bits.Add64", "math/bits.Sub64"], unfollowed := true, recurses := true, plainKeys := false, apart := false }
def SparseDenseSaid : Prop := sparseDenseRow.holds Try.pinned (OpenSpec.ofChange sparseDenseSpec)

/-- ITS FALSE NEIGHBOUR: 'it returns false'. Refute it at one input. -/
def sparseDenseWrong : ChangeSpec := { name := "sparseDense", fn := fun _ => fun
  | [d1, d2] => { results := [.lit (.bool false)], args := [d1, d2] }
  | _ => none }
def SparseDenseWrongFalsely : Prop := sparseDenseRow.holds Try.pinned (OpenSpec.ofChange sparseDenseWrong)

/- THE SECOND FORM. 'bulk': how many values and letters a reading holds, each counted each time it is reached (what is shared counts as often as it is met; a slice's spare places count too). A statement '..UptoSaid' is the law's where the arguments, and the package variables that the reading takes, are together of bulk at most 1048576: NARROWER than '..Said'. Prove '..Said' where nothing that the law and all that it calls make is longer than what came in: it says more and counts as full. Else prove '..UptoSaid'. A law counts once. -/
mutual
def uptoBulk {H : Type} : DataW H → Nat
  | .lit (.string bytes) => bytes.length + 1
  | .lit _ => 1
  | .nil => 1
  | .ptr d => uptoBulk d + 1
  | .slice elems spare => uptoBulkAll elems + uptoBulkAll spare + 1
  | .agg parts => uptoBulkAll parts + 1
  | .iface _ d => uptoBulk d + 1
  | .map entries => uptoBulkEntries entries + 1
  | .held _ => 1
def uptoBulkAll {H : Type} : List (DataW H) → Nat
  | [] => 0
  | d :: r => uptoBulk d + uptoBulkAll r
def uptoBulkEntries {H : Type} : List (Lit × DataW H) → Nat
  | [] => 0
  | x :: r => uptoBulkEntry x + uptoBulkEntries r
def uptoBulkEntry {H : Type} : Lit × DataW H → Nat
  | (.string bytes, d) => bytes.length + uptoBulk d + 1
  | (_, d) => uptoBulk d + 1
 end
def uptoSmall : (H : Type) → List (DataW H) → Bool := fun _ ds => decide (uptoBulkAll ds ≤ 1048576)
def OpenSpec.upto (s : _root_.Go.ChangeSpec) : _root_.Go.OpenSpec := { _root_.Go.OpenSpec.ofChange s with cond := some uptoSmall }

/-- 'trellislaw10.SparseRanges', WHERE WHAT IT READS IS OF BULK AT MOST 1048576: true; the input reads as it did. -/
def sparseRangesUptoRow : OpenClaim := { program := "ytlpheckjogphmaa", sum := "bb4d92042c187b43209d56628378babbc85f3b52f74b436029fe6a8ebe0d5fe4", func := "trellis/trellislaw10.SparseRanges", spec := "sparseRanges", unfollowed := true, recurses := true, plainKeys := false, apart := false, narrowed := true }
def SparseRangesUptoSaid : Prop := sparseRangesUptoRow.holds Try.pinned (OpenSpec.upto sparseRangesSpec)

/-- 'trellislaw10.SparseWide', WHERE WHAT IT READS IS OF BULK AT MOST 1048576: true; the input reads as it did. -/
def sparseWideUptoRow : OpenClaim := { program := "ytlpheckjogphmaa", sum := "bb4d92042c187b43209d56628378babbc85f3b52f74b436029fe6a8ebe0d5fe4", func := "trellis/trellislaw10.SparseWide", spec := "sparseWide", inPlace := ["math/bits.Add64", "math/bits.Sub64"], unfollowed := true, recurses := true, plainKeys := false, apart := false, narrowed := true }
def SparseWideUptoSaid : Prop := sparseWideUptoRow.holds Try.pinned (OpenSpec.upto sparseWideSpec)

/-- 'trellislaw10.SparseFull', WHERE WHAT IT READS IS OF BULK AT MOST 1048576: true; the input reads as it did. -/
def sparseFullUptoRow : OpenClaim := { program := "ytlpheckjogphmaa", sum := "bb4d92042c187b43209d56628378babbc85f3b52f74b436029fe6a8ebe0d5fe4", func := "trellis/trellislaw10.SparseFull", spec := "sparseFull", inPlace := ["math/bits.Add64", "math/bits.Sub64"], unfollowed := true, recurses := true, plainKeys := false, apart := false, narrowed := true }
def SparseFullUptoSaid : Prop := sparseFullUptoRow.holds Try.pinned (OpenSpec.upto sparseFullSpec)

/-- 'trellislaw10.SparseNil', WHERE WHAT IT READS IS OF BULK AT MOST 1048576: true; the input reads as it did. -/
def sparseNilUptoRow : OpenClaim := { program := "ytlpheckjogphmaa", sum := "bb4d92042c187b43209d56628378babbc85f3b52f74b436029fe6a8ebe0d5fe4", func := "trellis/trellislaw10.SparseNil", spec := "sparseNil", inPlace := ["math/bits.Add64", "math/bits.Sub64"], unfollowed := true, recurses := true, plainKeys := false, apart := false, narrowed := true }
def SparseNilUptoSaid : Prop := sparseNilUptoRow.holds Try.pinned (OpenSpec.upto sparseNilSpec)

/-- 'trellislaw10.SparseRing', WHERE WHAT IT READS IS OF BULK AT MOST 1048576: true; the input reads as it did. -/
def sparseRingUptoRow : OpenClaim := { program := "ytlpheckjogphmaa", sum := "bb4d92042c187b43209d56628378babbc85f3b52f74b436029fe6a8ebe0d5fe4", func := "trellis/trellislaw10.SparseRing", spec := "sparseRing", inPlace := ["math/bits.Add64", "math/bits.Sub64"], unfollowed := true, recurses := true, plainKeys := false, apart := false, narrowed := true }
def SparseRingUptoSaid : Prop := sparseRingUptoRow.holds Try.pinned (OpenSpec.upto sparseRingSpec)

/-- 'trellislaw10.SparseDense', WHERE WHAT IT READS IS OF BULK AT MOST 1048576: true; the input reads as it did. -/
def sparseDenseUptoRow : OpenClaim := { program := "ytlpheckjogphmaa", sum := "bb4d92042c187b43209d56628378babbc85f3b52f74b436029fe6a8ebe0d5fe4", func := "trellis/trellislaw10.SparseDense", spec := "sparseDense", inPlace := ["math/bits.Add64", "math/bits.Sub64"], unfollowed := true, recurses := true, plainKeys := false, apart := false, narrowed := true }
def SparseDenseUptoSaid : Prop := sparseDenseUptoRow.holds Try.pinned (OpenSpec.upto sparseDenseSpec)

end Rows
end Go.Proofs.Ytlpheckjogphmaa
