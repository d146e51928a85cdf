/-
  No cell of these rows narrows 'for every input' (looked for: loops, veiled, ifaces, maps, wideKeys, modest, calm, conditions, laid).
  DERIVED. THE GIVEN ROWS OF THIS SEAT. 10 by the template 'for every input the law returns true; each argument reads behind the call as it read before'; 0 by the template 'total and deterministic' (their statements: YtgmhldapndhoeaaTotals.lean).
  GIVEN WITH THE SEED: the statements are not yours to turn. If you find one false, say at which input.
  Laid BY PROGRAM, IN A SANDBOX (cutbox-rows.mjs): the forced cells as the released guide's own fill.sh prints them over the translation d1db033eae29a532… (all of the seat's roots in one cut). By AI agents, Wed Nov 11 2026. No macro, syntax, notation, axiom, sorry.
-/
import Derived.Test.YtgmhldapndhoeaaChecked
import GoSem.Claim
import GoSem.ClaimJoined
import GoSem.ClaimMapViews
import Derived.JoinedTies
import Derived.KernelRfl
namespace Go.Proofs.Ytgmhldapndhoeaa
/- THE CELL 'sum', in the pinned program and in every row, IS THE sha256 OF THE DUMP (.gsa) THAT YtgmhldapndhoeaaProg.lean LOADS. Nothing in Lean hashes anything: it is a label: what it is worth is what the hold of that sum in a sandbox is worth. -/
noncomputable def Try.pinned : Pinned := { name := "ytgmhldapndhoeaa", sum := "d1db033eae29a532768deac7213e57a0826fc2aa0d9e0a5cb2cb1fed3dc7a14b", checked := Try.checked }
namespace Rows
def none {H : Type} : Left H := { results := [], args := [] }

/-- 'trellislaw01.NatNames': WHATEVER THE INPUT: true; the input reads as it did. -/
def natNamesSpec : ChangeSpec := { name := "natNames", fn := fun _ => fun
  | [] => { results := [.lit (.bool true)], args := [] }
  | _ => none }
def natNamesRow : OpenClaim := { program := "ytgmhldapndhoeaa", sum := "d1db033eae29a532768deac7213e57a0826fc2aa0d9e0a5cb2cb1fed3dc7a14b", func := "trellis/trellislaw01.NatNames", spec := "natNames", apart := false }
def NatNamesSaid : Prop := natNamesRow.holds Try.pinned (OpenSpec.ofChange natNamesSpec)

/-- ITS FALSE NEIGHBOUR: 'it returns false'. Refute it at one input. -/
def natNamesWrong : ChangeSpec := { name := "natNames", fn := fun _ => fun
  | [] => { results := [.lit (.bool false)], args := [] }
  | _ => none }
def NatNamesWrongFalsely : Prop := natNamesRow.holds Try.pinned (OpenSpec.ofChange natNamesWrong)

/-- 'trellislaw01.NatOrder': WHATEVER THE INPUT: true; the input reads as it did. -/
def natOrderSpec : ChangeSpec := { name := "natOrder", fn := fun _ => fun
  | [d1, d2, d3] => { results := [.lit (.bool true)], args := [d1, d2, d3] }
  | _ => none }
def natOrderRow : OpenClaim := { program := "ytgmhldapndhoeaa", sum := "d1db033eae29a532768deac7213e57a0826fc2aa0d9e0a5cb2cb1fed3dc7a14b", func := "trellis/trellislaw01.NatOrder", spec := "natOrder", inPlace := ["math/bits.Add64", "math/bits.Sub64"], apart := false }
def NatOrderSaid : Prop := natOrderRow.holds Try.pinned (OpenSpec.ofChange natOrderSpec)

/-- ITS FALSE NEIGHBOUR: 'it returns false'. Refute it at one input. -/
def natOrderWrong : ChangeSpec := { name := "natOrder", fn := fun _ => fun
  | [d1, d2, d3] => { results := [.lit (.bool false)], args := [d1, d2, d3] }
  | _ => none }
def NatOrderWrongFalsely : Prop := natOrderRow.holds Try.pinned (OpenSpec.ofChange natOrderWrong)

/-- 'trellislaw01.NatGroup': WHATEVER THE INPUT: true; the input reads as it did. -/
def natGroupSpec : ChangeSpec := { name := "natGroup", fn := fun _ => fun
  | [d1, d2, d3] => { results := [.lit (.bool true)], args := [d1, d2, d3] }
  | _ => none }
def natGroupRow : OpenClaim := { program := "ytgmhldapndhoeaa", sum := "d1db033eae29a532768deac7213e57a0826fc2aa0d9e0a5cb2cb1fed3dc7a14b", func := "trellis/trellislaw01.NatGroup", spec := "natGroup", inPlace := ["math/bits.Add64", "math/bits.Sub64"], apart := false }
def NatGroupSaid : Prop := natGroupRow.holds Try.pinned (OpenSpec.ofChange natGroupSpec)

/-- ITS FALSE NEIGHBOUR: 'it returns false'. Refute it at one input. -/
def natGroupWrong : ChangeSpec := { name := "natGroup", fn := fun _ => fun
  | [d1, d2, d3] => { results := [.lit (.bool false)], args := [d1, d2, d3] }
  | _ => none }
def NatGroupWrongFalsely : Prop := natGroupRow.holds Try.pinned (OpenSpec.ofChange natGroupWrong)

/-- 'trellislaw02.MulnatLists': WHATEVER THE INPUT: true; the input reads as it did. -/
def mulnatListsSpec : ChangeSpec := { name := "mulnatLists", fn := fun _ => fun
  | [d1, d2] => { results := [.lit (.bool true)], args := [d1, d2] }
  | _ => none }
def mulnatListsRow : OpenClaim := { program := "ytgmhldapndhoeaa", sum := "d1db033eae29a532768deac7213e57a0826fc2aa0d9e0a5cb2cb1fed3dc7a14b", func := "trellis/trellislaw02.MulnatLists", spec := "mulnatLists", inPlace := ["math/bits.Add64", "math/bits.Sub64"], recurses := true, apart := false }
def MulnatListsSaid : Prop := mulnatListsRow.holds Try.pinned (OpenSpec.ofChange mulnatListsSpec)

/-- ITS FALSE NEIGHBOUR: 'it returns false'. Refute it at one input. -/
def mulnatListsWrong : ChangeSpec := { name := "mulnatLists", fn := fun _ => fun
  | [d1, d2] => { results := [.lit (.bool false)], args := [d1, d2] }
  | _ => none }
def MulnatListsWrongFalsely : Prop := mulnatListsRow.holds Try.pinned (OpenSpec.ofChange mulnatListsWrong)

/-- 'trellislaw02.MulnatShifts': WHATEVER THE INPUT: true; the input reads as it did. -/
def mulnatShiftsSpec : ChangeSpec := { name := "mulnatShifts", fn := fun _ => fun
  | [d1, d2, d3] => { results := [.lit (.bool true)], args := [d1, d2, d3] }
  | _ => none }
def mulnatShiftsRow : OpenClaim := { program := "ytgmhldapndhoeaa", sum := "d1db033eae29a532768deac7213e57a0826fc2aa0d9e0a5cb2cb1fed3dc7a14b", func := "trellis/trellislaw02.MulnatShifts", spec := "mulnatShifts", inPlace := ["math/bits.Add64", "math/bits.Sub64"], recurses := true, apart := false }
def MulnatShiftsSaid : Prop := mulnatShiftsRow.holds Try.pinned (OpenSpec.ofChange mulnatShiftsSpec)

/-- ITS FALSE NEIGHBOUR: 'it returns false'. Refute it at one input. -/
def mulnatShiftsWrong : ChangeSpec := { name := "mulnatShifts", fn := fun _ => fun
  | [d1, d2, d3] => { results := [.lit (.bool false)], args := [d1, d2, d3] }
  | _ => none }
def MulnatShiftsWrongFalsely : Prop := mulnatShiftsRow.holds Try.pinned (OpenSpec.ofChange mulnatShiftsWrong)

/-- 'trellislaw02.MulnatPowers': WHATEVER THE INPUT: true; the input reads as it did. -/
def mulnatPowersSpec : ChangeSpec := { name := "mulnatPowers", fn := fun _ => fun
  | [d1, d2, d3] => { results := [.lit (.bool true)], args := [d1, d2, d3] }
  | _ => none }
def mulnatPowersRow : OpenClaim := { program := "ytgmhldapndhoeaa", sum := "d1db033eae29a532768deac7213e57a0826fc2aa0d9e0a5cb2cb1fed3dc7a14b", func := "trellis/trellislaw02.MulnatPowers", spec := "mulnatPowers", inPlace := ["math/bits.Add64", "math/bits.Sub64"], recurses := true, apart := false }
def MulnatPowersSaid : Prop := mulnatPowersRow.holds Try.pinned (OpenSpec.ofChange mulnatPowersSpec)

/-- ITS FALSE NEIGHBOUR: 'it returns false'. Refute it at one input. -/
def mulnatPowersWrong : ChangeSpec := { name := "mulnatPowers", fn := fun _ => fun
  | [d1, d2, d3] => { results := [.lit (.bool false)], args := [d1, d2, d3] }
  | _ => none }
def MulnatPowersWrongFalsely : Prop := mulnatPowersRow.holds Try.pinned (OpenSpec.ofChange mulnatPowersWrong)

/-- 'trellislaw02.MulnatRing': WHATEVER THE INPUT: true; the input reads as it did. -/
def mulnatRingSpec : ChangeSpec := { name := "mulnatRing", fn := fun _ => fun
  | [d1, d2, d3] => { results := [.lit (.bool true)], args := [d1, d2, d3] }
  | _ => none }
def mulnatRingRow : OpenClaim := { program := "ytgmhldapndhoeaa", sum := "d1db033eae29a532768deac7213e57a0826fc2aa0d9e0a5cb2cb1fed3dc7a14b", func := "trellis/trellislaw02.MulnatRing", spec := "mulnatRing", inPlace := ["math/bits.Add64", "math/bits.Sub64"], recurses := true, apart := false }
def MulnatRingSaid : Prop := mulnatRingRow.holds Try.pinned (OpenSpec.ofChange mulnatRingSpec)

/-- ITS FALSE NEIGHBOUR: 'it returns false'. Refute it at one input. -/
def mulnatRingWrong : ChangeSpec := { name := "mulnatRing", fn := fun _ => fun
  | [d1, d2, d3] => { results := [.lit (.bool false)], args := [d1, d2, d3] }
  | _ => none }
def MulnatRingWrongFalsely : Prop := mulnatRingRow.holds Try.pinned (OpenSpec.ofChange mulnatRingWrong)

/-- 'trellislaw02.MulnatLong': WHATEVER THE INPUT: true; the input reads as it did. -/
def mulnatLongSpec : ChangeSpec := { name := "mulnatLong", fn := fun _ => fun
  | [d1, d2] => { results := [.lit (.bool true)], args := [d1, d2] }
  | _ => none }
def mulnatLongRow : OpenClaim := { program := "ytgmhldapndhoeaa", sum := "d1db033eae29a532768deac7213e57a0826fc2aa0d9e0a5cb2cb1fed3dc7a14b", func := "trellis/trellislaw02.MulnatLong", spec := "mulnatLong", inPlace := ["math/bits.Add64", "math/bits.Sub64"], recurses := true, apart := false }
def MulnatLongSaid : Prop := mulnatLongRow.holds Try.pinned (OpenSpec.ofChange mulnatLongSpec)

/-- ITS FALSE NEIGHBOUR: 'it returns false'. Refute it at one input. -/
def mulnatLongWrong : ChangeSpec := { name := "mulnatLong", fn := fun _ => fun
  | [d1, d2] => { results := [.lit (.bool false)], args := [d1, d2] }
  | _ => none }
def MulnatLongWrongFalsely : Prop := mulnatLongRow.holds Try.pinned (OpenSpec.ofChange mulnatLongWrong)

/-- 'trellislaw02.MulnatPlays': WHATEVER THE INPUT: true; the input reads as it did. -/
def mulnatPlaysSpec : ChangeSpec := { name := "mulnatPlays", fn := fun _ => fun
  | [d] => { results := [.lit (.bool true)], args := [d] }
  | _ => none }
def mulnatPlaysRow : OpenClaim := { program := "ytgmhldapndhoeaa", sum := "d1db033eae29a532768deac7213e57a0826fc2aa0d9e0a5cb2cb1fed3dc7a14b", func := "trellis/trellislaw02.MulnatPlays", spec := "mulnatPlays", inPlace := ["math/bits.Add64", "math/bits.Sub64"], recurses := true, apart := false }
def MulnatPlaysSaid : Prop := mulnatPlaysRow.holds Try.pinned (OpenSpec.ofChange mulnatPlaysSpec)

/-- ITS FALSE NEIGHBOUR: 'it returns false'. Refute it at one input. -/
def mulnatPlaysWrong : ChangeSpec := { name := "mulnatPlays", fn := fun _ => fun
  | [d] => { results := [.lit (.bool false)], args := [d] }
  | _ => none }
def MulnatPlaysWrongFalsely : Prop := mulnatPlaysRow.holds Try.pinned (OpenSpec.ofChange mulnatPlaysWrong)

/-- 'trellislaw02.MulnatKeeps': WHATEVER THE INPUT: true; the input reads as it did. -/
def mulnatKeepsSpec : ChangeSpec := { name := "mulnatKeeps", fn := fun _ => fun
  | [d] => { results := [.lit (.bool true)], args := [d] }
  | _ => none }
def mulnatKeepsRow : OpenClaim := { program := "ytgmhldapndhoeaa", sum := "d1db033eae29a532768deac7213e57a0826fc2aa0d9e0a5cb2cb1fed3dc7a14b", func := "trellis/trellislaw02.MulnatKeeps", spec := "mulnatKeeps", inPlace := ["math/bits.Add64", "math/bits.Sub64"], recurses := true, apart := false }
def MulnatKeepsSaid : Prop := mulnatKeepsRow.holds Try.pinned (OpenSpec.ofChange mulnatKeepsSpec)

/-- ITS FALSE NEIGHBOUR: 'it returns false'. Refute it at one input. -/
def mulnatKeepsWrong : ChangeSpec := { name := "mulnatKeeps", fn := fun _ => fun
  | [d] => { results := [.lit (.bool false)], args := [d] }
  | _ => none }
def MulnatKeepsWrongFalsely : Prop := mulnatKeepsRow.holds Try.pinned (OpenSpec.ofChange mulnatKeepsWrong)

/- THE SECOND FORM. 'bulk': how many values and letters a reading holds, each counted each time it is reached (what is shared counts as often as it is met; a slice's spare places count too). A statement '..UptoSaid' is the law's where the arguments, and the package variables that the reading takes, are together of bulk at most 1048576: NARROWER than '..Said'. Prove '..Said' where nothing that the law and all that it calls make is longer than what came in: it says more and counts as full. Else prove '..UptoSaid'. A law counts once. -/
mutual
def uptoBulk {H : Type} : DataW H → Nat
  | .lit (.string bytes) => bytes.length + 1
  | .lit _ => 1
  | .nil => 1
  | .ptr d => uptoBulk d + 1
  | .slice elems spare => uptoBulkAll elems + uptoBulkAll spare + 1
  | .agg parts => uptoBulkAll parts + 1
  | .iface _ d => uptoBulk d + 1
  | .map entries => uptoBulkEntries entries + 1
  | .held _ => 1
def uptoBulkAll {H : Type} : List (DataW H) → Nat
  | [] => 0
  | d :: r => uptoBulk d + uptoBulkAll r
def uptoBulkEntries {H : Type} : List (Lit × DataW H) → Nat
  | [] => 0
  | x :: r => uptoBulkEntry x + uptoBulkEntries r
def uptoBulkEntry {H : Type} : Lit × DataW H → Nat
  | (.string bytes, d) => bytes.length + uptoBulk d + 1
  | (_, d) => uptoBulk d + 1
 end
def uptoSmall : (H : Type) → List (DataW H) → Bool := fun _ ds => decide (uptoBulkAll ds ≤ 1048576)
def OpenSpec.upto (s : _root_.Go.ChangeSpec) : _root_.Go.OpenSpec := { _root_.Go.OpenSpec.ofChange s with cond := some uptoSmall }

/-- 'trellislaw01.NatNames', WHERE WHAT IT READS IS OF BULK AT MOST 1048576: true; the input reads as it did. -/
def natNamesUptoRow : OpenClaim := { program := "ytgmhldapndhoeaa", sum := "d1db033eae29a532768deac7213e57a0826fc2aa0d9e0a5cb2cb1fed3dc7a14b", func := "trellis/trellislaw01.NatNames", spec := "natNames", apart := false, narrowed := true }
def NatNamesUptoSaid : Prop := natNamesUptoRow.holds Try.pinned (OpenSpec.upto natNamesSpec)

/-- 'trellislaw01.NatOrder', WHERE WHAT IT READS IS OF BULK AT MOST 1048576: true; the input reads as it did. -/
def natOrderUptoRow : OpenClaim := { program := "ytgmhldapndhoeaa", sum := "d1db033eae29a532768deac7213e57a0826fc2aa0d9e0a5cb2cb1fed3dc7a14b", func := "trellis/trellislaw01.NatOrder", spec := "natOrder", inPlace := ["math/bits.Add64", "math/bits.Sub64"], apart := false, narrowed := true }
def NatOrderUptoSaid : Prop := natOrderUptoRow.holds Try.pinned (OpenSpec.upto natOrderSpec)

/-- 'trellislaw01.NatGroup', WHERE WHAT IT READS IS OF BULK AT MOST 1048576: true; the input reads as it did. -/
def natGroupUptoRow : OpenClaim := { program := "ytgmhldapndhoeaa", sum := "d1db033eae29a532768deac7213e57a0826fc2aa0d9e0a5cb2cb1fed3dc7a14b", func := "trellis/trellislaw01.NatGroup", spec := "natGroup", inPlace := ["math/bits.Add64", "math/bits.Sub64"], apart := false, narrowed := true }
def NatGroupUptoSaid : Prop := natGroupUptoRow.holds Try.pinned (OpenSpec.upto natGroupSpec)

/-- 'trellislaw02.MulnatLists', WHERE WHAT IT READS IS OF BULK AT MOST 1048576: true; the input reads as it did. -/
def mulnatListsUptoRow : OpenClaim := { program := "ytgmhldapndhoeaa", sum := "d1db033eae29a532768deac7213e57a0826fc2aa0d9e0a5cb2cb1fed3dc7a14b", func := "trellis/trellislaw02.MulnatLists", spec := "mulnatLists", inPlace := ["math/bits.Add64", "math/bits.Sub64"], recurses := true, apart := false, narrowed := true }
def MulnatListsUptoSaid : Prop := mulnatListsUptoRow.holds Try.pinned (OpenSpec.upto mulnatListsSpec)

/-- 'trellislaw02.MulnatShifts', WHERE WHAT IT READS IS OF BULK AT MOST 1048576: true; the input reads as it did. -/
def mulnatShiftsUptoRow : OpenClaim := { program := "ytgmhldapndhoeaa", sum := "d1db033eae29a532768deac7213e57a0826fc2aa0d9e0a5cb2cb1fed3dc7a14b", func := "trellis/trellislaw02.MulnatShifts", spec := "mulnatShifts", inPlace := ["math/bits.Add64", "math/bits.Sub64"], recurses := true, apart := false, narrowed := true }
def MulnatShiftsUptoSaid : Prop := mulnatShiftsUptoRow.holds Try.pinned (OpenSpec.upto mulnatShiftsSpec)

/-- 'trellislaw02.MulnatPowers', WHERE WHAT IT READS IS OF BULK AT MOST 1048576: true; the input reads as it did. -/
def mulnatPowersUptoRow : OpenClaim := { program := "ytgmhldapndhoeaa", sum := "d1db033eae29a532768deac7213e57a0826fc2aa0d9e0a5cb2cb1fed3dc7a14b", func := "trellis/trellislaw02.MulnatPowers", spec := "mulnatPowers", inPlace := ["math/bits.Add64", "math/bits.Sub64"], recurses := true, apart := false, narrowed := true }
def MulnatPowersUptoSaid : Prop := mulnatPowersUptoRow.holds Try.pinned (OpenSpec.upto mulnatPowersSpec)

/-- 'trellislaw02.MulnatRing', WHERE WHAT IT READS IS OF BULK AT MOST 1048576: true; the input reads as it did. -/
def mulnatRingUptoRow : OpenClaim := { program := "ytgmhldapndhoeaa", sum := "d1db033eae29a532768deac7213e57a0826fc2aa0d9e0a5cb2cb1fed3dc7a14b", func := "trellis/trellislaw02.MulnatRing", spec := "mulnatRing", inPlace := ["math/bits.Add64", "math/bits.Sub64"], recurses := true, apart := false, narrowed := true }
def MulnatRingUptoSaid : Prop := mulnatRingUptoRow.holds Try.pinned (OpenSpec.upto mulnatRingSpec)

/-- 'trellislaw02.MulnatLong', WHERE WHAT IT READS IS OF BULK AT MOST 1048576: true; the input reads as it did. -/
def mulnatLongUptoRow : OpenClaim := { program := "ytgmhldapndhoeaa", sum := "d1db033eae29a532768deac7213e57a0826fc2aa0d9e0a5cb2cb1fed3dc7a14b", func := "trellis/trellislaw02.MulnatLong", spec := "mulnatLong", inPlace := ["math/bits.Add64", "math/bits.Sub64"], recurses := true, apart := false, narrowed := true }
def MulnatLongUptoSaid : Prop := mulnatLongUptoRow.holds Try.pinned (OpenSpec.upto mulnatLongSpec)

/-- 'trellislaw02.MulnatPlays', WHERE WHAT IT READS IS OF BULK AT MOST 1048576: true; the input reads as it did. -/
def mulnatPlaysUptoRow : OpenClaim := { program := "ytgmhldapndhoeaa", sum := "d1db033eae29a532768deac7213e57a0826fc2aa0d9e0a5cb2cb1fed3dc7a14b", func := "trellis/trellislaw02.MulnatPlays", spec := "mulnatPlays", inPlace := ["math/bits.Add64", "math/bits.Sub64"], recurses := true, apart := false, narrowed := true }
def MulnatPlaysUptoSaid : Prop := mulnatPlaysUptoRow.holds Try.pinned (OpenSpec.upto mulnatPlaysSpec)

/-- 'trellislaw02.MulnatKeeps', WHERE WHAT IT READS IS OF BULK AT MOST 1048576: true; the input reads as it did. -/
def mulnatKeepsUptoRow : OpenClaim := { program := "ytgmhldapndhoeaa", sum := "d1db033eae29a532768deac7213e57a0826fc2aa0d9e0a5cb2cb1fed3dc7a14b", func := "trellis/trellislaw02.MulnatKeeps", spec := "mulnatKeeps", inPlace := ["math/bits.Add64", "math/bits.Sub64"], recurses := true, apart := false, narrowed := true }
def MulnatKeepsUptoSaid : Prop := mulnatKeepsUptoRow.holds Try.pinned (OpenSpec.upto mulnatKeepsSpec)

end Rows
end Go.Proofs.Ytgmhldapndhoeaa
