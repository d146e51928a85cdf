/- Opening matrices handed in, with the range of their numbers. -/
import Derived.Test.YtlhmehikajidhaaPu7
set_option linter.unusedVariables false
set_option linter.unusedSimpArgs false
namespace Go.Proofs.Ytlhmehikajidhaa
open Go Go.Eng Go.Proofs Go.NatM Go.RowKit

theorem cellTypes_mat : Try.prog.cellTypes Try.prog.depth 24 = some [3, 3, 22] := by kernel_rfl
theorem cell_int {P : Program} {W : World} {base : Nat} {t : TypeId} {z : Int} (ht : P.underlying t = some (.int .i64)) (h : Cell.okWide P W .any base t (.int .i64 z)) : -9223372036854775808 ≤ z ∧ z < 9223372036854775808 := by
  simp [Cell.okWide, Cell.ok, ht, IntKind.has, IntKind.min, IntKind.max, IntKind.signed, IntKind.bits] at h
  omega
set_option maxRecDepth 10000 in
theorem inR_of {W : World} {base : Nat} {y : MV} (hv : Value.okWide Try.prog W .any base 24 (.agg (mvc y).toArray)) : InR y := by
  simp only [Value.okWide, Try.underlying24] at hv
  obtain ⟨cs, e, _, ts, hts, _, hall⟩ := hv
  cases e
  rw [cellTypes_mat] at hts
  cases hts
  obtain ⟨u, hu, h0⟩ := hall 0 _ rfl
  cases hu
  obtain ⟨u, hu, h1⟩ := hall 1 _ rfl
  cases hu
  exact ⟨cell_int Try.underlying3 h0, cell_int Try.underlying3 h1⟩
set_option maxRecDepth 10000 in
theorem open_matI {H : Type} {enc : TypeId × Value → H} {W : World} {base base' : Nat} {spare : Nat → Bool} {held : Bool} {v : Value} {d : DataW H} {ps : List MemPlace}
    (hv : Value.okWide Try.prog W .any base' 24 v) (h : DataW.Trod enc Try.prog W base spare held 24 v d ps) :
    ∃ y : MV, v = .agg (mvc y).toArray ∧ (RM0 W.heap y ∧ InR y) ∧ wts ivw y.l ≤ Rows.uptoBulk d := by
  obtain ⟨y, e, r, m⟩ := open_mat hv h
  subst e
  exact ⟨y, rfl, ⟨r, inR_of hv⟩, m⟩
theorem small_matI {H : Array Obj} {y : MV} {b : Nat} (h : b ≤ 1048576) (r : RM0 H y ∧ InR y) (hn : wts ivw y.l ≤ b) : RM H y 1048576 ∧ InR y := ⟨small_mat h r.1 hn, r.2⟩
end Go.Proofs.Ytlhmehikajidhaa
