/- The engine, more operations: a table that is a package-level variable; -x of uint64. -/
import Derived.Test.YtgmhldapndhoeaaDoorEngB
set_option linter.unusedVariables false
set_option linter.unusedSimpArgs false
namespace Go.Eng
open Go Go.RowKit

/-- an array -/
class UArr (P : Program) (t : TypeId) (n e : outParam Nat) : Prop where
  out : P.underlying t = some (.array n e)
section
variable {P : Program} {σ : Store} {H : Array Obj} {d : Option Tmp} {t : TypeId} {pos : String} {af : Array Edge} {gd : Option (Nat × Bool)}
theorem ev_negU {x : Operand} {ty : TypeId} {z : Int} {m : Nat} [e : IsN z m] (hx : look σ x = some (.int .u64 z)) (h : 0 < m ∧ m < 18446744073709551616) : Ev P σ H ⟨d, .unOp .neg ty x, t, pos, af, gd⟩ (.int .u64 ((18446744073709551616 - m : Nat) : Int)) := by
  unfold Ev
  intro ρ w hρ _
  rw [e.out] at hx
  have e1 : IntKind.u64.wrap (-(m : Int)) = ((18446744073709551616 - m : Nat) : Int) := by rw [IntKind.wrap_u64]; omega
  simp [execOp, hρ x _ hx, Op.unary, Op.intArith, e1]
theorem ev_indexArr {x i : Operand} {ty e : TypeId} {len : Nat} [hT : UArr P ty len e] {z : Value} {b1 : Nat} [hS : USize P e z 1 b1] {b o : Nat} {k : IntKind} {z0 : Int} {m : Nat} [e0 : IsN z0 m]
    (hx : look σ x = some (.pointer (some ⟨b, o, none⟩))) (hi : look σ i = some (.int k z0)) (h : m < len) : Ev P σ H ⟨d, .indexAddr ty x i, t, pos, af, gd⟩ (.pointer (some ⟨b, o + m, none⟩)) := by
  unfold Ev
  intro ρ w hρ _
  obtain ⟨ii, hii, _, hsz, _⟩ := hS.info
  have h1 : (0 : Int) ≤ m ∧ (m : Int) < len := by omega
  simp [execOp, hρ x _ hx, hρ i _ hi, Instr.indexAt, asIntOf, run_underlying hT.out, Instr.sureAddr, e0.out, h1, sizeOf, typeInfo, hii, hsz, add_mk]
  intro h2; omega
end
end Go.Eng
