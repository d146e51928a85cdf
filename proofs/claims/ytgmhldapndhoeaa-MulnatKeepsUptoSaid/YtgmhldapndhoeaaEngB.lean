/- The engine, more operations. -/
import Derived.Test.YtgmhldapndhoeaaEng
set_option linter.unusedVariables false
set_option linter.unusedSimpArgs false
namespace Go.Eng
open Go Go.RowKit

section
variable {P : Program} {σ : Store} {H : Array Obj} {d : Option Tmp} {t : TypeId} {pos : String} {af : Array Edge} {gd : Option (Nat × Bool)}
theorem ev_max2 {x y : Operand} {tys : Array TypeId} {z1 z2 : Int} {m n : Nat} [e1 : IsN z1 m] [e2 : IsN z2 n] (hx : look σ x = some (.int .i64 z1)) (hy : look σ y = some (.int .i64 z2)) :
    Ev P σ H ⟨d, .call { callee := .builtin .max, args := #[x, y], argTypes := tys }, t, pos, af, gd⟩ (.int .i64 ((max m n : Nat) : Int)) := by
  unfold Ev
  intro ρ w hρ _
  rw [e1.out] at hx
  rw [e2.out] at hy
  have e : (if m < n then (n : Int) else (m : Int)) = ((max m n : Nat) : Int) := by split <;> omega
  simp [execOp, hρ x _ hx, hρ y _ hy, resolve, invoke, builtin, Builtin.max_, Builtin.max2, e]
theorem ev_min2 {x y : Operand} {tys : Array TypeId} {z1 z2 : Int} {m n : Nat} [e1 : IsN z1 m] [e2 : IsN z2 n] (hx : look σ x = some (.int .i64 z1)) (hy : look σ y = some (.int .i64 z2)) :
    Ev P σ H ⟨d, .call { callee := .builtin .min, args := #[x, y], argTypes := tys }, t, pos, af, gd⟩ (.int .i64 ((min m n : Nat) : Int)) := by
  unfold Ev
  intro ρ w hρ _
  rw [e1.out] at hx
  rw [e2.out] at hy
  have e : (if n < m then (n : Int) else (m : Int)) = ((min m n : Nat) : Int) := by split <;> omega
  simp [execOp, hρ x _ hx, hρ y _ hy, resolve, invoke, builtin, Builtin.min_, Builtin.min2, e]
theorem run_bin_subU (m n : Nat) (h : n ≤ m ∧ m < 18446744073709551616) (tx : TypeId) (w : World) : (binOp .sub tx (.int .u64 (m : Int)) (.int .u64 (n : Int))).run P w = .ok (.int .u64 ((m - n : Nat) : Int)) w := by
  rw [run_bin_sub, wrap_u64 _ (by omega), Int.natCast_sub h.1]
theorem ev_subU {x y : Operand} {tx ty : TypeId} {z1 z2 : Int} {m n : Nat} [e1 : IsN z1 m] [e2 : IsN z2 n] (hx : look σ x = some (.int .u64 z1)) (hy : look σ y = some (.int .u64 z2)) (h : n ≤ m ∧ m < 18446744073709551616) :
    Ev P σ H ⟨d, .binOp .sub tx x y ty, t, pos, af, gd⟩ (.int .u64 ((m - n : Nat) : Int)) := ev_bin (by rw [hx, e1.out]) (by rw [hy, e2.out]) fun w => run_bin_subU m n h tx w
theorem ev_shrI {x y : Operand} {tx ty : TypeId} {z1 z2 : Int} {k' : IntKind} {m n : Nat} [e1 : IsN z1 m] [e2 : IsN z2 n] (hx : look σ x = some (.int .i64 z1)) (hy : look σ y = some (.int k' z2)) (hm : m < 9223372036854775808) :
    Ev P σ H ⟨d, .binOp .shr tx x y ty, t, pos, af, gd⟩ (.int .i64 ((m / 2 ^ n : Nat) : Int)) := ev_bin (by rw [hx, e1.out]) (by rw [hy, e2.out]) fun w => by
  simp only [binOp, Op.shift, if_neg (show ¬ ((n : Int) < 0) by omega), Int.toNat_natCast, IntKind.bits, Sem.run_pure]
  rw [two_pow_cast, Int.fdiv_eq_ediv_of_nonneg _ (Int.natCast_nonneg _), ← Int.natCast_ediv]
  rcases Nat.le_total n 64 with h | h
  · rw [Nat.min_eq_left h]
  · rw [Nat.min_eq_right h, Nat.div_eq_of_lt (by omega), Nat.div_eq_of_lt]
    exact Nat.lt_of_lt_of_le (show m < 2 ^ 64 by omega) (Nat.pow_le_pow_right (by omega) h)
theorem bits_and_i64 {tx : TypeId} (m n : Nat) (hm : m < 9223372036854775808) (hn : n < 9223372036854775808) (w : World) : (binOp .and tx (.int .i64 (m : Int)) (.int .i64 (n : Int))).run P w = .ok (.int .i64 ((m &&& n : Nat) : Int)) w := by
  have h : m &&& n < 2 ^ 63 := Nat.and_lt_two_pow _ hn
  show Result.ok (Value.int .i64 (IntKind.i64.wrap ((BitVec.ofInt 64 (m : Int) &&& BitVec.ofInt 64 (n : Int)).toNat : Int))) w = _
  rw [BitVec.toNat_and, BitVec.ofInt_natCast, BitVec.ofInt_natCast, BitVec.toNat_ofNat, BitVec.toNat_ofNat, Nat.mod_eq_of_lt (by omega), Nat.mod_eq_of_lt (by omega), wrap_i64 _ (by omega)]
theorem ev_andI {x y : Operand} {tx ty : TypeId} {z1 z2 : Int} {m n : Nat} [e1 : IsN z1 m] [e2 : IsN z2 n] (hx : look σ x = some (.int .i64 z1)) (hy : look σ y = some (.int .i64 z2)) (hm : m < 9223372036854775808) (hn : n < 9223372036854775808) :
    Ev P σ H ⟨d, .binOp .and tx x y ty, t, pos, af, gd⟩ (.int .i64 ((m &&& n : Nat) : Int)) := ev_bin (by rw [hx, e1.out]) (by rw [hy, e2.out]) (bits_and_i64 m n hm hn)
/-- slices of slices -/
instance : Inhabited (SA Nat) := ⟨⟨none, 0, 0, []⟩⟩
def sav (x : SA Nat) : Value := .slice x.A x.n x.c
theorem ev_loadS {x : Operand} {ty : TypeId} [hO : UOne P ty] {B n c k : Nat} {A : Option Addr} {l : List (SA Nat)}
    (hx : look σ x = some (.pointer (elemA A k))) (hs : Sl sav H B A n c l) (hk : k < n) : Ev P σ H ⟨d, .load ty x, t, pos, af, gd⟩ (.slice (l.getD k default).A (l.getD k default).n (l.getD k default).c) :=
  ev_loadSl (f := sav) hx hs (getD_some default (by rw [hs.len]; exact hk))
end
end Go.Eng
