/- Layer 2: contracts of math/bits.Len, mulnat.Pow. -/
import Derived.Test.YtgmhldapndhoeaaDoorMulF
set_option linter.unusedVariables false
set_option linter.unusedSimpArgs false
namespace Go.Proofs.YtgmhldapndhoeaaDoor
open Go Go.Eng Go.Proofs Go.NatM

theorem dig_pow_len {l : List Nat} (h : U64 l) (e : Nat) : (dig (val l ^ e)).length ≤ l.length * e + 1 := by
  refine dig_length_le ?_
  rw [Nat.pow_succ, Nat.pow_mul]
  have h1 : val l ^ e ≤ (18446744073709551616 ^ l.length) ^ e := Nat.pow_le_pow_left (Nat.le_of_lt (val_lt h)) e
  have h2 : 0 < (18446744073709551616 ^ l.length) ^ e := Nat.pow_pos (Nat.pow_pos (by omega))
  omega
theorem dig_one : dig 1 = [1] := by rw [dig_pos (by omega)]; simp [dig_zero]
theorem div_two_pow (k m : Nat) : k / 2 ^ m = 2 * (k / 2 ^ (m + 1)) + k / 2 ^ m % 2 := by
  rw [Nat.pow_succ, ← Nat.div_div_eq_div_mul]; omega
theorem pow_even {v e e' : Nat} (h : e' = 2 * e) : v ^ e' = v ^ e * v ^ e := by rw [h, Nat.two_mul, Nat.pow_add]
theorem pow_odd {v e e' : Nat} (h : e' = 2 * e + 1) : v ^ e' = v ^ e * v ^ e * v := by rw [h, Nat.pow_succ, Nat.two_mul, Nat.pow_add]

end Go.Proofs.YtgmhldapndhoeaaDoor
