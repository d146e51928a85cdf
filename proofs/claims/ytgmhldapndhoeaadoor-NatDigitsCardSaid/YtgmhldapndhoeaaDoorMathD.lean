/- Plain arithmetic: the highest and the lowest digit among the first p. -/
import Derived.Test.YtgmhldapndhoeaaDoorMathC
set_option linter.unusedVariables false
namespace Go.NatM

/-- the highest digit among the first p, -1 of none; the lowest -/
def hiI (n p : Nat) : Int := (bl (n % 2 ^ p) : Int) - 1
def loI (n p : Nat) : Int := if n % 2 ^ p = 0 then -1 else (tz n : Int)
theorem mod_zero_of (n : Nat) : n % 2 ^ 0 = 0 := by rw [Nat.pow_zero, Nat.mod_one]
theorem hiI_zero (n : Nat) : hiI n 0 = -1 := by rw [hiI, mod_zero_of]; rfl
theorem loI_zero (n : Nat) : loI n 0 = -1 := by rw [loI, if_pos (mod_zero_of n)]
theorem tz_mod {n p : Nat} (h : n % 2 ^ p ≠ 0) : tz n = tz (n % 2 ^ p) := by
  have := tz_add (n / 2 ^ p) h (Nat.mod_lt _ (Nat.two_pow_pos p))
  rwa [Nat.mod_add_div] at this
theorem hi_no {n p : Nat} (h : n / 2 ^ p % 2 = 0) : hiI n (p + 1) = hiI n p ∧ loI n (p + 1) = loI n p := by
  have e : n % 2 ^ (p + 1) = n % 2 ^ p := by rw [mod_two_pow_succ, h, Nat.mul_zero, Nat.add_zero]
  rw [hiI, hiI, loI, loI, e]; exact ⟨rfl, rfl⟩
theorem hi_yes {n p : Nat} (h : n / 2 ^ p % 2 = 1) : hiI n (p + 1) = p ∧ (loI n p < 0 → loI n (p + 1) = p) ∧ (¬ loI n p < 0 → loI n (p + 1) = loI n p) := by
  have e : n % 2 ^ (p + 1) = n % 2 ^ p + 2 ^ p := by rw [mod_two_pow_succ, h, Nat.mul_one]
  have hlt : n % 2 ^ p < 2 ^ p := Nat.mod_lt _ (Nat.two_pow_pos p)
  have hp := Nat.two_pow_pos p
  have hb : bl (n % 2 ^ (p + 1)) = p + 1 := bl_eq (by rw [e]; omega) (by rw [e, Nat.pow_succ]; omega)
  refine ⟨by rw [hiI, hb]; omega, fun hl => ?_, fun hl => ?_⟩
  · have h0 : n % 2 ^ p = 0 := by
      rw [loI] at hl
      split at hl
      · assumption
      · omega
    have h1 : n % 2 ^ (p + 1) ≠ 0 := by rw [e]; omega
    rw [loI, if_neg h1, tz_mod h1, e, h0, Nat.zero_add]
    have := tz_eq p 0
    rw [show 2 ^ p * (2 * 0 + 1) = 2 ^ p by rw [Nat.mul_zero, Nat.zero_add, Nat.mul_one]] at this
    rw [this]
  · have h0 : n % 2 ^ p ≠ 0 := by
      intro h0
      rw [loI, if_pos h0] at hl
      omega
    have h1 : n % 2 ^ (p + 1) ≠ 0 := by rw [e]; omega
    rw [loI, loI, if_neg h1, if_neg h0]
theorem hi_end {n p : Nat} (h : n < 2 ^ p) : hiI n p = (bl n : Int) - 1 ∧ loI n p = if n = 0 then -1 else (tz n : Int) := by
  rw [hiI, loI, Nat.mod_eq_of_lt h]; exact ⟨rfl, rfl⟩
theorem hiI_lt (n p : Nat) : -1 ≤ hiI n p ∧ hiI n p < p := by
  have := bl_le.2 (Nat.mod_lt n (Nat.two_pow_pos p))
  rw [hiI]; omega
theorem loI_lt (n p : Nat) : -1 ≤ loI n p ∧ (loI n p < p ∨ p = 0) := by
  rw [loI]
  split
  · omega
  · rename_i h
    have := tz_lt h (Nat.mod_lt n (Nat.two_pow_pos p))
    rw [tz_mod h]; omega
end Go.NatM
