/- Words and digits to the base 65536. -/
import Derived.Test.YtgmhldapndhoeaaMathS
import Derived.Test.YtgmhldapndhoeaaMathC
set_option linter.unusedVariables false
namespace Go.NatM
open Go

/-- the four digits of a word -/
def four (x : Nat) : List Nat := [x % 65536, x / 65536 % 65536, x / 65536 / 65536 % 65536, x / 65536 / 65536 / 65536 % 65536]
theorem val_four {x : Nat} (h : x < 18446744073709551616) : N16.val (four x) = x := by
  simp only [four, N16.val]; omega
theorem U_four (x : Nat) : N16.U64 (four x) := by
  intro y hy
  simp only [four, List.mem_cons, List.not_mem_nil, or_false] at hy
  omega
/-- the first k digits of a word -/
def fourK (x k : Nat) : List Nat := (List.range k).map fun j => x / 65536 ^ j % 65536
theorem fourK_succ (x k : Nat) : fourK x (k + 1) = fourK x k ++ [x / 65536 ^ k % 65536] := by simp [fourK, List.range_succ]
theorem fourK_len (x k : Nat) : (fourK x k).length = k := by simp [fourK]
theorem U_fourK (x k : Nat) : N16.U64 (fourK x k) := by
  intro y hy
  simp only [fourK, List.mem_map] at hy
  obtain ⟨j, _, rfl⟩ := hy
  exact Nat.mod_lt _ (by omega)
theorem val_fourK {x : Nat} (h : x < 18446744073709551616) : N16.val (fourK x 4) = x := by
  have e : fourK x 4 = [x % 65536, x / 65536 % 65536, x / 4294967296 % 65536, x / 281474976710656 % 65536] := by
    simp [fourK, List.range_succ]
  rw [e]
  simp only [N16.val]; omega
theorem W_four : (18446744073709551616 : Nat) = 65536 ^ 4 := by decide
theorem W_pow4 (i : Nat) : (65536 : Nat) ^ (4 * i) = 18446744073709551616 ^ i := by rw [Nat.pow_mul, W_four]
theorem dig16_len {n k : Nat} (h : n < 18446744073709551616 ^ k) : (N16.dig n).length ≤ 4 * k := N16.dig_length_le (by rw [W_pow4]; exact h)
theorem part16_succ (T : List Nat) (m r : Nat) : N16.val ((T.drop m).take (r + 1)) = T.getD m 0 + 65536 * N16.val ((T.drop (m + 1)).take r) := by
  rcases Nat.lt_or_ge m T.length with h | h
  · rw [List.drop_eq_getElem_cons h, List.take_succ_cons, N16.val]
    simp [List.getD, h]
  · rw [N16.getD_ge h, List.drop_of_length_le h, List.drop_of_length_le (by omega)]
    simp [N16.val]
theorem part16_lt {T : List Nat} (h : N16.U64 T) (m r : Nat) : N16.val ((T.drop m).take r) < 65536 ^ r := N16.U64.take_lt (h.drop m) r
theorem take16_four (T : List Nat) (q : Nat) : N16.val (T.take (4 * (q + 1))) = N16.val (T.take (4 * q)) + 18446744073709551616 ^ q * N16.val ((T.drop (4 * q)).take 4) := by
  have e := N16.val_split (T.take (4 * (q + 1))) (4 * q)
  rw [List.take_take, Nat.min_eq_left (by omega), List.drop_take, show 4 * (q + 1) - 4 * q = 4 by omega, W_pow4] at e
  exact e
theorem join_end {T L : List Nat} {q : Nat} (hT : N16.sz T = T.length) (hL : U64 L) (hq : L.length = q) (hv : val L = N16.val T) (h1 : T.length ≤ 4 * q) (h2 : 4 * q < T.length + 4) : L = dig (N16.val T) := by
  rw [← hv]
  rcases Nat.eq_zero_or_pos T.length with h0 | h0
  · have : L = [] := List.eq_nil_of_length_eq_zero (by omega)
    subst this
    rw [show val [] = 0 by rfl, dig_zero]
  · have h3 : 65536 ^ (T.length - 1) ≤ N16.val T := by
      have := N16.pow_le_val (l := T) (by omega)
      rwa [hT] at this
    have h4 : q ≤ sz L := by
      rcases Nat.lt_or_ge (sz L) q with h | h
      · have h5 := val_lt_sz hL
        have h6 : (18446744073709551616 : Nat) ^ sz L ≤ 65536 ^ (T.length - 1) := by
          rw [← W_pow4]; exact Nat.pow_le_pow_right (by omega) (by omega)
        omega
      · exact h
    have h5 := take_sz hL
    rw [List.take_of_length_le (by omega)] at h5
    exact h5
end Go.NatM
