/- Plain arithmetic: trailing zeros, single digits. -/
import Derived.Test.YtgmhldapndhoeaaMathB
set_option linter.unusedVariables false
namespace Go.NatM

def tz (n : Nat) : Nat := if h : n = 0 then 0 else if n % 2 = 1 then 0 else tz (n / 2) + 1
termination_by n
decreasing_by omega
theorem tz_odd {n : Nat} (h : n % 2 = 1) : tz n = 0 := by rw [tz]; simp [h]
theorem tz_even {n : Nat} (h0 : n ≠ 0) (h : n % 2 = 0) : tz n = tz (n / 2) + 1 := by rw [tz]; simp [h0, h]
theorem tz_eq : ∀ (k q : Nat), tz (2 ^ k * (2 * q + 1)) = k
  | 0, q => by rw [Nat.pow_zero, Nat.one_mul]; exact tz_odd (by omega)
  | k + 1, q => by
    have e : 2 ^ (k + 1) * (2 * q + 1) = 2 * (2 ^ k * (2 * q + 1)) := by rw [Nat.pow_succ, Nat.mul_comm (2 ^ k) 2, Nat.mul_assoc]
    have h := Nat.two_pow_pos k
    have h2 : 0 < 2 ^ k * (2 * q + 1) := Nat.mul_pos h (by omega)
    rw [e, tz_even (by omega) (by omega), show 2 * (2 ^ k * (2 * q + 1)) / 2 = 2 ^ k * (2 * q + 1) by omega, tz_eq k q]
theorem tz_spec (n : Nat) (h : n ≠ 0) : ∃ q, n = 2 ^ tz n * (2 * q + 1) := by
  induction n using Nat.strongRecOn with
  | _ n ih =>
    rcases (show n % 2 = 1 ∨ n % 2 = 0 by omega) with h1 | h1
    · exact ⟨n / 2, by rw [tz_odd h1, Nat.pow_zero]; omega⟩
    · obtain ⟨q, hq⟩ := ih (n / 2) (by omega) (by omega)
      refine ⟨q, ?_⟩
      rw [tz_even h h1, Nat.pow_succ, Nat.mul_comm _ 2, Nat.mul_assoc, ← hq]
      omega
theorem tz_lt {n k : Nat} (h0 : n ≠ 0) (h : n < 2 ^ k) : tz n < k := by
  obtain ⟨q, hq⟩ := tz_spec n h0
  rcases Nat.lt_or_ge (tz n) k with h1 | h1
  · exact h1
  · have h2 : 2 ^ k ≤ 2 ^ tz n := Nat.pow_le_pow_right (by omega) h1
    have h3 : 2 ^ tz n * 1 ≤ 2 ^ tz n * (2 * q + 1) := Nat.mul_le_mul_left _ (by omega)
    omega
theorem tz_pow_mul (k n : Nat) (h : n ≠ 0) : tz (2 ^ k * n) = k + tz n := by
  obtain ⟨q, hq⟩ := tz_spec n h
  have e : 2 ^ k * n = 2 ^ (k + tz n) * (2 * q + 1) := by rw [Nat.pow_add, Nat.mul_assoc, ← hq]
  rw [e, tz_eq]
/-- what stands 2^k or more further up does not count -/
theorem tz_add {n k : Nat} (m : Nat) (h0 : n ≠ 0) (h : n < 2 ^ k) : tz (n + 2 ^ k * m) = tz n := by
  obtain ⟨q, hq⟩ := tz_spec n h0
  have h1 := tz_lt h0 h
  have e : n + 2 ^ k * m = 2 ^ tz n * (2 * (q + 2 ^ (k - tz n - 1) * m) + 1) := by
    have e2 : 2 ^ k = 2 ^ tz n * (2 * 2 ^ (k - tz n - 1)) := by rw [← Nat.pow_succ', ← Nat.pow_add]; congr 1; omega
    have e3 : 2 * (q + 2 ^ (k - tz n - 1) * m) + 1 = (2 * q + 1) + 2 * 2 ^ (k - tz n - 1) * m := by rw [Nat.mul_add, Nat.mul_assoc]; omega
    rw [e3, Nat.mul_add, ← hq, e2, Nat.mul_assoc]
  rw [e, tz_eq]
theorem tz_mul {m n : Nat} (hm : m ≠ 0) (hn : n ≠ 0) : tz (m * n) = tz m + tz n := by
  obtain ⟨p, hp⟩ := tz_spec m hm
  obtain ⟨q, hq⟩ := tz_spec n hn
  have e : m * n = 2 ^ (tz m + tz n) * (2 * (2 * p * q + p + q) + 1) := by
    have e1 : (2 * p + 1) * (2 * q + 1) = 2 * (2 * p * q + p + q) + 1 := by grind
    rw [← e1, Nat.pow_add, Nat.mul_mul_mul_comm, ← hp, ← hq]
  rw [e, tz_eq]
theorem and_comp : ∀ (m q r : Nat), q + r + 1 = 2 ^ m → q &&& r = 0
  | 0, q, r, h => by
    have : q = 0 := by simp at h; omega
    subst this
    exact Nat.zero_and _
  | m + 1, q, r, h => by
    have ih := and_comp m (q / 2) (r / 2) (by rw [Nat.pow_succ] at h; omega)
    have h1 : (q &&& r) / 2 = 0 := by rw [Nat.and_div_two, ih]
    have h2 : (q &&& r) % 2 = 0 := by
      have := Nat.and_mod_two_pow (a := q) (b := r) (n := 1)
      rw [Nat.pow_one] at this
      rw [this]
      rw [Nat.pow_succ] at h
      rcases (show q % 2 = 0 ∨ q % 2 = 1 by omega) with h3 | h3
      · rw [h3, Nat.zero_and]
      · rw [show r % 2 = 0 by omega, Nat.and_zero]
    omega
theorem and_neg {x : Nat} (h0 : x ≠ 0) (h : x < 18446744073709551616) : x &&& (18446744073709551616 - x) = 2 ^ tz x := by
  obtain ⟨q, hq⟩ := tz_spec x h0
  have hk := tz_lt (k := 64) h0 h
  generalize tz x = k at *
  have e : (18446744073709551616 : Nat) = 2 ^ k * (2 * 2 ^ (63 - k)) := by
    rw [← Nat.pow_succ', ← Nat.pow_add, show k + (63 - k + 1) = 64 by omega]
  have hlt : 2 * q + 1 < 2 * 2 ^ (63 - k) := by
    rw [e, hq] at h
    exact Nat.lt_of_mul_lt_mul_left h
  have e2 : 18446744073709551616 - x = 2 ^ k * (2 * (2 ^ (63 - k) - q - 1) + 1) := by
    rw [e, hq, ← Nat.mul_sub]; congr 1; omega
  have hand := and_comp (63 - k) q (2 ^ (63 - k) - q - 1) (by omega)
  generalize 2 ^ (63 - k) - q - 1 = r at *
  rw [e2, hq, Nat.mul_comm (2 ^ k), Nat.mul_comm (2 ^ k), ← Nat.shiftLeft_eq, ← Nat.shiftLeft_eq, ← Nat.shiftLeft_and_distrib]
  have h1 : (2 * q + 1) &&& (2 * r + 1) = 1 := by
    have a1 : ((2 * q + 1) &&& (2 * r + 1)) / 2 = 0 := by rw [Nat.and_div_two, show (2 * q + 1) / 2 = q by omega, show (2 * r + 1) / 2 = r by omega, hand]
    have a2 : ((2 * q + 1) &&& (2 * r + 1)) % 2 = 1 := by
      have := Nat.and_mod_two_pow (a := 2 * q + 1) (b := 2 * r + 1) (n := 1)
      rw [Nat.pow_one] at this
      rw [this, show (2 * q + 1) % 2 = 1 by omega, show (2 * r + 1) % 2 = 1 by omega]; rfl
    omega
  rw [h1, Nat.shiftLeft_eq, Nat.one_mul]
theorem twos_val : ∀ (l : List Nat) (i : Nat), U64 l → (∀ j, j < i → l.getD j 0 = 0) → l.getD i 0 ≠ 0 → tz (val l) = 64 * i + tz (l.getD i 0)
  | [], i, _, _, h => by simp [List.getD] at h
  | x :: l, 0, hu, _, h => by
    have e : (x :: l).getD 0 0 = x := rfl
    rw [e] at h ⊢
    have := tz_add (k := 64) (val l) h hu.head
    simpa [val] using this
  | x :: l, i + 1, hu, hz, h => by
    have h0 := hz 0 (by omega)
    have e0 : (x :: l).getD 0 0 = x := rfl
    have e : (x :: l).getD (i + 1) 0 = l.getD i 0 := by simp [List.getD]
    rw [e0] at h0
    subst h0
    rw [e] at h ⊢
    have ih := twos_val l i hu.tail (fun j hj => by have := hz (j + 1) (by omega); simpa [List.getD] using this) h
    have hv : val l ≠ 0 := by
      intro hv
      have h1 := val_take_succ l i
      have h2 := val_split l (i + 1)
      rw [hv] at h2
      have h3 : val (l.take (i + 1)) = 0 := by omega
      rw [h1] at h3
      have h4 : 0 < 18446744073709551616 ^ i * l.getD i 0 := Nat.mul_pos (Nat.pow_pos (by omega)) (by omega)
      omega
    have := tz_pow_mul 64 (val l) hv
    simp only [val, Nat.zero_add]
    rw [show (18446744073709551616 : Nat) = 2 ^ 64 by rfl, this, ih]
    omega
/-- a digit of a list -/
theorem bit_val {l : List Nat} (hu : U64 l) (i : Nat) : val l / 2 ^ i % 2 = l.getD (i / 64) 0 / 2 ^ (i % 64) % 2 := by
  rcases Nat.lt_or_ge (i / 64) l.length with h | h
  · have e := val_split l (i / 64)
    have e2 := val_drop l (i / 64)
    have h1 := hu.take_lt (i / 64)
    rw [W_split i, ← Nat.div_div_eq_div_mul, e, Nat.add_mul_div_left _ _ (Nat.pow_pos (by omega)), Nat.div_eq_of_lt h1, Nat.zero_add, e2]
    have hm : i % 64 < 64 := Nat.mod_lt _ (by omega)
    generalize i % 64 = m at *
    have e3 : (18446744073709551616 : Nat) = 2 ^ m * (2 * 2 ^ (63 - m)) := by
      rw [← Nat.pow_succ', ← Nat.pow_add, show m + (63 - m + 1) = 64 by omega]
    rw [e3, Nat.mul_assoc, Nat.add_mul_div_left _ _ (Nat.two_pow_pos m), Nat.mul_assoc]
    omega
  · rw [getD_ge h, Nat.zero_div]
    have h1 := val_lt hu
    have h2 : (18446744073709551616 : Nat) ^ l.length ≤ 2 ^ i := by rw [W_pow]; exact Nat.pow_le_pow_right (by omega) (by omega)
    rw [Nat.div_eq_of_lt (by omega)]
theorem mod_two_pow_succ (n p : Nat) : n % 2 ^ (p + 1) = n % 2 ^ p + 2 ^ p * (n / 2 ^ p % 2) := by
  rw [Nat.pow_succ, Nat.mod_mul]
end Go.NatM
