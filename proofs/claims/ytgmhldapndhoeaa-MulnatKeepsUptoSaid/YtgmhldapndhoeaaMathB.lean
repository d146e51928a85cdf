/- Plain arithmetic on lists of words, more. -/
import Derived.Test.YtgmhldapndhoeaaMath
import Derived.Lib.Mul64
set_option linter.unusedVariables false
namespace Go.NatM

theorem val_set : ∀ (l : List Nat) (k s : Nat), k < l.length → val (l.set k s) + 18446744073709551616 ^ k * l.getD k 0 = val l + 18446744073709551616 ^ k * s
  | [], k, s, h => by simp at h
  | x :: l, 0, s, h => by simp [val, List.getD]; omega
  | x :: l, k + 1, s, h => by
    have ih := val_set l k s (by simpa using h)
    have e : (x :: l).getD (k + 1) 0 = l.getD k 0 := by simp [List.getD]
    rw [List.set_cons_succ, e, val, val, Nat.pow_succ, Nat.mul_comm (18446744073709551616 ^ k), Nat.mul_assoc, Nat.mul_assoc]
    omega
theorem getD_set (l : List Nat) (k j s : Nat) (h : k < l.length) : (l.set k s).getD j 0 = if j = k then s else l.getD j 0 := by
  simp only [List.getD, List.getElem?_set]
  by_cases hj : k = j
  · subst hj; simp [h]
  · rw [if_neg hj, if_neg (by omega)]
theorem val_zero_of {l : List Nat} (h : ∀ j, l.getD j 0 = 0) : val l = 0 := by
  have := val_ext (a := l) (b := []) (fun j => by rw [h j]; simp [List.getD])
  rw [this]; rfl
theorem mul_hi_lt {x y c : Nat} (hx : x < 18446744073709551616) (hy : y < 18446744073709551616) (hc : c < 18446744073709551616) {z : Nat} (hz : z < 18446744073709551616) :
    x * y + c + z < 340282366920938463463374607431768211456 := by
  have h : x * y ≤ 18446744073709551615 * 18446744073709551615 := Nat.mul_le_mul (by omega) (by omega)
  omega
theorem and32 (x : Nat) : x &&& 4294967295 = x % 4294967296 := Nat.and_two_pow_sub_one_eq_mod x 32
theorem mul64_walk (x y : Nat) (hx : x < 18446744073709551616) (hy : y < 18446744073709551616) :
    (((x / 2 ^ 32) * (y / 2 ^ 32) % 18446744073709551616 + ((x / 2 ^ 32) * (y &&& 4294967295) % 18446744073709551616 + (x &&& 4294967295) * (y &&& 4294967295) % 18446744073709551616 / 2 ^ 32) % 18446744073709551616 / 2 ^ 32) % 18446744073709551616 +
      ((((x / 2 ^ 32) * (y &&& 4294967295) % 18446744073709551616 + (x &&& 4294967295) * (y &&& 4294967295) % 18446744073709551616 / 2 ^ 32) % 18446744073709551616 &&& 4294967295) + (x &&& 4294967295) * (y / 2 ^ 32) % 18446744073709551616) % 18446744073709551616 / 2 ^ 32) % 18446744073709551616 = x * y / 18446744073709551616 := by
  obtain ⟨h1, h2, h3, h4⟩ := Go.Lib.mul64_hi x y hx hy
  have ha := Go.Lib.half_mul_le (a := x / 4294967296) (b := y / 4294967296) (by omega) (by omega)
  have hb := Go.Lib.half_mul_le (a := x / 4294967296) (b := y % 4294967296) (by omega) (by omega)
  have hc := Go.Lib.half_mul_le (a := x % 4294967296) (b := y / 4294967296) (by omega) (by omega)
  have hd := Go.Lib.half_mul_le (a := x % 4294967296) (b := y % 4294967296) (by omega) (by omega)
  have hp : x * y / 18446744073709551616 < 18446744073709551616 := by
    have h : x * y ≤ 18446744073709551615 * 18446744073709551615 := Nat.mul_le_mul (by omega) (by omega)
    omega
  simp only [and32, show (2 : Nat) ^ 32 = 4294967296 by rfl]
  rw [← h4]
  rw [← h4] at hp
  generalize (x / 4294967296) * (y / 4294967296) = a at *
  generalize (x / 4294967296) * (y % 4294967296) = b at *
  generalize (x % 4294967296) * (y / 4294967296) = c at *
  generalize (x % 4294967296) * (y % 4294967296) = d at *
  omega
theorem mac_step (p cy z : Nat) (h : p + cy + z < 340282366920938463463374607431768211456) :
    (z + (p % 18446744073709551616 + cy + 0) % 18446744073709551616 + 0) % 18446744073709551616 + 18446744073709551616 * (((p / 18446744073709551616 + (p % 18446744073709551616 + cy + 0) / 18446744073709551616) % 18446744073709551616 + (z + (p % 18446744073709551616 + cy + 0) % 18446744073709551616 + 0) / 18446744073709551616) % 18446744073709551616) = p + cy + z := by omega
theorem rows_step {vY vZ vS Wi Wj x y t cy cy' s z : Nat} (hset : vS + (Wi * Wj) * z = vY + (Wi * Wj) * s) (hv : vY + (Wi * Wj) * cy = vZ + Wi * (x * t)) (e : s + 18446744073709551616 * cy' = x * y + cy + z) :
    vS + (Wi * (Wj * 18446744073709551616)) * cy' = vZ + Wi * (x * (t + Wj * y)) := by
  have e1 : (Wi * (Wj * 18446744073709551616)) * cy' = (Wi * Wj) * (18446744073709551616 * cy') := by rw [← Nat.mul_assoc Wi, Nat.mul_assoc (Wi * Wj)]
  have e2 : Wi * (x * (t + Wj * y)) = Wi * (x * t) + (Wi * Wj) * (x * y) := by
    rw [Nat.mul_add x, Nat.mul_add Wi, Nat.mul_left_comm x Wj y, Nat.mul_assoc Wi Wj]
  have e3 : (Wi * Wj) * s + (Wi * Wj) * (18446744073709551616 * cy') = (Wi * Wj) * (x * y) + (Wi * Wj) * cy + (Wi * Wj) * z := by rw [← Nat.mul_add, e, Nat.mul_add, Nat.mul_add]
  rw [e1, e2]
  generalize (Wi * Wj) * (18446744073709551616 * cy') = q1 at *
  generalize (Wi * Wj) * s = q2 at *
  generalize (Wi * Wj) * (x * y) = q3 at *
  generalize (Wi * Wj) * cy = q4 at *
  generalize (Wi * Wj) * z = q5 at *
  omega
theorem W_split (n : Nat) : 2 ^ n = 18446744073709551616 ^ (n / 64) * 2 ^ (n % 64) := by
  rw [W_pow, ← Nat.pow_add]; congr 1; omega
theorem W_low {n : Nat} (h : n ≤ 64) : 18446744073709551616 = 2 ^ n * 2 ^ (64 - n) := by
  rw [← Nat.pow_add, show n + (64 - n) = 64 by omega]
theorem low_big {l : List Nat} (h : U64 l) {n : Nat} (hk : sz l ≤ n / 64) : val l % 2 ^ n = val l := by
  refine Nat.mod_eq_of_lt (Nat.lt_of_lt_of_le (val_lt_sz h) ?_)
  rw [W_split n]
  exact Nat.le_trans (Nat.pow_le_pow_right (by omega) hk) (Nat.le_mul_of_pos_right _ (Nat.two_pow_pos _))
theorem mod_W_low (x r : Nat) {n : Nat} (h : n ≤ 64) : (x + 18446744073709551616 * r) % 2 ^ n = x % 2 ^ n := by
  rw [W_low h, Nat.mul_assoc, Nat.add_mul_mod_self_left]
theorem low_val {l : List Nat} (h : U64 l) {n : Nat} (hk : n / 64 < l.length) : val (l.take (n / 64) ++ [l.getD (n / 64) 0 % 2 ^ (n % 64)]) = val l % 2 ^ n := by
  have e := val_split l (n / 64)
  have e2 := val_drop l (n / 64)
  have h1 := h.take_lt (n / 64)
  rw [val_snoc, List.length_take, Nat.min_eq_left (by omega), W_split n, Nat.mod_mul, e, Nat.add_mul_mod_self_left, Nat.mod_eq_of_lt h1, Nat.add_mul_div_left _ _ (Nat.pow_pos (by omega)), Nat.div_eq_of_lt h1, Nat.zero_add, e2,
    mod_W_low _ _ (by omega)]
theorem and_low (x n : Nat) : x &&& (2 ^ n - 1) = x % 2 ^ n := Nat.and_two_pow_sub_one_eq_mod x n
theorem shl_one {n : Nat} (h : n < 64) : 1 * 2 ^ n % 18446744073709551616 = 2 ^ n := by
  rw [Nat.one_mul]; exact Nat.mod_eq_of_lt (show 2 ^ n < 2 ^ 64 from Nat.pow_lt_pow_right (by omega) h)
theorem shl_one_pos {n : Nat} (h : n < 64) : 1 ≤ 1 * 2 ^ n % 18446744073709551616 ∧ 1 * 2 ^ n % 18446744073709551616 < 18446744073709551616 := by
  have := shl_one h
  have := Nat.two_pow_pos n
  omega
/-- shifts of a word -/
theorem shl_word (x : Nat) {n : Nat} (h : n ≤ 64) (hx : x < 18446744073709551616) : x * 2 ^ n = x * 2 ^ n % 18446744073709551616 + 18446744073709551616 * (x / 2 ^ (64 - n)) := by
  have e : x * 2 ^ n / 18446744073709551616 = x / 2 ^ (64 - n) := by
    rw [W_low h, Nat.mul_comm x, Nat.mul_div_mul_left _ _ (Nat.two_pow_pos n)]
  rw [← e]
  omega
theorem shl_mod (x : Nat) {n : Nat} (h : n ≤ 64) : x * 2 ^ n % 18446744073709551616 = 2 ^ n * (x % 2 ^ (64 - n)) := by
  rw [W_low h, Nat.mul_comm x, Nat.mul_mod_mul_left]
theorem or_shl {y x n : Nat} (h : n ≤ 64) (hy : y < 2 ^ n) : y ||| x * 2 ^ n % 18446744073709551616 = y + x * 2 ^ n % 18446744073709551616 := by
  rw [shl_mod x h, Nat.or_comm, ← Nat.two_pow_add_eq_or_of_lt hy, Nat.add_comm]
theorem shr_lt {x n : Nat} (h : n ≤ 64) (hx : x < 18446744073709551616) : x / 2 ^ (64 - n) < 2 ^ n := by
  rw [Nat.div_lt_iff_lt_mul (Nat.two_pow_pos _), ← W_low h]
  exact hx
theorem shr_lt' {x n : Nat} (h : n ≤ 64) (hx : x < 18446744073709551616) : x / 2 ^ n < 2 ^ (64 - n) := by
  have := shr_lt (x := x) (n := 64 - n) (by omega) hx
  rwa [show 64 - (64 - n) = n by omega] at this
theorem val_set_eq {l : List Nat} {k s : Nat} (hk : k < l.length) (h : l.getD k 0 ≤ s) : val (l.set k s) = val l + 18446744073709551616 ^ k * (s - l.getD k 0) := by
  have := val_set l k s hk
  have e : 18446744073709551616 ^ k * s = 18446744073709551616 ^ k * l.getD k 0 + 18446744073709551616 ^ k * (s - l.getD k 0) := by rw [← Nat.mul_add]; congr 1; omega
  omega
theorem shl_step {Z : List Nat} {p i x t n : Nat} (hn : n ≤ 64) (hx : x < 18446744073709551616) (hp : p + i + 1 < Z.length) (h0 : Z.getD (p + i + 1) 0 = 0) (hlt : Z.getD (p + i) 0 < 2 ^ n) (hv : val Z = 18446744073709551616 ^ p * (2 ^ n * t)) :
    val ((Z.set (p + i) (Z.getD (p + i) 0 ||| x * 2 ^ n % 18446744073709551616)).set (p + i + 1) (x / 2 ^ (64 - n))) = 18446744073709551616 ^ p * (2 ^ n * (t + 18446744073709551616 ^ i * x)) := by
  rw [or_shl hn hlt]
  have e0 : (Z.set (p + i) (Z.getD (p + i) 0 + x * 2 ^ n % 18446744073709551616)).getD (p + i + 1) 0 = 0 := by
    rw [getD_set _ _ _ _ (by omega), if_neg (by omega), h0]
  rw [val_set_eq (by rw [List.length_set]; omega) (by rw [e0]; exact Nat.zero_le _), val_set_eq (by omega) (Nat.le_add_right _ _), e0, hv, Nat.add_sub_cancel_left, Nat.sub_zero, Nat.pow_succ, Nat.mul_assoc]
  have e1 := shl_word x hn hx
  have e2 : 18446744073709551616 ^ p * (2 ^ n * (t + 18446744073709551616 ^ i * x)) = 18446744073709551616 ^ p * (2 ^ n * t) + 18446744073709551616 ^ (p + i) * (x * 2 ^ n) := by
    rw [Nat.mul_add (2 ^ n), Nat.mul_add, Nat.pow_add, Nat.mul_left_comm (2 ^ n), Nat.mul_comm (2 ^ n) x, Nat.mul_assoc]
  rw [e2]
  generalize x * 2 ^ n = y at *
  have e3 : 18446744073709551616 ^ (p + i) * y = 18446744073709551616 ^ (p + i) * (y % 18446744073709551616) + 18446744073709551616 ^ (p + i) * (18446744073709551616 * (x / 2 ^ (64 - n))) := by
    rw [← Nat.mul_add, ← e1]
  rw [e3, Nat.add_assoc]
theorem shr_step {vD vb Wi b0 bi bj n : Nat} (hn : n ≤ 64) (hv : 2 ^ n * vD + b0 = vb + Wi * (bi % 2 ^ n)) :
    2 ^ n * (vD + Wi * (bi / 2 ^ n + bj * 2 ^ (64 - n) % 18446744073709551616)) + b0 = vb + Wi * bi + Wi * 18446744073709551616 * (bj % 2 ^ n) := by
  have e1 := shl_mod bj (n := 64 - n) (by omega)
  rw [show 64 - (64 - n) = n by omega] at e1
  have e2 := Nat.div_add_mod bi (2 ^ n)
  have e3 : 2 ^ n * (Wi * (bi / 2 ^ n + bj * 2 ^ (64 - n) % 18446744073709551616)) = Wi * (2 ^ n * (bi / 2 ^ n)) + Wi * 18446744073709551616 * (bj % 2 ^ n) := by
    rw [e1, W_low hn, Nat.mul_left_comm (2 ^ n) Wi, Nat.mul_add (2 ^ n), Nat.mul_add Wi, Nat.mul_assoc Wi, Nat.mul_assoc (2 ^ n)]
  have e4 : Wi * bi = Wi * (2 ^ n * (bi / 2 ^ n)) + Wi * (bi % 2 ^ n) := by rw [← Nat.mul_add, e2]
  rw [Nat.mul_add, e3, e4]
  omega
end Go.NatM
