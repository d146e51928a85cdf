/- Digits to the base 65536, more. -/
import Derived.Test.YtgmhldapndhoeaaMathR
set_option linter.unusedVariables false
set_option linter.unusedSimpArgs false
namespace Go.N16
open Go
theorem W_pow (k : Nat) : 65536 ^ k = 2 ^ (16 * k) := by rw [show (65536 : Nat) = 2 ^ 16 by rfl, ← Nat.pow_mul]
theorem bl_val {l : List Nat} (h : U64 l) (hs : sz l ≠ 0) : NatM.bl (val l) = 16 * (sz l - 1) + NatM.bl (l.getD (sz l - 1) 0) := by
  obtain ⟨k, hk⟩ : ∃ k, sz l = k + 1 := ⟨sz l - 1, by omega⟩
  have ht := (sz_top l).resolve_left hs
  rw [← val_sz l, hk, val_take_succ, W_pow]
  rw [hk] at ht
  simp only [Nat.add_sub_cancel] at ht ⊢
  exact NatM.bl_append _ (by rw [← W_pow]; exact h.take_lt k) ht
theorem val_eq_zero {l : List Nat} (h : sz l = 0) : val l = 0 := by rw [← val_sz l, h]; rfl
theorem W_split (n : Nat) : 2 ^ n = 65536 ^ (n / 16) * 2 ^ (n % 16) := by
  rw [W_pow, ← Nat.pow_add]; congr 1; omega
theorem W_low {n : Nat} (h : n ≤ 16) : 65536 = 2 ^ n * 2 ^ (16 - n) := by
  rw [← Nat.pow_add, show n + (16 - n) = 16 by omega]
theorem low_big {l : List Nat} (h : U64 l) {n : Nat} (hk : sz l ≤ n / 16) : val l % 2 ^ n = val l := by
  refine Nat.mod_eq_of_lt (Nat.lt_of_lt_of_le (val_lt_sz h) ?_)
  rw [W_split n]
  exact Nat.le_trans (Nat.pow_le_pow_right (by omega) hk) (Nat.le_mul_of_pos_right _ (Nat.two_pow_pos _))
theorem mod_W_low (x r : Nat) {n : Nat} (h : n ≤ 16) : (x + 65536 * r) % 2 ^ n = x % 2 ^ n := by
  rw [W_low h, Nat.mul_assoc, Nat.add_mul_mod_self_left]
theorem low_val {l : List Nat} (h : U64 l) {n : Nat} (hk : n / 16 < l.length) : val (l.take (n / 16) ++ [l.getD (n / 16) 0 % 2 ^ (n % 16)]) = val l % 2 ^ n := by
  have e := val_split l (n / 16)
  have e2 := val_drop l (n / 16)
  have h1 := h.take_lt (n / 16)
  rw [val_snoc, List.length_take, Nat.min_eq_left (by omega), W_split n, Nat.mod_mul, e, Nat.add_mul_mod_self_left, Nat.mod_eq_of_lt h1, Nat.add_mul_div_left _ _ (Nat.pow_pos (by omega)), Nat.div_eq_of_lt h1, Nat.zero_add, e2,
    mod_W_low _ _ (by omega)]
theorem twos_val : ∀ (l : List Nat) (i : Nat), U64 l → (∀ j, j < i → l.getD j 0 = 0) → l.getD i 0 ≠ 0 → NatM.tz (val l) = 16 * i + NatM.tz (l.getD i 0)
  | [], i, _, _, h => by simp [List.getD] at h
  | x :: l, 0, hu, _, h => by
    have e : (x :: l).getD 0 0 = x := rfl
    rw [e] at h ⊢
    have := NatM.tz_add (k := 16) (val l) h hu.head
    simpa [val] using this
  | x :: l, i + 1, hu, hz, h => by
    have h0 := hz 0 (by omega)
    have e0 : (x :: l).getD 0 0 = x := rfl
    have e : (x :: l).getD (i + 1) 0 = l.getD i 0 := by simp [List.getD]
    rw [e0] at h0
    subst h0
    rw [e] at h ⊢
    have ih := twos_val l i hu.tail (fun j hj => by have := hz (j + 1) (by omega); simpa [List.getD] using this) h
    have hv : val l ≠ 0 := by
      intro hv
      have h1 := val_take_succ l i
      have h2 := val_split l (i + 1)
      rw [hv] at h2
      have h3 : val (l.take (i + 1)) = 0 := by omega
      rw [h1] at h3
      have h4 : 0 < 65536 ^ i * l.getD i 0 := Nat.mul_pos (Nat.pow_pos (by omega)) (by omega)
      omega
    have := NatM.tz_pow_mul 16 (val l) hv
    simp only [val, Nat.zero_add]
    rw [show (65536 : Nat) = 2 ^ 16 by rfl, this, ih]
    omega
theorem bit_val {l : List Nat} (hu : U64 l) (i : Nat) : val l / 2 ^ i % 2 = l.getD (i / 16) 0 / 2 ^ (i % 16) % 2 := by
  rcases Nat.lt_or_ge (i / 16) l.length with h | h
  · have e := val_split l (i / 16)
    have e2 := val_drop l (i / 16)
    have h1 := hu.take_lt (i / 16)
    rw [W_split i, ← Nat.div_div_eq_div_mul, e, Nat.add_mul_div_left _ _ (Nat.pow_pos (by omega)), Nat.div_eq_of_lt h1, Nat.zero_add, e2]
    have hm : i % 16 < 16 := Nat.mod_lt _ (by omega)
    generalize i % 16 = m at *
    have e3 : (65536 : Nat) = 2 ^ m * (2 * 2 ^ (15 - m)) := by
      rw [← Nat.pow_succ', ← Nat.pow_add, show m + (15 - m + 1) = 16 by omega]
    rw [e3, Nat.mul_assoc, Nat.add_mul_div_left _ _ (Nat.two_pow_pos m), Nat.mul_assoc]
    omega
  · rw [getD_ge h, Nat.zero_div]
    have h1 := val_lt hu
    have h2 : (65536 : Nat) ^ l.length ≤ 2 ^ i := by rw [W_pow]; exact Nat.pow_le_pow_right (by omega) (by omega)
    rw [Nat.div_eq_of_lt (by omega)]
theorem val_set : ∀ (l : List Nat) (k s : Nat), k < l.length → val (l.set k s) + 65536 ^ k * l.getD k 0 = val l + 65536 ^ k * s
  | [], k, s, h => by simp at h
  | x :: l, 0, s, h => by simp [val, List.getD]; omega
  | x :: l, k + 1, s, h => by
    have ih := val_set l k s (by simpa using h)
    have e : (x :: l).getD (k + 1) 0 = l.getD k 0 := by simp [List.getD]
    rw [List.set_cons_succ, e, val, val, Nat.pow_succ, Nat.mul_comm (65536 ^ k), Nat.mul_assoc, Nat.mul_assoc]
    omega
theorem rows_step {vY vZ vS Wi Wj x y t cy cy' s z : Nat} (hset : vS + (Wi * Wj) * z = vY + (Wi * Wj) * s) (hv : vY + (Wi * Wj) * cy = vZ + Wi * (x * t)) (e : s + 65536 * cy' = x * y + cy + z) :
    vS + (Wi * (Wj * 65536)) * cy' = vZ + Wi * (x * (t + Wj * y)) := by
  have e1 : (Wi * (Wj * 65536)) * cy' = (Wi * Wj) * (65536 * cy') := by rw [← Nat.mul_assoc Wi, Nat.mul_assoc (Wi * Wj)]
  have e2 : Wi * (x * (t + Wj * y)) = Wi * (x * t) + (Wi * Wj) * (x * y) := by
    rw [Nat.mul_add x, Nat.mul_add Wi, Nat.mul_left_comm x Wj y, Nat.mul_assoc Wi Wj]
  have e3 : (Wi * Wj) * s + (Wi * Wj) * (65536 * cy') = (Wi * Wj) * (x * y) + (Wi * Wj) * cy + (Wi * Wj) * z := by rw [← Nat.mul_add, e, Nat.mul_add, Nat.mul_add]
  rw [e1, e2]
  generalize (Wi * Wj) * (65536 * cy') = q1 at *
  generalize (Wi * Wj) * s = q2 at *
  generalize (Wi * Wj) * (x * y) = q3 at *
  generalize (Wi * Wj) * cy = q4 at *
  generalize (Wi * Wj) * z = q5 at *
  omega
theorem shl_step {vD b q P p c x vt s : Nat} (hv : vD + P * c = b * (p * vt)) (hP : P = b * q) (hs : s = x * p + c) : vD + P * (s % 65536) + P * 65536 * (s / 65536) = b * (p * (vt + q * x)) := by
  have h1 := Nat.mod_add_div s 65536
  have h2 : vD + P * (s % 65536) + P * 65536 * (s / 65536) = vD + P * s := by
    rw [Nat.add_assoc, Nat.mul_assoc, ← Nat.mul_add, h1]
  rw [h2, hs, Nat.mul_add]
  subst hP
  grind
theorem shr_step {vD p r x vt s : Nat} (hv : p * vD + r = vt) (hs : s = r * 65536 + x) : p * (s / p + 65536 * vD) + s % p = x + 65536 * vt := by
  have h1 := Nat.mod_add_div s p
  have h2 : p * (s / p + 65536 * vD) = p * (s / p) + 65536 * (p * vD) := by rw [Nat.mul_add]; grind
  rw [h2]
  omega
theorem set_front (D : List Nat) (i y : Nat) : (List.replicate (i + 1) 0 ++ D).set i y = List.replicate i 0 ++ (y :: D) := by
  rw [List.replicate_succ', List.append_assoc, List.set_append_right _ _ (by simp)]
  simp
/-- the word number q of the digits, of those from j on -/
def wq (X : List Nat) (j q : Nat) : Nat := val ((X.drop (max j (4 * q))).take (4 * q + 4 - max j (4 * q)))
theorem wq_lt {X : List Nat} (h : U64 X) (j q : Nat) : wq X j q < 65536 ^ (4 * q + 4 - max j (4 * q)) := NatM.part16_lt h _ _
theorem wq_lt3 {X : List Nat} (h : U64 X) (j : Nat) : wq X (j + 1) (j / 4) < 281474976710656 := by
  have h1 := wq_lt h (j + 1) (j / 4)
  have h2 : 65536 ^ (4 * (j / 4) + 4 - max (j + 1) (4 * (j / 4))) ≤ 65536 ^ 3 := Nat.pow_le_pow_right (by omega) (by omega)
  omega
theorem wq_other {X : List Nat} {j q : Nat} (h : q ≠ j / 4) : wq X (j + 1) q = wq X j q := by
  unfold wq
  rcases Nat.lt_or_ge q (j / 4) with h1 | h1
  · rw [show 4 * q + 4 - max (j + 1) (4 * q) = 0 by omega, show 4 * q + 4 - max j (4 * q) = 0 by omega]; simp
  · rw [show max (j + 1) (4 * q) = 4 * q by omega, show max j (4 * q) = 4 * q by omega]
theorem wq_same (X : List Nat) (j : Nat) : wq X (j + 1) (j / 4) * 65536 + X.getD j 0 = wq X j (j / 4) := by
  unfold wq
  rw [show max (j + 1) (4 * (j / 4)) = j + 1 by omega, show max j (4 * (j / 4)) = j by omega, show 4 * (j / 4) + 4 - j = (4 * (j / 4) + 4 - (j + 1)) + 1 by omega, NatM.part16_succ]
  omega
def wqs (X : List Nat) (m j : Nat) : List Nat := (List.range m).map (wq X j)
theorem wqs_len (X : List Nat) (m j : Nat) : (wqs X m j).length = m := by simp [wqs]
theorem wqs_get (X : List Nat) {m j q : Nat} (h : q < m) : (wqs X m j).getD q 0 = wq X j q := by simp [wqs, List.getD, h]
theorem wqs_set (X : List Nat) {m j : Nat} (h : j / 4 < m) : (wqs X m (j + 1)).set (j / 4) (wq X (j + 1) (j / 4) * 65536 + X.getD j 0) = wqs X m j := by
  apply List.ext_getElem
  · simp [wqs]
  · intro q h1 h2
    simp only [wqs, List.getElem_set, List.getElem_map, List.getElem_range]
    split
    · rename_i hq; subst hq; exact wq_same X j
    · rename_i hq; exact wq_other (fun e => hq e.symm)
theorem wqs_zero {X : List Nat} {m j : Nat} (h : X.length ≤ j) : wqs X m j = List.replicate m 0 := by
  apply List.ext_getElem
  · simp [wqs]
  · intro q h1 h2
    simp only [wqs, List.getElem_map, List.getElem_range, List.getElem_replicate, wq]
    rw [List.drop_of_length_le (by omega)]; simp [val]
theorem wqs_val (X : List Nat) : ∀ m, NatM.val (wqs X m 0) = val (X.take (4 * m))
  | 0 => by simp [wqs, NatM.val, val]
  | m + 1 => by
    have e : wqs X (m + 1) 0 = wqs X m 0 ++ [wq X 0 m] := by simp [wqs, List.range_succ]
    rw [e, NatM.val_snoc, wqs_len, wqs_val X m, NatM.take16_four]
    unfold wq
    rw [show max 0 (4 * m) = 4 * m by omega, show 4 * m + 4 - 4 * m = 4 by omega]
theorem wqs_U {X : List Nat} (h : U64 X) (m j : Nat) : NatM.U64 (wqs X m j) := by
  intro y hy
  simp only [wqs, List.mem_map] at hy
  obtain ⟨q, _, rfl⟩ := hy
  have h1 := wq_lt h j q
  have h2 : 65536 ^ (4 * q + 4 - max j (4 * q)) ≤ 65536 ^ 4 := Nat.pow_le_pow_right (by omega) (by omega)
  omega
end Go.N16
