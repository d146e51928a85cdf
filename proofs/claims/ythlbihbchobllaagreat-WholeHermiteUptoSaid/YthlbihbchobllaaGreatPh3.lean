/- Plain laws of naturals as lists of words to the base 2^64, the lowest first. No program in sight. Layer 1: contracts of package nat. Layer 1: contracts of nat.Add and nat.Sub. Layer 2: contracts of mulnat.trim, addTo. Plain arithmetic on lists of words, more. Layer 2: contracts of math/bits.Mul64, mulnat.subFrom, sum, rows. Layer 2: contracts of mulnat.product and halves. Layer 2: contract of mulnat.product. Layer 1: contract of nat.Sub. Layer 1: contracts of math/bits.Len64 and nat.BitLen. Layers 1 and 2: contracts of nat.Low, nat.Shl, mulnat.Mul, Word, MulAdd, MulLow, Square. -/
import Derived.Test.YthlbihbchobllaaGreatPh2
import Derived.Lib.Mul64
import Derived.Test.YthlbihbchobllaaGreatPh1
set_option linter.unusedVariables false
set_option linter.unusedSimpArgs false
namespace Go.NatM

abbrev W : Nat := 18446744073709551616
def U64 (l : List Nat) : Prop := ∀ x ∈ l, x < 18446744073709551616
def val : List Nat → Nat
  | [] => 0
  | x :: l => x + 18446744073709551616 * val l
/-- how many words up to the highest that is not 0 -/
def sz : List Nat → Nat
  | [] => 0
  | x :: l => if sz l = 0 ∧ x = 0 then 0 else sz l + 1
/-- the words of a number, without zeros at the high end -/
def dig (n : Nat) : List Nat := if h : n = 0 then [] else (n % 18446744073709551616) :: dig (n / 18446744073709551616)
termination_by n
decreasing_by exact Nat.div_lt_self (by omega) (by omega)

theorem U64.nil : U64 [] := fun x h => by cases h
theorem U64.cons {x : Nat} {l : List Nat} (h : x < 18446744073709551616) (hl : U64 l) : U64 (x :: l) := fun y hy => by
  rcases List.mem_cons.1 hy with rfl | hy
  · exact h
  · exact hl y hy
theorem U64.head {x : Nat} {l : List Nat} (h : U64 (x :: l)) : x < 18446744073709551616 := h x (by simp)
theorem U64.tail {x : Nat} {l : List Nat} (h : U64 (x :: l)) : U64 l := fun y hy => h y (by simp [hy])
theorem U64.append {l r : List Nat} (h : U64 l) (k : U64 r) : U64 (l ++ r) := fun y hy => (List.mem_append.1 hy).elim (h y) (k y)
theorem U64.take {l : List Nat} (h : U64 l) (n : Nat) : U64 (l.take n) := fun y hy => h y (List.mem_of_mem_take hy)
theorem U64.drop {l : List Nat} (h : U64 l) (n : Nat) : U64 (l.drop n) := fun y hy => h y (List.mem_of_mem_drop hy)
theorem U64.replicate (n : Nat) : U64 (List.replicate n 0) := fun y hy => by rw [(List.mem_replicate.1 hy).2]; omega
theorem U64.one {x : Nat} (h : x < 18446744073709551616) : U64 [x] := U64.cons h U64.nil
theorem U64.getD {l : List Nat} (h : U64 l) (k : Nat) : l.getD k 0 < 18446744073709551616 := by
  rcases Nat.lt_or_ge k l.length with hk | hk
  · have : l.getD k 0 = l[k] := by simp [List.getD, hk]
    rw [this]; exact h _ (List.getElem_mem hk)
  · simp [List.getD, List.getElem?_eq_none hk]
theorem U64.set {l : List Nat} (h : U64 l) (k x : Nat) (hx : x < 18446744073709551616) : U64 (l.set k x) := fun y hy => by
  rcases List.mem_or_eq_of_mem_set hy with hy | rfl
  · exact h y hy
  · exact hx

theorem getD_ge {l : List Nat} {j : Nat} (h : l.length ≤ j) : l.getD j 0 = 0 := by simp [List.getD, List.getElem?_eq_none h]
theorem sz_le (l : List Nat) : sz l ≤ l.length := by
  induction l with
  | nil => simp [sz]
  | cons x l ih => simp only [sz, List.length_cons]; split <;> omega
theorem sz_eq (l : List Nat) (n : Nat) (h1 : n ≤ l.length) (h2 : ∀ j, n ≤ j → l.getD j 0 = 0) (h3 : n = 0 ∨ l.getD (n - 1) 0 ≠ 0) : sz l = n := by
  induction l generalizing n with
  | nil => simp at h1; simp [sz, h1]
  | cons x l ih =>
    rcases n with _ | n
    · have hx : x = 0 := by simpa using h2 0 (by omega)
      have : sz l = 0 := ih 0 (by omega) (fun j _ => by simpa using h2 (j + 1) (by omega)) (.inl rfl)
      simp [sz, this, hx]
    · have hl : sz l = n := by
        refine ih n (by simpa using h1) (fun j hj => by simpa using h2 (j + 1) (by omega)) ?_
        rcases n with _ | n
        · exact .inl rfl
        · right; simpa using h3.resolve_left (by omega)
      simp only [sz]
      rw [if_neg]
      · omega
      · rintro ⟨h0, hx⟩
        have : n = 0 := by omega
        subst this
        simp [hx] at h3
theorem sz_top (l : List Nat) : sz l = 0 ∨ l.getD (sz l - 1) 0 ≠ 0 := by
  induction l with
  | nil => simp [sz]
  | cons x l ih =>
    simp only [sz]
    split
    · exact .inl rfl
    · rename_i h
      right
      rcases Nat.eq_zero_or_pos (sz l) with h0 | h0
      · have hx : x ≠ 0 := fun hx => h ⟨h0, hx⟩
        simp [h0, hx]
      · rcases ih with h1 | h1
        · omega
        · rw [show sz l + 1 - 1 = (sz l - 1) + 1 by omega]; simpa using h1
theorem sz_zero (l : List Nat) (j : Nat) (h : sz l ≤ j) : l.getD j 0 = 0 := by
  induction l generalizing j with
  | nil => simp
  | cons x l ih =>
    simp only [sz] at h
    split at h
    · rename_i h0
      rcases j with _ | j
      · simpa using h0.2
      · simpa using ih j (by omega)
    · rcases j with _ | j
      · omega
      · simpa using ih j (by omega)

theorem val_append (l r : List Nat) : val (l ++ r) = val l + 18446744073709551616 ^ l.length * val r := by
  induction l with
  | nil => simp [val]
  | cons x l ih => simp only [List.cons_append, val, ih, List.length_cons, Nat.pow_succ, Nat.mul_add, Nat.add_assoc]; congr 2; rw [← Nat.mul_assoc, Nat.mul_comm 18446744073709551616]
theorem val_one (x : Nat) : val [x] = x := by simp [val]
theorem val_snoc (l : List Nat) (x : Nat) : val (l ++ [x]) = val l + 18446744073709551616 ^ l.length * x := by rw [val_append, val_one]
theorem val_zeros (n : Nat) : val (List.replicate n 0) = 0 := by
  induction n with
  | zero => rfl
  | succ n ih => simp [List.replicate_succ, val, ih]
theorem val_take_succ (l : List Nat) (i : Nat) : val (l.take (i + 1)) = val (l.take i) + 18446744073709551616 ^ i * l.getD i 0 := by
  rcases Nat.lt_or_ge i l.length with h | h
  · rw [List.take_succ_eq_append_getElem h, val_snoc]
    simp [List.getD, h, Nat.min_eq_left (Nat.le_of_lt h)]
  · rw [List.take_of_length_le h, List.take_of_length_le (by omega), getD_ge h]; simp
theorem val_lt {l : List Nat} (h : U64 l) : val l < 18446744073709551616 ^ l.length := by
  induction l with
  | nil => simp [val]
  | cons x l ih =>
    have h1 := ih h.tail
    have h2 := h.head
    simp only [val, List.length_cons, Nat.pow_succ]
    have h3 : val l + 1 ≤ 18446744073709551616 ^ l.length := h1
    have h4 := Nat.mul_le_mul_left 18446744073709551616 h3
    rw [Nat.mul_comm (18446744073709551616 ^ l.length)]
    omega
theorem val_sz (l : List Nat) : val (l.take (sz l)) = val l := by
  induction l with
  | nil => rfl
  | cons x l ih =>
    simp only [sz]
    split
    · rename_i h
      rw [h.1] at ih
      simp only [List.take_zero, val] at ih ⊢
      rw [← ih, h.2]
    · simp only [List.take_succ_cons, val, ih]
theorem val_take_ge (l : List Nat) (k : Nat) (h : sz l ≤ k) : val (l.take k) = val l := by
  have e : l = l.take k ++ l.drop k := (List.take_append_drop k l).symm
  have h0 : val (l.drop k) = 0 := by
    have : l.drop k = List.replicate (l.drop k).length 0 := by
      apply List.ext_getElem
      · simp
      · intro i h1 h2
        have hz := sz_zero l (k + i) (by omega)
        simp only [List.getElem_drop, List.getElem_replicate]
        rw [List.length_drop] at h1
        have hki : k + i < l.length := by omega
        have : l.getD (k + i) 0 = l[k + i] := by simp [List.getD, hki]
        omega
    rw [this, val_zeros]
  conv => rhs; rw [e, val_append, h0]
  simp

theorem dig_zero : dig 0 = [] := by rw [dig]; simp
theorem dig_pos {n : Nat} (h : n ≠ 0) : dig n = (n % 18446744073709551616) :: dig (n / 18446744073709551616) := by rw [dig]; simp [h]
theorem val_dig (n : Nat) : val (dig n) = n := by
  induction n using Nat.strongRecOn with
  | _ n ih =>
    rcases Nat.eq_zero_or_pos n with rfl | h
    · rw [dig_zero]; rfl
    · rw [dig_pos (by omega), val, ih _ (Nat.div_lt_self h (by omega))]; omega
theorem U64_dig (n : Nat) : U64 (dig n) := by
  induction n using Nat.strongRecOn with
  | _ n ih =>
    rcases Nat.eq_zero_or_pos n with rfl | h
    · rw [dig_zero]; exact U64.nil
    · rw [dig_pos (by omega)]; exact U64.cons (Nat.mod_lt _ (by omega)) (ih _ (Nat.div_lt_self h (by omega)))
/-- the words up to the highest that is not 0 are the digits of the number -/
theorem take_sz {l : List Nat} (h : U64 l) : l.take (sz l) = dig (val l) := by
  induction l with
  | nil => simp [sz, val, dig_zero]
  | cons x l ih =>
    have hx := h.head
    have ih' := ih h.tail
    simp only [sz, val]
    split
    · rename_i h0
      rw [h0.1] at ih'
      have hv : val l = 0 := by rw [← val_sz l, h0.1]; rfl
      rw [h0.2, hv]; simp [dig_zero]
    · rename_i h0
      have hne : x + 18446744073709551616 * val l ≠ 0 := by
        intro he
        have hx0 : x = 0 := by omega
        have hv : val l = 0 := by omega
        apply h0
        refine ⟨?_, hx0⟩
        rcases sz_top l with h1 | h1
        · exact h1
        · rw [hv, dig_zero] at ih'
          have := congrArg List.length ih'
          rw [List.length_take, List.length_nil] at this
          have := sz_le l
          omega
      rw [dig_pos hne, List.take_succ_cons, ih']
      congr 1
      · omega
      · congr 1; omega
theorem dig_length {l : List Nat} (h : U64 l) : (dig (val l)).length = sz l := by rw [← take_sz h, List.length_take]; have := sz_le l; omega
theorem sz_dig (n : Nat) : sz (dig n) = (dig n).length := by
  have h := dig_length (U64_dig n)
  rw [val_dig] at h
  exact h.symm
theorem dig_length_le {n k : Nat} (h : n < 18446744073709551616 ^ k) : (dig n).length ≤ k := by
  induction k generalizing n with
  | zero => have : n = 0 := by simpa using h
            rw [this, dig_zero]; simp
  | succ k ih =>
    rcases Nat.eq_zero_or_pos n with rfl | h0
    · rw [dig_zero]; simp
    · rw [dig_pos (by omega), List.length_cons]
      have := ih (n := n / 18446744073709551616) (by rw [Nat.div_lt_iff_lt_mul (by omega)]; rw [Nat.pow_succ] at h; exact h)
      omega
/-- a list of so many words more is not below -/
theorem pow_le_val {l : List Nat} (h : sz l ≠ 0) : 18446744073709551616 ^ (sz l - 1) ≤ val l := by
  rw [← val_sz l]
  obtain ⟨k, hk⟩ : ∃ k, sz l = k + 1 := ⟨sz l - 1, by omega⟩
  have ht := (sz_top l).resolve_left h
  rw [hk, val_take_succ]
  rw [hk] at ht
  simp only [Nat.add_sub_cancel] at ht ⊢
  have : 18446744073709551616 ^ k * 1 ≤ 18446744073709551616 ^ k * l.getD k 0 := Nat.mul_le_mul_left _ (by omega)
  omega
theorem val_lt_sz {l : List Nat} (h : U64 l) : val l < 18446744073709551616 ^ sz l := by
  have := val_lt (h.take (sz l))
  rw [val_sz, List.length_take, Nat.min_eq_left (sz_le l)] at this
  exact this
theorem lt_of_sz_lt {l r : List Nat} (hl : U64 l) (h : sz l < sz r) : val l < val r :=
  Nat.lt_of_lt_of_le (val_lt_sz hl) (Nat.le_trans (Nat.pow_le_pow_right (by omega) (by omega)) (pow_le_val (by omega)))
/-- a new word behind what is done, before zeros -/
theorem set_zeros (D : List Nat) (r x : Nat) : (D ++ List.replicate (r + 1) 0).set D.length x = (D ++ [x]) ++ List.replicate r 0 := by
  rw [List.set_append_right _ _ (Nat.le_refl _), Nat.sub_self, List.replicate_succ, List.set_cons_zero, List.append_assoc]; rfl
theorem val_ext {a b : List Nat} (h : ∀ j, a.getD j 0 = b.getD j 0) : val a = val b := by
  induction a generalizing b with
  | nil =>
    induction b with
    | nil => rfl
    | cons y b ih =>
      have h0 := h 0
      have := ih fun j => by simpa using h (j + 1)
      simp at h0
      simp [val, ← h0, ← this]
  | cons x a ih =>
    cases b with
    | nil =>
      have h0 := h 0
      have := ih (b := []) fun j => by simpa using h (j + 1)
      simp at h0
      simp [val, h0, this]
    | cons y b =>
      have h0 := h 0
      have := ih (b := b) fun j => by simpa using h (j + 1)
      simp at h0
      simp [val, h0, this]
theorem getD_drop (l : List Nat) (k j : Nat) : (l.drop k).getD j 0 = l.getD (k + j) 0 := by simp [List.getD, List.getElem?_drop]
theorem val_split (l : List Nat) (k : Nat) : val l = val (l.take k) + 18446744073709551616 ^ k * val (l.drop k) := by
  induction k generalizing l with
  | zero => simp [val]
  | succ k ih =>
    cases l with
    | nil => simp [val]
    | cons x l =>
      have := ih l
      simp only [List.take_succ_cons, List.drop_succ_cons, val, this, Nat.pow_succ]
      rw [Nat.mul_add, Nat.add_assoc, Nat.mul_comm (18446744073709551616 ^ k) 18446744073709551616, Nat.mul_assoc]
theorem val_drop (l : List Nat) (k : Nat) : val (l.drop k) = l.getD k 0 + 18446744073709551616 * val (l.drop (k + 1)) := by
  rcases Nat.lt_or_ge k l.length with h | h
  · rw [List.drop_eq_getElem_cons h, val]; simp [List.getD, h]
  · rw [List.drop_of_length_le h, List.drop_of_length_le (by omega), getD_ge h]; rfl
theorem U64.take_lt {l : List Nat} (h : U64 l) (k : Nat) : val (l.take k) < 18446744073709551616 ^ k :=
  Nat.lt_of_lt_of_le (val_lt (h.take k)) (Nat.pow_le_pow_right (by omega) (by rw [List.length_take]; omega))
/-- the highest place at which two lists differ decides -/
theorem val_lt_of {a b : List Nat} (ha : U64 a) (k : Nat) (h1 : ∀ j, k < j → a.getD j 0 = b.getD j 0) (h2 : a.getD k 0 < b.getD k 0) : val a < val b := by
  have e : val (a.drop (k + 1)) = val (b.drop (k + 1)) := val_ext fun j => by rw [getD_drop, getD_drop]; exact h1 _ (by omega)
  have l1 := ha.take_lt k
  rw [val_split a k, val_split b k, val_drop a k, val_drop b k, e]
  generalize val (b.drop (k + 1)) = q
  generalize 18446744073709551616 ^ k = p at l1 ⊢
  have : p * (a.getD k 0 + 18446744073709551616 * q) + p ≤ p * (b.getD k 0 + 18446744073709551616 * q) := by
    rw [← Nat.mul_succ]
    exact Nat.mul_le_mul_left _ (by omega)
  omega
def cmp3 (m n : Nat) : Int := if m < n then -1 else if n < m then 1 else 0
theorem add_step {p vD va vb s c' x y c : Nat} (h : vD + p * c = va + vb) (e : s + 18446744073709551616 * c' = x + y + c) :
    vD + p * s + p * 18446744073709551616 * c' = (va + p * x) + (vb + p * y) := by
  have e1 : p * (s + 18446744073709551616 * c') = p * (x + y + c) := by rw [e]
  rw [Nat.mul_add, Nat.mul_add, Nat.mul_add, ← Nat.mul_assoc] at e1
  omega
theorem sub_step {p vD va vb s c' x y c : Nat} (h : vD + vb = va + p * c) (e : s + y + c = x + 18446744073709551616 * c') :
    (vD + p * s) + (vb + p * y) = (va + p * x) + p * 18446744073709551616 * c' := by
  have e1 : p * (s + y + c) = p * (x + 18446744073709551616 * c') := by rw [e]
  rw [Nat.mul_add, Nat.mul_add, Nat.mul_add, ← Nat.mul_assoc] at e1
  omega
/-- the number of binary digits -/
def bl (n : Nat) : Nat := if n = 0 then 0 else Nat.log2 n + 1
theorem bl_le {n k : Nat} : bl n ≤ k ↔ n < 2 ^ k := by
  unfold bl
  split
  · rename_i h; subst h; simp [Nat.two_pow_pos]
  · rename_i h
    rw [← Nat.log2_lt h]; omega
theorem lt_two_pow_bl (n : Nat) : n < 2 ^ bl n := bl_le.1 (Nat.le_refl _)
theorem two_pow_bl_le {n : Nat} (h : n ≠ 0) : 2 ^ (bl n - 1) ≤ n := by
  rcases Nat.lt_or_ge n (2 ^ (bl n - 1)) with h1 | h1
  · have := bl_le.2 h1
    have hb : bl n ≠ 0 := by unfold bl; rw [if_neg h]; omega
    omega
  · exact h1
theorem bl_eq {n k : Nat} (h1 : 2 ^ k ≤ n) (h2 : n < 2 ^ (k + 1)) : bl n = k + 1 := by
  have a := bl_le.2 h2
  rcases Nat.lt_or_ge k (bl n) with h | h
  · omega
  · have := bl_le.1 h; omega
theorem bl_shift {n k : Nat} (h : 1 ≤ n / 2 ^ k) : bl n = k + bl (n / 2 ^ k) := by
  have hne : n / 2 ^ k ≠ 0 := by omega
  obtain ⟨j, hj⟩ : ∃ j, bl (n / 2 ^ k) = j + 1 := ⟨bl (n / 2 ^ k) - 1, by unfold bl; rw [if_neg hne]; omega⟩
  have a := two_pow_bl_le hne
  have b := lt_two_pow_bl (n / 2 ^ k)
  rw [hj] at a b
  simp only [Nat.add_sub_cancel] at a
  have hp := Nat.two_pow_pos k
  rw [hj, ← Nat.add_assoc]
  refine bl_eq ?_ ?_
  · rw [Nat.pow_add, Nat.mul_comm]
    exact (Nat.le_div_iff_mul_le hp).1 a
  · rw [show k + j + 1 = (j + 1) + k by omega, Nat.pow_add]
    exact (Nat.div_lt_iff_lt_mul hp).1 b
theorem bl_append {x v : Nat} (p : Nat) (h : x < 2 ^ p) (hv : v ≠ 0) : bl (x + 2 ^ p * v) = p + bl v := by
  have hp := Nat.two_pow_pos p
  have e : (x + 2 ^ p * v) / 2 ^ p = v := by rw [Nat.add_mul_div_left _ _ hp, Nat.div_eq_of_lt h, Nat.zero_add]
  rw [bl_shift (k := p) (by rw [e]; omega), e]
theorem W_pow (k : Nat) : 18446744073709551616 ^ k = 2 ^ (64 * k) := by rw [show (18446744073709551616 : Nat) = 2 ^ 64 by rfl, ← Nat.pow_mul]
/-- by the words -/
theorem bl_val {l : List Nat} (h : U64 l) (hs : sz l ≠ 0) : bl (val l) = 64 * (sz l - 1) + bl (l.getD (sz l - 1) 0) := by
  obtain ⟨k, hk⟩ : ∃ k, sz l = k + 1 := ⟨sz l - 1, by omega⟩
  have ht := (sz_top l).resolve_left hs
  rw [← val_sz l, hk, val_take_succ, W_pow]
  rw [hk] at ht
  simp only [Nat.add_sub_cancel] at ht ⊢
  exact bl_append _ (by rw [← W_pow]; exact h.take_lt k) ht
theorem val_eq_zero {l : List Nat} (h : sz l = 0) : val l = 0 := by rw [← val_sz l, h]; rfl
end Go.NatM

namespace Go.Proofs.YthlbihbchobllaaGreat
open Go Go.Eng Go.Proofs

open Go.NatM

/-- a new list of words, L, of at most K words -/
def RetN (w : World) (L : List Nat) (K : Nat) (e : Ending) (w' : World) : Prop := ∃ A n c, e = .returned (.slice A n c) ∧ Ow u64v w'.heap w.heap.size 45 A n c L ∧ Ext w w' ∧ n ≤ K
theorem RetN.mk {w w' : World} {L : List Nat} {A : Option Addr} {n c K : Nat} (h : Ow u64v w'.heap w.heap.size 45 A n c L) (he : Ext w w') (hk : n ≤ K) : RetN w L K (.returned (.slice A n c)) w' := ⟨A, n, c, rfl, h, he, hk⟩
/-- a new list of words, L, of at most K words, and an error -/
def RetNE (w : World) (L : List Nat) (K : Nat) (err : Int) (e : Ending) (w' : World) : Prop := ∃ A n c, e = .returned (.tuple #[.slice A n c, .int .i64 err]) ∧ Ow u64v w'.heap w.heap.size 45 A n c L ∧ Ext w w' ∧ n ≤ K
theorem RetNE.mk {w w' : World} {L : List Nat} {err : Int} {A : Option Addr} {n c K : Nat} (h : Ow u64v w'.heap w.heap.size 45 A n c L) (he : Ext w w') (hk : n ≤ K) : RetNE w L K err (.returned (.tuple #[.slice A n c, .int .i64 err])) w' := ⟨A, n, c, rfl, h, he, hk⟩

theorem size_ok (H : Array Obj) (B : Nat) (A : Option Addr) (n c : Nat) (l : List Nat) (hs : Sl u64v H B A n c l) (hn : n < 9223372036854775808) :
    Pure Tryz.prog 69 #[.slice A n c] H (.int .i64 (sz l : Int)) := by
  refine Pure.of fun w hw => ?_
  subst hw
  have hlen := hs.len
  refine enter Tryz.func69 rfl rfl rfl ?_
  repeat' (first | refine TL.ev (ev_simple rfl) rfl ?_ | refine TL.ev (ev_len rfl) rfl ?_ | refine T.seq ?_ | refine T.region ?_ | refine TL.nil ?_ | refine T.block ?_ | refine G.next ?_)
  refine T.loop (fun k : Nat => [(0, .slice A n c), (3, .int .i64 (k : Int))]) (fun k w' => w' = w ∧ k ≤ n ∧ ∀ j, k ≤ j → l.getD j 0 = 0) (fun k => k) n (by repeat (first | exact Sub.nil _ | refine Sub.cons rfl ?_ | refine Sub.cons' rfl (int_congr (by omega)) ?_)) ⟨rfl, Nat.le_refl _, ?_⟩ ?_
  · intro j hj; simp [List.getD, List.getElem?_eq_none (show l.length ≤ j by omega)]
  · rintro k w' ⟨rfl, hk, hz⟩
    repeat' (first | refine TL.ev (ev_simple rfl) rfl ?_ | refine TL.grun rfl rfl rfl ?_ | refine TL.gskip rfl rfl rfl rfl ?_ | (refine TL.cmpG rfl rfl rfl rfl (fun hc => ?_) (fun hc => ?_) <;> try (exfalso; omega)) | refine TL.ev (ev_arN rfl rfl rfl (by omega)) rfl ?_ | refine TL.ev (ev_indexN rfl rfl (by omega) (by first | exact Or.inr rfl | exact Sl.some (by assumption))) rfl ?_ | refine TL.ev (ev_loadU rfl (by assumption) (by omega)) rfl ?_ | refine T.seq ?_ | refine T.region ?_ | refine TL.nil ?_ | refine T.block ?_ | refine T.cond_t rfl ?_ | refine T.cond_f rfl ?_ | refine T.exit ?_ | refine T.ret ?_ | refine T.skip ?_ | refine G.next ?_ | refine G.blockN ?_ | refine G.blockE ?_ | refine G.thenE ?_)
    · refine G.again (k - 1) (by repeat (first | exact Sub.nil _ | refine Sub.cons rfl ?_ | refine Sub.cons' rfl (int_congr (by omega)) ?_)) ⟨rfl, by omega, fun j hj => ?_⟩ (by omega)
      rcases Nat.lt_or_ge j k with h | h
      · obtain rfl : j = k - 1 := by omega
        omega
      · exact hz j h
    · rw [sz_eq l k (by omega) hz (.inr (by omega))]
      exact G.ret1 rfl rfl ⟨rfl, Qt.refl _⟩
    · rw [sz_eq l k (by omega) hz (.inl (by omega))]
      exact G.ret1 rfl rfl ⟨rfl, Qt.refl _⟩

theorem own_ok (w : World) (B : Nat) (A : Option Addr) (n c : Nat) (l : List Nat) (hs : Sl u64v w.heap B A n c l) (hu : U64 l) (hn : n ≤ 35184372088832) :
    Cl Tryz.prog 71 #[.slice A n c] w (RetN w (dig (val l)) n) := by
  have hlen := hs.len
  have hsz := sz_le l
  refine enter Tryz.func71 rfl rfl rfl ?_
  repeat' (first | refine TL.ev (ev_simple rfl) rfl ?_ | (refine TL.callP rfl rfl (size_ok _ _ _ _ _ _ hs (by omega)) (fun _ => ?_)) | (refine TL.makeU rfl rfl rfl (by omega) (by omega) (fun w1 b1 eb hB hE hz => ?_); have hs1 := hs.ext hE) | (refine TL.copy (f := u64v) (fun _ => rfl) rfl rfl rfl hB hs1 (by simp) (fun w2 hB2 hU => ?_)) | refine T.seq ?_ | refine T.region ?_ | refine TL.nil ?_ | refine T.ret ?_ | refine G.next ?_)
  have e : List.take 0 (List.replicate (sz l) 0) ++ List.take (min n (sz l)) l ++ List.drop (0 + min n (sz l)) (List.replicate (sz l) 0) = l.take (sz l) := by
    rw [Nat.min_eq_right (by omega)]; simp
  rw [e, take_sz hu] at hB2
  have hl : (dig (val l)).length = sz l := dig_length hu
  simp only [World.heap_drewN] at eb
  refine G.ret1 rfl rfl (RetN.mk ?_ (((ext_drewN w _).trans hE).upd hU (by omega)) (by omega))
  have := hB2.ow (lo := w.heap.size) (k := (dig (val l)).length) (Nat.le_refl _) rfl (by unfold maxLen; omega) (by omega)
  rw [List.take_length] at this
  rwa [hl] at this
theorem least_ok (w : World) (B : Nat) (A : Option Addr) (n c : Nat) (l : List Nat) (hs : Sl u64v w.heap B A n c l) (hu : U64 l) (hn : n ≤ 35184372088832) :
    Cl Tryz.prog 54 #[.slice A n c] w (RetN w (dig (val l)) n) := by
  refine enter Tryz.func54 rfl rfl rfl ?_
  repeat' (first | refine TL.ev (ev_simple rfl) rfl ?_ | (refine TL.call rfl rfl ((own_ok _ _ _ _ _ _ hs hu hn).mono ?_); rintro _ w1 ⟨A1, n1, c1, rfl, hO, hE, hK⟩; refine Back.mk ?_) | refine T.seq ?_ | refine T.region ?_ | refine TL.nil ?_ | refine T.ret ?_ | refine G.next ?_)
  exact G.ret1 rfl rfl (RetN.mk hO hE hK)

theorem add64_run (w : World) {z1 z2 z3 : Int} {x y c : Nat} [e1 : IsN z1 x] [e2 : IsN z2 y] [e3 : IsN z3 c] (hc : c ≤ 1) :
    (callFunc 87 #[.int .u64 z1, .int .u64 z2, .int .u64 z3]).run Tryz.prog w = .ok (.value (.tuple #[.int .u64 (((x + y + c) % 18446744073709551616 : Nat) : Int), .int .u64 (((x + y + c) / 18446744073709551616 : Nat) : Int)])) w := by
  rw [e1.out, e2.out, e3.out, run_callFunc_extern Tryz.func87 (by kernel_rfl) (by kernel_rfl) (by kernel_rfl) (e := add64Entry) (by kernel_rfl), run_add64 x y c (by omega) (by omega) (by omega) (by omega)]
  simp only [Result.andThen]
  congr 5 <;> omega
def sub64Entry' : Array Value → Sem Value := fun args => do
  let (x, y, b) ← Extern.MathBitsCarry.three "Sub64" args
  pure (Extern.MathBitsCarry.pair ((x + Extern.MathBitsCarry.m64 - y - b) % Extern.MathBitsCarry.m64) (if x < y + b then 1 else 0))
theorem run_sub64' {P : Program} (x y b : Nat) (hb : b ≤ 1) (w : World) :
    (sub64Entry' #[.int .u64 x, .int .u64 y, .int .u64 b]).run P w =
      .ok (.tuple #[.int .u64 (((x + 18446744073709551616 - y - b) % 18446744073709551616 : Nat) : Int), .int .u64 ((if x < y + b then 1 else 0 : Nat) : Int)]) w := by
  have : b = 0 ∨ b = 1 := by omega
  rcases this with rfl | rfl <;> rfl
theorem sub64_run (w : World) {z1 z2 z3 : Int} {x y c : Nat} [e1 : IsN z1 x] [e2 : IsN z2 y] [e3 : IsN z3 c] (hc : c ≤ 1) :
    (callFunc 88 #[.int .u64 z1, .int .u64 z2, .int .u64 z3]).run Tryz.prog w = .ok (.value (.tuple #[.int .u64 (((x + 18446744073709551616 - y - c) % 18446744073709551616 : Nat) : Int), .int .u64 ((if x < y + c then 1 else 0 : Nat) : Int)])) w := by
  rw [e1.out, e2.out, e3.out, run_callFunc_extern Tryz.func88 (by kernel_rfl) (by kernel_rfl) (by kernel_rfl) (e := sub64Entry') (by kernel_rfl), run_sub64' x y c hc]
  rfl

theorem cmp_ok (H : Array Obj) (B B' : Nat) (A A' : Option Addr) (n c n' c' : Nat) (l l' : List Nat) (hs : Sl u64v H B A n c l) (hs' : Sl u64v H B' A' n' c' l') (hu : U64 l) (hu' : U64 l') (hn : n ≤ 35184372088832) (hn' : n' ≤ 35184372088832) :
    Pure Tryz.prog 51 #[.slice A n c, .slice A' n' c'] H (.int .i64 (cmp3 (val l) (val l'))) := by
  refine Pure.of fun w hw => ?_
  subst hw
  have hlen := hs.len
  have hlen' := hs'.len
  have hsz := sz_le l
  have hsz' := sz_le l'
  refine enter Tryz.func51 rfl rfl rfl ?_
  repeat' (first | refine TL.ev (ev_simple rfl) rfl ?_ | (refine TL.cmpG rfl rfl rfl rfl (fun hc => ?_) (fun hc => ?_) <;> try (exfalso; omega)) | refine TL.ev (ev_arI rfl rfl rfl (by omega)) rfl ?_ | (refine TL.callP rfl rfl (size_ok _ _ _ _ _ _ hs (by omega)) (fun _ => ?_)) | (refine TL.callP rfl rfl (size_ok _ _ _ _ _ _ hs' (by omega)) (fun _ => ?_)) | refine T.seq ?_ | refine T.region ?_ | refine TL.nil ?_ | refine T.block ?_ | refine T.cond_t rfl ?_ | refine T.cond_f rfl ?_ | refine T.ret ?_ | refine T.skip ?_ | refine G.next ?_ | refine G.thenR ?_)
  · exact G.ret1 rfl rfl ⟨by rw [cmp3, if_pos (lt_of_sz_lt hu (by omega))], ((Qt.refl w).drewN _).drewN _⟩
  · have := lt_of_sz_lt (l := l') (r := l) hu' (by omega)
    exact G.ret1 rfl rfl ⟨by rw [cmp3, if_neg (by omega), if_pos this], ((Qt.refl w).drewN _).drewN _⟩
  · refine T.loop (fun k : Nat => [(0, .slice A n c), (1, .slice A' n' c'), (7, .int .i64 ((k : Int) - 1))]) (fun k w' => Qt w w' ∧ k ≤ sz l ∧ ∀ j, k ≤ j → l.getD j 0 = l'.getD j 0) (fun k => k) (sz l) (by repeat (first | exact Sub.nil _ | refine Sub.cons rfl ?_ | refine Sub.cons' rfl (int_congr (by omega)) ?_)) ⟨((Qt.refl w).drewN _).drewN _, Nat.le_refl _, ?_⟩ ?_
    · intro j hj; rw [sz_zero l j hj, sz_zero l' j (by omega)]
    · rintro k w' ⟨hq, hk, hz⟩
      have hH : w'.heap = w.heap := by obtain ⟨m, rfl⟩ := hq; rfl
      rw [← hH] at hs hs'
      repeat' (first | refine TL.ev (ev_simple rfl) rfl ?_ | (refine TL.cmpG rfl rfl rfl rfl (fun hc => ?_) (fun hc => ?_) <;> try (exfalso; omega)) | refine TL.ev (ev_arI rfl rfl rfl (by omega)) rfl ?_ | refine TL.ev (ev_index rfl rfl (by omega) (by first | exact Or.inr rfl | exact Sl.some (by assumption))) rfl ?_ | refine TL.ev (ev_loadU rfl (by assumption) (by omega)) rfl ?_ | refine T.seq ?_ | refine T.region ?_ | refine TL.nil ?_ | refine T.block ?_ | refine T.cond_t rfl ?_ | refine T.cond_f rfl ?_ | refine T.exit ?_ | refine T.ret ?_ | refine T.skip ?_ | refine G.next ?_ | refine G.blockN ?_ | refine G.blockE ?_ | refine G.blockR ?_ | refine G.thenE ?_ | refine G.thenR ?_ | refine T.regionQ mixed (by kernel_rfl) ?_ | refine TL.nilQ (fun _ => ?_))
      · have e1 : ((k : Int) - 1).toNat = k - 1 := by omega
        rw [e1] at hc
        have := val_lt_of hu (k - 1) (fun j hj => hz j (by omega)) (by omega)
        exact G.ret1 rfl rfl ⟨by rw [cmp3, if_pos this], hq.drewN _⟩
      · have e1 : ((k : Int) - 1).toNat = k - 1 := by omega
        rw [e1] at hc
        have := val_lt_of hu' (k - 1) (fun j hj => (hz j (by omega)).symm) (by omega)
        exact G.ret1 rfl rfl ⟨by rw [cmp3, if_neg (by omega), if_pos this], (hq.drewN _).drewN _⟩
      · have e1 : ((k : Int) - 1).toNat = k - 1 := by omega
        rename_i hc1 _ _
        rw [e1] at hc hc1
        refine G.again (k - 1) (by repeat (first | exact Sub.nil _ | refine Sub.cons rfl ?_ | refine Sub.cons' rfl (int_congr (by omega)) ?_)) ⟨(hq.drewN _).drewN _, by omega, fun j hj => ?_⟩ (by omega)
        rcases Nat.lt_or_ge j k with h | h
        · obtain rfl : j = k - 1 := by omega
          omega
        · exact hz j h
      · have := val_ext (a := l) (b := l') (fun j => hz j (by omega))
        exact G.ret1 rfl rfl ⟨by rw [cmp3, if_neg (by omega), if_neg (by omega)], hq⟩
end Go.Proofs.YthlbihbchobllaaGreat

namespace Go.Proofs.YthlbihbchobllaaGreat
open Go Go.Eng Go.Proofs Go.NatM

set_option maxRecDepth 100000 in
set_option maxHeartbeats 1000000 in
theorem add_ok (w : World) (B B' : Nat) (A A' : Option Addr) (n c n' c' : Nat) (l l' : List Nat) (hs : Sl u64v w.heap B A n c l) (hs' : Sl u64v w.heap B' A' n' c' l') (hu : U64 l) (hu' : U64 l') (hn : n ≤ 35184372088831) (hn' : n' ≤ 35184372088831) :
    Cl Tryz.prog 78 #[.slice A n c, .slice A' n' c'] w (RetN w (dig (val l + val l')) (max n n' + 1)) := by
  have hlen := hs.len
  have hlen' := hs'.len
  replace hs := hs.size
  replace hs' := hs'.size
  refine enter Tryz.func78 rfl rfl rfl ?_
  refine T.seq (T.region ?_)
  repeat' (first | refine TL.ev (ev_simple rfl) rfl ?_ | refine TL.nil ?_ | refine G.next ?_)
  refine T.cut (α := SA Nat × SA Nat) (fun x => [(0, .slice x.1.A x.1.n x.1.c), (1, .slice x.2.A x.2.n x.2.c)]) (fun x w' => Qt w w' ∧ Sl u64v w.heap w.heap.size x.1.A x.1.n x.1.c x.1.l ∧ Sl u64v w.heap w.heap.size x.2.A x.2.n x.2.c x.2.l ∧ U64 x.1.l ∧ U64 x.2.l ∧
    x.1.n ≤ 35184372088831 ∧ x.2.n ≤ 35184372088831 ∧ x.1.n ≤ max n n' ∧ sz x.2.l ≤ sz x.1.l ∧ val x.1.l + val x.2.l = val l + val l') ?_ ?_
  · repeat' (first | refine TL.ev (ev_simple rfl) rfl ?_ | (refine TL.cmpG rfl rfl rfl rfl (fun hc => ?_) (fun hc => ?_) <;> try (exfalso; omega)) | (refine TL.callP rfl rfl (size_ok _ _ _ _ _ _ hs (by omega)) (fun _ => ?_)) | (refine TL.callP rfl rfl (size_ok _ _ _ _ _ _ hs' (by omega)) (fun _ => ?_)) | refine T.seq ?_ | refine T.region ?_ | refine TL.nil ?_ | refine T.cond_t rfl ?_ | refine T.cond_f rfl ?_ | refine T.skip ?_ | refine G.next ?_)
    · exact G.cut (⟨A', n', c', l'⟩, ⟨A, n, c, l⟩) (by repeat (first | exact Sub.nil _ | refine Sub.cons rfl ?_ | refine Sub.cons' rfl (int_congr (by omega)) ?_)) ⟨((Qt.refl w).drewN _).drewN _, hs', hs, hu', hu, hn', hn, by dsimp only; omega, by dsimp only; omega, Nat.add_comm _ _⟩
    · exact G.cut (⟨A, n, c, l⟩, ⟨A', n', c', l'⟩) (by repeat (first | exact Sub.nil _ | refine Sub.cons rfl ?_ | refine Sub.cons' rfl (int_congr (by omega)) ?_)) ⟨((Qt.refl w).drewN _).drewN _, hs, hs', hu, hu', hn, hn', by dsimp only; omega, by dsimp only; omega, rfl⟩
  · rintro ⟨⟨A1, n1, c1, l1⟩, ⟨A2, n2, c2, l2⟩⟩ w0 ⟨⟨q, rfl⟩, g1, g2, u1, u2, m1, m2, mx, hle, hval⟩
    dsimp only at g1 g2 u1 u2 m1 m2 mx hle hval ⊢
    have hl1 := g1.len
    have hl2 := g2.len
    have z1 := sz_le l1
    have z2 := sz_le l2
    repeat' (first | refine TL.ev (ev_simple rfl) rfl ?_ | refine TL.ev (ev_arN rfl rfl rfl (by omega)) rfl ?_ | (refine TL.callP rfl rfl (size_ok _ _ _ _ _ _ g1 (by omega)) (fun _ => ?_)) | (refine TL.callP rfl rfl (size_ok _ _ _ _ _ _ g2 (by omega)) (fun _ => ?_)) | (refine TL.makeU rfl rfl rfl (by omega) (by omega) (fun w1 b1 eb hB hE hz => ?_); simp only [World.heap_drewN] at eb hz; have hE1 : Ext w w1 := ((ext_drewN _ _).trans (ext_drewN _ _)).trans ((ext_drewN _ _).trans hE)) | refine T.seq ?_ | refine T.region ?_ | refine TL.nil ?_ | refine T.block ?_ | refine G.next ?_)
    clear hE
    refine T.loop (α := Nat × List Nat × Nat) (fun x => [(0, .slice A1 n1 c1), (1, .slice A2 n2 c2), (5, .int .i64 (sz l1 : Int)), (6, .int .i64 (sz l2 : Int)), (7, .slice (some ⟨b1, 0, none⟩) (sz l1 + 1) (sz l1 + 1)), (8, .int .u64 (x.2.2 : Int)), (25, .int .i64 (sz l1 : Int)), (26, .int .i64 (x.1 : Int))])
      (fun x w' => x.1 ≤ sz l1 ∧ x.2.1.length = x.1 ∧ U64 x.2.1 ∧ x.2.2 ≤ 1 ∧ Ext w w' ∧ Bk u64v w'.heap b1 45 (x.2.1 ++ List.replicate (sz l1 - x.1 + 1) 0) ∧ val x.2.1 + 18446744073709551616 ^ x.1 * x.2.2 = val (l1.take x.1) + val (l2.take x.1))
      (fun x => sz l1 - x.1) (0, [], 0) (by repeat (first | exact Sub.nil _ | refine Sub.cons rfl ?_ | refine Sub.cons' rfl (int_congr (by omega)) ?_)) ⟨Nat.zero_le _, rfl, U64.nil, Nat.zero_le _, hE1, by simpa using hB, by simp [val]⟩ ?_
    rintro ⟨i, D, cy⟩ w2 ⟨hi, hD, hDu, hcy, hE2, hB2, hv⟩
    dsimp only at hi hD hDu hcy hE2 hB2 hv ⊢
    have k1 := g1.ext hE2
    have k2 := g2.ext hE2
    have x1 := u1.getD i
    have x2 := u2.getD i
    have hlB : (D ++ List.replicate (sz l1 - i + 1) 0).length = sz l1 + 1 := by simp; omega
    repeat' (first | refine TL.ev (ev_simple rfl) rfl ?_ | (refine TL.cmpG rfl rfl rfl rfl (fun hc => ?_) (fun hc => ?_) <;> try (exfalso; omega)) | refine TL.ev (ev_arN rfl rfl rfl (by omega)) rfl ?_ | refine TL.ev (ev_indexN rfl rfl (by omega) (by first | exact Or.inr rfl | exact Sl.some (by assumption))) rfl ?_ | refine TL.ev (ev_loadU rfl (by assumption) (by omega)) rfl ?_ | (refine TL.ev (ev_callx rfl (fun w => add64_run w (by omega))) rfl ?_) | (refine TL.storeU rfl rfl hB2 (by rw [hlB]; omega) (fun w3 hB3 hU => ?_)) | refine T.seq ?_ | refine T.region ?_ | refine TL.nil ?_ | refine T.block ?_ | refine T.cond_t rfl ?_ | refine T.cond_f rfl ?_ | refine T.exit ?_ | refine T.skip ?_ | refine G.next ?_ | refine G.blockN ?_ | refine G.blockE ?_ | refine G.thenE ?_)
    · have e1 : sz l1 - i + 1 = (sz l1 - (i + 1) + 1) + 1 := by omega
      rw [e1, ← hD, set_zeros, hD] at hB3
      have hlt : (l1.getD i 0 + l2.getD i 0 + cy) % 18446744073709551616 < 18446744073709551616 := Nat.mod_lt _ (by omega)
      refine G.again (i + 1, D ++ [(l1.getD i 0 + l2.getD i 0 + cy) % 18446744073709551616], (l1.getD i 0 + l2.getD i 0 + cy) / 18446744073709551616) (by repeat (first | exact Sub.nil _ | refine Sub.cons rfl ?_ | refine Sub.cons' rfl (int_congr (by omega)) ?_)) ⟨by dsimp only; omega, by simp [hD], hDu.append (U64.one hlt), by dsimp only; omega, hE2.upd hU (by omega), hB3, ?_⟩ (by dsimp only; omega)
      dsimp only
      rw [val_snoc, val_take_succ, val_take_succ, hD, Nat.pow_succ]
      exact add_step hv (by omega)
    · have e1 : sz l1 - i + 1 = (sz l1 - (i + 1) + 1) + 1 := by omega
      have e2 : l2.getD i 0 = 0 := sz_zero l2 i (by omega)
      rw [e1, ← hD, set_zeros, hD] at hB3
      have hlt : (l1.getD i 0 + 0 + cy) % 18446744073709551616 < 18446744073709551616 := Nat.mod_lt _ (by omega)
      refine G.again (i + 1, D ++ [(l1.getD i 0 + 0 + cy) % 18446744073709551616], (l1.getD i 0 + 0 + cy) / 18446744073709551616) (by repeat (first | exact Sub.nil _ | refine Sub.cons rfl ?_ | refine Sub.cons' rfl (int_congr (by omega)) ?_)) ⟨by dsimp only; omega, by simp [hD], hDu.append (U64.one hlt), by dsimp only; omega, hE2.upd hU (by omega), hB3, ?_⟩ (by dsimp only; omega)
      dsimp only
      rw [val_snoc, val_take_succ, val_take_succ, hD, Nat.pow_succ, e2]
      exact add_step hv (by omega)
    · have hi' : i = sz l1 := by omega
      subst hi'
      have e1 : sz l1 - sz l1 + 1 = 0 + 1 := by omega
      rw [e1] at hB3
      have e3 := set_zeros D 0 cy
      rw [hD] at e3
      rw [e3, List.replicate_zero, List.append_nil] at hB3
      have hval2 : val (D ++ [cy]) = val l + val l' := by
        rw [val_snoc, hD, hv, val_sz, val_take_ge l2 _ hle, hval]
      have hu3 : U64 (D ++ [cy]) := hDu.append (U64.one (by omega))
      have hs0 := sz_le (D ++ [cy])
      have hl3 : (D ++ [cy]).length = sz l1 + 1 := by simp [hD]
      have hS := hB3.slN hl3 (Nat.le_refl _) hB3.lt
      repeat' (first | refine TL.ev (ev_simple rfl) rfl ?_ | refine TL.ev (ev_sl_h rfl rfl (by omega)) rfl ?_ | (refine TL.callP rfl rfl (size_ok _ _ _ _ _ _ hS (by omega)) (fun _ => ?_)) | refine TL.nil ?_ | refine T.ret ?_ | refine G.next ?_)
      have := hB3.ow (lo := w.heap.size) (k := sz (D ++ [cy])) (c := sz l1 + 1) hs0 (by omega) (by unfold maxLen; omega) (by omega)
      rw [take_sz hu3, hval2] at this
      exact G.ret1 rfl rfl (RetN.mk this ((hE2.upd hU (by omega)).drewN _) (by omega))
end Go.Proofs.YthlbihbchobllaaGreat

namespace Go.Proofs.YthlbihbchobllaaGreat
open Go Go.Eng Go.Proofs Go.NatM

/-- the slice does not lie in block g -/
def Off (g : Nat) (n : Nat) (A : Option Addr) : Prop := n = 0 ∨ ∀ a, A = some a → a.block ≠ g
theorem sl_off {α : Type} {f : α → Value} {w w' : World} {g B n c : Nat} {A : Option Addr} {l : List α} (hu : Upd g w w') (h : Sl f w.heap B A n c l) (ho : Off g n A) : Sl f w'.heap B A n c l :=
  ⟨h.len, h.cap, by
    rcases ho with h0 | ho
    · exact .inl h0
    rcases h.mem with h0 | ⟨b, o, e, hlt, hc⟩
    · exact .inl h0
    · refine .inr ⟨b, o, e, hlt, fun j x hx => ?_⟩
      have hne : b ≠ g := ho ⟨b, o, none⟩ e
      have := hc j x hx
      unfold hcell at this ⊢
      rwa [hu.block b hne]⟩
theorem bk_slMid {α : Type} {f : α → Value} {H : Array Obj} {b B n c o : Nat} {t : TypeId} {Pr S : List α} (h : Bk f H b t (Pr ++ S)) (ho : Pr.length = o) (hn : S.length = n) (hc : n ≤ c) (hb : b < B) : Sl f H B (some ⟨b, o, none⟩) n c S :=
  ⟨hn, hc, .inr ⟨b, o, rfl, hb, fun j x hx => by
    rw [h.cell, List.getElem?_append_right (by omega), show o + j - Pr.length = j by omega, hx]
    rfl⟩⟩
theorem set_mid (Pr D R : List Nat) (r x : Nat) : (Pr ++ (D ++ r :: R)).set (Pr.length + D.length) x = Pr ++ ((D ++ [x]) ++ R) := by
  rw [List.set_append_right _ _ (by omega), Nat.add_sub_cancel_left, List.set_append_right _ _ (by omega), Nat.sub_self]
  simp
theorem drop_cons (S : List Nat) (i : Nat) (h : i < S.length) : S.drop i = S.getD i 0 :: S.drop (i + 1) := by
  rw [List.drop_eq_getElem_cons h]; simp [List.getD, h]
theorem getD_win (D S : List Nat) (i : Nat) (h : D.length = i) : (D ++ S.drop i).getD i 0 = S.getD i 0 := by
  subst h
  simp [List.getD, List.getElem?_append_right]

theorem trim_ok (H : Array Obj) (B : Nat) (A : Option Addr) (n c : Nat) (l : List Nat) (hs : Sl u64v H B A n c l) (hn : n < 9223372036854775808) :
    Pure Tryz.prog 89 #[.slice A n c] H (.slice A (sz l) (sz l)) := by
  refine Pure.of fun w hw => ?_
  subst hw
  have hlen := hs.len
  have hcap := hs.cap
  refine enter Tryz.func89 rfl rfl rfl ?_
  repeat' (first | refine TL.ev (ev_simple rfl) rfl ?_ | refine TL.ev (ev_len rfl) rfl ?_ | refine T.seq ?_ | refine T.region ?_ | refine TL.nil ?_ | refine T.block ?_ | refine G.next ?_)
  refine T.loop (fun k : Nat => [(0, .slice A n c), (3, .int .i64 (k : Int))]) (fun k w' => w' = w ∧ k ≤ n ∧ ∀ j, k ≤ j → l.getD j 0 = 0) (fun k => k) n (by repeat (first | exact Sub.nil _ | refine Sub.cons rfl ?_ | refine Sub.cons' rfl (int_congr (by omega)) ?_)) ⟨rfl, Nat.le_refl _, ?_⟩ ?_
  · intro j hj; simp [List.getD, List.getElem?_eq_none (show l.length ≤ j by omega)]
  · rintro k w' ⟨rfl, hk, hz⟩
    repeat' (first | refine TL.ev (ev_simple rfl) rfl ?_ | refine TL.grun rfl rfl rfl ?_ | refine TL.gskip rfl rfl rfl rfl ?_ | (refine TL.cmpG rfl rfl rfl rfl (fun hc => ?_) (fun hc => ?_) <;> try (exfalso; omega)) | refine TL.ev (ev_arN rfl rfl rfl (by omega)) rfl ?_ | refine TL.ev (ev_indexN rfl rfl (by omega) (by first | exact Or.inr rfl | exact Sl.some (by assumption))) rfl ?_ | refine TL.ev (ev_loadU rfl (by assumption) (by omega)) rfl ?_ | refine TL.ev (ev_sl_hm rfl rfl rfl (by omega) (by omega)) rfl ?_ | refine T.seq ?_ | refine T.region ?_ | refine TL.nil ?_ | refine T.block ?_ | refine T.cond_t rfl ?_ | refine T.cond_f rfl ?_ | refine T.exit ?_ | refine T.ret ?_ | refine T.skip ?_ | refine G.next ?_ | refine G.blockN ?_ | refine G.blockE ?_ | refine G.thenE ?_)
    · refine G.again (k - 1) (by repeat (first | exact Sub.nil _ | refine Sub.cons rfl ?_ | refine Sub.cons' rfl (int_congr (by omega)) ?_)) ⟨rfl, by omega, fun j hj => ?_⟩ (by omega)
      rcases Nat.lt_or_ge j k with h | h
      · obtain rfl : j = k - 1 := by omega
        omega
      · exact hz j h
    · rw [sz_eq l k (by omega) hz (.inr (by omega))]
      exact G.ret1 rfl rfl ⟨rfl, Qt.refl _⟩
    · rw [sz_eq l k (by omega) hz (.inl (by omega))]
      exact G.ret1 rfl rfl ⟨rfl, Qt.refl _⟩

/-- nothing is answered; block g turns -/
def RetU (w : World) (g : Nat) (K : World → Prop) (e : Ending) (w' : World) : Prop := e = .returned (.tuple #[]) ∧ K w' ∧ Upd g w w'
theorem upd_trans {g : Nat} {a b c : World} (h : Upd g a b) (k : Upd g b c) : Upd g a c := ⟨k.os.trans h.os, k.tape.trans h.tape, k.output.trans h.output, k.size.trans h.size, fun q hq => (k.block q hq).trans (h.block q hq)⟩
theorem upd_undrewN {g n : Nat} {a b : World} (h : Upd g (a.drewN n) b) : Upd g a b := ⟨h.os, h.tape, h.output, h.size, h.block⟩

set_option maxHeartbeats 1000000 in
theorem addTo_ok (w : World) (B g o n c : Nat) (A' : Option Addr) (n' c' : Nat) (Pr S l' : List Nat) (hB : Bk u64v w.heap g 45 (Pr ++ S)) (ho : Pr.length = o) (hS : S.length = n) (hc0 : n ≤ c) (hs' : Sl u64v w.heap B A' n' c' l') (hoff : Off g n' A') (hu : U64 S) (hu' : U64 l')
    (hn : n ≤ 140737488355328) (hnn : n' ≤ n) (hlt : val S + val l' < 18446744073709551616 ^ n) :
    Cl Tryz.prog 91 #[.slice (some ⟨g, o, none⟩) n c, .slice A' n' c'] w (RetU w g fun w' => ∃ D, Bk u64v w'.heap g 45 (Pr ++ D) ∧ D.length = n ∧ U64 D ∧ val D = val S + val l') := by
  have hlen' := hs'.len
  refine enter Tryz.func91 rfl rfl rfl ?_
  repeat' (first | refine TL.ev (ev_simple rfl) rfl ?_ | refine TL.ev (ev_len rfl) rfl ?_ | refine T.seq ?_ | refine T.region ?_ | refine TL.nil ?_ | refine T.block ?_ | refine G.next ?_)
  refine T.loop (α := Nat × List Nat × Nat) (fun x => [(0, .slice (some ⟨g, o, none⟩) n c), (1, .slice A' n' c'), (4, .int .u64 (x.2.2 : Int)), (8, .int .i64 (n' : Int)), (9, .int .i64 (x.1 : Int))])
    (fun x w' => x.1 ≤ n' ∧ x.2.1.length = x.1 ∧ U64 x.2.1 ∧ x.2.2 ≤ 1 ∧ Upd g w w' ∧ Bk u64v w'.heap g 45 (Pr ++ (x.2.1 ++ S.drop x.1)) ∧ val x.2.1 + 18446744073709551616 ^ x.1 * x.2.2 = val (S.take x.1) + val (l'.take x.1))
    (fun x => n' - x.1) (0, [], 0) (by repeat (first | exact Sub.nil _ | refine Sub.cons rfl ?_ | refine Sub.cons' rfl (int_congr (by omega)) ?_)) ⟨Nat.zero_le _, rfl, U64.nil, Nat.zero_le _, upd_refl _ _, by simpa using hB, by simp [val]⟩ ?_
  · rintro ⟨i, D, cy⟩ w2 ⟨hi, hD, hDu, hcy, hE2, hB2, hv⟩
    dsimp only at hi hD hDu hcy hE2 hB2 hv ⊢
    have k1 := sl_off hE2 hs' hoff
    have k2 := bk_slMid (B := w2.heap.size) hB2 ho (n := n) (c := c) (by simp; omega) hc0 hB2.lt
    have x1 := hu.getD i
    have x2 := hu'.getD i
    have hlB : (Pr ++ (D ++ S.drop i)).length = o + n := by simp; omega
    repeat' (first | refine TL.ev (ev_simple rfl) rfl ?_ | refine TL.ev (ev_len rfl) rfl ?_ | (refine TL.cmpG rfl rfl rfl rfl (fun hc => ?_) (fun hc => ?_) <;> try (exfalso; omega)) | refine TL.ev (ev_arN rfl rfl rfl (by omega)) rfl ?_ | refine TM.f rfl (fun _ => ev_simple rfl) rfl ?_ | refine TM.f rfl (fun _ => ev_indexN rfl rfl (by omega) (by first | exact Or.inr rfl | exact Sl.some (by assumption))) rfl ?_ | refine TM.s rfl (ev_loadU rfl (by assumption) (by omega)) rfl ?_ | refine TM.s rfl (ev_callx rfl (fun w => add64_run w (by omega))) rfl ?_ | refine T.regionM [(0, 0), (1, 0), (2, 0), (3, 0), (4, 0), (6, 0), (7, 0), (8, 0), (10, 0), (5, 1), (9, 1), (11, 1), (12, 0), (13, 0), (14, 0), (15, 0), (16, 2), (17, 0)] mixed (by kernel_rfl) ?_ | (refine TL.storeUo rfl rfl hB2 (by rw [hlB]; omega) (fun w3 hB3 hU => ?_)) | refine T.seq ?_ | refine T.region ?_ | refine TL.nil ?_ | refine T.block ?_ | refine T.cond_t rfl ?_ | refine T.cond_f rfl ?_ | refine T.exit ?_ | refine T.skip ?_ | refine G.next ?_ | refine G.blockN ?_ | refine G.blockE ?_ | refine G.thenE ?_ | refine G.only ?_ | refine G.mixed ?_ | refine TM.nil ?_ | refine TM.e rfl ?_)
    · have ex := getD_win D S i hD
      have hlt1 : ((D ++ S.drop i).getD i 0 + l'.getD i 0 + cy) % 18446744073709551616 < 18446744073709551616 := Nat.mod_lt _ (by omega)
      refine G.again (i + 1, D ++ [((D ++ S.drop i).getD i 0 + l'.getD i 0 + cy) % 18446744073709551616], ((D ++ S.drop i).getD i 0 + l'.getD i 0 + cy) / 18446744073709551616) (by repeat (first | exact Sub.nil _ | refine Sub.cons rfl ?_ | refine Sub.cons' rfl (int_congr (by omega)) ?_)) ⟨by dsimp only; omega, by simp [hD], hDu.append (U64.one hlt1), by dsimp only; omega, upd_trans hE2 (upd_undrewN hU), ?_, ?_⟩ (by dsimp only; omega)
      · dsimp only
        rw [drop_cons S i (by omega), show o + i = Pr.length + D.length by omega, set_mid, ← drop_cons S i (by omega)] at hB3
        exact hB3
      · dsimp only
        rw [val_snoc, val_take_succ, val_take_succ, hD, Nat.pow_succ, ex]
        exact add_step hv (by omega)
    · obtain rfl : i = n' := by omega
      rw [← hlen', List.take_length, hlen'] at hv
      refine T.loop (α := Nat × List Nat × Nat) (fun x => [(0, .slice (some ⟨g, o, none⟩) n c), (4, .int .u64 (x.2.2 : Int)), (6, .int .i64 (x.1 : Int))])
        (fun x w' => x.1 ≤ n ∧ x.2.1.length = x.1 ∧ U64 x.2.1 ∧ x.2.2 ≤ 1 ∧ Upd g w w' ∧ Bk u64v w'.heap g 45 (Pr ++ (x.2.1 ++ S.drop x.1)) ∧ val x.2.1 + 18446744073709551616 ^ x.1 * x.2.2 = val (S.take x.1) + val l')
        (fun x => n - x.1) (i, D, cy) (by repeat (first | exact Sub.nil _ | refine Sub.cons rfl ?_ | refine Sub.cons' rfl (int_congr (by omega)) ?_)) ⟨hnn, hD, hDu, hcy, hE2, hB2, hv⟩ ?_
      clear hB2 hE2 k1 k2 hlB hv x1 x2 hD hDu hcy hi hc
      clear D cy w2
      rintro ⟨j, D, cy⟩ w2 ⟨hi, hD, hDu, hcy, hE2, hB2, hv⟩
      dsimp only at hi hD hDu hcy hE2 hB2 hv ⊢
      have k2 := bk_slMid (B := w2.heap.size) hB2 ho (n := n) (c := c) (by simp; omega) hc0 hB2.lt
      have x1 := hu.getD j
      have hlB : (Pr ++ (D ++ S.drop j)).length = o + n := by simp; omega
      have fin : cy = 0 → RetU w g (fun w' => ∃ D, Bk u64v w'.heap g 45 (Pr ++ D) ∧ D.length = n ∧ U64 D ∧ val D = val S + val l') (.returned (.tuple #[])) w2 := by
        intro h0
        refine ⟨rfl, ⟨_, hB2, by simp; omega, hDu.append (hu.drop j), ?_⟩, hE2⟩
        rw [val_append, hD, val_split S j]
        rw [h0] at hv
        omega
      repeat' (first | refine TL.ev (ev_simple rfl) rfl ?_ | refine TL.grun rfl rfl rfl ?_ | refine TL.gskip rfl rfl rfl rfl ?_ | refine TL.ev (ev_len rfl) rfl ?_ | (refine TL.cmpG rfl rfl rfl rfl (fun hc => ?_) (fun hc => ?_) <;> try (exfalso; omega)) | refine TL.ev (ev_arN rfl rfl rfl (by omega)) rfl ?_ | refine TL.ev (ev_indexN rfl rfl (by omega) (by first | exact Or.inr rfl | exact Sl.some (by assumption))) rfl ?_ | refine TL.ev (ev_loadU rfl (by assumption) (by omega)) rfl ?_ | (refine TL.ev (ev_callx rfl (fun w => add64_run w (by omega))) rfl ?_) | (refine TL.storeUo rfl rfl hB2 (by rw [hlB]; omega) (fun w3 hB3 hU => ?_)) | refine T.seq ?_ | refine T.region ?_ | refine TL.nil ?_ | refine T.block ?_ | refine T.cond_t rfl ?_ | refine T.cond_f rfl ?_ | refine T.exit ?_ | refine T.skip ?_ | refine G.next ?_ | refine G.blockN ?_ | refine G.blockE ?_ | refine G.thenE ?_)
      · have ex := getD_win D S j hD
        have hlt1 : ((D ++ S.drop j).getD j 0 + 0 + cy) % 18446744073709551616 < 18446744073709551616 := Nat.mod_lt _ (by omega)
        refine G.again (j + 1, D ++ [((D ++ S.drop j).getD j 0 + 0 + cy) % 18446744073709551616], ((D ++ S.drop j).getD j 0 + 0 + cy) / 18446744073709551616) (by repeat (first | exact Sub.nil _ | refine Sub.cons rfl ?_ | refine Sub.cons' rfl (int_congr (by omega)) ?_)) ⟨by dsimp only; omega, by simp [hD], hDu.append (U64.one hlt1), by dsimp only; omega, upd_trans hE2 hU, ?_, ?_⟩ (by dsimp only; omega)
        · dsimp only
          rw [drop_cons S j (by omega), show o + j = Pr.length + D.length by omega, set_mid, ← drop_cons S j (by omega)] at hB3
          exact hB3
        · dsimp only
          rw [val_snoc, val_take_succ, hD, Nat.pow_succ, ex]
          have := add_step (vb := val l') (y := 0) hv (show ((S.getD j 0 + 0 + cy) % 18446744073709551616) + 18446744073709551616 * ((S.getD j 0 + 0 + cy) / 18446744073709551616) = S.getD j 0 + 0 + cy by omega)
          simpa using this
      · obtain rfl : j = n := by omega
        have h1 : val (S.take j) = val S := by rw [← hS, List.take_length]
        have h2 : cy = 1 := by omega
        rw [h1, h2] at hv
        exfalso
        omega
      · exact G.end0 rfl (fin (by omega))
end Go.Proofs.YthlbihbchobllaaGreat

namespace Go.NatM

theorem val_set : ∀ (l : List Nat) (k s : Nat), k < l.length → val (l.set k s) + 18446744073709551616 ^ k * l.getD k 0 = val l + 18446744073709551616 ^ k * s
  | [], k, s, h => by simp at h
  | x :: l, 0, s, h => by simp [val, List.getD]; omega
  | x :: l, k + 1, s, h => by
    have ih := val_set l k s (by simpa using h)
    have e : (x :: l).getD (k + 1) 0 = l.getD k 0 := by simp [List.getD]
    rw [List.set_cons_succ, e, val, val, Nat.pow_succ, Nat.mul_comm (18446744073709551616 ^ k), Nat.mul_assoc, Nat.mul_assoc]
    omega
theorem getD_set (l : List Nat) (k j s : Nat) (h : k < l.length) : (l.set k s).getD j 0 = if j = k then s else l.getD j 0 := by
  simp only [List.getD, List.getElem?_set]
  by_cases hj : k = j
  · subst hj; simp [h]
  · rw [if_neg hj, if_neg (by omega)]
theorem mul_hi_lt {x y c : Nat} (hx : x < 18446744073709551616) (hy : y < 18446744073709551616) (hc : c < 18446744073709551616) {z : Nat} (hz : z < 18446744073709551616) :
    x * y + c + z < 340282366920938463463374607431768211456 := by
  have h : x * y ≤ 18446744073709551615 * 18446744073709551615 := Nat.mul_le_mul (by omega) (by omega)
  omega
theorem and32 (x : Nat) : x &&& 4294967295 = x % 4294967296 := Nat.and_two_pow_sub_one_eq_mod x 32
theorem mul64_walk (x y : Nat) (hx : x < 18446744073709551616) (hy : y < 18446744073709551616) :
    (((x / 2 ^ 32) * (y / 2 ^ 32) % 18446744073709551616 + ((x / 2 ^ 32) * (y &&& 4294967295) % 18446744073709551616 + (x &&& 4294967295) * (y &&& 4294967295) % 18446744073709551616 / 2 ^ 32) % 18446744073709551616 / 2 ^ 32) % 18446744073709551616 +
      ((((x / 2 ^ 32) * (y &&& 4294967295) % 18446744073709551616 + (x &&& 4294967295) * (y &&& 4294967295) % 18446744073709551616 / 2 ^ 32) % 18446744073709551616 &&& 4294967295) + (x &&& 4294967295) * (y / 2 ^ 32) % 18446744073709551616) % 18446744073709551616 / 2 ^ 32) % 18446744073709551616 = x * y / 18446744073709551616 := by
  obtain ⟨h1, h2, h3, h4⟩ := Go.Lib.mul64_hi x y hx hy
  have ha := Go.Lib.half_mul_le (a := x / 4294967296) (b := y / 4294967296) (by omega) (by omega)
  have hb := Go.Lib.half_mul_le (a := x / 4294967296) (b := y % 4294967296) (by omega) (by omega)
  have hc := Go.Lib.half_mul_le (a := x % 4294967296) (b := y / 4294967296) (by omega) (by omega)
  have hd := Go.Lib.half_mul_le (a := x % 4294967296) (b := y % 4294967296) (by omega) (by omega)
  have hp : x * y / 18446744073709551616 < 18446744073709551616 := by
    have h : x * y ≤ 18446744073709551615 * 18446744073709551615 := Nat.mul_le_mul (by omega) (by omega)
    omega
  simp only [and32, show (2 : Nat) ^ 32 = 4294967296 by rfl]
  rw [← h4]
  rw [← h4] at hp
  generalize (x / 4294967296) * (y / 4294967296) = a at *
  generalize (x / 4294967296) * (y % 4294967296) = b at *
  generalize (x % 4294967296) * (y / 4294967296) = c at *
  generalize (x % 4294967296) * (y % 4294967296) = d at *
  omega
theorem mac_step (p cy z : Nat) (h : p + cy + z < 340282366920938463463374607431768211456) :
    (z + (p % 18446744073709551616 + cy + 0) % 18446744073709551616 + 0) % 18446744073709551616 + 18446744073709551616 * (((p / 18446744073709551616 + (p % 18446744073709551616 + cy + 0) / 18446744073709551616) % 18446744073709551616 + (z + (p % 18446744073709551616 + cy + 0) % 18446744073709551616 + 0) / 18446744073709551616) % 18446744073709551616) = p + cy + z := by omega
theorem rows_step {vY vZ vS Wi Wj x y t cy cy' s z : Nat} (hset : vS + (Wi * Wj) * z = vY + (Wi * Wj) * s) (hv : vY + (Wi * Wj) * cy = vZ + Wi * (x * t)) (e : s + 18446744073709551616 * cy' = x * y + cy + z) :
    vS + (Wi * (Wj * 18446744073709551616)) * cy' = vZ + Wi * (x * (t + Wj * y)) := by
  have e1 : (Wi * (Wj * 18446744073709551616)) * cy' = (Wi * Wj) * (18446744073709551616 * cy') := by rw [← Nat.mul_assoc Wi, Nat.mul_assoc (Wi * Wj)]
  have e2 : Wi * (x * (t + Wj * y)) = Wi * (x * t) + (Wi * Wj) * (x * y) := by
    rw [Nat.mul_add x, Nat.mul_add Wi, Nat.mul_left_comm x Wj y, Nat.mul_assoc Wi Wj]
  have e3 : (Wi * Wj) * s + (Wi * Wj) * (18446744073709551616 * cy') = (Wi * Wj) * (x * y) + (Wi * Wj) * cy + (Wi * Wj) * z := by rw [← Nat.mul_add, e, Nat.mul_add, Nat.mul_add]
  rw [e1, e2]
  generalize (Wi * Wj) * (18446744073709551616 * cy') = q1 at *
  generalize (Wi * Wj) * s = q2 at *
  generalize (Wi * Wj) * (x * y) = q3 at *
  generalize (Wi * Wj) * cy = q4 at *
  generalize (Wi * Wj) * z = q5 at *
  omega
theorem W_split (n : Nat) : 2 ^ n = 18446744073709551616 ^ (n / 64) * 2 ^ (n % 64) := by
  rw [W_pow, ← Nat.pow_add]; congr 1; omega
theorem W_low {n : Nat} (h : n ≤ 64) : 18446744073709551616 = 2 ^ n * 2 ^ (64 - n) := by
  rw [← Nat.pow_add, show n + (64 - n) = 64 by omega]
/-- shifts of a word -/
theorem shl_word (x : Nat) {n : Nat} (h : n ≤ 64) (hx : x < 18446744073709551616) : x * 2 ^ n = x * 2 ^ n % 18446744073709551616 + 18446744073709551616 * (x / 2 ^ (64 - n)) := by
  have e : x * 2 ^ n / 18446744073709551616 = x / 2 ^ (64 - n) := by
    rw [W_low h, Nat.mul_comm x, Nat.mul_div_mul_left _ _ (Nat.two_pow_pos n)]
  rw [← e]
  omega
theorem shl_mod (x : Nat) {n : Nat} (h : n ≤ 64) : x * 2 ^ n % 18446744073709551616 = 2 ^ n * (x % 2 ^ (64 - n)) := by
  rw [W_low h, Nat.mul_comm x, Nat.mul_mod_mul_left]
theorem or_shl {y x n : Nat} (h : n ≤ 64) (hy : y < 2 ^ n) : y ||| x * 2 ^ n % 18446744073709551616 = y + x * 2 ^ n % 18446744073709551616 := by
  rw [shl_mod x h, Nat.or_comm, ← Nat.two_pow_add_eq_or_of_lt hy, Nat.add_comm]
theorem shr_lt {x n : Nat} (h : n ≤ 64) (hx : x < 18446744073709551616) : x / 2 ^ (64 - n) < 2 ^ n := by
  rw [Nat.div_lt_iff_lt_mul (Nat.two_pow_pos _), ← W_low h]
  exact hx
theorem shr_lt' {x n : Nat} (h : n ≤ 64) (hx : x < 18446744073709551616) : x / 2 ^ n < 2 ^ (64 - n) := by
  have := shr_lt (x := x) (n := 64 - n) (by omega) hx
  rwa [show 64 - (64 - n) = n by omega] at this
theorem shr_step {vD vb Wi b0 bi bj n : Nat} (hn : n ≤ 64) (hv : 2 ^ n * vD + b0 = vb + Wi * (bi % 2 ^ n)) :
    2 ^ n * (vD + Wi * (bi / 2 ^ n + bj * 2 ^ (64 - n) % 18446744073709551616)) + b0 = vb + Wi * bi + Wi * 18446744073709551616 * (bj % 2 ^ n) := by
  have e1 := shl_mod bj (n := 64 - n) (by omega)
  rw [show 64 - (64 - n) = n by omega] at e1
  have e2 := Nat.div_add_mod bi (2 ^ n)
  have e3 : 2 ^ n * (Wi * (bi / 2 ^ n + bj * 2 ^ (64 - n) % 18446744073709551616)) = Wi * (2 ^ n * (bi / 2 ^ n)) + Wi * 18446744073709551616 * (bj % 2 ^ n) := by
    rw [e1, W_low hn, Nat.mul_left_comm (2 ^ n) Wi, Nat.mul_add (2 ^ n), Nat.mul_add Wi, Nat.mul_assoc Wi, Nat.mul_assoc (2 ^ n)]
  have e4 : Wi * bi = Wi * (2 ^ n * (bi / 2 ^ n)) + Wi * (bi % 2 ^ n) := by rw [← Nat.mul_add, e2]
  rw [Nat.mul_add, e3, e4]
  omega
end Go.NatM

namespace Go.Proofs.YthlbihbchobllaaGreat
open Go Go.Eng Go.Proofs Go.NatM

theorem mul64_ok (H : Array Obj) {z1 z2 : Int} {x y : Nat} [e1 : IsN z1 x] [e2 : IsN z2 y] (hx : x < 18446744073709551616) (hy : y < 18446744073709551616) :
    Pure Tryz.prog 95 #[.int .u64 z1, .int .u64 z2] H (.tuple #[.int .u64 ((x * y / 18446744073709551616 : Nat) : Int), .int .u64 ((x * y % 18446744073709551616 : Nat) : Int)]) := by
  obtain rfl := e1.out
  obtain rfl := e2.out
  refine Pure.of fun w hw => ?_
  subst hw
  refine enter Tryz.func95 rfl rfl rfl ?_
  repeat' (first | refine TL.ev (ev_simple rfl) rfl ?_ | refine TL.ev (ev_shrU rfl rfl (by first | omega | exact U64.getD (by assumption) _)) rfl ?_ | refine TL.ev (ev_andU rfl rfl (by first | omega | exact U64.getD (by assumption) _) (by first | omega | exact U64.getD (by assumption) _)) rfl ?_ | refine TL.ev (ev_arU rfl rfl rfl (by first | exact True.intro | omega)) rfl ?_ | refine T.seq ?_ | refine T.region ?_ | refine TL.nil ?_ | refine T.ret ?_ | refine G.next ?_)
  refine G.ret2 rfl rfl rfl ⟨?_, Qt.refl _⟩
  rw [← mul64_walk x y hx hy]

set_option maxHeartbeats 1000000 in
theorem subFrom_ok (w : World) (B g n c : Nat) (A' : Option Addr) (n' c' : Nat) (S l' : List Nat) (hB : Bk u64v w.heap g 45 S) (hS : S.length = n) (hc0 : n ≤ c) (hs' : Sl u64v w.heap B A' n' c' l') (hoff : Off g n' A') (hu : U64 S) (hu' : U64 l')
    (hn : n ≤ 140737488355328) (hnn : n' ≤ n) (hle : val l' ≤ val S) :
    Cl Tryz.prog 97 #[.slice (some ⟨g, 0, none⟩) n c, .slice A' n' c'] w (RetU w g fun w' => ∃ D, Bk u64v w'.heap g 45 D ∧ D.length = n ∧ U64 D ∧ val D = val S - val l') := by
  have hlen' := hs'.len
  refine enter Tryz.func97 rfl rfl rfl ?_
  repeat' (first | refine TL.ev (ev_simple rfl) rfl ?_ | refine TL.ev (ev_len rfl) rfl ?_ | refine T.seq ?_ | refine T.region ?_ | refine TL.nil ?_ | refine T.block ?_ | refine G.next ?_)
  refine T.loop (α := Nat × List Nat × Nat) (fun x => [(0, .slice (some ⟨g, 0, none⟩) n c), (1, .slice A' n' c'), (4, .int .u64 (x.2.2 : Int)), (8, .int .i64 (n : Int)), (9, .int .i64 (x.1 : Int))])
    (fun x w' => x.1 ≤ n ∧ x.2.1.length = x.1 ∧ U64 x.2.1 ∧ x.2.2 ≤ 1 ∧ Upd g w w' ∧ Bk u64v w'.heap g 45 (x.2.1 ++ S.drop x.1) ∧ val x.2.1 + val (l'.take x.1) = val (S.take x.1) + 18446744073709551616 ^ x.1 * x.2.2)
    (fun x => n - x.1) (0, [], 0) (by repeat (first | exact Sub.nil _ | refine Sub.cons rfl ?_ | refine Sub.cons' rfl (int_congr (by omega)) ?_)) ⟨Nat.zero_le _, rfl, U64.nil, Nat.zero_le _, upd_refl _ _, by simpa using hB, by simp [val]⟩ ?_
  rintro ⟨i, D, cy⟩ w2 ⟨hi, hD, hDu, hcy, hE2, hB2, hv⟩
  dsimp only at hi hD hDu hcy hE2 hB2 hv ⊢
  have k1 := sl_off hE2 hs' hoff
  have hlB : (D ++ S.drop i).length = n := by simp; omega
  have k2 := hB2.slN (c := c) hlB hc0 hB2.lt
  have x1 := hu.getD i
  have x2 := hu'.getD i
  have ex := getD_win D S i hD
  repeat' (first | refine TL.ev (ev_simple rfl) rfl ?_ | refine TL.ev (ev_len rfl) rfl ?_ | (refine TL.cmpG rfl rfl rfl rfl (fun hc => ?_) (fun hc => ?_) <;> try (exfalso; omega)) | refine TL.ev (ev_arN rfl rfl rfl (by omega)) rfl ?_ | refine TL.ev (ev_indexN rfl rfl (by omega) (by first | exact Or.inr rfl | exact Sl.some (by assumption))) rfl ?_ | refine TL.ev (ev_loadU rfl (by assumption) (by omega)) rfl ?_ | (refine TL.ev (ev_callx rfl (fun w => sub64_run w (by omega))) rfl ?_) | (refine TL.storeU rfl rfl hB2 (by rw [hlB]; omega) (fun w3 hB3 hU => ?_)) | refine T.seq ?_ | refine T.region ?_ | refine TL.nil ?_ | refine T.block ?_ | refine T.cond_t rfl ?_ | refine T.cond_f rfl ?_ | refine T.exit ?_ | refine T.ret ?_ | refine T.skip ?_ | refine G.next ?_ | refine G.blockN ?_ | refine G.blockE ?_ | refine G.blockR ?_ | refine G.thenE ?_ | refine G.thenR ?_)
  · have hlt : ((D ++ S.drop i).getD i 0 + 18446744073709551616 - l'.getD i 0 - cy) % 18446744073709551616 < 18446744073709551616 := Nat.mod_lt _ (by omega)
    refine G.again (i + 1, D ++ [((D ++ S.drop i).getD i 0 + 18446744073709551616 - l'.getD i 0 - cy) % 18446744073709551616], if (D ++ S.drop i).getD i 0 < l'.getD i 0 + cy then 1 else 0) (by repeat (first | exact Sub.nil _ | refine Sub.cons rfl ?_ | refine Sub.cons' rfl (int_congr (by omega)) ?_)) ⟨by dsimp only; omega, by simp [hD], hDu.append (U64.one hlt), by dsimp only; split <;> omega, upd_trans hE2 hU, ?_, ?_⟩ (by dsimp only; omega)
    · dsimp only
      have e := set_mid [] D (S.drop (i + 1)) (S.getD i 0) (((D ++ S.drop i).getD i 0 + 18446744073709551616 - l'.getD i 0 - cy) % 18446744073709551616)
      rw [← drop_cons S i (by omega), List.nil_append, List.nil_append, List.length_nil, Nat.zero_add, hD] at e
      rwa [e] at hB3
    · dsimp only
      rw [val_snoc, val_take_succ, val_take_succ, hD, Nat.pow_succ, ex]
      exact sub_step hv (by split <;> omega)
  · have hz : cy = 0 := by omega
    subst hz
    have h1 : val (l'.take i) = val l' := by rw [List.take_of_length_le (by omega)]
    refine G.ret0 rfl ⟨rfl, ⟨_, hB2, hlB, hDu.append (hu.drop i), ?_⟩, hE2⟩
    rw [val_append, hD, val_split S i]
    omega
  · have e2 : l'.getD i 0 = 0 := getD_ge (by omega)
    have hlt : ((D ++ S.drop i).getD i 0 + 18446744073709551616 - 0 - cy) % 18446744073709551616 < 18446744073709551616 := Nat.mod_lt _ (by omega)
    refine G.again (i + 1, D ++ [((D ++ S.drop i).getD i 0 + 18446744073709551616 - 0 - cy) % 18446744073709551616], if (D ++ S.drop i).getD i 0 < 0 + cy then 1 else 0) (by repeat (first | exact Sub.nil _ | refine Sub.cons rfl ?_ | refine Sub.cons' rfl (int_congr (by omega)) ?_)) ⟨by dsimp only; omega, by simp [hD], hDu.append (U64.one hlt), by dsimp only; split <;> omega, upd_trans hE2 hU, ?_, ?_⟩ (by dsimp only; omega)
    · dsimp only
      have e := set_mid [] D (S.drop (i + 1)) (S.getD i 0) (((D ++ S.drop i).getD i 0 + 18446744073709551616 - 0 - cy) % 18446744073709551616)
      rw [← drop_cons S i (by omega), List.nil_append, List.nil_append, List.length_nil, Nat.zero_add, hD] at e
      rwa [e] at hB3
    · dsimp only
      rw [val_snoc, val_take_succ, val_take_succ, hD, Nat.pow_succ, ex, e2]
      exact sub_step hv (by split <;> omega)
  · obtain rfl : i = n := by omega
    have h0 := hS
    rw [List.drop_of_length_le (by omega), List.append_nil] at hB2
    have h1 : val (S.take i) = val S := by rw [List.take_of_length_le (by omega)]
    have h2 : val (l'.take i) = val l' := by rw [List.take_of_length_le (by omega)]
    rw [h1, h2] at hv
    have hb := val_lt hDu
    rw [hD] at hb
    have hz : cy = 0 := by
      rcases Nat.eq_zero_or_pos cy with h | h
      · exact h
      · obtain rfl : cy = 1 := by omega
        omega
    subst hz
    exact G.end0 rfl ⟨rfl, ⟨_, hB2, hD, hDu, by omega⟩, hE2⟩

/-- a new block, whole: a list of n words with a value -/
def RetB (w : World) (n : Nat) (v : Nat) (e : Ending) (w' : World) : Prop := ∃ b D, e = .returned (.slice (some ⟨b, 0, none⟩) n n) ∧ w.heap.size ≤ b ∧ Bk u64v w'.heap b 45 D ∧ D.length = n ∧ U64 D ∧ val D = v ∧ Ext w w'
theorem RetB.mk {w w' : World} {n v b : Nat} {D : List Nat} (h1 : w.heap.size ≤ b) (h2 : Bk u64v w'.heap b 45 D) (h3 : D.length = n) (h4 : U64 D) (h5 : val D = v) (h6 : Ext w w') : RetB w n v (.returned (.slice (some ⟨b, 0, none⟩) n n)) w' := ⟨b, D, rfl, h1, h2, h3, h4, h5, h6⟩
theorem off_lt {α : Type} {f : α → Value} {H : Array Obj} {g B n c : Nat} {A : Option Addr} {l : List α} (h : Sl f H B A n c l) (hg : B ≤ g) : Off g n A := by
  rcases h.mem with h0 | ⟨b, o, e, hlt, _⟩
  · exact .inl h0
  · refine .inr fun a ha => ?_
    rw [e] at ha; cases ha
    show b ≠ g
    omega
set_option maxHeartbeats 1000000 in
theorem sum_ok (w : World) (B B' : Nat) (A A' : Option Addr) (n c n' c' : Nat) (l l' : List Nat) (hs : Sl u64v w.heap B A n c l) (hs' : Sl u64v w.heap B' A' n' c' l') (hu : U64 l) (hu' : U64 l') (hn : n ≤ 35184372088830) (hn' : n' ≤ 35184372088830) :
    Cl Tryz.prog 96 #[.slice A n c, .slice A' n' c'] w (RetB w (max n n' + 1) (val l + val l')) := by
  have hlen := hs.len
  have hlen' := hs'.len
  replace hs := hs.size
  replace hs' := hs'.size
  have h1 := val_lt hu
  have h2 := val_lt hu'
  have h3 : val l + val l' < 18446744073709551616 ^ (max n n' + 1) := by
    have p1 : 18446744073709551616 ^ l.length ≤ 18446744073709551616 ^ max n n' := Nat.pow_le_pow_right (by omega) (by omega)
    have p2 : 18446744073709551616 ^ l'.length ≤ 18446744073709551616 ^ max n n' := Nat.pow_le_pow_right (by omega) (by omega)
    rw [Nat.pow_succ]
    omega
  refine enter Tryz.func96 rfl rfl rfl ?_
  repeat' (first | refine TL.ev (ev_simple rfl) rfl ?_ | refine TL.ev (ev_len rfl) rfl ?_ | refine TL.ev (ev_arN rfl rfl rfl (by omega)) rfl ?_ | (refine TL.ev (ev_max2 rfl rfl) rfl ?_) | (refine TL.makeU rfl rfl rfl (by omega) (by omega) (fun w1 b1 eb hB hE hz => ?_); have hs1 := hs.ext hE; have hs1' := hs'.ext hE) | (refine TL.copy (f := u64v) (fun _ => rfl) rfl rfl rfl hB hs1 (by simp) (fun w2 hB2 hU => ?_)) | refine T.seq ?_ | refine T.region ?_ | refine TL.nil ?_ | refine G.next ?_)
  have hl2 : (List.take 0 (List.replicate (max n n' + 1) 0) ++ List.take (min n (max n n' + 1)) l ++ List.drop (0 + min n (max n n' + 1)) (List.replicate (max n n' + 1) 0)).length = max n n' + 1 := by simp; omega
  have hv2 : val (List.take 0 (List.replicate (max n n' + 1) 0) ++ List.take (min n (max n n' + 1)) l ++ List.drop (0 + min n (max n n' + 1)) (List.replicate (max n n' + 1) 0)) = val l := by
    rw [Nat.min_eq_left (by omega), List.take_of_length_le (show l.length ≤ n by omega)]
    simp [val_append, val_zeros, List.drop_replicate]
  have hu2 : U64 (List.take 0 (List.replicate (max n n' + 1) 0) ++ List.take (min n (max n n' + 1)) l ++ List.drop (0 + min n (max n n' + 1)) (List.replicate (max n n' + 1) 0)) :=
    (((U64.replicate _).take _).append (hu.take _)).append ((U64.replicate _).drop _)
  generalize (List.take 0 (List.replicate (max n n' + 1) 0) ++ List.take (min n (max n n' + 1)) l ++ List.drop (0 + min n (max n n' + 1)) (List.replicate (max n n' + 1) 0)) = Z at *
  have hs2' := hs1'.upd hU (by omega)
  have hoff := off_lt hs2' (g := b1) (by omega)
  repeat' (first | refine TL.ev (ev_simple rfl) rfl ?_ | (refine TL.call rfl rfl ?_; first | (refine (addTo_ok w2 _ b1 0 (max n n' + 1) (max n n' + 1) _ _ _ [] Z l' hB2 rfl hl2 (Nat.le_refl _) hs2' hoff hu2 hu' (by omega) (by omega) (by rw [hv2]; exact h3)).mono ?_; rintro _ w3 ⟨rfl, ⟨D, hB3, hD, hDu, hv3⟩, hU3⟩; refine Back.mk ?_)) | refine T.seq ?_ | refine T.region ?_ | refine TL.nil ?_ | refine T.ret ?_ | refine G.next ?_)
  rw [List.nil_append] at hB3
  exact G.ret1 rfl rfl (RetB.mk (by omega) hB3 hD hDu (by rw [hv3, hv2]) ((hE.upd hU (by omega)).upd hU3 (by omega)))

set_option maxHeartbeats 1000000 in
theorem rows_ok (w : World) (B B' g : Nat) (A A' : Option Addr) (n c m c' : Nat) (l l' : List Nat) (hs : Sl u64v w.heap B A n c l) (hs' : Sl u64v w.heap B' A' m c' l') (hoff : Off g n A) (hoff' : Off g m A') (hu : U64 l) (hu' : U64 l') (hn : n ≤ 35184372088832) (hm : m ≤ 35184372088832)
    (hB : Bk u64v w.heap g 45 (List.replicate (n + m) 0)) :
    Cl Tryz.prog 90 #[.slice (some ⟨g, 0, none⟩) (n + m) (n + m), .slice A n c, .slice A' m c'] w (RetU w g fun w' => ∃ D, Bk u64v w'.heap g 45 D ∧ D.length = n + m ∧ U64 D ∧ val D = val l * val l') := by
  have hlen := hs.len
  have hlen' := hs'.len
  refine enter Tryz.func90 rfl rfl rfl ?_
  repeat' (first | refine TL.ev (ev_simple rfl) rfl ?_ | refine TL.ev (ev_len rfl) rfl ?_ | refine T.seq ?_ | refine T.region ?_ | refine TL.nil ?_ | refine T.block ?_ | refine G.next ?_)
  refine T.loop (α := Nat × List Nat) (fun x => [(0, .slice (some ⟨g, 0, none⟩) (n + m) (n + m)), (2, .slice A' m c'), (14, .slice A n c), (15, .int .i64 (n : Int)), (16, .int .i64 (x.1 : Int))])
    (fun x w' => x.1 ≤ n ∧ x.2.length = n + m ∧ U64 x.2 ∧ Upd g w w' ∧ Bk u64v w'.heap g 45 x.2 ∧ (∀ j, x.1 + m ≤ j → x.2.getD j 0 = 0) ∧ val x.2 = val (l.take x.1) * val l')
    (fun x => n - x.1) (0, List.replicate (n + m) 0) (by repeat (first | exact Sub.nil _ | refine Sub.cons rfl ?_ | refine Sub.cons' rfl (int_congr (by omega)) ?_)) ⟨Nat.zero_le _, by simp, U64.replicate _, upd_refl _ _, hB, fun j _ => by simp [List.getD, List.getElem?_replicate]; split <;> rfl, by simp [val, val_zeros]⟩ ?_
  rintro ⟨i, Z⟩ w2 ⟨hi, hZ, hZu, hE2, hB2, hzero, hv⟩
  dsimp only at hi hZ hZu hE2 hB2 hzero hv ⊢
  have k1 := sl_off hE2 hs hoff
  have x1 := hu.getD i
  repeat' (first | refine TL.ev (ev_simple rfl) rfl ?_ | refine TL.ev (ev_len rfl) rfl ?_ | (refine TL.cmpG rfl rfl rfl rfl (fun hc => ?_) (fun hc => ?_) <;> try (exfalso; omega)) | refine TL.ev (ev_arN rfl rfl rfl (by omega)) rfl ?_ | refine TL.ev (ev_indexN rfl rfl (by omega) (by first | exact Or.inr rfl | exact Sl.some (by assumption))) rfl ?_ | refine TL.ev (ev_loadU rfl (by assumption) (by omega)) rfl ?_ | refine T.seq ?_ | refine T.region ?_ | refine TL.nil ?_ | refine T.block ?_ | refine T.cond_t rfl ?_ | refine T.cond_f rfl ?_ | refine T.exit ?_ | refine T.skip ?_ | refine G.next ?_ | refine G.blockE ?_ | refine G.thenE ?_)
  · refine G.again (i + 1, Z) (by repeat (first | exact Sub.nil _ | refine Sub.cons rfl ?_ | refine Sub.cons' rfl (int_congr (by omega)) ?_)) ⟨by dsimp only; omega, hZ, hZu, hE2, hB2, fun j hj => hzero j (by dsimp only at hj; omega), ?_⟩ (by dsimp only; omega)
    dsimp only
    rw [val_take_succ, show l.getD i 0 = 0 by omega, Nat.mul_zero, Nat.add_zero]
    exact hv
  · refine T.loop (α := Nat × List Nat × Nat) (fun x => [(0, .slice (some ⟨g, 0, none⟩) (n + m) (n + m)), (2, .slice A' m c'), (14, .slice A n c), (15, .int .i64 (n : Int)), (16, .int .i64 (i : Int)), (6, .int .i64 (i : Int)), (7, .int .u64 (l.getD i 0 : Int)), (8, .int .u64 (x.2.2 : Int)), (23, .slice A' m c'), (24, .int .i64 (m : Int)), (25, .int .i64 (x.1 : Int))])
      (fun x w' => x.1 ≤ m ∧ x.2.1.length = n + m ∧ U64 x.2.1 ∧ x.2.2 < 18446744073709551616 ∧ Upd g w w' ∧ Bk u64v w'.heap g 45 x.2.1 ∧ (∀ j, i + m ≤ j → x.2.1.getD j 0 = 0) ∧ val x.2.1 + 18446744073709551616 ^ (i + x.1) * x.2.2 = val Z + 18446744073709551616 ^ i * (l.getD i 0 * val (l'.take x.1)))
      (fun x => m - x.1) (0, Z, 0) (by repeat (first | exact Sub.nil _ | refine Sub.cons rfl ?_ | refine Sub.cons' rfl (int_congr (by omega)) ?_)) ⟨Nat.zero_le _, hZ, hZu, by dsimp only; omega, hE2, hB2, hzero, by simp [val]⟩ ?_
    rintro ⟨j, Y, cy⟩ w3 ⟨hj, hY, hYu, hcy, hE3, hB3, hzero3, hv3⟩
    dsimp only at hj hY hYu hcy hE3 hB3 hzero3 hv3 ⊢
    have k2 := sl_off hE3 hs' hoff'
    have x2 := hu'.getD j
    have x3 := hYu.getD (i + j)
    have kY := hB3.slN (c := n + m) hY (Nat.le_refl _) hB3.lt
    have hbig := mul_hi_lt x1 x2 hcy x3
    repeat' (first | refine TL.ev (ev_simple rfl) rfl ?_ | refine TL.ev (ev_len rfl) rfl ?_ | (refine TL.cmpG rfl rfl rfl rfl (fun hc => ?_) (fun hc => ?_) <;> try (exfalso; omega)) | refine TL.ev (ev_arN rfl rfl rfl (by omega)) rfl ?_ | refine TL.ev (ev_indexN rfl rfl (by omega) (by first | exact Or.inr rfl | exact Sl.some (by assumption))) rfl ?_ | refine TL.ev (ev_loadU rfl (by assumption) (by omega)) rfl ?_ | refine TL.ev (ev_arU rfl rfl rfl (by first | exact True.intro | omega)) rfl ?_ | (refine TL.callP rfl rfl (mul64_ok _ x1 x2) (fun _ => ?_)) | (refine TL.ev (ev_callx rfl (fun w => add64_run w (by omega))) rfl ?_) | (refine TL.storeU rfl rfl hB3 (by omega) (fun w4 hB4 hU => ?_)) | refine T.seq ?_ | refine T.region ?_ | refine TL.nil ?_ | refine T.block ?_ | refine T.cond_t rfl ?_ | refine T.cond_f rfl ?_ | refine T.exit ?_ | refine T.skip ?_ | refine G.next ?_ | refine G.blockN ?_ | refine G.blockE ?_ | refine G.thenE ?_)
    · have e := mac_step (l.getD i 0 * l'.getD j 0) cy (Y.getD (i + j) 0) hbig
      have hset := val_set Y (i + j) ((Y.getD (i + j) 0 + (l.getD i 0 * l'.getD j 0 % 18446744073709551616 + cy + 0) % 18446744073709551616 + 0) % 18446744073709551616) (by omega)
      refine G.again (j + 1, _, _) (by repeat (first | exact Sub.nil _ | refine Sub.cons rfl ?_ | refine Sub.cons' rfl (int_congr (by omega)) ?_)) ⟨by dsimp only; omega, ?_, ?_, ?_, upd_trans hE3 (upd_undrewN hU), hB4, ?_, ?_⟩ (by dsimp only; omega)
      · dsimp only; rw [List.length_set]; exact hY
      · exact hYu.set _ _ (Nat.mod_lt _ (by omega))
      · exact Nat.mod_lt _ (by omega)
      · intro q hq
        dsimp only
        rw [getD_set _ _ _ _ (by omega), if_neg (by omega)]
        exact hzero3 q hq
      · dsimp only
        rw [val_take_succ, show i + (j + 1) = i + j + 1 by omega, Nat.pow_succ, Nat.pow_add, Nat.mul_assoc (18446744073709551616 ^ i)]
        rw [Nat.pow_add] at hset hv3
        exact rows_step hset hv3 e
    · obtain rfl : j = m := by omega
      have hset := val_set Y (i + j) cy (by omega)
      rw [hzero3 (i + j) (by omega), Nat.mul_zero, Nat.add_zero] at hset
      have h2 : val (l'.take j) = val l' := by rw [List.take_of_length_le (by omega)]
      refine G.again (i + 1, _) (by repeat (first | exact Sub.nil _ | refine Sub.cons rfl ?_ | refine Sub.cons' rfl (int_congr (by omega)) ?_)) ⟨by dsimp only; omega, ?_, ?_, upd_trans hE3 hU, hB4, ?_, ?_⟩ (by dsimp only; omega)
      · dsimp only; rw [List.length_set]; exact hY
      · exact hYu.set _ _ hcy
      · intro q hq
        dsimp only at hq ⊢
        rw [getD_set _ _ _ _ (by omega), if_neg (by omega)]
        exact hzero3 q (by omega)
      · dsimp only
        rw [hset, hv3, h2, hv, val_take_succ, Nat.add_mul, Nat.mul_assoc]
  · obtain rfl : i = n := by omega
    have h2 : val (l.take i) = val l := by rw [List.take_of_length_le (by omega)]
    exact G.end0 rfl ⟨rfl, ⟨Z, hB2, hZ, hZu, by rw [hv, h2]⟩, hE2⟩
end Go.Proofs.YthlbihbchobllaaGreat

namespace Go.Proofs.YthlbihbchobllaaGreat
open Go Go.Eng Go.Proofs Go.NatM

/-- block g has turned; there may be new blocks -/
structure Turn (g : Nat) (w w' : World) : Prop where
  os : w'.os = w.os
  tape : w'.tape = w.tape
  output : w'.output = w.output
  size : w.heap.size ≤ w'.heap.size
  block : ∀ k, k < w.heap.size → k ≠ g → w'.heap[k]? = w.heap[k]?
theorem Turn.refl (g : Nat) (w : World) : Turn g w w := ⟨rfl, rfl, rfl, Nat.le_refl _, fun _ _ _ => rfl⟩
theorem Turn.ext {g : Nat} {a b c : World} (h : Turn g a b) (k : Ext b c) : Turn g a c :=
  ⟨k.os.trans h.os, k.tape.trans h.tape, k.output.trans h.output, Nat.le_trans h.size k.size, fun i hi hg => (k.block i (Nat.lt_of_lt_of_le hi h.size)).trans (h.block i hi hg)⟩
theorem Turn.drewN {g : Nat} {a b : World} (h : Turn g a b) (n : Nat) : Turn g a (b.drewN n) := h.ext (ext_drewN b n)
theorem Turn.upd {g : Nat} {a b c : World} (h : Turn g a b) (k : Upd g b c) : Turn g a c :=
  ⟨k.os.trans h.os, k.tape.trans h.tape, k.output.trans h.output, by rw [k.size]; exact h.size, fun i hi hg => (k.block i hg).trans (h.block i hi hg)⟩
theorem Turn.trans {g : Nat} {a b c : World} (h : Turn g a b) (k : Turn g b c) : Turn g a c :=
  ⟨k.os.trans h.os, k.tape.trans h.tape, k.output.trans h.output, Nat.le_trans h.size k.size, fun i hi hg => (k.block i (Nat.lt_of_lt_of_le hi h.size) hg).trans (h.block i hi hg)⟩
theorem Ext.turn {g : Nat} {w a b : World} (h : Ext w a) (k : Turn g a b) (hg : w.heap.size ≤ g) : Ext w b :=
  ⟨k.os.trans h.os, k.tape.trans h.tape, k.output.trans h.output, Nat.le_trans h.size k.size, fun i hi => (k.block i (Nat.lt_of_lt_of_le hi h.size) (by omega)).trans (h.block i hi)⟩
theorem Upd.turn {g : Nat} {a b : World} (h : Upd g a b) : Turn g a b := (Turn.refl g a).upd h
theorem Ext.toTurn {a b : World} (g : Nat) (h : Ext a b) : Turn g a b := (Turn.refl g a).ext h
theorem off_ne {g b o n : Nat} (h : b ≠ g) : Off g n (some ⟨b, o, none⟩) := .inr fun a ha => by cases ha; exact h
theorem cutA_some {g o m k : Nat} (h : k ≠ m) : cutA (some ⟨g, o, none⟩) m k = some ⟨g, o + k, none⟩ := by
  unfold cutA; rw [if_neg (fun e => h e.symm)]; simp [elemA, add_mk]
theorem bk_trim {H : Array Obj} {b B n : Nat} {t : TypeId} {D : List Nat} (h : Bk u64v H b t D) (hD : D.length = n) (hb : b < B) : Sl u64v H B (some ⟨b, 0, none⟩) (sz D) (sz D) (D.take (sz D)) :=
  h.sl (sz_le D) (Nat.le_refl _) hb
/-- nothing is answered; block g turns, and there may be new ones -/
def RetT (w : World) (g : Nat) (K : World → Prop) (e : Ending) (w' : World) : Prop := e = .returned (.tuple #[]) ∧ K w' ∧ Turn g w w'

theorem kara {a0 a1 b0 b1 W : Nat} : (a0 + a1) * (b0 + b1) - a0 * b0 - a1 * b1 = a0 * b1 + a1 * b0 := by
  rw [Nat.add_mul, Nat.mul_add, Nat.mul_add]; omega
theorem kara_le {a0 a1 b0 b1 : Nat} : a0 * b0 + a1 * b1 ≤ (a0 + a1) * (b0 + b1) := by
  rw [Nat.add_mul, Nat.mul_add, Nat.mul_add]; omega
theorem kara_all {a0 a1 b0 b1 p : Nat} : (a0 + p * a1) * (b0 + p * b1) = a0 * b0 + p * (a0 * b1 + a1 * b0) + p * p * (a1 * b1) := by
  rw [Nat.add_mul, Nat.mul_add, Nat.mul_add, Nat.mul_add p, Nat.mul_assoc p a1 b0, Nat.mul_left_comm a0 p b1, Nat.mul_mul_mul_comm p a1 p b1]
  omega
theorem sz_le_of {l : List Nat} (h : U64 l) {k : Nat} (hk : val l < 18446744073709551616 ^ k) : sz l ≤ k := by
  rw [← dig_length h]; exact dig_length_le hk

def ProdSpec (k : Nat) : Prop := ∀ (w : World) (B B' : Nat) (A A' : Option Addr) (n c n' c' : Nat) (l l' : List Nat), Sl u64v w.heap B A n c l → Sl u64v w.heap B' A' n' c' l' → U64 l → U64 l' → n + n' ≤ 35184372088832 → n + n' < k →
  Cl Tryz.prog 81 #[.slice A n c, .slice A' n' c'] w (RetB w (sz l + sz l') (val l * val l'))

set_option maxHeartbeats 2000000 in
theorem halves_ok (w : World) (B B' g : Nat) (A A' : Option Addr) (n m : Nat) (l l' : List Nat) (IH : ProdSpec (n + m)) (hs : Sl u64v w.heap B A n n l) (hs' : Sl u64v w.heap B' A' m m l') (hoff : Off g n A) (hoff' : Off g m A') (hu : U64 l) (hu' : U64 l')
    (hnm : n + m ≤ 35184372088832) (h24 : 24 ≤ m) (hmn : m ≤ n) (hn2 : n < 2 * m) (hB : Bk u64v w.heap g 45 (List.replicate (n + m) 0)) :
    Cl Tryz.prog 92 #[.slice (some ⟨g, 0, none⟩) (n + m) (n + m), .slice A n n, .slice A' m m] w (RetT w g fun w' => ∃ D, Bk u64v w'.heap g 45 D ∧ D.length = n + m ∧ U64 D ∧ val D = val l * val l') := by
  have hlen := hs.len
  have hlen' := hs'.len
  replace hs := hs.size
  replace hs' := hs'.size
  have hg := hB.lt
  refine enter Tryz.func92 rfl rfl rfl ?_
  repeat' (first | refine TL.ev (ev_simple rfl) rfl ?_ | refine TL.ev (ev_len rfl) rfl ?_ | refine TL.ev (ev_arN rfl rfl rfl (by omega)) rfl ?_ | refine TL.ev (ev_sl_l rfl rfl (by omega) (by omega)) rfl ?_ | refine TL.ev (ev_sl_hm rfl rfl rfl (by omega) (by omega)) rfl ?_ | refine T.seq ?_ | refine T.region ?_ | refine TL.nil ?_ | refine G.next ?_ | refine T.regionQ mixed (by kernel_rfl) ?_ | refine TL.nilQ (fun _ => ?_))
  have hh1 : n ≤ 2 * ((n + 1) / 2) := by omega
  have hh2 : 2 * ((n + 1) / 2) ≤ n + 1 := by omega
  generalize (n + 1) / 2 = h at *
  have ha0 := hs.take (k := h) (m := h) (by omega) (Nat.le_refl _)
  have ha1 := hs.dropC (k := h) (m := n) (m' := n - h) (by omega) (Nat.le_refl _) (Nat.le_refl _)
  have hb0 := hs'.take (k := h) (m := h) (by omega) (Nat.le_refl _)
  have hb1 := hs'.dropC (k := h) (m := m) (m' := m - h) (by omega) (Nat.le_refl _) (Nat.le_refl _)
  have va := val_split l h
  have vb := val_split l' h
  have ua0 := hu.take h
  have ua1 := hu.drop h
  have ub0 := hu'.take h
  have ub1 := hu'.drop h
  have za0 := sz_le (l.take h)
  have za1 := sz_le (l.drop h)
  have zb0 := sz_le (l'.take h)
  have zb1 := sz_le (l'.drop h)
  rw [ha0.len] at za0
  rw [ha1.len] at za1
  rw [hb0.len] at zb0
  rw [hb1.len] at zb1
  -- low
  refine TL.call rfl rfl ((IH _ _ _ _ _ _ _ _ _ _ _ (by exact ha0) (by exact hb0) ua0 ub0 (by omega) (by omega)).mono ?_)
  rintro _ w1 ⟨b1, D1, rfl, k1, B1, L1, u1, v1, E1⟩
  refine Back.mk ?_
  simp only [World.heap_drewN] at k1
  have T1 : Ext w w1 := ((ext_drewN _ _).trans (ext_drewN _ _)).trans E1
  have S1 := bk_trim (B := w1.heap.size) B1 L1 B1.lt
  repeat' (first | refine TL.ev (ev_simple rfl) rfl ?_ | (refine TL.callP rfl rfl (trim_ok _ _ _ _ _ _ (B1.slN L1 (Nat.le_refl _) B1.lt) (by omega)) (fun q1 => ?_)) | refine T.seq ?_ | refine T.region ?_ | refine TL.nil ?_ | refine G.next ?_)
  replace T1 := T1.drewN q1
  -- high
  refine TL.call rfl rfl ((IH _ _ _ _ _ _ _ _ _ _ _ (by exact Sl.ext T1 ha1) (by exact Sl.ext T1 hb1) ua1 ub1 (by omega) (by omega)).mono ?_)
  rintro _ w2 ⟨b2, D2, rfl, k2, B2, L2, u2, v2, E2⟩
  refine Back.mk ?_
  simp only [World.heap_drewN] at k2
  have E12 : Ext w1 w2 := (ext_drewN _ _).trans E2
  have T2 : Ext w w2 := T1.trans E2
  have S2 := bk_trim (B := w2.heap.size) B2 L2 B2.lt
  replace S1 := S1.ext E12
  repeat' (first | refine TL.ev (ev_simple rfl) rfl ?_ | (refine TL.callP rfl rfl (trim_ok _ _ _ _ _ _ (B2.slN L2 (Nat.le_refl _) B2.lt) (by omega)) (fun q2 => ?_)) | refine T.seq ?_ | refine T.region ?_ | refine TL.nil ?_ | refine G.next ?_)
  replace T2 := T2.drewN q2
  -- the sums
  refine TL.call rfl rfl ((sum_ok _ _ _ _ _ _ _ _ _ _ _ (by exact Sl.ext T2 ha0) (by exact Sl.ext T2 ha1) ua0 ua1 (by omega) (by omega)).mono ?_)
  rintro _ w3 ⟨b3, D3, rfl, k3, B3, L3, u3, v3, E3⟩
  refine Back.mk ?_
  simp only [World.heap_drewN] at k3
  have E23 : Ext w2 w3 := (ext_drewN _ _).trans E3
  have T3 : Ext w w3 := T2.trans E3
  repeat' (first | refine TL.ev (ev_simple rfl) rfl ?_)
  refine TL.call rfl rfl ((sum_ok _ _ _ _ _ _ _ _ _ _ _ (Sl.ext T3 hb0) (Sl.ext T3 hb1) ub0 ub1 (by omega) (by omega)).mono ?_)
  rintro _ w4 ⟨b4, D4, rfl, k4, B4, L4, u4, v4, E4⟩
  refine Back.mk ?_
  have T4 : Ext w w4 := T3.trans E4
  replace B3 := B3.ext E4
  have z3 := sz_le D3
  have z4 := sz_le D4
  skip
  refine TL.call rfl rfl ((IH _ _ _ _ _ _ _ _ _ _ _ (B3.slN L3 (Nat.le_refl _) B3.lt) (B4.slN L4 (Nat.le_refl _) B4.lt) u3 u4 (by omega) (by omega)).mono ?_)
  rintro _ w5 ⟨b5, D5, rfl, k5, B5, L5, u5, v5, E5⟩
  refine Back.mk ?_
  have T5 : Ext w w5 := T4.trans E5
  have E25 : Ext w2 w5 := (E23.trans E4).trans E5
  replace S1 := S1.ext E25
  replace S2 := S2.ext E25
  have hb1s := B1.lt
  have hb2s := B2.lt
  have z1 := E12.size
  have z2 := E23.size
  have z3' := E4.size
  have z0 := T1.size
  simp only [World.heap_drewN] at z0
  have vl1 := val_sz D1
  have vl2 := val_sz D2
  have ul1 := u1.take (sz D1)
  have ul2 := u2.take (sz D2)
  have s1 := sz_le_of u1 (k := sz (l.take h) + sz (l'.take h)) (by rw [← L1]; exact val_lt u1)
  have s2 := sz_le_of u2 (k := sz (l.drop h) + sz (l'.drop h)) (by rw [← L2]; exact val_lt u2)
  rw [v3, v4] at v5
  have hk := kara_le (a0 := val (l.take h)) (a1 := val (l.drop h)) (b0 := val (l'.take h)) (b1 := val (l'.drop h))
  have le1 : val D1 ≤ val D5 := by rw [v1, v5]; omega
  have hs5 : sz D1 ≤ sz D3 + sz D4 := by
    refine sz_le_of u1 (Nat.lt_of_le_of_lt le1 ?_)
    rw [← L5]; exact val_lt u5
  repeat' (first | refine TL.ev (ev_simple rfl) rfl ?_ | refine T.seq ?_ | refine T.region ?_ | refine TL.nil ?_ | refine G.next ?_)
  refine TL.call rfl rfl ((subFrom_ok _ _ b5 _ _ _ _ _ _ _ B5 L5 (Nat.le_refl _) S1 (off_ne (by omega)) u5 ul1 (by omega) (by omega) (by rw [vl1]; exact le1)).mono ?_)
  rintro _ w6 ⟨rfl, ⟨D6, B6, L6, u6, v6⟩, U6⟩
  refine Back.mk ?_
  have T6 : Ext w w6 := T5.upd U6 (by omega)
  replace S1 := sl_off U6 S1 (off_ne (by omega))
  replace S2 := sl_off U6 S2 (off_ne (by omega))
  rw [vl1] at v6
  have le2 : val D2 ≤ val D6 := by rw [v2, v6, v5, v1]; omega
  have hs6 : sz D2 ≤ sz D3 + sz D4 := by
    refine sz_le_of u2 (Nat.lt_of_le_of_lt le2 ?_)
    rw [← L6]; exact val_lt u6
  repeat' (first | refine TL.ev (ev_simple rfl) rfl ?_ | refine T.seq ?_ | refine T.region ?_ | refine TL.nil ?_ | refine G.next ?_)
  refine TL.call rfl rfl ((subFrom_ok _ _ b5 _ _ _ _ _ _ _ B6 L6 (Nat.le_refl _) S2 (off_ne (by omega)) u6 ul2 (by omega) (by omega) (by rw [vl2]; exact le2)).mono ?_)
  rintro _ w7 ⟨rfl, ⟨D7, B7, L7, u7, v7⟩, U7⟩
  refine Back.mk ?_
  have T7 : Ext w w7 := T6.upd U7 (by omega)
  have hB7 := hB.ext T7
  replace S1 := sl_off U7 S1 (off_ne (by omega))
  replace S2 := sl_off U7 S2 (off_ne (by omega))
  rw [vl2, v6, v5, v1, v2, kara (W := 0)] at v7
  have hl1 : (List.take (sz D1) D1).length = sz D1 := S1.len
  have hl2 : (List.take (sz D2) D2).length = sz D2 := S2.len
  repeat' (first | refine TL.ev (ev_simple rfl) rfl ?_ | refine TL.ev (ev_arN rfl rfl rfl (by omega)) rfl ?_ | refine TL.ev (ev_sl_l rfl rfl (by omega) (by omega)) rfl ?_ | (refine TL.copy (f := u64v) (fun _ => rfl) rfl rfl rfl hB7 S1 (by simp) (fun w8 hB8 U8 => ?_)) | refine T.seq ?_ | refine T.region ?_ | refine TL.nil ?_ | refine G.next ?_)
  have hZl : (List.take 0 (List.replicate (n + m) 0) ++ List.take (min (sz D1) (n + m)) (List.take (sz D1) D1) ++ List.drop (0 + min (sz D1) (n + m)) (List.replicate (n + m) 0)).length = n + m := by simp; omega
  have hZv : val (List.take 0 (List.replicate (n + m) 0) ++ List.take (min (sz D1) (n + m)) (List.take (sz D1) D1) ++ List.drop (0 + min (sz D1) (n + m)) (List.replicate (n + m) 0)) = val D1 := by
    rw [Nat.min_eq_left (by omega), List.take_of_length_le (show (List.take (sz D1) D1).length ≤ sz D1 by omega)]
    simp [val_append, val_zeros, List.drop_replicate, vl1]
  have hZu : U64 (List.take 0 (List.replicate (n + m) 0) ++ List.take (min (sz D1) (n + m)) (List.take (sz D1) D1) ++ List.drop (0 + min (sz D1) (n + m)) (List.replicate (n + m) 0)) :=
    (((U64.replicate _).take _).append (ul1.take _)).append ((U64.replicate _).drop _)
  generalize (List.take 0 (List.replicate (n + m) 0) ++ List.take (min (sz D1) (n + m)) (List.take (sz D1) D1) ++ List.drop (0 + min (sz D1) (n + m)) (List.replicate (n + m) 0)) = Z at *
  have T8 : Turn g w w8 := (Ext.toTurn g T7).upd U8
  replace S2 := sl_off U8 S2 (off_ne (by omega))
  have B78 := B7.upd U8 (by omega)
  have d1 := List.take_append_drop (2 * h) Z
  have dv := val_split Z (2 * h)
  have hlo : val Z < 18446744073709551616 ^ (2 * h) := by
    rw [hZv, v1, Nat.two_mul, Nat.pow_add]
    have p1 := hu.take_lt h
    have p2 := hu'.take_lt h
    exact Nat.mul_lt_mul'' p1 p2
  have hz2 : val (Z.drop (2 * h)) = 0 := by
    rcases Nat.eq_zero_or_pos (val (Z.drop (2 * h))) with e | e
    · exact e
    · have := Nat.le_mul_of_pos_right (18446744073709551616 ^ (2 * h)) e
      omega
  have hhi : val D2 < 18446744073709551616 ^ (n + m - 2 * h) := by
    rw [v2, show n + m - 2 * h = (n - h) + (m - h) by omega, Nat.pow_add]
    have p1 := val_lt ua1
    have p2 := val_lt ub1
    rw [ha1.len] at p1
    rw [hb1.len] at p2
    exact Nat.mul_lt_mul'' p1 p2
  have hs2 := sz_le_of u2 hhi
  skip
  rw [cutA_some (by omega), Nat.zero_add]
  refine TL.call rfl rfl ((addTo_ok w8 _ g (2 * h) (n + m - 2 * h) (n + m - 2 * h) _ _ _ (Z.take (2 * h)) (Z.drop (2 * h)) _ (by rw [d1]; exact hB8) (by simp; omega) (by simp; omega) (Nat.le_refl _) S2 (off_ne (by omega)) (hZu.drop _) ul2 (by omega) (by omega) (by rw [hz2, vl2]; omega)).mono ?_)
  rintro _ w9 ⟨rfl, ⟨Y, B9, L9, u9, v9⟩, U9⟩
  refine Back.mk ?_
  have T9 : Turn g w w9 := T8.upd U9
  have B79 : Bk u64v w9.heap b5 45 D7 := B78.upd U9 (by omega)
  have lX : (List.take (2 * h) Z ++ Y).length = n + m := by simp; omega
  have vX : val (List.take (2 * h) Z ++ Y) = val D1 + 18446744073709551616 ^ (2 * h) * val D2 := by
    rw [val_append, List.length_take, Nat.min_eq_left (by omega), v9, hz2, vl2, Nat.zero_add, ← hZv, dv, hz2, Nat.mul_zero, Nat.add_zero]
  have uX : U64 (List.take (2 * h) Z ++ Y) := (hZu.take _).append u9
  generalize List.take (2 * h) Z ++ Y = X at *
  have e1 := List.take_append_drop h X
  have ev := val_split X h
  have hall : val X + 18446744073709551616 ^ h * val D7 = val l * val l' := by
    rw [vX, v7, va, vb, kara_all, v1, v2, Nat.two_mul, Nat.pow_add]; omega
  have hlt : val (X.drop h) + val D7 < 18446744073709551616 ^ (n + m - h) := by
    have p1 := val_lt hu
    have p2 := val_lt hu'
    rw [hlen] at p1
    rw [hlen'] at p2
    have p3 := Nat.mul_lt_mul'' p1 p2
    rw [← Nat.pow_add, show n + m = h + (n + m - h) by omega, Nat.pow_add, ← hall, ev] at p3
    refine Nat.lt_of_mul_lt_mul_left (a := 18446744073709551616 ^ h) ?_
    rw [Nat.mul_add]
    omega
  have hs7 := sz_le_of u7 (k := n + m - h) (by omega)
  have S7 := B79.sl (sz_le D7) (Nat.le_refl _) B79.lt
  have vl7 := val_sz D7
  have hne : b5 ≠ g := by omega
  have hn7 : sz D3 + sz D4 < 9223372036854775808 := by omega
  clear ha0 ha1 hb0 hb1 va vb ua0 ua1 ub0 ub1 za0 za1 zb0 zb1 B1 L1 u1 v1 E1 T1 B2 L2 u2 v2 E2 T2 E12 B3 L3 u3 v3 E3 E23 T3 B4 L4 u4 v4 E4 T4 z3 z4 B5 L5 u5 v5 E5 T5 E25 z1 z2 z3' z0 vl1 vl2 ul1 ul2 s1 s2 hk le1 hs5 U6 B6 L6 u6 v6 T6 le2 hs6 U7 B7 v7 T7 hB7 S1 hl1 hl2 U8 hB8 hZl hZv hZu T8 S2 B78 d1 dv hlo hz2 hhi hs2 U9 L9 u9 v9 vX hb1s hb2s IH hs hs' hB hoff hoff' hu hu' hlen hlen'
  repeat' (first | refine TM.f rfl (fun _ => ev_simple rfl) rfl ?_ | refine TM.f rfl (fun _ => ev_sl_l rfl rfl (by omega) (by omega)) rfl ?_ | refine T.regionM [(0, 0), (1, 0), (2, 0), (3, 0), (4, 2), (5, 2)] mixed (by kernel_rfl) ?_ | (refine TL.callP rfl rfl (trim_ok _ _ _ _ _ _ (B79.slN L7 (Nat.le_refl _) B79.lt) hn7) (fun q3 => ?_)) | refine TL.nil ?_ | refine G.next ?_ | refine G.only ?_ | refine G.mixed ?_ | refine TM.e rfl ?_)
  rw [cutA_some (by omega), Nat.zero_add]
  refine TL.call rfl rfl ((addTo_ok _ _ g h (n + m - h) (n + m - h) _ _ _ (X.take h) (X.drop h) _ (by rw [e1]; exact B9) (by simp; omega) (by simp; omega) (Nat.le_refl _) (by exact S7) (off_ne hne) (uX.drop _) (u7.take _) (by omega) (by omega) (by rw [vl7]; exact hlt)).mono ?_)
  rintro _ w10 ⟨rfl, ⟨F, B10, L10, u10, v10⟩, U10⟩
  refine Back.mk ?_
  repeat' (first | refine TL.nil ?_ | refine G.only ?_ | refine G.mixed ?_ | refine TM.nil ?_)
  refine G.end0 rfl ⟨rfl, ⟨_, B10, ?_, (uX.take _).append u10, ?_⟩, ?_⟩
  · simp; omega
  · rw [val_append, List.length_take, Nat.min_eq_left (by omega), v10, vl7, ← hall, ev, Nat.mul_add]; omega
  · exact ((T9.drewN _).drewN _).upd U10
end Go.Proofs.YthlbihbchobllaaGreat

namespace Go.Proofs.YthlbihbchobllaaGreat
open Go Go.Eng Go.Proofs Go.NatM

theorem ProdSpec.mono {j k : Nat} (h : ProdSpec k) (hj : j ≤ k) : ProdSpec j := fun w B B' A A' n c n' c' l l' h1 h2 h3 h4 h5 h6 => h w B B' A A' n c n' c' l l' h1 h2 h3 h4 h5 (by omega)
theorem sz_take (l : List Nat) : sz (l.take (sz l)) = sz l := by
  refine sz_eq _ _ (by rw [List.length_take]; have := sz_le l; omega) (fun j hj => getD_ge (by rw [List.length_take]; omega)) ?_
  rcases sz_top l with h | h
  · exact .inl h
  · rcases Nat.eq_zero_or_pos (sz l) with h0 | h0
    · exact .inl h0
    · refine .inr ?_
      have e : (l.take (sz l)).getD (sz l - 1) 0 = l.getD (sz l - 1) 0 := by simp [List.getD, List.getElem?_take, show sz l - 1 < sz l by omega]
      rwa [e]

set_option maxHeartbeats 2000000 in
theorem prod_step (k : Nat) (IH : ProdSpec k) : ProdSpec (k + 1) := by
  intro w B B' A A' n c n' c' l l' hs hs' hu hu' hnn hk
  have hlen := hs.len
  have hlen' := hs'.len
  replace hs := hs.size
  replace hs' := hs'.size
  have z1 := sz_le l
  have z2 := sz_le l'
  have g1 := hs.take (k := sz l) (m := sz l) (by omega) (Nat.le_refl _)
  have g2 := hs'.take (k := sz l') (m := sz l') (by omega) (Nat.le_refl _)
  have v1 := val_sz l
  have v2 := val_sz l'
  refine enter Tryz.func81 rfl rfl rfl ?_
  skip
  refine T.seq (T.region ?_)
  repeat' (first | refine TL.ev (ev_simple rfl) rfl ?_ | refine TL.nil ?_ | refine G.next ?_)
  refine T.seq (T.region ?_)
  repeat' (first | refine TL.ev (ev_simple rfl) rfl ?_ | (refine TL.callP rfl rfl (trim_ok _ _ _ _ _ _ hs (by omega)) (fun q1 => ?_)) | (refine TL.callP rfl rfl (trim_ok _ _ _ _ _ _ hs' (by omega)) (fun q2 => ?_)) | refine TL.nil ?_ | refine G.next ?_)
  refine T.cut (α := SA Nat × SA Nat) (fun x => [(0, .slice x.1.A x.1.n x.1.n), (1, .slice x.2.A x.2.n x.2.n)]) (fun x w' => Qt w w' ∧ Sl u64v w.heap w.heap.size x.1.A x.1.n x.1.n x.1.l ∧ Sl u64v w.heap w.heap.size x.2.A x.2.n x.2.n x.2.l ∧ U64 x.1.l ∧ U64 x.2.l ∧
    x.1.n + x.2.n = sz l + sz l' ∧ x.2.n ≤ x.1.n ∧ sz x.1.l = x.1.n ∧ sz x.2.l = x.2.n ∧ val x.1.l * val x.2.l = val l * val l') ?_ ?_
  · repeat' (first | refine TL.ev (ev_simple rfl) rfl ?_ | refine TL.ev (ev_len rfl) rfl ?_ | (refine TL.cmpG rfl rfl rfl rfl (fun hc => ?_) (fun hc => ?_) <;> try (exfalso; omega)) | refine T.seq ?_ | refine T.region ?_ | refine TL.nil ?_ | refine T.cond_t rfl ?_ | refine T.cond_f rfl ?_ | refine T.skip ?_ | refine G.next ?_)
    · exact G.cut (⟨A', sz l', c', l'.take (sz l')⟩, ⟨A, sz l, c, l.take (sz l)⟩) (by repeat (first | exact Sub.nil _ | refine Sub.cons rfl ?_ | refine Sub.cons' rfl (int_congr (by omega)) ?_)) ⟨((Qt.refl w).drewN _).drewN _, g2, g1, hu'.take _, hu.take _, Nat.add_comm _ _, by dsimp only; omega, sz_take _, sz_take _, by dsimp only; rw [v1, v2, Nat.mul_comm]⟩
    · exact G.cut (⟨A, sz l, c, l.take (sz l)⟩, ⟨A', sz l', c', l'.take (sz l')⟩) (by repeat (first | exact Sub.nil _ | refine Sub.cons rfl ?_ | refine Sub.cons' rfl (int_congr (by omega)) ?_)) ⟨((Qt.refl w).drewN _).drewN _, g1, g2, hu.take _, hu'.take _, rfl, by dsimp only; omega, sz_take _, sz_take _, by dsimp only; rw [v1, v2]⟩
  rintro ⟨⟨A1, n1, c1, l1⟩, ⟨A2, n2, c2, l2⟩⟩ w0 ⟨⟨q, rfl⟩, s1, s2, u1, u2, hsum, hle, hz1, hz2, hval⟩
  dsimp only at s1 s2 u1 u2 hsum hle hz1 hz2 hval ⊢
  have hl1 := s1.len
  have hl2 := s2.len
  have hsum' : n1 + n2 ≤ n + n' := by omega
  clear hs hs' g1 g2 v1 v2 hlen hlen' hu hu'
  rw [← hsum, ← hval]
  clear hval
  repeat' (first | refine TL.ev (ev_simple rfl) rfl ?_ | refine TL.ev (ev_len rfl) rfl ?_ | (refine TL.cmpG rfl rfl rfl rfl (fun hc => ?_) (fun hc => ?_) <;> try (exfalso; omega)) | refine TL.ev (ev_arN rfl rfl rfl (by omega)) rfl ?_ | (refine TL.makeU rfl rfl rfl (by omega) (by omega) (fun w1 b1 eb hB hE hz => ?_); simp only [World.heap_drewN] at eb hz; have hE1 : Ext w w1 := (ext_drewN _ _).trans hE; clear hE; have t1 := s1.ext hE1; have t2 := s2.ext hE1; have hg := off_lt t1 (g := b1) (by omega); have hg' := off_lt t2 (g := b1) (by omega)) | refine T.seq ?_ | refine T.region ?_ | refine TL.nil ?_ | refine T.block ?_ | refine T.cond_t rfl ?_ | refine T.cond_f rfl ?_ | refine G.next ?_)
  · refine TL.call rfl rfl ((rows_ok w1 _ _ b1 _ _ _ _ _ _ l1 l2 t1 t2 hg hg' u1 u2 (by omega) (by omega) hB).mono ?_)
    rintro _ w2 ⟨rfl, ⟨D, B2, L2, U2, V2⟩, E2⟩
    refine Back.mk ?_
    repeat' (first | refine TL.ev (ev_simple rfl) rfl ?_ | refine T.seq ?_ | refine T.region ?_ | refine TL.nil ?_ | refine T.ret ?_ | refine G.next ?_ | refine G.blockN ?_)
    exact G.ret1 rfl rfl (RetB.mk (by omega) B2 L2 U2 V2 (hE1.upd E2 (by omega)))
  · have h24 : 24 ≤ n2 := by omega
    refine T.loop (α := Nat × List Nat) (fun x => [(5, .slice (some ⟨b1, 0, none⟩) (n1 + n2) (n1 + n2)), (0, .slice A1 n1 n1), (1, .slice A2 n2 n2), (6, .int .i64 (x.1 : Int))])
      (fun x w' => x.1 < n1 + n2 ∧ x.2.length = n1 + n2 ∧ U64 x.2 ∧ Ext w w' ∧ Bk u64v w'.heap b1 45 x.2 ∧ val x.2 = val (l1.take x.1) * val l2)
      (fun x => n1 + n2 - x.1) (0, List.replicate (n1 + n2) 0) (by repeat (first | exact Sub.nil _ | refine Sub.cons rfl ?_ | refine Sub.cons' rfl (int_congr (by omega)) ?_)) ⟨by dsimp only; omega, by simp, U64.replicate _, hE1, hB, by simp [val, val_zeros]⟩ ?_
    rintro ⟨i, Z⟩ w2 ⟨hi, hZ, hZu, hE2, hB2, hv⟩
    dsimp only at hi hZ hZu hE2 hB2 hv ⊢
    clear hB t1 t2 hE1
    have t1 := s1.ext hE2
    have t2 := s2.ext hE2
    repeat' (first | refine TL.ev (ev_simple rfl) rfl ?_ | refine TL.ev (ev_len rfl) rfl ?_ | (refine TL.cmpG rfl rfl rfl rfl (fun hc => ?_) (fun hc => ?_) <;> try (exfalso; omega)) | refine TL.ev (ev_arN rfl rfl rfl (by omega)) rfl ?_ | refine TM.f rfl (fun _ => ev_simple rfl) rfl ?_ | refine TM.f rfl (fun _ => ev_sl_l rfl rfl (by omega) (by omega)) rfl ?_ | refine TM.f rfl (fun _ => ev_sl_lhm rfl rfl rfl rfl (by omega) (by omega) (by omega)) rfl ?_ | refine T.regionM [(0, 0), (1, 0), (2, 0), (3, 0), (4, 0), (5, 0), (6, 0), (7, 0), (8, 0), (9, 2), (10, 2), (11, 2)] mixed (by kernel_rfl) ?_ | (refine TL.ev (ev_min2 rfl rfl) rfl ?_) | refine T.seq ?_ | refine T.region ?_ | refine TL.nil ?_ | refine T.block ?_ | refine T.cond_t rfl ?_ | refine T.cond_f rfl ?_ | refine T.exit ?_ | refine T.ret ?_ | refine T.skip ?_ | refine G.next ?_ | refine G.blockN ?_ | refine G.blockE ?_ | refine G.thenE ?_ | refine TM.e rfl ?_)
    · have f1 : i < min (i + n2) n1 := by omega
      have f2 : min (i + n2) n1 ≤ n1 := Nat.min_le_right _ _
      have f3 : min (i + n2) n1 ≤ i + n2 := Nat.min_le_left _ _
      have f4 : i + n2 = min (i + n2) n1 ∨ n1 = min (i + n2) n1 := by omega
      generalize min (i + n2) n1 = e at *
      have t3 := (t1.take (k := e) (m := e) (by omega) (Nat.le_refl _)).dropC (k := i) (m := e) (m' := e - i) (by omega) (Nat.le_refl _) (Nat.le_refl _)
      have u3 := (u1.take e).drop i
      have lv := val_split (l1.take e) i
      rw [List.take_take, Nat.min_eq_left (by omega)] at lv
      refine TL.call rfl rfl ((IH _ _ _ _ _ _ _ _ _ _ _ (by exact t3) (by exact t2) u3 u2 (by omega) (by omega)).mono ?_)
      rintro _ w3 ⟨b3, D3, rfl, k3, B3, L3, U3, V3, E3⟩
      refine Back.mk ?_
      have hE3 : Ext w w3 := (hE2.drewN _).trans E3
      have hB3 : Bk u64v w3.heap b1 45 Z := hB2.ext ((ext_drewN _ _).trans E3)
      have l3 := t3.len
      have zz1 := sz_le ((l1.take e).drop i)
      have zz3 := sz_le D3
      have hb2 := hB2.lt
      simp only [World.heap_drewN] at k3
      repeat' (first | (refine TL.callP rfl rfl (trim_ok _ _ _ _ _ _ (B3.slN L3 (Nat.le_refl _) B3.lt) (by omega)) (fun q1 => ?_)) | refine TL.nil ?_ | refine G.only ?_ | refine G.mixed ?_ | refine TM.e rfl ?_)
      have e1 := List.take_append_drop i Z
      have zv := val_split Z i
      have hnew : val Z + 18446744073709551616 ^ i * val D3 = val (l1.take e) * val l2 := by
        rw [lv, hv, V3, Nat.add_mul, Nat.mul_assoc]
      have hle2 : val (l1.take e) * val l2 < 18446744073709551616 ^ (n1 + n2) := by
        have p1 := u1.take_lt e
        have p2 := val_lt u2
        rw [hl2] at p2
        have p3 := Nat.mul_lt_mul'' p1 p2
        rw [← Nat.pow_add] at p3
        exact Nat.lt_of_lt_of_le p3 (Nat.pow_le_pow_right (by omega) (by omega))
      have hlt : val (Z.drop i) + val D3 < 18446744073709551616 ^ (n1 + n2 - i) := by
        have hp : 18446744073709551616 ^ (n1 + n2) = 18446744073709551616 ^ i * 18446744073709551616 ^ (n1 + n2 - i) := by
          rw [← Nat.pow_add, show i + (n1 + n2 - i) = n1 + n2 by omega]
        rw [← hnew, zv, hp] at hle2
        refine Nat.lt_of_mul_lt_mul_left (a := 18446744073709551616 ^ i) ?_
        rw [Nat.mul_add]
        omega
      have hs3 := sz_le_of U3 (k := n1 + n2 - i) (by omega)
      have S3 := B3.sl (sz_le D3) (Nat.le_refl _) B3.lt
      have vl3 := val_sz D3
      rw [cutA_some (by omega), Nat.zero_add]
      refine TL.call rfl rfl ((addTo_ok _ _ b1 i (n1 + n2 - i) (n1 + n2 - i) _ _ _ (Z.take i) (Z.drop i) _ (by rw [e1]; exact hB3) (by simp; omega) (by simp; omega) (Nat.le_refl _) (by exact S3) (off_ne (by omega)) (hZu.drop _) (U3.take _) (by omega) (by omega) (by rw [vl3]; exact hlt)).mono ?_)
      rintro _ w4 ⟨rfl, ⟨F, B4, L4, U4, V4⟩, E4⟩
      refine Back.mk ?_
      repeat' (first | refine TL.ev (ev_simple rfl) rfl ?_ | refine TL.ev (ev_len rfl) rfl ?_ | refine TL.ev (ev_arN rfl rfl rfl (by omega)) rfl ?_ | refine T.region ?_ | refine TL.nil ?_ | refine G.next ?_ | refine G.blockN ?_ | refine G.only ?_ | refine G.mixed ?_ | refine TM.nil ?_)
      refine G.again (i + n2, Z.take i ++ F) (by repeat (first | exact Sub.nil _ | refine Sub.cons rfl ?_ | refine Sub.cons' rfl (int_congr (by omega)) ?_)) ⟨by dsimp only; omega, by simp; omega, (hZu.take _).append U4, (hE3.drewN _).upd E4 (by omega), B4, ?_⟩ (by dsimp only; omega)
      dsimp only
      have h5 : val (l1.take (i + n2)) = val (l1.take e) := by
        rcases f4 with h | h
        · rw [h]
        · rw [List.take_of_length_le (show l1.length ≤ i + n2 by omega), List.take_of_length_le (show l1.length ≤ e by omega)]
      rw [h5, ← hnew, val_append, List.length_take, Nat.min_eq_left (by omega), V4, vl3, zv, Nat.mul_add, Nat.add_assoc]
    · have h2 : val (l1.take i) = val l1 := by rw [List.take_of_length_le (by omega)]
      exact G.ret1 rfl rfl (RetB.mk (by omega) hB2 hZ hZu (by rw [hv, h2]) hE2)
  · refine TL.call rfl rfl ((halves_ok w1 _ _ b1 _ _ _ _ l1 l2 (IH.mono (by omega)) t1 t2 hg hg' u1 u2 (by omega) (by omega) (by omega) (by omega) hB).mono ?_)
    rintro _ w2 ⟨rfl, ⟨D, B2, L2, U2, V2⟩, E2⟩
    refine Back.mk ?_
    repeat' (first | refine TL.ev (ev_simple rfl) rfl ?_ | refine T.seq ?_ | refine T.region ?_ | refine TL.nil ?_ | refine T.ret ?_ | refine G.next ?_ | refine G.blockN ?_)
    exact G.ret1 rfl rfl (RetB.mk (by omega) B2 L2 U2 V2 (Ext.turn hE1 E2 (by omega)))
theorem prod_all : ∀ k, ProdSpec k
  | 0 => fun w B B' A A' n c n' c' l l' h1 h2 h3 h4 h5 h6 => absurd h6 (Nat.not_lt_zero _)
  | k + 1 => prod_step k (prod_all k)
theorem product_ok (w : World) (B B' : Nat) (A A' : Option Addr) (n c n' c' : Nat) (l l' : List Nat) (hs : Sl u64v w.heap B A n c l) (hs' : Sl u64v w.heap B' A' n' c' l') (hu : U64 l) (hu' : U64 l') (hn : n + n' ≤ 35184372088832) :
    Cl Tryz.prog 81 #[.slice A n c, .slice A' n' c'] w (RetB w (sz l + sz l') (val l * val l')) := prod_all (n + n' + 1) w B B' A A' n c n' c' l l' hs hs' hu hu' hn (by omega)
end Go.Proofs.YthlbihbchobllaaGreat

namespace Go.Proofs.YthlbihbchobllaaGreat
open Go Go.Eng Go.Proofs Go.NatM

set_option maxRecDepth 100000 in
set_option maxHeartbeats 1000000 in
theorem sub_ok (w : World) (B B' : Nat) (A A' : Option Addr) (n c n' c' : Nat) (l l' : List Nat) (hs : Sl u64v w.heap B A n c l) (hs' : Sl u64v w.heap B' A' n' c' l') (hu : U64 l) (hu' : U64 l') (hn : n ≤ 35184372088831) (hn' : n' ≤ 35184372088831)
    (hge : val l' ≤ val l) : Cl Tryz.prog 79 #[.slice A n c, .slice A' n' c'] w (RetNE w (dig (val l - val l')) n 0) := by
  have hlen := hs.len
  have hlen' := hs'.len
  replace hs := hs.size
  replace hs' := hs'.size
  obtain ⟨q, hq, hq0⟩ : ∃ q, cmp3 (val l) (val l') = q ∧ 0 ≤ q := ⟨_, rfl, by unfold cmp3; rw [if_neg (by omega)]; split <;> omega⟩
  have hcmp := cmp_ok w.heap _ _ A A' n c n' c' l l' hs hs' hu hu' (by omega) (by omega)
  rw [hq] at hcmp
  have z1 := sz_le l
  have z2 := sz_le l'
  have hle : sz l' ≤ sz l := by
    rcases Nat.lt_or_ge (sz l) (sz l') with h | h
    · have := lt_of_sz_lt hu h; omega
    · exact h
  refine enter Tryz.func79 rfl rfl rfl ?_
  repeat' (first | refine TL.ev (ev_simple rfl) rfl ?_ | (refine TL.cmpG rfl rfl rfl rfl (fun hc => ?_) (fun hc => ?_) <;> try (exfalso; omega)) | (refine TL.callP rfl rfl hcmp (fun _ => ?_)) | (refine TL.callP rfl rfl (size_ok _ _ _ _ _ _ hs (by omega)) (fun _ => ?_)) | (refine TL.callP rfl rfl (size_ok _ _ _ _ _ _ hs' (by omega)) (fun _ => ?_)) | (refine TL.makeU rfl rfl rfl (by omega) (by omega) (fun w1 b1 eb hB hE hz => ?_); simp only [World.heap_drewN] at eb hz; have hE1 : Ext w w1 := ((ext_drewN _ _).trans (ext_drewN _ _)).trans ((ext_drewN _ _).trans hE)) | refine T.seq ?_ | refine T.region ?_ | refine TL.nil ?_ | refine T.block ?_ | refine T.cond_f rfl ?_ | refine T.skip ?_ | refine G.next ?_)
  clear hE
  refine T.loop (α := Nat × List Nat × Nat) (fun x => [(0, .slice A n c), (1, .slice A' n' c'), (6, .int .i64 (sz l : Int)), (7, .int .i64 (sz l' : Int)), (8, .slice (some ⟨b1, 0, none⟩) (sz l) (sz l)), (9, .int .u64 (x.2.2 : Int)), (22, .int .i64 (sz l : Int)), (23, .int .i64 (x.1 : Int))])
    (fun x w' => x.1 ≤ sz l ∧ x.2.1.length = x.1 ∧ U64 x.2.1 ∧ x.2.2 ≤ 1 ∧ Ext w w' ∧ Bk u64v w'.heap b1 45 (x.2.1 ++ List.replicate (sz l - x.1) 0) ∧ val x.2.1 + val (l'.take x.1) = val (l.take x.1) + 18446744073709551616 ^ x.1 * x.2.2)
    (fun x => sz l - x.1) (0, [], 0) (by repeat (first | exact Sub.nil _ | refine Sub.cons rfl ?_ | refine Sub.cons' rfl (int_congr (by omega)) ?_)) ⟨Nat.zero_le _, rfl, U64.nil, Nat.zero_le _, hE1, by simpa using hB, by simp [val]⟩ ?_
  rintro ⟨i, D, cy⟩ w2 ⟨hi, hD, hDu, hcy, hE2, hB2, hv⟩
  dsimp only at hi hD hDu hcy hE2 hB2 hv ⊢
  have k1 := hs.ext hE2
  have k2 := hs'.ext hE2
  have x1 := hu.getD i
  have x2 := hu'.getD i
  have hlB : (D ++ List.replicate (sz l - i) 0).length = sz l := by simp; omega
  repeat' (first | refine TL.ev (ev_simple rfl) rfl ?_ | (refine TL.cmpG rfl rfl rfl rfl (fun hc => ?_) (fun hc => ?_) <;> try (exfalso; omega)) | refine TL.ev (ev_arN rfl rfl rfl (by omega)) rfl ?_ | refine TL.ev (ev_indexN rfl rfl (by omega) (by first | exact Or.inr rfl | exact Sl.some (by assumption))) rfl ?_ | refine TL.ev (ev_loadU rfl (by assumption) (by omega)) rfl ?_ | (refine TL.ev (ev_callx rfl (fun w => sub64_run w (by omega))) rfl ?_) | (refine TL.storeU rfl rfl hB2 (by rw [hlB]; omega) (fun w3 hB3 hU => ?_)) | refine T.seq ?_ | refine T.region ?_ | refine TL.nil ?_ | refine T.block ?_ | refine T.cond_t rfl ?_ | refine T.cond_f rfl ?_ | refine T.exit ?_ | refine T.skip ?_ | refine G.next ?_ | refine G.blockN ?_ | refine G.blockE ?_ | refine G.thenE ?_)
  · have e1 : sz l - i = (sz l - (i + 1)) + 1 := by omega
    rw [e1, ← hD, set_zeros, hD] at hB3
    have hlt : (l.getD i 0 + 18446744073709551616 - l'.getD i 0 - cy) % 18446744073709551616 < 18446744073709551616 := Nat.mod_lt _ (by omega)
    refine G.again (i + 1, D ++ [(l.getD i 0 + 18446744073709551616 - l'.getD i 0 - cy) % 18446744073709551616], if l.getD i 0 < l'.getD i 0 + cy then 1 else 0) (by repeat (first | exact Sub.nil _ | refine Sub.cons rfl ?_ | refine Sub.cons' rfl (int_congr (by omega)) ?_)) ⟨by dsimp only; omega, by simp [hD], hDu.append (U64.one hlt), by dsimp only; split <;> omega, hE2.upd hU (by omega), hB3, ?_⟩ (by dsimp only; omega)
    dsimp only
    rw [val_snoc, val_take_succ, val_take_succ, hD, Nat.pow_succ]
    exact sub_step hv (by split <;> omega)
  · have e1 : sz l - i = (sz l - (i + 1)) + 1 := by omega
    have e2 : l'.getD i 0 = 0 := sz_zero l' i (by omega)
    rw [e1, ← hD, set_zeros, hD] at hB3
    have hlt : (l.getD i 0 + 18446744073709551616 - 0 - cy) % 18446744073709551616 < 18446744073709551616 := Nat.mod_lt _ (by omega)
    refine G.again (i + 1, D ++ [(l.getD i 0 + 18446744073709551616 - 0 - cy) % 18446744073709551616], if l.getD i 0 < 0 + cy then 1 else 0) (by repeat (first | exact Sub.nil _ | refine Sub.cons rfl ?_ | refine Sub.cons' rfl (int_congr (by omega)) ?_)) ⟨by dsimp only; omega, by simp [hD], hDu.append (U64.one hlt), by dsimp only; split <;> omega, hE2.upd hU (by omega), hB3, ?_⟩ (by dsimp only; omega)
    dsimp only
    rw [val_snoc, val_take_succ, val_take_succ, hD, Nat.pow_succ, e2]
    exact sub_step hv (by split <;> omega)
  · have hi' : i = sz l := by omega
    subst hi'
    rw [Nat.sub_self, List.replicate_zero, List.append_nil] at hB2
    rw [val_sz, val_take_ge l' _ hle] at hv
    have hb := val_lt hDu
    rw [hD] at hb
    have hcy0 : cy = 0 := by
      rcases Nat.eq_zero_or_pos cy with h | h
      · exact h
      · obtain rfl : cy = 1 := by omega
        omega
    subst hcy0
    have hval2 : val D = val l - val l' := by omega
    have hs0 := sz_le D
    have hS := hB2.slN hD (Nat.le_refl _) hB2.lt
    repeat' (first | refine TL.ev (ev_simple rfl) rfl ?_ | refine TL.ev (ev_sl_h rfl rfl (by omega)) rfl ?_ | (refine TL.callP rfl rfl (size_ok _ _ _ _ _ _ hS (by omega)) (fun _ => ?_)) | refine TL.nil ?_ | refine T.ret ?_ | refine G.next ?_)
    have := hB2.ow (lo := w.heap.size) (k := sz D) (c := sz l) hs0 (by omega) (by unfold maxLen; omega) (by omega)
    rw [take_sz hDu, hval2] at this
    exact G.ret2 rfl rfl rfl (RetNE.mk this (hE2.drewN _) (by omega))
end Go.Proofs.YthlbihbchobllaaGreat

namespace Go.Proofs.YthlbihbchobllaaGreat
open Go Go.Eng Go.Proofs Go.NatM

theorem tab_gen (s : ByteArray) (hs : (List.range 256).all (fun v => (s.data[v]?).map (fun u => u.toNat) == some (bl v)) = true) (m : Nat) (hm : m < 256) : (s.data[m]?).map (fun u => u.toNat) = some (bl m) := by
  have := List.all_eq_true.1 hs m (List.mem_range.2 hm)
  simpa using this
theorem bl_le64 {n : Nat} (h : n < 18446744073709551616) : bl n ≤ 64 := bl_le.2 (by omega)
theorem bl_le8 {n : Nat} (h : n < 256) : bl n ≤ 8 := bl_le.2 (by omega)

theorem bl_i64 {n : Nat} (h : n < 256) : -9223372036854775808 ≤ ((bl n : Nat) : Int) ∧ ((bl n : Nat) : Int) < 9223372036854775808 := by have := bl_le8 h; omega
theorem bl_add {m n : Nat} (hm : m ≤ 1000) (h : n < 256) : m + bl n < 9223372036854775808 := by have := bl_le8 h; omega
theorem sh (k y : Nat) (h : 1 ≤ y / 2 ^ k) (j : Nat) : j + bl y = (j + k) + bl (y / 2 ^ k) := by rw [bl_shift h, Nat.add_assoc]
theorem ret_bl {m x : Nat} (h : m = bl x) : Ending.returned (.int .i64 (m : Int)) = Ending.returned (.int .i64 (bl x : Int)) := by rw [h]

set_option maxHeartbeats 2000000 in
theorem len64_ok (H : Array Obj) {z : Int} {x : Nat} [e0 : IsN z x] (hx : x < 18446744073709551616) : Pure Tryz.prog 80 #[.int .u64 z] H (.int .i64 (bl x : Int)) := by
  obtain rfl := e0.out
  refine Pure.of fun w hw => ?_
  subst hw
  refine enter Tryz.func80 rfl rfl rfl ?_
  repeat' (first | refine TL.ev (ev_simple rfl) rfl ?_ | (refine TL.cmpG rfl rfl rfl rfl (fun hc => ?_) (fun hc => ?_) <;> try (exfalso; omega)) | refine TL.ev (ev_shrU rfl rfl (by first | omega | exact U64.getD (by assumption) _)) rfl ?_ | (refine TL.ev (ev_conv (kd := .u8) rfl (IntWalk.u8_in _ (by omega))) rfl ?_) | (refine TL.ev (ev_convI rfl (bl_i64 (by omega))) rfl ?_) | (refine TL.ev (ev_stridx Tryz.underlying9 rfl rfl (tab_gen _ (by decide +kernel) _ (by omega))) rfl ?_) | (refine TL.ev (ev_addN rfl rfl (bl_add (by omega) (by omega))) rfl ?_) | (refine TL.ev (ev_addN rfl rfl (by omega)) rfl ?_) | refine T.seq ?_ | refine T.region ?_ | refine TL.nil ?_ | refine T.cond_t rfl ?_ | refine T.cond_f rfl ?_ | refine T.ret ?_ | refine T.skip ?_ | refine G.next ?_)
  all_goals refine G.ret1 rfl rfl ⟨ret_bl (Eq.symm ?_), Qt.refl _⟩
  all_goals rw [← Nat.zero_add (bl x)]
  all_goals first
    | rw [sh 32 x (by omega), sh 16 (x / 2 ^ 32) (by omega), sh 8 (x / 2 ^ 32 / 2 ^ 16) (by omega)]
    | rw [sh 32 x (by omega), sh 16 (x / 2 ^ 32) (by omega)]
    | rw [sh 32 x (by omega), sh 8 (x / 2 ^ 32) (by omega)]
    | rw [sh 32 x (by omega)]
    | rw [sh 16 x (by omega), sh 8 (x / 2 ^ 16) (by omega)]
    | rw [sh 16 x (by omega)]
    | rw [sh 8 x (by omega)]
    | simp
theorem bitlen_ok (H : Array Obj) (B : Nat) (A : Option Addr) (n c : Nat) (l : List Nat) (hs : Sl u64v H B A n c l) (hu : U64 l) (hn : n ≤ 35184372088832) :
    Pure Tryz.prog 68 #[.slice A n c] H (.int .i64 (bl (val l) : Int)) := by
  refine Pure.of fun w hw => ?_
  subst hw
  have hlen := hs.len
  have hsz := sz_le l
  have hb := bl_le64 (hu.getD (sz l - 1))
  refine enter Tryz.func68 rfl rfl rfl ?_
  repeat' (first | refine TL.ev (ev_simple rfl) rfl ?_ | (refine TL.cmpG rfl rfl rfl rfl (fun hc => ?_) (fun hc => ?_) <;> try (exfalso; omega)) | refine TL.ev (ev_arN rfl rfl rfl (by omega)) rfl ?_ | refine TL.ev (ev_indexN rfl rfl (by omega) (by first | exact Or.inr rfl | exact Sl.some (by assumption))) rfl ?_ | refine TL.ev (ev_loadU rfl (by assumption) (by omega)) rfl ?_ | (refine TL.callP rfl rfl (size_ok _ _ _ _ _ _ hs (by omega)) (fun _ => ?_)) | (refine TL.callP rfl rfl (len64_ok _ (hu.getD _)) (fun _ => ?_)) | refine T.seq ?_ | refine T.region ?_ | refine TL.nil ?_ | refine T.cond_t rfl ?_ | refine T.cond_f rfl ?_ | refine T.ret ?_ | refine T.skip ?_ | refine G.next ?_ | refine G.thenR ?_)
  · refine G.ret1 rfl rfl ⟨?_, (Qt.refl w).drewN _⟩
    rw [val_eq_zero (show sz l = 0 by omega)]; rfl
  · refine G.ret1 rfl rfl ⟨ret_bl ?_, ((Qt.refl w).drewN _).drewN _⟩
    rw [bl_val hu (by omega)]
end Go.Proofs.YthlbihbchobllaaGreat

namespace Go.Proofs.YthlbihbchobllaaGreat
open Go Go.Eng Go.Proofs Go.NatM

theorem mul_ok (w : World) (B B' : Nat) (A A' : Option Addr) (n c n' c' : Nat) (l l' : List Nat) (hs : Sl u64v w.heap B A n c l) (hs' : Sl u64v w.heap B' A' n' c' l') (hu : U64 l) (hu' : U64 l') (hn : n + n' ≤ 35184372088832) :
    Cl Tryz.prog 72 #[.slice A n c, .slice A' n' c'] w (RetN w (dig (val l * val l')) (n + n')) := by
  have h1 := sz_le l
  have h2 := sz_le l'
  rw [hs.len] at h1
  rw [hs'.len] at h2
  refine enter Tryz.func72 rfl rfl rfl ?_
  repeat' (first | refine TL.ev (ev_simple rfl) rfl ?_ | (refine TL.call rfl rfl ?_; first | (refine (product_ok _ _ _ _ _ _ _ _ _ _ _ hs hs' hu hu' hn).mono ?_; rintro _ w1 ⟨b1, D1, rfl, k1, B1, L1, u1, v1, E1⟩; refine Back.mk ?_; rw [← v1]) | (refine (least_ok _ _ _ _ _ _ (B1.slN L1 (Nat.le_refl _) B1.lt) u1 (by omega)).mono ?_; rintro _ w2 ⟨A2, n2, c2, rfl, hO2, hE2, hK2⟩; refine Back.mk ?_)) | refine T.seq ?_ | refine T.region ?_ | refine TL.nil ?_ | refine T.ret ?_ | refine G.next ?_)
  exact G.ret1 rfl rfl (RetN.mk (hO2.mono E1.size) (E1.trans hE2) (by omega))
end Go.Proofs.YthlbihbchobllaaGreat
