/- Plain laws of naturals as lists of words to the base 2^64, the lowest first. No program in sight. Layer 1: contracts of package nat. Layer 1: contracts of nat.Add and nat.Sub. Layer 2: contracts of mulnat.trim, addTo. Plain arithmetic on lists of words, more. Layer 2: contracts of math/bits.Mul64, mulnat.subFrom, sum, rows. Layer 2: contracts of mulnat.product and halves. Layer 2: contract of mulnat.product. Layer 1: contract of nat.Sub. Layer 1: contracts of math/bits.Len64 and nat.BitLen. Layers 1 and 2: contracts of nat.Low, nat.Shl, mulnat.Mul, Word, MulAdd, MulLow, Square. Layer 5: contracts of zint: of, Least, Add, Mul, MulAdd, Of. Layer 9: contracts of mat: side, Check, check, build. Layer 9: contracts of mat: product, Mul. Layer 9: contracts of mat: place, Add. ref01.Same: have two lists the same words? Layer 9: the law's own functions: alike, alikeRows, alikeMats, sound, none, of, wakes. Layer 9: of, wakes. Layer 9: MatRing's walk. Layer 9: facts on matrices and integers that frames carry. Layer 9: lists of integers in least form: each. -/
import Derived.Test.YtlpheckjogphmaaPg6
import Derived.Lib.Mul64
import Derived.Test.YtlpheckjogphmaaPg3
import Derived.Test.YtlpheckjogphmaaPg4
import Derived.Test.YtlpheckjogphmaaPg5
set_option linter.unusedVariables false
set_option linter.unusedSimpArgs false
namespace Go.NatM

abbrev W : Nat := 18446744073709551616
def U64 (l : List Nat) : Prop := ∀ x ∈ l, x < 18446744073709551616
def val : List Nat → Nat
  | [] => 0
  | x :: l => x + 18446744073709551616 * val l
/-- how many words up to the highest that is not 0 -/
def sz : List Nat → Nat
  | [] => 0
  | x :: l => if sz l = 0 ∧ x = 0 then 0 else sz l + 1
/-- the words of a number, without zeros at the high end -/
def dig (n : Nat) : List Nat := if h : n = 0 then [] else (n % 18446744073709551616) :: dig (n / 18446744073709551616)
termination_by n
decreasing_by exact Nat.div_lt_self (by omega) (by omega)

theorem U64.nil : U64 [] := fun x h => by cases h
theorem U64.cons {x : Nat} {l : List Nat} (h : x < 18446744073709551616) (hl : U64 l) : U64 (x :: l) := fun y hy => by
  rcases List.mem_cons.1 hy with rfl | hy
  · exact h
  · exact hl y hy
theorem U64.head {x : Nat} {l : List Nat} (h : U64 (x :: l)) : x < 18446744073709551616 := h x (by simp)
theorem U64.tail {x : Nat} {l : List Nat} (h : U64 (x :: l)) : U64 l := fun y hy => h y (by simp [hy])
theorem U64.append {l r : List Nat} (h : U64 l) (k : U64 r) : U64 (l ++ r) := fun y hy => (List.mem_append.1 hy).elim (h y) (k y)
theorem U64.take {l : List Nat} (h : U64 l) (n : Nat) : U64 (l.take n) := fun y hy => h y (List.mem_of_mem_take hy)
theorem U64.drop {l : List Nat} (h : U64 l) (n : Nat) : U64 (l.drop n) := fun y hy => h y (List.mem_of_mem_drop hy)
theorem U64.replicate (n : Nat) : U64 (List.replicate n 0) := fun y hy => by rw [(List.mem_replicate.1 hy).2]; omega
theorem U64.one {x : Nat} (h : x < 18446744073709551616) : U64 [x] := U64.cons h U64.nil
theorem U64.getD {l : List Nat} (h : U64 l) (k : Nat) : l.getD k 0 < 18446744073709551616 := by
  rcases Nat.lt_or_ge k l.length with hk | hk
  · have : l.getD k 0 = l[k] := by simp [List.getD, hk]
    rw [this]; exact h _ (List.getElem_mem hk)
  · simp [List.getD, List.getElem?_eq_none hk]
theorem U64.set {l : List Nat} (h : U64 l) (k x : Nat) (hx : x < 18446744073709551616) : U64 (l.set k x) := fun y hy => by
  rcases List.mem_or_eq_of_mem_set hy with hy | rfl
  · exact h y hy
  · exact hx

theorem getD_ge {l : List Nat} {j : Nat} (h : l.length ≤ j) : l.getD j 0 = 0 := by simp [List.getD, List.getElem?_eq_none h]
theorem sz_le (l : List Nat) : sz l ≤ l.length := by
  induction l with
  | nil => simp [sz]
  | cons x l ih => simp only [sz, List.length_cons]; split <;> omega
theorem sz_eq (l : List Nat) (n : Nat) (h1 : n ≤ l.length) (h2 : ∀ j, n ≤ j → l.getD j 0 = 0) (h3 : n = 0 ∨ l.getD (n - 1) 0 ≠ 0) : sz l = n := by
  induction l generalizing n with
  | nil => simp at h1; simp [sz, h1]
  | cons x l ih =>
    rcases n with _ | n
    · have hx : x = 0 := by simpa using h2 0 (by omega)
      have : sz l = 0 := ih 0 (by omega) (fun j _ => by simpa using h2 (j + 1) (by omega)) (.inl rfl)
      simp [sz, this, hx]
    · have hl : sz l = n := by
        refine ih n (by simpa using h1) (fun j hj => by simpa using h2 (j + 1) (by omega)) ?_
        rcases n with _ | n
        · exact .inl rfl
        · right; simpa using h3.resolve_left (by omega)
      simp only [sz]
      rw [if_neg]
      · omega
      · rintro ⟨h0, hx⟩
        have : n = 0 := by omega
        subst this
        simp [hx] at h3
theorem sz_top (l : List Nat) : sz l = 0 ∨ l.getD (sz l - 1) 0 ≠ 0 := by
  induction l with
  | nil => simp [sz]
  | cons x l ih =>
    simp only [sz]
    split
    · exact .inl rfl
    · rename_i h
      right
      rcases Nat.eq_zero_or_pos (sz l) with h0 | h0
      · have hx : x ≠ 0 := fun hx => h ⟨h0, hx⟩
        simp [h0, hx]
      · rcases ih with h1 | h1
        · omega
        · rw [show sz l + 1 - 1 = (sz l - 1) + 1 by omega]; simpa using h1
theorem val_append (l r : List Nat) : val (l ++ r) = val l + 18446744073709551616 ^ l.length * val r := by
  induction l with
  | nil => simp [val]
  | cons x l ih => simp only [List.cons_append, val, ih, List.length_cons, Nat.pow_succ, Nat.mul_add, Nat.add_assoc]; congr 2; rw [← Nat.mul_assoc, Nat.mul_comm 18446744073709551616]
theorem val_one (x : Nat) : val [x] = x := by simp [val]
theorem val_snoc (l : List Nat) (x : Nat) : val (l ++ [x]) = val l + 18446744073709551616 ^ l.length * x := by rw [val_append, val_one]
theorem val_take_succ (l : List Nat) (i : Nat) : val (l.take (i + 1)) = val (l.take i) + 18446744073709551616 ^ i * l.getD i 0 := by
  rcases Nat.lt_or_ge i l.length with h | h
  · rw [List.take_succ_eq_append_getElem h, val_snoc]
    simp [List.getD, h, Nat.min_eq_left (Nat.le_of_lt h)]
  · rw [List.take_of_length_le h, List.take_of_length_le (by omega), getD_ge h]; simp
theorem val_lt {l : List Nat} (h : U64 l) : val l < 18446744073709551616 ^ l.length := by
  induction l with
  | nil => simp [val]
  | cons x l ih =>
    have h1 := ih h.tail
    have h2 := h.head
    simp only [val, List.length_cons, Nat.pow_succ]
    have h3 : val l + 1 ≤ 18446744073709551616 ^ l.length := h1
    have h4 := Nat.mul_le_mul_left 18446744073709551616 h3
    rw [Nat.mul_comm (18446744073709551616 ^ l.length)]
    omega
theorem val_sz (l : List Nat) : val (l.take (sz l)) = val l := by
  induction l with
  | nil => rfl
  | cons x l ih =>
    simp only [sz]
    split
    · rename_i h
      rw [h.1] at ih
      simp only [List.take_zero, val] at ih ⊢
      rw [← ih, h.2]
    · simp only [List.take_succ_cons, val, ih]
theorem dig_zero : dig 0 = [] := by rw [dig]; simp
theorem dig_pos {n : Nat} (h : n ≠ 0) : dig n = (n % 18446744073709551616) :: dig (n / 18446744073709551616) := by rw [dig]; simp [h]
theorem val_dig (n : Nat) : val (dig n) = n := by
  induction n using Nat.strongRecOn with
  | _ n ih =>
    rcases Nat.eq_zero_or_pos n with rfl | h
    · rw [dig_zero]; rfl
    · rw [dig_pos (by omega), val, ih _ (Nat.div_lt_self h (by omega))]; omega
theorem U64_dig (n : Nat) : U64 (dig n) := by
  induction n using Nat.strongRecOn with
  | _ n ih =>
    rcases Nat.eq_zero_or_pos n with rfl | h
    · rw [dig_zero]; exact U64.nil
    · rw [dig_pos (by omega)]; exact U64.cons (Nat.mod_lt _ (by omega)) (ih _ (Nat.div_lt_self h (by omega)))
/-- the words up to the highest that is not 0 are the digits of the number -/
theorem take_sz {l : List Nat} (h : U64 l) : l.take (sz l) = dig (val l) := by
  induction l with
  | nil => simp [sz, val, dig_zero]
  | cons x l ih =>
    have hx := h.head
    have ih' := ih h.tail
    simp only [sz, val]
    split
    · rename_i h0
      rw [h0.1] at ih'
      have hv : val l = 0 := by rw [← val_sz l, h0.1]; rfl
      rw [h0.2, hv]; simp [dig_zero]
    · rename_i h0
      have hne : x + 18446744073709551616 * val l ≠ 0 := by
        intro he
        have hx0 : x = 0 := by omega
        have hv : val l = 0 := by omega
        apply h0
        refine ⟨?_, hx0⟩
        rcases sz_top l with h1 | h1
        · exact h1
        · rw [hv, dig_zero] at ih'
          have := congrArg List.length ih'
          rw [List.length_take, List.length_nil] at this
          have := sz_le l
          omega
      rw [dig_pos hne, List.take_succ_cons, ih']
      congr 1
      · omega
      · congr 1; omega
theorem dig_length {l : List Nat} (h : U64 l) : (dig (val l)).length = sz l := by rw [← take_sz h, List.length_take]; have := sz_le l; omega
theorem dig_length_le {n k : Nat} (h : n < 18446744073709551616 ^ k) : (dig n).length ≤ k := by
  induction k generalizing n with
  | zero => have : n = 0 := by simpa using h
            rw [this, dig_zero]; simp
  | succ k ih =>
    rcases Nat.eq_zero_or_pos n with rfl | h0
    · rw [dig_zero]; simp
    · rw [dig_pos (by omega), List.length_cons]
      have := ih (n := n / 18446744073709551616) (by rw [Nat.div_lt_iff_lt_mul (by omega)]; rw [Nat.pow_succ] at h; exact h)
      omega
theorem U64.take_lt {l : List Nat} (h : U64 l) (k : Nat) : val (l.take k) < 18446744073709551616 ^ k :=
  Nat.lt_of_lt_of_le (val_lt (h.take k)) (Nat.pow_le_pow_right (by omega) (by rw [List.length_take]; omega))
/-- the number of binary digits -/
def bl (n : Nat) : Nat := if n = 0 then 0 else Nat.log2 n + 1
theorem bl_le {n k : Nat} : bl n ≤ k ↔ n < 2 ^ k := by
  unfold bl
  split
  · rename_i h; subst h; simp [Nat.two_pow_pos]
  · rename_i h
    rw [← Nat.log2_lt h]; omega
theorem lt_two_pow_bl (n : Nat) : n < 2 ^ bl n := bl_le.1 (Nat.le_refl _)
theorem two_pow_bl_le {n : Nat} (h : n ≠ 0) : 2 ^ (bl n - 1) ≤ n := by
  rcases Nat.lt_or_ge n (2 ^ (bl n - 1)) with h1 | h1
  · have := bl_le.2 h1
    have hb : bl n ≠ 0 := by unfold bl; rw [if_neg h]; omega
    omega
  · exact h1
theorem bl_eq {n k : Nat} (h1 : 2 ^ k ≤ n) (h2 : n < 2 ^ (k + 1)) : bl n = k + 1 := by
  have a := bl_le.2 h2
  rcases Nat.lt_or_ge k (bl n) with h | h
  · omega
  · have := bl_le.1 h; omega
theorem bl_shift {n k : Nat} (h : 1 ≤ n / 2 ^ k) : bl n = k + bl (n / 2 ^ k) := by
  have hne : n / 2 ^ k ≠ 0 := by omega
  obtain ⟨j, hj⟩ : ∃ j, bl (n / 2 ^ k) = j + 1 := ⟨bl (n / 2 ^ k) - 1, by unfold bl; rw [if_neg hne]; omega⟩
  have a := two_pow_bl_le hne
  have b := lt_two_pow_bl (n / 2 ^ k)
  rw [hj] at a b
  simp only [Nat.add_sub_cancel] at a
  have hp := Nat.two_pow_pos k
  rw [hj, ← Nat.add_assoc]
  refine bl_eq ?_ ?_
  · rw [Nat.pow_add, Nat.mul_comm]
    exact (Nat.le_div_iff_mul_le hp).1 a
  · rw [show k + j + 1 = (j + 1) + k by omega, Nat.pow_add]
    exact (Nat.div_lt_iff_lt_mul hp).1 b
theorem bl_append {x v : Nat} (p : Nat) (h : x < 2 ^ p) (hv : v ≠ 0) : bl (x + 2 ^ p * v) = p + bl v := by
  have hp := Nat.two_pow_pos p
  have e : (x + 2 ^ p * v) / 2 ^ p = v := by rw [Nat.add_mul_div_left _ _ hp, Nat.div_eq_of_lt h, Nat.zero_add]
  rw [bl_shift (k := p) (by rw [e]; omega), e]
theorem W_pow (k : Nat) : 18446744073709551616 ^ k = 2 ^ (64 * k) := by rw [show (18446744073709551616 : Nat) = 2 ^ 64 by rfl, ← Nat.pow_mul]
/-- by the words -/
theorem bl_val {l : List Nat} (h : U64 l) (hs : sz l ≠ 0) : bl (val l) = 64 * (sz l - 1) + bl (l.getD (sz l - 1) 0) := by
  obtain ⟨k, hk⟩ : ∃ k, sz l = k + 1 := ⟨sz l - 1, by omega⟩
  have ht := (sz_top l).resolve_left hs
  rw [← val_sz l, hk, val_take_succ, W_pow]
  rw [hk] at ht
  simp only [Nat.add_sub_cancel] at ht ⊢
  exact bl_append _ (by rw [← W_pow]; exact h.take_lt k) ht
theorem val_eq_zero {l : List Nat} (h : sz l = 0) : val l = 0 := by rw [← val_sz l, h]; rfl
end Go.NatM

namespace Go.Proofs.Ytlpheckjogphmaa
open Go Go.Eng Go.Proofs

open Go.NatM

/-- a new list of words, L, of at most K words -/
def RetN (w : World) (L : List Nat) (K : Nat) (e : Ending) (w' : World) : Prop := ∃ A n c, e = .returned (.slice A n c) ∧ Ow u64v w'.heap w.heap.size 91 A n c L ∧ Ext w w' ∧ n ≤ K
theorem RetN.mk {w w' : World} {L : List Nat} {A : Option Addr} {n c K : Nat} (h : Ow u64v w'.heap w.heap.size 91 A n c L) (he : Ext w w') (hk : n ≤ K) : RetN w L K (.returned (.slice A n c)) w' := ⟨A, n, c, rfl, h, he, hk⟩
/-- a new list of words, L, of at most K words, and an error -/
def RetNE (w : World) (L : List Nat) (K : Nat) (err : Int) (e : Ending) (w' : World) : Prop := ∃ A n c, e = .returned (.tuple #[.slice A n c, .int .i64 err]) ∧ Ow u64v w'.heap w.heap.size 91 A n c L ∧ Ext w w' ∧ n ≤ K
theorem RetNE.mk {w w' : World} {L : List Nat} {err : Int} {A : Option Addr} {n c K : Nat} (h : Ow u64v w'.heap w.heap.size 91 A n c L) (he : Ext w w') (hk : n ≤ K) : RetNE w L K err (.returned (.tuple #[.slice A n c, .int .i64 err])) w' := ⟨A, n, c, rfl, h, he, hk⟩

theorem size_ok (H : Array Obj) (B : Nat) (A : Option Addr) (n c : Nat) (l : List Nat) (hs : Sl u64v H B A n c l) (hn : n < 9223372036854775808) :
    Pure Try.prog 64 #[.slice A n c] H (.int .i64 (sz l : Int)) := by
  refine Pure.of fun w hw => ?_
  subst hw
  have hlen := hs.len
  refine enter Try.func64 rfl rfl rfl ?_
  repeat' (first | refine TL.ev (ev_simple rfl) rfl ?_ | refine TL.ev (ev_len rfl) rfl ?_ | refine T.seq ?_ | refine T.region ?_ | refine TL.nil ?_ | refine T.block ?_ | refine G.next ?_)
  refine T.loop (fun k : Nat => [(0, .slice A n c), (3, .int .i64 (k : Int))]) (fun k w' => w' = w ∧ k ≤ n ∧ ∀ j, k ≤ j → l.getD j 0 = 0) (fun k => k) n (by repeat (first | exact Sub.nil _ | refine Sub.cons rfl ?_ | refine Sub.cons' rfl (int_congr (by omega)) ?_)) ⟨rfl, Nat.le_refl _, ?_⟩ ?_
  · intro j hj; simp [List.getD, List.getElem?_eq_none (show l.length ≤ j by omega)]
  · rintro k w' ⟨rfl, hk, hz⟩
    repeat' (first | refine TL.ev (ev_simple rfl) rfl ?_ | refine TL.grun rfl rfl rfl ?_ | refine TL.gskip rfl rfl rfl rfl ?_ | (refine TL.cmpG rfl rfl rfl rfl (fun hc => ?_) (fun hc => ?_) <;> try (exfalso; omega)) | refine TL.ev (ev_arN rfl rfl rfl (by omega)) rfl ?_ | refine TL.ev (ev_indexN rfl rfl (by omega) (by first | exact Or.inr rfl | exact Sl.some (by assumption))) rfl ?_ | refine TL.ev (ev_loadU rfl (by assumption) (by omega)) rfl ?_ | refine T.seq ?_ | refine T.region ?_ | refine TL.nil ?_ | refine T.block ?_ | refine T.cond_t rfl ?_ | refine T.cond_f rfl ?_ | refine T.exit ?_ | refine T.ret ?_ | refine T.skip ?_ | refine G.next ?_ | refine G.blockN ?_ | refine G.blockE ?_ | refine G.thenE ?_)
    · refine G.again (k - 1) (by repeat (first | exact Sub.nil _ | refine Sub.cons rfl ?_ | refine Sub.cons' rfl (int_congr (by omega)) ?_)) ⟨rfl, by omega, fun j hj => ?_⟩ (by omega)
      rcases Nat.lt_or_ge j k with h | h
      · obtain rfl : j = k - 1 := by omega
        omega
      · exact hz j h
    · rw [sz_eq l k (by omega) hz (.inr (by omega))]
      exact G.ret1 rfl rfl ⟨rfl, Qt.refl _⟩
    · rw [sz_eq l k (by omega) hz (.inl (by omega))]
      exact G.ret1 rfl rfl ⟨rfl, Qt.refl _⟩

theorem own_ok (w : World) (B : Nat) (A : Option Addr) (n c : Nat) (l : List Nat) (hs : Sl u64v w.heap B A n c l) (hu : U64 l) (hn : n ≤ 35184372088832) :
    Cl Try.prog 85 #[.slice A n c] w (RetN w (dig (val l)) n) := by
  have hlen := hs.len
  have hsz := sz_le l
  refine enter Try.func85 rfl rfl rfl ?_
  repeat' (first | refine TL.ev (ev_simple rfl) rfl ?_ | (refine TL.callP rfl rfl (size_ok _ _ _ _ _ _ hs (by omega)) (fun _ => ?_)) | (refine TL.makeU rfl rfl rfl (by omega) (by omega) (fun w1 b1 eb hB hE hz => ?_); have hs1 := hs.ext hE) | (refine TL.copy (f := u64v) (fun _ => rfl) rfl rfl rfl hB hs1 (by simp) (fun w2 hB2 hU => ?_)) | refine T.seq ?_ | refine T.region ?_ | refine TL.nil ?_ | refine T.ret ?_ | refine G.next ?_)
  have e : List.take 0 (List.replicate (sz l) 0) ++ List.take (min n (sz l)) l ++ List.drop (0 + min n (sz l)) (List.replicate (sz l) 0) = l.take (sz l) := by
    rw [Nat.min_eq_right (by omega)]; simp
  rw [e, take_sz hu] at hB2
  have hl : (dig (val l)).length = sz l := dig_length hu
  simp only [World.heap_drewN] at eb
  refine G.ret1 rfl rfl (RetN.mk ?_ (((ext_drewN w _).trans hE).upd hU (by omega)) (by omega))
  have := hB2.ow (lo := w.heap.size) (k := (dig (val l)).length) (Nat.le_refl _) rfl (by unfold maxLen; omega) (by omega)
  rw [List.take_length] at this
  rwa [hl] at this
theorem least_ok (w : World) (B : Nat) (A : Option Addr) (n c : Nat) (l : List Nat) (hs : Sl u64v w.heap B A n c l) (hu : U64 l) (hn : n ≤ 35184372088832) :
    Cl Try.prog 63 #[.slice A n c] w (RetN w (dig (val l)) n) := by
  refine enter Try.func63 rfl rfl rfl ?_
  repeat' (first | refine TL.ev (ev_simple rfl) rfl ?_ | (refine TL.call rfl rfl ((own_ok _ _ _ _ _ _ hs hu hn).mono ?_); rintro _ w1 ⟨A1, n1, c1, rfl, hO, hE, hK⟩; refine Back.mk ?_) | refine T.seq ?_ | refine T.region ?_ | refine TL.nil ?_ | refine T.ret ?_ | refine G.next ?_)
  exact G.ret1 rfl rfl (RetN.mk hO hE hK)

end Go.Proofs.Ytlpheckjogphmaa

namespace Go.Proofs.Ytlpheckjogphmaa
open Go Go.Eng Go.Proofs Go.NatM

end Go.Proofs.Ytlpheckjogphmaa

namespace Go.Proofs.Ytlpheckjogphmaa
open Go Go.Eng Go.Proofs Go.NatM

end Go.Proofs.Ytlpheckjogphmaa

namespace Go.NatM

theorem rows_step {vY vZ vS Wi Wj x y t cy cy' s z : Nat} (hset : vS + (Wi * Wj) * z = vY + (Wi * Wj) * s) (hv : vY + (Wi * Wj) * cy = vZ + Wi * (x * t)) (e : s + 18446744073709551616 * cy' = x * y + cy + z) :
    vS + (Wi * (Wj * 18446744073709551616)) * cy' = vZ + Wi * (x * (t + Wj * y)) := by
  have e1 : (Wi * (Wj * 18446744073709551616)) * cy' = (Wi * Wj) * (18446744073709551616 * cy') := by rw [← Nat.mul_assoc Wi, Nat.mul_assoc (Wi * Wj)]
  have e2 : Wi * (x * (t + Wj * y)) = Wi * (x * t) + (Wi * Wj) * (x * y) := by
    rw [Nat.mul_add x, Nat.mul_add Wi, Nat.mul_left_comm x Wj y, Nat.mul_assoc Wi Wj]
  have e3 : (Wi * Wj) * s + (Wi * Wj) * (18446744073709551616 * cy') = (Wi * Wj) * (x * y) + (Wi * Wj) * cy + (Wi * Wj) * z := by rw [← Nat.mul_add, e, Nat.mul_add, Nat.mul_add]
  rw [e1, e2]
  generalize (Wi * Wj) * (18446744073709551616 * cy') = q1 at *
  generalize (Wi * Wj) * s = q2 at *
  generalize (Wi * Wj) * (x * y) = q3 at *
  generalize (Wi * Wj) * cy = q4 at *
  generalize (Wi * Wj) * z = q5 at *
  omega
end Go.NatM

namespace Go.Proofs.Ytlpheckjogphmaa
open Go Go.Eng Go.Proofs Go.NatM

/-- a new block, whole: a list of n words with a value -/
def RetB (w : World) (n : Nat) (v : Nat) (e : Ending) (w' : World) : Prop := ∃ b D, e = .returned (.slice (some ⟨b, 0, none⟩) n n) ∧ w.heap.size ≤ b ∧ Bk u64v w'.heap b 91 D ∧ D.length = n ∧ U64 D ∧ val D = v ∧ Ext w w'
theorem RetB.mk {w w' : World} {n v b : Nat} {D : List Nat} (h1 : w.heap.size ≤ b) (h2 : Bk u64v w'.heap b 91 D) (h3 : D.length = n) (h4 : U64 D) (h5 : val D = v) (h6 : Ext w w') : RetB w n v (.returned (.slice (some ⟨b, 0, none⟩) n n)) w' := ⟨b, D, rfl, h1, h2, h3, h4, h5, h6⟩
end Go.Proofs.Ytlpheckjogphmaa

namespace Go.Proofs.Ytlpheckjogphmaa
open Go Go.Eng Go.Proofs Go.NatM

/-- block g has turned; there may be new blocks -/
structure Turn (g : Nat) (w w' : World) : Prop where
  os : w'.os = w.os
  tape : w'.tape = w.tape
  output : w'.output = w.output
  size : w.heap.size ≤ w'.heap.size
  block : ∀ k, k < w.heap.size → k ≠ g → w'.heap[k]? = w.heap[k]?
theorem Turn.refl (g : Nat) (w : World) : Turn g w w := ⟨rfl, rfl, rfl, Nat.le_refl _, fun _ _ _ => rfl⟩
theorem Turn.ext {g : Nat} {a b c : World} (h : Turn g a b) (k : Ext b c) : Turn g a c :=
  ⟨k.os.trans h.os, k.tape.trans h.tape, k.output.trans h.output, Nat.le_trans h.size k.size, fun i hi hg => (k.block i (Nat.lt_of_lt_of_le hi h.size)).trans (h.block i hi hg)⟩
theorem Turn.drewN {g : Nat} {a b : World} (h : Turn g a b) (n : Nat) : Turn g a (b.drewN n) := h.ext (ext_drewN b n)
theorem Turn.upd {g : Nat} {a b c : World} (h : Turn g a b) (k : Upd g b c) : Turn g a c :=
  ⟨k.os.trans h.os, k.tape.trans h.tape, k.output.trans h.output, by rw [k.size]; exact h.size, fun i hi hg => (k.block i hg).trans (h.block i hi hg)⟩
theorem Turn.trans {g : Nat} {a b c : World} (h : Turn g a b) (k : Turn g b c) : Turn g a c :=
  ⟨k.os.trans h.os, k.tape.trans h.tape, k.output.trans h.output, Nat.le_trans h.size k.size, fun i hi hg => (k.block i (Nat.lt_of_lt_of_le hi h.size) hg).trans (h.block i hi hg)⟩
def ProdSpec (k : Nat) : Prop := ∀ (w : World) (B B' : Nat) (A A' : Option Addr) (n c n' c' : Nat) (l l' : List Nat), Sl u64v w.heap B A n c l → Sl u64v w.heap B' A' n' c' l' → U64 l → U64 l' → n + n' ≤ 35184372088832 → n + n' < k →
  Cl Try.prog 110 #[.slice A n c, .slice A' n' c'] w (RetB w (sz l + sz l') (val l * val l'))

end Go.Proofs.Ytlpheckjogphmaa

namespace Go.Proofs.Ytlpheckjogphmaa
open Go Go.Eng Go.Proofs Go.NatM

theorem ProdSpec.mono {j k : Nat} (h : ProdSpec k) (hj : j ≤ k) : ProdSpec j := fun w B B' A A' n c n' c' l l' h1 h2 h3 h4 h5 h6 => h w B B' A A' n c n' c' l l' h1 h2 h3 h4 h5 (by omega)
end Go.Proofs.Ytlpheckjogphmaa

namespace Go.Proofs.Ytlpheckjogphmaa
open Go Go.Eng Go.Proofs Go.NatM

end Go.Proofs.Ytlpheckjogphmaa

namespace Go.Proofs.Ytlpheckjogphmaa
open Go Go.Eng Go.Proofs Go.NatM

theorem tab_gen (s : ByteArray) (hs : (List.range 256).all (fun v => (s.data[v]?).map (fun u => u.toNat) == some (bl v)) = true) (m : Nat) (hm : m < 256) : (s.data[m]?).map (fun u => u.toNat) = some (bl m) := by
  have := List.all_eq_true.1 hs m (List.mem_range.2 hm)
  simpa using this
theorem bl_le64 {n : Nat} (h : n < 18446744073709551616) : bl n ≤ 64 := bl_le.2 (by omega)
theorem bl_le8 {n : Nat} (h : n < 256) : bl n ≤ 8 := bl_le.2 (by omega)

theorem bl_i64 {n : Nat} (h : n < 256) : -9223372036854775808 ≤ ((bl n : Nat) : Int) ∧ ((bl n : Nat) : Int) < 9223372036854775808 := by have := bl_le8 h; omega
theorem bl_add {m n : Nat} (hm : m ≤ 1000) (h : n < 256) : m + bl n < 9223372036854775808 := by have := bl_le8 h; omega
theorem sh (k y : Nat) (h : 1 ≤ y / 2 ^ k) (j : Nat) : j + bl y = (j + k) + bl (y / 2 ^ k) := by rw [bl_shift h, Nat.add_assoc]
theorem ret_bl {m x : Nat} (h : m = bl x) : Ending.returned (.int .i64 (m : Int)) = Ending.returned (.int .i64 (bl x : Int)) := by rw [h]

set_option maxHeartbeats 2000000 in
theorem len64_ok (H : Array Obj) {z : Int} {x : Nat} [e0 : IsN z x] (hx : x < 18446744073709551616) : Pure Try.prog 65 #[.int .u64 z] H (.int .i64 (bl x : Int)) := by
  obtain rfl := e0.out
  refine Pure.of fun w hw => ?_
  subst hw
  refine enter Try.func65 rfl rfl rfl ?_
  repeat' (first | refine TL.ev (ev_simple rfl) rfl ?_ | (refine TL.cmpG rfl rfl rfl rfl (fun hc => ?_) (fun hc => ?_) <;> try (exfalso; omega)) | refine TL.ev (ev_shrU rfl rfl (by first | omega | exact U64.getD (by assumption) _)) rfl ?_ | (refine TL.ev (ev_conv (kd := .u8) rfl (IntWalk.u8_in _ (by omega))) rfl ?_) | (refine TL.ev (ev_convI rfl (bl_i64 (by omega))) rfl ?_) | (refine TL.ev (ev_stridx Try.underlying9 rfl rfl (tab_gen _ (by decide +kernel) _ (by omega))) rfl ?_) | (refine TL.ev (ev_addN rfl rfl (bl_add (by omega) (by omega))) rfl ?_) | (refine TL.ev (ev_addN rfl rfl (by omega)) rfl ?_) | refine T.seq ?_ | refine T.region ?_ | refine TL.nil ?_ | refine T.cond_t rfl ?_ | refine T.cond_f rfl ?_ | refine T.ret ?_ | refine T.skip ?_ | refine G.next ?_)
  all_goals refine G.ret1 rfl rfl ⟨ret_bl (Eq.symm ?_), Qt.refl _⟩
  all_goals rw [← Nat.zero_add (bl x)]
  all_goals first
    | rw [sh 32 x (by omega), sh 16 (x / 2 ^ 32) (by omega), sh 8 (x / 2 ^ 32 / 2 ^ 16) (by omega)]
    | rw [sh 32 x (by omega), sh 16 (x / 2 ^ 32) (by omega)]
    | rw [sh 32 x (by omega), sh 8 (x / 2 ^ 32) (by omega)]
    | rw [sh 32 x (by omega)]
    | rw [sh 16 x (by omega), sh 8 (x / 2 ^ 16) (by omega)]
    | rw [sh 16 x (by omega)]
    | rw [sh 8 x (by omega)]
    | simp
theorem bitlen_ok (H : Array Obj) (B : Nat) (A : Option Addr) (n c : Nat) (l : List Nat) (hs : Sl u64v H B A n c l) (hu : U64 l) (hn : n ≤ 35184372088832) :
    Pure Try.prog 29 #[.slice A n c] H (.int .i64 (bl (val l) : Int)) := by
  refine Pure.of fun w hw => ?_
  subst hw
  have hlen := hs.len
  have hsz := sz_le l
  have hb := bl_le64 (hu.getD (sz l - 1))
  refine enter Try.func29 rfl rfl rfl ?_
  repeat' (first | refine TL.ev (ev_simple rfl) rfl ?_ | (refine TL.cmpG rfl rfl rfl rfl (fun hc => ?_) (fun hc => ?_) <;> try (exfalso; omega)) | refine TL.ev (ev_arN rfl rfl rfl (by omega)) rfl ?_ | refine TL.ev (ev_indexN rfl rfl (by omega) (by first | exact Or.inr rfl | exact Sl.some (by assumption))) rfl ?_ | refine TL.ev (ev_loadU rfl (by assumption) (by omega)) rfl ?_ | (refine TL.callP rfl rfl (size_ok _ _ _ _ _ _ hs (by omega)) (fun _ => ?_)) | (refine TL.callP rfl rfl (len64_ok _ (hu.getD _)) (fun _ => ?_)) | refine T.seq ?_ | refine T.region ?_ | refine TL.nil ?_ | refine T.cond_t rfl ?_ | refine T.cond_f rfl ?_ | refine T.ret ?_ | refine T.skip ?_ | refine G.next ?_ | refine G.thenR ?_)
  · refine G.ret1 rfl rfl ⟨?_, (Qt.refl w).drewN _⟩
    rw [val_eq_zero (show sz l = 0 by omega)]; rfl
  · refine G.ret1 rfl rfl ⟨ret_bl ?_, ((Qt.refl w).drewN _).drewN _⟩
    rw [bl_val hu (by omega)]
end Go.Proofs.Ytlpheckjogphmaa

namespace Go.Proofs.Ytlpheckjogphmaa
open Go Go.Eng Go.Proofs Go.NatM

end Go.Proofs.Ytlpheckjogphmaa

namespace Go.Proofs.Ytlpheckjogphmaa
open Go Go.Eng Go.Proofs Go.NatM Go.RowKit

def sgn (neg : Bool) (n : Nat) : Int := if neg then -(n : Int) else n
def ival (x : IV) : Int := sgn x.neg (val x.m.l)
/-- an integer that reads -/
structure GI (H : Array Obj) (x : IV) : Prop where
  s : Sl u64v H H.size x.m.A x.m.n x.m.c x.m.l
  u : U64 x.m.l
/-- .. in least form: z -/
structure LI (H : Array Obj) (z : Int) (x : IV) : Prop where
  g : GI H x
  d : x.m.l = dig z.natAbs
  e : x.neg = decide (z < 0)
theorem GI.ext {w w' : World} {x : IV} (hE : Ext w w') (h : GI w.heap x) : GI w'.heap x := ⟨(h.s.ext hE).size, h.u⟩
theorem LI.ext {w w' : World} {x : IV} {z : Int} (hE : Ext w w') (h : LI w.heap z x) : LI w'.heap z x := ⟨h.g.ext hE, h.d, h.e⟩
theorem LI.updV {w w' : World} {x : IV} {z : Int} {b : Nat} {t : TypeId} {cs : List Value} (hu : Upd b w w') (hV : Vr w.heap b t cs) (hc : cs.all noU64 = true) (h : LI w.heap z x) : LI w'.heap z x := ⟨⟨(sl_updV hu hV hc h.g.s).size, h.g.u⟩, h.d, h.e⟩
theorem LI.val {H : Array Obj} {z : Int} {x : IV} (h : LI H z x) : ival x = z := by
  unfold ival sgn
  rw [h.d, h.e, val_dig]
  by_cases hz : z < 0
  · simp only [hz, decide_true, if_true]; omega
  · simp only [hz, decide_false, Bool.false_eq_true, if_false]; omega
theorem sgn_abs (neg : Bool) (n : Nat) : (sgn neg n).natAbs = n := by unfold sgn; split <;> omega
theorem dig_pos_len {n : Nat} : 0 < (dig n).length ↔ n ≠ 0 := by
  constructor
  · rintro h rfl; rw [dig_zero] at h; simp at h
  · intro h; rw [dig_pos h]; simp
theorem li_mk {H : Array Obj} {neg : Bool} {N n c : Nat} {A : Option Addr} (hs : Sl u64v H H.size A n c (dig N)) : LI H (sgn neg N) ⟨neg && decide (0 < n), ⟨A, n, c, dig N⟩⟩ := by
  refine ⟨⟨hs, U64_dig _⟩, by rw [sgn_abs], ?_⟩
  have hl := hs.len
  have h0 := dig_pos_len (n := N)
  show (neg && decide (0 < n)) = decide (sgn neg N < 0)
  unfold sgn
  cases neg
  · simp
  · simp only [Bool.true_and, if_true]
    congr 1
    apply propext
    constructor
    · intro h; have := h0.1 (by omega); omega
    · intro h; have := h0.2 (by omega); omega
/-- a new integer, z, of at most K words -/
def RetZ (w : World) (z : Int) (K : Nat) (e : Ending) (w' : World) : Prop := ∃ x : IV, e = .returned (.agg (ivc x).toArray) ∧ LI w'.heap z x ∧ Ext w w' ∧ x.m.n ≤ K
theorem of_ok (w : World) (neg : Bool) (A : Option Addr) (n c N : Nat) (hs : Sl u64v w.heap w.heap.size A n c (dig N)) : Cl Try.prog 62 #[.bool neg, .slice A n c] w (fun e w' => e = .returned (.agg (ivc ⟨neg && decide (0 < n), ⟨A, n, c, dig N⟩⟩).toArray) ∧ LI w'.heap (sgn neg N) ⟨neg && decide (0 < n), ⟨A, n, c, dig N⟩⟩ ∧ Ext w w') := by
  have hsz0 := hs.len
  cases neg
  · refine enter Try.func62 rfl rfl rfl ?_
    repeat' (first | refine TL.ev (ev_simple rfl) rfl ?_ | refine TL.gskip rfl rfl rfl rfl ?_ | (refine TL.alloc rfl (fun wa ba eba hVa hEa hza => ?_); have hla := box_lo (w0 := w) (by repeat (first | exact Ext.refl _ | (refine Ext.trans ?_ (by assumption)) | (apply ext_upd; assumption; rotate_left; omega))) eba) | (refine TL.storeVX rfl rfl rfl rfl (by refine ⟨?_, ?_⟩; (focus (repeat (first | assumption | (apply Vr.ext; assumption) | (apply Vr.updX; assumption; rotate_left; omega)))); rfl) (fun ws hVs hUs hzs => ?_)) | (refine TL.ev (ev_buildX rfl rfl) rfl ?_) | refine T.seq ?_ | refine T.region ?_ | refine TL.nil ?_ | refine T.ret ?_ | refine G.next ?_)
    have hE : Ext w ws := (by repeat (first | exact Ext.refl _ | (refine Ext.trans ?_ (by assumption)) | (apply ext_upd; assumption; rotate_left; omega)))
    exact G.retC1 rfl rfl (held_agg hVs rfl) ⟨rfl, li_mk (neg := false) (hs.ext hE).size, hE⟩
  · rcases Nat.eq_zero_or_pos n with h0 | h0
    · refine enter Try.func62 rfl rfl rfl ?_
      repeat' (first | refine TL.ev (ev_simple rfl) rfl ?_ | refine TL.grun rfl rfl rfl ?_ | refine TL.ev (ev_len rfl) rfl ?_ | (refine TL.cmpG rfl rfl rfl rfl (fun hc => ?_) (fun hc => ?_) <;> try (exfalso; omega)) | (refine TL.alloc rfl (fun wa ba eba hVa hEa hza => ?_); have hla := box_lo (w0 := w) (by repeat (first | exact Ext.refl _ | (refine Ext.trans ?_ (by assumption)) | (apply ext_upd; assumption; rotate_left; omega))) eba) | (refine TL.storeVX rfl rfl rfl rfl (by refine ⟨?_, ?_⟩; (focus (repeat (first | assumption | (apply Vr.ext; assumption) | (apply Vr.updX; assumption; rotate_left; omega)))); rfl) (fun ws hVs hUs hzs => ?_)) | (refine TL.ev (ev_buildX rfl rfl) rfl ?_) | refine T.seq ?_ | refine T.region ?_ | refine TL.nil ?_ | refine T.ret ?_ | refine G.next ?_)
      have hE : Ext w ws := (by repeat (first | exact Ext.refl _ | (refine Ext.trans ?_ (by assumption)) | (apply ext_upd; assumption; rotate_left; omega)))
      have e := li_mk (neg := true) (hs.ext hE).size
      have e2 : (true && decide (0 < n)) = false := by simp; omega
      rw [e2] at e ⊢
      exact G.retC1 rfl rfl (held_agg hVs rfl) ⟨rfl, e, hE⟩
    · refine enter Try.func62 rfl rfl rfl ?_
      repeat' (first | refine TL.ev (ev_simple rfl) rfl ?_ | refine TL.grun rfl rfl rfl ?_ | refine TL.ev (ev_len rfl) rfl ?_ | (refine TL.cmpG rfl rfl rfl rfl (fun hc => ?_) (fun hc => ?_) <;> try (exfalso; omega)) | (refine TL.alloc rfl (fun wa ba eba hVa hEa hza => ?_); have hla := box_lo (w0 := w) (by repeat (first | exact Ext.refl _ | (refine Ext.trans ?_ (by assumption)) | (apply ext_upd; assumption; rotate_left; omega))) eba) | (refine TL.storeVX rfl rfl rfl rfl (by refine ⟨?_, ?_⟩; (focus (repeat (first | assumption | (apply Vr.ext; assumption) | (apply Vr.updX; assumption; rotate_left; omega)))); rfl) (fun ws hVs hUs hzs => ?_)) | (refine TL.ev (ev_buildX rfl rfl) rfl ?_) | refine T.seq ?_ | refine T.region ?_ | refine TL.nil ?_ | refine T.ret ?_ | refine G.next ?_)
      have hE : Ext w ws := (by repeat (first | exact Ext.refl _ | (refine Ext.trans ?_ (by assumption)) | (apply ext_upd; assumption; rotate_left; omega)))
      have e := li_mk (neg := true) (hs.ext hE).size
      have e2 : (true && decide (0 < n)) = true := by simp; omega
      rw [e2] at e ⊢
      exact G.retC1 rfl rfl (held_agg hVs rfl) ⟨rfl, e, hE⟩
theorem zleast_ok (w : World) (x : IV) (g : GI w.heap x) (hn : x.m.n ≤ 35184372088832) : Cl Try.prog 50 #[.agg (ivc x).toArray] w (RetZ w (ival x) x.m.n) := by
  have hs := g.s
  have hu := g.u
  refine enter Try.func50 rfl rfl rfl ?_
  repeat' (first | (refine TL.call rfl rfl ?_; first | (refine (least_ok _ _ _ _ _ _ (by first | ((repeat (first | assumption | (apply Sl.ext; assumption) | (apply Sm.ext; assumption) | (apply Sl.upd; assumption) | (apply Sm.upd; assumption) | omega)); done) | ((repeat (first | assumption | (apply Sl.ext; assumption) | (apply Sm.ext; assumption) | (apply sl_updV; assumption; (focus (repeat (first | assumption | (apply Vr.ext; assumption) | (apply Vr.updX; assumption; rotate_left; omega)))); rfl))); done)) hu hn).mono ?_; rintro _ wl ⟨Al, nl, cl, rfl, hOl, hEl, hKl⟩; refine Back.mk ?_; have hSl := hOl.sl (Nat.le_refl _); have hzl := hEl.size) | (refine (of_ok _ _ _ _ _ _ hSl).mono ?_; rintro _ wo ⟨rfl, hLo, hEo⟩; refine Back.mk ?_; have hzo := hEo.size)) | refine T.regionX 1 6 (.s 0 (.s 1 (.s 2 (.s 3 (.e 4 (.e 5 (.e 6 .nil))))))) mixed (by kernel_rfl) (fun wr hzr hEr => ?_) | (refine TL.boxA rfl rfl (fun wb bb ebb hVb hEb hzb => ?_); have hlb := box_lo (w0 := w) (by repeat (first | exact Ext.refl _ | (refine Ext.trans ?_ (by assumption)) | (apply ext_upd; assumption; rotate_left; omega))) ebb) | (refine TL.alloc rfl (fun wa ba eba hVa hEa hza => ?_); have hla := box_lo (w0 := w) (by repeat (first | exact Ext.refl _ | (refine Ext.trans ?_ (by assumption)) | (apply ext_upd; assumption; rotate_left; omega))) eba) | (refine TF.s rfl (fun _ _ => ev_fieldAddr rfl) rfl ?_) | (refine TF.s rfl (fun _ hh => ev_loadVX rfl (by refine ⟨Vr.ext hh ?_, ?_⟩; (focus (repeat (first | assumption | (apply Vr.ext; assumption) | (apply Vr.updX; assumption; rotate_left; omega)))); rfl)) rfl ?_) | (refine TL.storeVX rfl rfl rfl rfl (by refine ⟨?_, ?_⟩; (focus (repeat (first | assumption | (apply Vr.ext; assumption) | (apply Vr.updX; assumption; rotate_left; omega)))); rfl) (fun ws hVs hUs hzs => ?_)) | refine TF.nil ?_ | refine TF.e rfl ?_ | refine G.treeEnd rfl ?_ | refine G.tree rfl (by repeat (first | exact Ext.refl _ | (refine Ext.trans ?_ (by assumption)) | (apply ext_upd; assumption; rotate_left; omega))) ?_ | refine T.seq ?_ | refine T.region ?_ | refine TL.nil ?_ | refine T.ret ?_ | refine G.next ?_ | refine G.only ?_)
  exact G.retC1 rfl rfl (held_agg hVs rfl) ⟨_, rfl, LI.updV hUs (by repeat (first | assumption | (apply Vr.ext; assumption) | (apply Vr.updX; assumption; rotate_left; omega))) rfl hLo, (by repeat (first | exact Ext.refl _ | (refine Ext.trans ?_ (by assumption)) | (apply ext_upd; assumption; rotate_left; omega))), hKl⟩
end Go.Proofs.Ytlpheckjogphmaa

namespace Go.Proofs.Ytlpheckjogphmaa
open Go Go.Eng Go.Proofs Go.NatM Go.RowKit

theorem side_ok (H : Array Obj) (n : Int) (b : Bool) (h : decide (0 ≤ n ∧ n ≤ 64) = b) : Pure Try.prog 52 #[.int .i64 n] H (.bool b) := by
  refine Pure.of fun w hw => ?_
  subst hw h
  refine enter Try.func52 rfl rfl rfl ?_
  repeat' (first | refine TL.ev (ev_simple rfl) rfl ?_ | refine TL.grun rfl rfl rfl ?_ | refine TL.gskip rfl rfl rfl rfl ?_ | refine TL.gskipU rfl rfl rfl ?_ | refine TL.ev (ev_len rfl) rfl ?_ | (refine TL.cmpG rfl rfl rfl rfl (fun hc => ?_) (fun hc => ?_) <;> try (exfalso; omega)) | refine TL.ev (ev_arN rfl rfl rfl (by omega)) rfl ?_ | refine TL.ev (ev_arI rfl rfl rfl (by omega)) rfl ?_ | refine TL.ev (ev_neg rfl (by omega)) rfl ?_ | refine TF.nil ?_ | refine TF.e rfl ?_ | refine TF.alt ?_ ?_ | refine G.treeEnd rfl ?_ | refine G.tree rfl (by repeat (first | exact Ext.refl _ | (refine Ext.trans ?_ (by assumption)) | (apply ext_upd; assumption; rotate_left; omega))) ?_ | refine TL.nilX (fun wq hzq hEq => ?_) | refine T.seq ?_ | refine T.region ?_ | refine TL.nil ?_ | refine T.block ?_ | refine T.cond_t rfl ?_ | refine T.cond_f rfl ?_ | refine T.exit ?_ | refine T.ret ?_ | refine T.skip ?_ | refine G.next ?_ | refine G.blockN ?_ | refine G.blockE ?_ | refine G.blockE' rfl ?_ | refine G.blockR ?_ | refine G.thenE ?_ | refine G.thenR ?_ | refine T.regionQ mixed (by kernel_rfl) ?_ | refine TL.nilQ (fun _ => ?_) | refine G.only ?_ | refine G.mixed ?_ | refine TM.nil ?_ | refine TM.e rfl ?_)
  · exact G.ret1 rfl rfl ⟨by rw [decide_eq_true (by omega)], Qt.refl _⟩
  · exact G.ret1 rfl rfl ⟨by rw [decide_eq_false (by omega)], Qt.refl _⟩
  · exact G.ret1 rfl rfl ⟨by rw [decide_eq_false (by omega)], Qt.refl _⟩
/-- the shape of a matrix -/
structure Sound (x : MV) (r c : Nat) : Prop where
  er : x.r = r
  ec : x.c = c
  r64 : r ≤ 64
  c64 : c ≤ 64
  n : x.n = r * c
theorem mul64 {r c : Nat} (hr : r ≤ 64) (hc : c ≤ 64) : r * c ≤ 4096 := Nat.mul_le_mul hr hc
theorem chk_ok (w : World) (x : MV) (r c : Nat) (hS : Sound x r c) : Cl Try.prog 11 #[.agg (mvc x).toArray] w (fun e w' => e = .returned (.int .i64 0) ∧ Ext w w') := by
  obtain ⟨xr, xc, A, n, k, l⟩ := x
  obtain ⟨h1, h2, h3, h4, h5⟩ := hS
  dsimp only at h1 h2 h5
  subst h1 h2 h5
  have hm := mul64 h3 h4
  have hs1 : decide ((0 : Int) ≤ (r : Int) ∧ (r : Int) ≤ 64) = true := decide_eq_true (by omega)
  have hs2 : decide ((0 : Int) ≤ (c : Int) ∧ (c : Int) ≤ 64) = true := decide_eq_true (by omega)
  refine enter Try.func11 rfl rfl rfl ?_
  repeat' (first | refine TL.ev (ev_simple rfl) rfl ?_ | refine TL.grun rfl rfl rfl ?_ | (refine TL.call rfl rfl ?_; first | (refine (side_ok _ _ _ hs1).clX.mono ?_; rintro _ wc ⟨rfl, hzc, hEc⟩; refine Back.mk ?_) | (refine (side_ok _ _ _ hs2).clX.mono ?_; rintro _ wc ⟨rfl, hzc, hEc⟩; refine Back.mk ?_)) | refine TL.ev (ev_len rfl) rfl ?_ | (refine TL.cmpG rfl rfl rfl rfl (fun hc => ?_) (fun hc => ?_) <;> try first | (exfalso; omega) | exact absurd rfl hc) | refine TL.ev (ev_arN rfl rfl rfl (by omega)) rfl ?_ | (refine TL.boxA (cs := mvc ⟨r, c, A, r * c, k, l⟩) rfl rfl (fun wb bb ebb hVb hEb hzb => ?_)) | (refine TL.ev (ev_fieldAddr rfl) rfl ?_) | (refine TL.ev (ev_loadVX rfl (by refine ⟨?_, ?_⟩; (focus (repeat (first | assumption | (apply Vr.ext; assumption) | (apply Vr.updX; assumption; rotate_left; omega)))); rfl)) rfl ?_) | refine T.seq ?_ | refine T.region ?_ | refine TL.nil ?_ | refine T.cond_f rfl ?_ | refine T.ret ?_ | refine T.skip ?_ | refine G.next ?_)
  exact G.ret1 rfl rfl ⟨rfl, (by repeat (first | exact Ext.refl _ | (refine Ext.trans ?_ (by assumption)) | (apply ext_upd; assumption; rotate_left; omega)))⟩
/-- a matrix that reads; entries of at most K words -/
structure GM (H : Array Obj) (x : MV) (r c : Nat) (K : Nat) : Prop where
  sh : Sound x r c
  s : Sm 2 ivc H H.size x.A x.n x.k x.l
  g : ∀ y ∈ x.l, GI H y ∧ y.m.n ≤ K
/-- a matrix whose entries are F, in least form -/
structure LM (H : Array Obj) (x : MV) (r c : Nat) (F : Nat → Nat → Int) (K : Nat) : Prop where
  sh : Sound x r c
  s : Sm 2 ivc H H.size x.A x.n x.k x.l
  g : ∀ i j, i < r → j < c → LI H (F i j) (x.l.getD (i * c + j) default) ∧ (x.l.getD (i * c + j) default).m.n ≤ K
def ent (x : MV) (c i j : Nat) : Int := ival (x.l.getD (i * c + j) default)
theorem place_lt {i j r c : Nat} (hi : i < r) (hj : j < c) : i * c + j < r * c := by
  have h1 : (i + 1) * c ≤ r * c := Nat.mul_le_mul_right c hi
  rw [Nat.add_mul] at h1
  omega
theorem LM.gm {H : Array Obj} {x : MV} {r c : Nat} {F : Nat → Nat → Int} {K : Nat} (h : LM H x r c F K) : GM H x r c K := by
  refine ⟨h.sh, h.s, fun y hy => ?_⟩
  obtain ⟨q, hq⟩ := List.getElem?_of_mem hy
  have hlt := (List.getElem?_eq_some_iff.1 hq).1
  have hlen := h.s.len
  rw [h.sh.n] at hlen
  have hc : 0 < c := by rcases Nat.eq_zero_or_pos c with h0 | h0
                        · rw [h0, Nat.mul_zero] at hlen; omega
                        · exact h0
  have h1 : q / c < r := Nat.div_lt_of_lt_mul (by rw [Nat.mul_comm]; omega)
  have h2 := h.g (q / c) (q % c) h1 (Nat.mod_lt _ hc)
  rw [Nat.div_add_mod'] at h2
  have e : x.l.getD q default = y := by simp [List.getD, hq]
  rw [e] at h2
  exact ⟨h2.1.g, h2.2⟩
theorem LM.ent {H : Array Obj} {x : MV} {r c : Nat} {F : Nat → Nat → Int} {K : Nat} (h : LM H x r c F K) {i j : Nat} (hi : i < r) (hj : j < c) : ent x c i j = F i j := (h.g i j hi hj).1.val
theorem GM.ext {w w' : World} {x : MV} {r c K : Nat} (hE : Ext w w') (h : GM w.heap x r c K) : GM w'.heap x r c K := ⟨h.sh, (h.s.ext hE).size, fun y hy => ⟨(h.g y hy).1.ext hE, (h.g y hy).2⟩⟩
theorem LM.ext {w w' : World} {x : MV} {r c K : Nat} {F : Nat → Nat → Int} (hE : Ext w w') (h : LM w.heap x r c F K) : LM w'.heap x r c F K := ⟨h.sh, (h.s.ext hE).size, fun i j hi hj => ⟨(h.g i j hi hj).1.ext hE, (h.g i j hi hj).2⟩⟩
/-- the list lies in a block that is not older than w -/
def MF (w : World) (x : MV) : Prop := x.n = 0 ∨ ∃ b, x.A = some ⟨b, 0, none⟩ ∧ w.heap.size ≤ b
theorem MF.mono {w w1 : World} {x : MV} (h : MF w1 x) (hs : w.heap.size ≤ w1.heap.size) : MF w x := h.imp id fun ⟨b, e, hb⟩ => ⟨b, e, Nat.le_trans hs hb⟩
theorem ivc_all (l : List IV) (zs : List Value) (hz : zs.all noU64 = true) : (l.flatMap ivc ++ zs).all noU64 = true := by
  rw [List.all_append, hz, Bool.and_true]
  rw [List.all_eq_true]
  intro v hv
  obtain ⟨x, _, hx⟩ := List.mem_flatMap.1 hv
  simp only [ivc, List.mem_cons, List.not_mem_nil, or_false] at hx
  rcases hx with rfl | rfl <;> rfl
end Go.Proofs.Ytlpheckjogphmaa

namespace Go.Proofs.Ytlpheckjogphmaa
open Go Go.Eng Go.Proofs Go.NatM Go.RowKit

def noBool : Value → Bool
  | .bool _ => false
  | _ => true
theorem sm_updV {w w' : World} {B n k b : Nat} {A : Option Addr} {l : List IV} {t : TypeId} {cs : List Value} (hu : Upd b w w') (hV : Vr w.heap b t cs) (hc : cs.all noBool = true) (h : Sm 2 ivc w.heap B A n k l) : Sm 2 ivc w'.heap B A n k l := by
  refine ⟨h.len, h.cap, h.pos, h.wid, ?_⟩
  rcases h.mem with h0 | ⟨b', o, e, hlt, hm⟩
  · exact .inl h0
  · rcases Nat.eq_zero_or_pos n with h0 | h0
    · exact .inl h0
    · have hl : 0 < l.length := by have := h.len; omega
      have hne : b' ≠ b := by
        intro hb
        subst hb
        have h1 := hm 0 l[0] (List.getElem?_eq_getElem hl) 0 (.bool l[0].neg) rfl
        rw [hV.cell] at h1
        have h2 := List.all_eq_true.1 hc _ (List.mem_of_getElem? h1)
        cases h2
      refine .inr ⟨b', o, e, hlt, fun j x hx q v hv => ?_⟩
      have := hm j x hx q v hv
      unfold hcell at this ⊢
      rw [hu.block b' hne]
      exact this
theorem LM.updV {w w' : World} {x : MV} {r c K b : Nat} {F : Nat → Nat → Int} {t : TypeId} {cs : List Value} (hu : Upd b w w') (hV : Vr w.heap b t cs) (h1 : cs.all noU64 = true) (h2 : cs.all noBool = true) (h : LM w.heap x r c F K) : LM w'.heap x r c F K :=
  ⟨h.sh, (sm_updV hu hV h2 h.s).size, fun i j hi hj => ⟨LI.updV hu hV h1 (h.g i j hi hj).1, (h.g i j hi hj).2⟩⟩
theorem LI.zero (H : Array Obj) : LI H 0 ⟨false, ⟨none, 0, 0, []⟩⟩ := ⟨⟨Sl.nil _ _ _ _ _, U64.nil⟩, by simp [dig_zero], rfl⟩
/-- a new matrix and an error's number 0 -/
def RetME (w : World) (r c : Nat) (F : Nat → Nat → Int) (K : Nat) (e : Ending) (w' : World) : Prop := ∃ x : MV, e = .returned (.tuple #[.agg (mvc x).toArray, .int .i64 0]) ∧ LM w'.heap x r c F K ∧ Ext w w' ∧ MF w x
end Go.Proofs.Ytlpheckjogphmaa

namespace Go.Proofs.Ytlpheckjogphmaa
open Go Go.Eng Go.Proofs Go.NatM Go.RowKit

end Go.Proofs.Ytlpheckjogphmaa

namespace Go.Proofs.Ytlpheckjogphmaa
open Go Go.Eng Go.Proofs Go.NatM

theorem list_eq_of {l l' : List Nat} (h1 : l.length = l'.length) (h2 : ∀ j, j < l.length → l.getD j 0 = l'.getD j 0) : l = l' := by
  refine List.ext_getElem h1 fun j h h' => ?_
  have := h2 j h
  simpa [List.getD, h, h'] using this
theorem same_ok (H : Array Obj) (B B' : Nat) (A A' : Option Addr) (n c n' c' : Nat) (l l' : List Nat) (hs : Sl u64v H B A n c l) (hs' : Sl u64v H B' A' n' c' l') (hn : n ≤ 1152921504606846976) (hn' : n' ≤ 1152921504606846976) :
    Pure Try.prog 51 #[.slice A n c, .slice A' n' c'] H (.bool (decide (l = l'))) := by
  refine Pure.of fun w hw => ?_
  subst hw
  have hlen := hs.len
  have hlen' := hs'.len
  refine enter Try.func51 rfl rfl rfl ?_
  repeat' (first | refine TL.ev (ev_simple rfl) rfl ?_ | refine TL.ev (ev_len rfl) rfl ?_ | (refine TL.cmpG rfl rfl rfl rfl (fun hc => ?_) (fun hc => ?_) <;> try (exfalso; omega)) | refine T.seq ?_ | refine T.region ?_ | refine TL.nil ?_ | refine T.block ?_ | refine T.cond_t rfl ?_ | refine T.cond_f rfl ?_ | refine T.ret ?_ | refine T.skip ?_ | refine G.next ?_ | refine G.thenR ?_)
  · refine G.ret1 rfl rfl ⟨?_, Qt.refl _⟩
    rw [decide_eq_false (fun h => hc (by subst h; omega))]
  · refine T.loop (fun k : Nat => [(0, .slice A n c), (1, .slice A' n' c'), (5, .int .i64 (k : Int))]) (fun k w' => Qt w w' ∧ k ≤ n ∧ ∀ j, j < k → l.getD j 0 = l'.getD j 0) (fun k => n - k) 0 (by repeat (first | exact Sub.nil _ | refine Sub.cons rfl ?_ | refine Sub.cons' rfl (int_congr (by omega)) ?_)) ⟨Qt.refl w, Nat.zero_le _, fun j hj => by omega⟩ ?_
    rintro k w' ⟨⟨q, rfl⟩, hk, hz⟩
    have hq : Qt w (w.drewN q) := ⟨q, rfl⟩
    repeat' (first | refine TL.ev (ev_simple rfl) rfl ?_ | refine TL.ev (ev_len rfl) rfl ?_ | (refine TL.cmpG rfl rfl rfl rfl (fun hc => ?_) (fun hc => ?_) <;> try (exfalso; omega)) | refine TL.ev (ev_arN rfl rfl rfl (by omega)) rfl ?_ | refine TL.ev (ev_indexN rfl rfl (by omega) (by first | exact Or.inr rfl | exact Sl.some (by assumption))) rfl ?_ | refine TL.ev (ev_loadU rfl (by assumption) (by omega)) rfl ?_ | refine T.seq ?_ | refine T.region ?_ | refine TL.nil ?_ | refine T.block ?_ | refine T.cond_t rfl ?_ | refine T.cond_f rfl ?_ | refine T.exit ?_ | refine T.ret ?_ | refine T.skip ?_ | refine G.next ?_ | refine G.blockN ?_ | refine G.blockE ?_ | refine G.blockR ?_ | refine G.thenE ?_ | refine G.thenR ?_ | refine T.regionQ mixed (by kernel_rfl) ?_ | refine TL.nilQ (fun _ => ?_))
    · refine G.ret1 rfl rfl ⟨?_, hq.drewN _⟩
      rw [decide_eq_false (fun h => hc (by subst h; rfl))]
    · refine G.again (k + 1) (by repeat (first | exact Sub.nil _ | refine Sub.cons rfl ?_ | refine Sub.cons' rfl (int_congr (by omega)) ?_)) ⟨hq.drewN _, by omega, fun j hj => ?_⟩ (by omega)
      rcases Nat.lt_or_ge j k with h | h
      · exact hz j h
      · obtain rfl : j = k := by omega
        omega
    · refine G.ret1 rfl rfl ⟨?_, hq⟩
      rw [decide_eq_true (list_eq_of (by omega) (fun j hj => hz j (by omega)))]
theorem same_t (H : Array Obj) (B B' : Nat) (A A' : Option Addr) (n c n' c' : Nat) (l l' : List Nat) (hs : Sl u64v H B A n c l) (hs' : Sl u64v H B' A' n' c' l') (hn : n ≤ 1152921504606846976) (hn' : n' ≤ 1152921504606846976) (h : l = l') :
    Pure Try.prog 51 #[.slice A n c, .slice A' n' c'] H (.bool true) := by
  have := same_ok H B B' A A' n c n' c' l l' hs hs' hn hn'
  rwa [decide_eq_true h] at this
end Go.Proofs.Ytlpheckjogphmaa

namespace Go.Proofs.Ytlpheckjogphmaa
open Go Go.Eng Go.Proofs Go.NatM Go.RowKit

def YesM (w : World) (e : Ending) (w' : World) : Prop := e = .returned (.bool true) ∧ Ext w w'
end Go.Proofs.Ytlpheckjogphmaa

namespace Go.Proofs.Ytlpheckjogphmaa
open Go Go.Eng Go.Proofs Go.NatM Go.RowKit

theorem mvc_mk (r c : Int) (A : Option Addr) (n k : Nat) (l : List IV) : mvc ⟨r, c, A, n, k, l⟩ = [.int .i64 r, .int .i64 c, .slice A n k] := rfl
end Go.Proofs.Ytlpheckjogphmaa

namespace Go.Proofs.Ytlpheckjogphmaa
open Go Go.Eng Go.Proofs Go.NatM Go.RowKit

/-- a matrix that reads, sound or not; entries of at most K words -/
structure RM (H : Array Obj) (x : MV) (K : Nat) : Prop where
  s : Sm 2 ivc H H.size x.A x.n x.k x.l
  g : ∀ y ∈ x.l, GI H y ∧ y.m.n ≤ K
theorem RM.gm {H : Array Obj} {x : MV} {r c K : Nat} (h : RM H x K) (hs : Sound x r c) : GM H x r c K := ⟨hs, h.s, h.g⟩
theorem GM.updV {w w' : World} {x : MV} {r c K b : Nat} {t : TypeId} {cs : List Value} (hu : Upd b w w') (hV : Vr w.heap b t cs) (h1 : cs.all noU64 = true) (h2 : cs.all noBool = true) (h : GM w.heap x r c K) : GM w'.heap x r c K :=
  ⟨h.sh, (sm_updV hu hV h2 h.s).size, fun y hy => ⟨⟨(sl_updV hu hV h1 (h.g y hy).1.s).size, (h.g y hy).1.u⟩, (h.g y hy).2⟩⟩
theorem lm_mk {H : Array Obj} {z : MV} {r c : Nat} {F : Nat → Nat → Int} {K : Nat} (h : LM H z r c F K) : ∃ A k l, z = ⟨r, c, A, r * c, k, l⟩ := by
  obtain ⟨zr, zc, A, n, k, l⟩ := z
  obtain ⟨h1, h2, h3, h4, h5⟩ := id h.sh
  dsimp only at h1 h2 h5
  subst h1 h2 h5
  exact ⟨A, k, l, rfl⟩
end Go.Proofs.Ytlpheckjogphmaa

namespace Go.Proofs.Ytlpheckjogphmaa
open Go Go.Eng Go.Proofs Go.NatM Go.RowKit

theorem Sl.deS {F : Nat → Prop} {H H' : Array Obj} {n c : Nat} {A : Option Addr} {l : List Nat} (hd : DE F H H') (h : Sl u64v H H.size A n c l) : Sl u64v H' H'.size A n c l := (Sl.de hd h).size
theorem Sm.deS {F : Nat → Prop} {H H' : Array Obj} {n c : Nat} {A : Option Addr} {l : List IV} (hF : ∀ b, fpA A n b → F b) (hd : DE F H H') (h : Sm 2 ivc H H.size A n c l) : Sm 2 ivc H' H'.size A n c l := (Sm.de hF hd h).size
theorem GI.de {F : Nat → Prop} {H H' : Array Obj} {x : IV} (hd : DE F H H') (h : GI H x) : GI H' x := ⟨Sl.deS hd h.s, h.u⟩
theorem LI.de {F : Nat → Prop} {H H' : Array Obj} {x : IV} {z : Int} (hd : DE F H H') (h : LI H z x) : LI H' z x := ⟨h.g.de hd, h.d, h.e⟩
theorem GM.de {H H' : Array Obj} {x : MV} {r c K : Nat} (hd : DE (fpA x.A x.n) H H') (h : GM H x r c K) : GM H' x r c K := ⟨h.sh, Sm.deS (fun _ h => h) hd h.s, fun y hy => ⟨(h.g y hy).1.de hd, (h.g y hy).2⟩⟩
theorem LM.de {H H' : Array Obj} {x : MV} {r c K : Nat} {F : Nat → Nat → Int} (hd : DE (fpA x.A x.n) H H') (h : LM H x r c F K) : LM H' x r c F K := ⟨h.sh, Sm.deS (fun _ h => h) hd h.s, fun i j hi hj => ⟨(h.g i j hi hj).1.de hd, (h.g i j hi hj).2⟩⟩
theorem RM.de {H H' : Array Obj} {x : MV} {K : Nat} (hd : DE (fpA x.A x.n) H H') (h : RM H x K) : RM H' x K := ⟨Sm.deS (fun _ h => h) hd h.s, fun y hy => ⟨(h.g y hy).1.de hd, (h.g y hy).2⟩⟩
def dpSl (A : Option Addr) (n c : Nat) (l : List Nat) : DP := ⟨fun H => Sl u64v H H.size A n c l, fun _ => False, fun _ _ _ h => h.elim, fun _ _ hd h => Sl.deS hd h⟩
def dpGI (x : IV) : DP := ⟨fun H => GI H x, fun _ => False, fun _ _ _ h => h.elim, fun _ _ hd h => h.de hd⟩
def dpLI (z : Int) (x : IV) : DP := ⟨fun H => LI H z x, fun _ => False, fun _ _ _ h => h.elim, fun _ _ hd h => h.de hd⟩
def dpGM (x : MV) (r c K : Nat) : DP := ⟨fun H => GM H x r c K, fpA x.A x.n, fun _ _ h hk => h.s.fp_lt hk, fun _ _ hd h => h.de hd⟩
def dpLM (x : MV) (r c : Nat) (F : Nat → Nat → Int) (K : Nat) : DP := ⟨fun H => LM H x r c F K, fpA x.A x.n, fun _ _ h hk => h.s.fp_lt hk, fun _ _ hd h => h.de hd⟩
section
variable {S : Nat → Prop} {w0 w w' : World} {L : List VB} {D : List DP}
theorem mf_fp {x : MV} (h : MF w x) (k : Nat) (hk : fpA x.A x.n k) : w.heap.size ≤ k := by
  obtain ⟨h0, o, e⟩ := hk
  rcases h with h | ⟨b, e', hb⟩
  · omega
  · rw [e] at e'; cases e'; exact hb
theorem Fr.addSl (h : Fr w0 w L D S) {A : Option Addr} {n c : Nat} {l : List Nat} (k : Sl u64v w.heap w.heap.size A n c l) : Fr w0 w L (dpSl A n c l :: D) S := h.add _ k fun _ _ h => h
theorem Fr.addGI (h : Fr w0 w L D S) {x : IV} (k : GI w.heap x) : Fr w0 w L (dpGI x :: D) S := h.add _ k fun _ _ h => h
theorem Fr.addLI (h : Fr w0 w L D S) {x : IV} {z : Int} (k : LI w.heap z x) : Fr w0 w L (dpLI z x :: D) S := h.add _ k fun _ _ h => h
theorem Fr.addLM (h : Fr w0 w L D S) (hE : Ext w w') {x : MV} {r c K : Nat} {F : Nat → Nat → Int} (k : LM w'.heap x r c F K) (hf : MF w x) : Fr w0 w' L (dpLM x r c F K :: D) S := h.addNew hE _ k (mf_fp hf)
theorem Fr.sl (h : Fr w0 w L D S) {A : Option Addr} {n c : Nat} {l : List Nat} (hm : dpSl A n c l ∈ D) : Sl u64v w.heap w.heap.size A n c l := h.data _ hm
theorem Fr.gi (h : Fr w0 w L D S) {x : IV} (hm : dpGI x ∈ D) : GI w.heap x := h.data _ hm
theorem Fr.li (h : Fr w0 w L D S) {x : IV} {z : Int} (hm : dpLI z x ∈ D) : LI w.heap z x := h.data _ hm
theorem Fr.gm (h : Fr w0 w L D S) {x : MV} {r c K : Nat} (hm : dpGM x r c K ∈ D) : GM w.heap x r c K := h.data _ hm
theorem Fr.lm (h : Fr w0 w L D S) {x : MV} {r c K : Nat} {F : Nat → Nat → Int} (hm : dpLM x r c F K ∈ D) : LM w.heap x r c F K := h.data _ hm
end
attribute [irreducible] dpSl dpGI dpLI dpGM dpLM

end Go.Proofs.Ytlpheckjogphmaa

namespace Go.Proofs.Ytlpheckjogphmaa
open Go Go.Eng Go.Proofs Go.NatM Go.RowKit

theorem ivc_noV (l : List IV) : (l.flatMap ivc).all noU64 = true := by
  have := ivc_all l [] rfl
  rwa [List.append_nil] at this
/-- the first i of a list are Z, in least form, of at most K words -/
def LsK (i : Nat) (l : List IV) (Z : Nat → Int) (K : Nat) (H : Array Obj) : Prop := ∀ q, q < i → LI H (Z q) (l.getD q default) ∧ (l.getD q default).m.n ≤ K
def dpLK (i : Nat) (l : List IV) (Z : Nat → Int) (K : Nat) : DP := ⟨LsK i l Z K, fun _ => False, fun _ _ _ h => h.elim, fun _ _ hd h q hq => ⟨(h q hq).1.de hd, (h q hq).2⟩⟩
section
variable {S : Nat → Prop} {w0 w w' : World} {L : List VB} {D : List DP}
theorem Fr.addLK (h : Fr w0 w L D S) {i : Nat} {l : List IV} {Z : Nat → Int} {K : Nat} (k : LsK i l Z K w.heap) : Fr w0 w L (dpLK i l Z K :: D) S := h.add _ k fun _ _ h => h
theorem Fr.lk (h : Fr w0 w L D S) {i : Nat} {l : List IV} {Z : Nat → Int} {K : Nat} (hm : dpLK i l Z K ∈ D) : LsK i l Z K w.heap := h.data _ hm
end
attribute [irreducible] dpLK

theorem LsK.set {H : Array Obj} {l : List IV} {Z : Nat → Int} {i K : Nat} {u : IV} (h : LsK i l Z K H) (hi : i < l.length) (hu : LI H (Z i) u) (hn : u.m.n ≤ K) : LsK (i + 1) (l.set i u) Z K H := by
  intro q hq
  by_cases e : q = i
  · subst e
    have e1 : (l.set q u).getD q default = u := by simp [List.getD, hi]
    rw [e1]; exact ⟨hu, hn⟩
  · have e1 : (l.set i u).getD q default = l.getD q default := by simp [List.getD, List.getElem?_set_ne (fun h => e h.symm)]
    rw [e1]; exact h q (by omega)
/-- a list in memory: the numbers Z in least form, of at most K words each -/
structure LL (H : Array Obj) (A : Option Addr) (n k : Nat) (l : List IV) (Z : Nat → Int) (K : Nat) : Prop where
  s : Sm 2 ivc H H.size A n k l
  g : LsK n l Z K H
theorem LL.ext {w w' : World} {A : Option Addr} {n k K : Nat} {l : List IV} {Z : Nat → Int} (hE : Ext w w') (h : LL w.heap A n k l Z K) : LL w'.heap A n k l Z K := ⟨(h.s.ext hE).size, fun q hq => ⟨(h.g q hq).1.ext hE, (h.g q hq).2⟩⟩
theorem LL.de {H H' : Array Obj} {A : Option Addr} {n k K : Nat} {l : List IV} {Z : Nat → Int} (hd : DE (fpA A n) H H') (h : LL H A n k l Z K) : LL H' A n k l Z K := ⟨Sm.deS (fun _ h => h) hd h.s, fun q hq => ⟨(h.g q hq).1.de hd, (h.g q hq).2⟩⟩
/-- the list lies in a block that is not older than w -/
def LF (w : World) (A : Option Addr) (n : Nat) : Prop := n = 0 ∨ ∃ b, A = some ⟨b, 0, none⟩ ∧ w.heap.size ≤ b
def RetL (w : World) (n : Nat) (Z : Nat → Int) (K : Nat) (e : Ending) (w' : World) : Prop := ∃ A k l, e = .returned (.slice A n k) ∧ LL w'.heap A n k l Z K ∧ Ext w w' ∧ LF w A n

set_option maxRecDepth 100000 in
set_option maxHeartbeats 8000000 in
theorem each_ok (w : World) (A : Option Addr) (n k : Nat) (l : List IV) (hs : Sm 2 ivc w.heap w.heap.size A n k l) (hn : n ≤ 1048576) (g : FuncId) (cap : List Value) (hg : IsFn Try.prog g) (Z : Nat → Int) (K : Nat)
    (hG : ∀ i y (w1 : World), l[i]? = some y → Ext w w1 → Cl Try.prog g ([Value.agg (ivc y).toArray] ++ cap).toArray w1 (RetZ w1 (Z i) K)) :
    Cl Try.prog 76 #[.slice A n k, .func (.func g) #[] cap.toArray] w (RetL w n Z K) := by
  have hlen := hs.len
  refine enter Try.func76 rfl rfl rfl ?_
  have hF := Fr.refl w
  repeat' (first | (refine TL.isOp ?_; first | (apply TL.ev; (case hd => rfl); (case h => (first | exact ev_simple rfl | exact ev_len rfl))) | (refine TL.makeFr hF ivc ⟨false, ⟨none, 0, 0, []⟩⟩ (d := 10) rfl rfl rfl (Nat.le_refl _) (by omega) rfl rfl rfl ?_; clear hF; intro w10 b10 hF)) | (refine T.is ?_; first | refine T.seq ?_ | refine T.region ?_ | refine T.block ?_) | (refine G.is ?_; first | refine G.next ?_) | refine TL.nil ?_)
  refine T.loop (α := Nat × List IV) (fun x => [(1, .func (.func g) #[] cap.toArray), (5, .slice (some ⟨b10, 0, none⟩) n n), (11, .slice A n k), (12, .int .i64 (n : Int)), (13, .int .i64 (x.1 : Int))])
    (fun x w' => x.1 ≤ n ∧ x.2.length = n ∧ Fr w w' [⟨b10, 42, x.2.flatMap ivc⟩] [dpLK x.1 x.2 Z K])
    (fun x => n - x.1) (0, List.replicate n ⟨false, ⟨none, 0, 0, []⟩⟩) (by repeat (first | exact Sub.nil _ | refine Sub.cons rfl ?_ | refine Sub.cons' rfl (int_congr (by omega)) ?_)) ⟨Nat.zero_le _, List.length_replicate .., Fr.addLK hF (fun q hq => absurd hq (Nat.not_lt_zero _))⟩ ?_
  clear hF
  rintro ⟨i, zl⟩ w2 ⟨hi, hzl, hF⟩
  dsimp only at hi hzl hF ⊢
  rcases Nat.lt_or_ge i n with hin | hin
  · have hy : l[i]? = some (l.getD i default) := by simp [List.getD, show i < l.length by omega]
    obtain ⟨⟨yneg, ⟨yA, yn, yc, yl⟩⟩, ey⟩ : ∃ y, l.getD i default = y := ⟨_, rfl⟩
    rw [ey] at hy
    repeat' (first | (refine TL.isOp ?_; first | (refine TL.isBin ?_; refine TL.cmpG rfl rfl rfl rfl (fun hc => ?_) (fun hc => ?_) <;> (try (first | (exfalso; omega) | exact absurd rfl hc))) | (apply TL.ev; (case hd => rfl); (case h => (first | exact ev_simple rfl | (apply Ev.isBin; first | exact ev_arN rfl rfl rfl (by omega)) | (apply Ev.isLoad; first | exact ev_loadAFr hF rfl (by refine ⟨?_, ?_⟩; (focus (repeat (first | exact InV.head | apply InV.tail))); rfl) | exact ev_loadM rfl (hs.ext hF.ext) hy) | exact ev_indexM rfl rfl hin (hs.ext hF.ext).some | exact ev_indexM rfl rfl hin (.inr rfl)))) | (refine TL.storeAFr hF rfl rfl rfl rfl (by refine ⟨?_, ?_⟩; (focus (repeat (first | apply SetV.head | apply SetV.tail))); rfl) rfl ?_; clear hF; intro ws hF) | (refine TL.callV (vs := [.agg (ivc ⟨yneg, ⟨yA, yn, yc, yl⟩⟩).toArray]) (cap := cap) hg rfl rfl rfl ?_; refine (hG i _ _ hy hF.ext).mono ?_; rintro _ wf ⟨x, rfl, hLx, hE, hKx⟩; replace hF := Fr.addLI (hF.exts hE) hLx; clear hE hLx; refine Back.mk ?_) | (refine TL.storeAtFr hF (f := ivc) x rfl rfl rfl rfl (fun _ => rfl) (by rw [hzl]; exact hin) (ivc_noV zl) (by repeat (first | apply SetV.head | apply SetV.tail)) ?_; clear hF; intro ws hF) | (refine TL.allocFr hF rfl rfl ?_; clear hF; intro wa ba hF)) | (refine T.is ?_; first | refine T.seq ?_ | refine T.region ?_ | refine T.block ?_ | refine T.cond_t rfl ?_ | refine T.skip ?_) | (refine G.is ?_; first | refine G.next ?_ | refine G.blockN ?_) | refine TL.nil ?_)
    have hk := (Fr.lk hF (i := i) (l := zl) (by repeat (first | exact memH | apply memT))).set (by omega) (Fr.li hF (x := x) (by repeat (first | exact memH | apply memT))) hKx
    exact G.again (i + 1, zl.set i x) (by repeat (first | exact Sub.nil _ | refine Sub.cons rfl ?_ | refine Sub.cons' rfl (int_congr (by omega)) ?_)) ⟨by dsimp only; omega, by rw [List.length_set]; exact hzl, Fr.addLK (hF.weak (L := [⟨b10, 42, (zl.set i x).flatMap ivc⟩]) (D := []) (List.Sublist.cons _ (List.Sublist.refl _)) allN) hk⟩ (by dsimp only; omega)
  · obtain rfl : i = n := by omega
    repeat' (first | (refine TL.isOp ?_; first | (refine TL.isBin ?_; refine TL.cmpG rfl rfl rfl rfl (fun hc => ?_) (fun hc => ?_) <;> (try (first | (exfalso; omega) | exact absurd rfl hc))) | (apply TL.ev; (case hd => rfl); (case h => (first | exact ev_simple rfl)))) | (refine T.is ?_; first | refine T.seq ?_ | refine T.region ?_ | refine T.cond_f rfl ?_ | refine T.exit ?_ | refine T.ret ?_) | (refine G.is ?_; first | refine G.next ?_ | refine G.blockE ?_ | refine G.thenE ?_) | refine TL.nil ?_)
    refine G.ret1 rfl rfl ⟨_, _, zl, rfl, ⟨vr_sm (zs := []) (by omega) (fun _ _ => rfl) (by rw [List.append_nil]; exact hF.var .head) hzl (Nat.le_refl _) (hF.var .head).lt, Fr.lk hF (by repeat (first | exact memH | apply memT))⟩, hF.ext, .inr ⟨b10, rfl, ?_⟩⟩
    rcases hF.lo .head with h | h
    · exact h
    · exact h.elim
end Go.Proofs.Ytlpheckjogphmaa
