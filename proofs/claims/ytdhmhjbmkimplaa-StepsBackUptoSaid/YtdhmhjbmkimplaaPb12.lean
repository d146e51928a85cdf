/- Layer 11: a list of steps and its inverse: one behind the other they change nothing. Long division: plain arithmetic. The engine: walks that stop ahead of a region. The engine: walks that stop ahead of a loop. Long division: contracts of math/bits.LeadingZeros64, Div64. Long division: contracts of divnat.shifted, take, give. -/
import Derived.Test.YtdhmhjbmkimplaaPb11
import Derived.Test.YtdhmhjbmkimplaaPb5
import Derived.Test.YtdhmhjbmkimplaaPb8
import Derived.Test.YtdhmhjbmkimplaaPb7
set_option linter.unusedVariables false
set_option linter.unusedSimpArgs false
namespace Go.Proofs.Ytdhmhjbmkimplaa
open Go Go.Eng Go.Proofs Go.NatM Go.RowKit

/-- t takes s back -/
structure Inv1 (s t : SP) : Prop where
  kind : t.kind = s.kind
  i : t.i = s.i
  j : s.kind ≠ 2 → t.j = s.j
  k : s.kind = 3 → ival t.k = - ival s.k
theorem Inv1.symm {s t : SP} (h : Inv1 s t) : Inv1 t s := ⟨h.kind.symm, h.i.symm, fun e => (h.j (by rw [← h.kind]; exact e)).symm, fun e => by have := h.k (by rw [← h.kind]; exact e); omega⟩
theorem Inv1.fits {s t : SP} {n : Nat} (h : Inv1 s t) (hf : fits n s) : fits n t := by
  unfold Proofs.Ytdhmhjbmkimplaa.fits at hf ⊢
  have h1 := h.kind
  have h2 := h.i
  have h3 := h.j
  rcases hf with ⟨a, b, c⟩ | ⟨a, b⟩ | ⟨a, b, c, d⟩
  · exact .inl ⟨by omega, by omega, by have := h3 (by omega); omega⟩
  · exact .inr (.inl ⟨by omega, by omega⟩)
  · have := h3 (by omega)
    exact .inr (.inr ⟨by omega, by omega, by omega, by omega⟩)
theorem swap_twice (i j p : Nat) : (if (if p = j then i else if p = i then j else p) = j then i else if (if p = j then i else if p = i then j else p) = i then j else (if p = j then i else if p = i then j else p)) = p := by grind
theorem Inv1.back {s t : SP} {n : Nat} (h : Inv1 s t) (hf : Proofs.Ytdhmhjbmkimplaa.fits n s) (F : Nat → Nat → Int) : stepF t (stepF s F) = F := by
  have h1 := h.kind
  have h2 := h.i
  have h3 := h.j
  have h4 := h.k
  rcases hf with ⟨a, b, c⟩ | ⟨a, b⟩ | ⟨a, b, c, d⟩
  · rw [stepF_1 (s := t) (by omega), stepF_1 a, h2, h3 (by omega)]
    funext p q
    exact congrArg (fun r => F r q) (swap_twice s.i.toNat s.j.toNat p)
  · rw [stepF_2 (s := t) (by omega), stepF_2 a, h2]
    funext p q
    by_cases e1 : p = s.i.toNat
    · subst e1; simp
    · simp [e1]
  · rw [stepF_3 (s := t) (by omega), stepF_3 a, h2, h3 (by omega), h4 a]
    funext p q
    by_cases e1 : p = s.i.toNat
    · subst e1
      have e2 : s.j.toNat ≠ s.i.toNat := by omega
      simp only [if_pos, if_neg e2, Int.neg_mul]
      omega
    · simp [e1]
/-- T takes back what R, read from its end, does -/
def InvR (R T : List SP) : Prop := T.length = R.length ∧ ∀ (q : Nat) s t, R[q]? = some s → T[q]? = some t → Inv1 s t
theorem InvR.tail {s t : SP} {R T : List SP} (h : InvR (s :: R) (t :: T)) : InvR R T := ⟨by have := h.1; simpa using this, fun q a b ha hb => h.2 (q + 1) a b (by simpa using ha) (by simpa using hb)⟩
theorem InvR.head {s t : SP} {R T : List SP} (h : InvR (s :: R) (t :: T)) : Inv1 s t := h.2 0 s t rfl rfl
theorem InvR.turn {R T : List SP} (h : InvR R T) : InvR T.reverse R.reverse := by
  refine ⟨by simp [h.1], fun q s t hs ht => ?_⟩
  have h1 := (List.getElem?_eq_some_iff.1 hs).1
  rw [List.length_reverse] at h1
  rw [List.getElem?_reverse h1] at hs
  rw [List.getElem?_reverse (by rw [← h.1]; exact h1), ← h.1] at ht
  exact (h.2 _ t s ht hs).symm
def stepsR : List SP → (Nat → Nat → Int) → Nat → Nat → Int
  | [], F => F
  | s :: R, F => stepF s (stepsR R F)
theorem stepsR_eq (L : List SP) (F : Nat → Nat → Int) : stepsF L F = stepsR L.reverse F := by
  unfold stepsF
  rw [← List.foldr_reverse]
  generalize L.reverse = R
  induction R with
  | nil => rfl
  | cons s R ih => show stepF s _ = _; rw [ih]; rfl
theorem InvR.back {n : Nat} {F : Nat → Nat → Int} : ∀ {R T : List SP}, InvR R T → (∀ s ∈ R, fits n s) → stepsF T (stepsR R F) = F
  | [], [], _, _ => rfl
  | [], t :: T, h, _ => by have := h.1; simp at this
  | s :: R, [], h, _ => by have := h.1; simp at this
  | s :: R, t :: T, h, hf => by
    show stepsF T (stepF t (stepF s (stepsR R F))) = F
    rw [h.head.back (hf s (List.mem_cons_self ..))]
    exact InvR.back h.tail fun x hx => hf x (List.mem_cons_of_mem _ hx)
theorem InvR.fits {n : Nat} {R T : List SP} (h : InvR R T) (hf : ∀ s ∈ R, Proofs.Ytdhmhjbmkimplaa.fits n s) : ∀ t ∈ T, Proofs.Ytdhmhjbmkimplaa.fits n t := fun t ht => by
  obtain ⟨q, hq⟩ := List.getElem?_of_mem ht
  have hlt := (List.getElem?_eq_some_iff.1 hq).1
  have hl := h.1
  have hs : R[q]? = some (R.getD q default) := by simp [List.getD, show q < R.length by omega]
  exact (h.2 q _ t hs hq).fits (hf _ (List.mem_of_getElem? hs))
/-- the list and its inverse, on either side -/
theorem inv_left {n : Nat} {L T : List SP} (h : InvR L.reverse T) (hf : ∀ s ∈ L, fits n s) (F : Nat → Nat → Int) : stepsF T (stepsF L F) = F := by
  rw [stepsR_eq L]
  exact h.back fun s hs => hf s (List.mem_reverse.1 hs)
theorem inv_right {n : Nat} {L T : List SP} (h : InvR L.reverse T) (hf : ∀ s ∈ L, fits n s) (F : Nat → Nat → Int) : stepsF L (stepsF T F) = F := by
  have h2 := h.turn
  rw [List.reverse_reverse] at h2
  exact inv_left h2 (h.fits fun s hs => hf s (List.mem_reverse.1 hs)) F
theorem inv_inv {n : Nat} {L T U : List SP} (h : InvR L.reverse T) (h' : InvR T.reverse U) (hf : ∀ s ∈ L, fits n s) (F : Nat → Nat → Int) : stepsF U F = stepsF L F := by
  have h1 := inv_left h' (h.fits fun s hs => hf s (List.mem_reverse.1 hs)) (stepsF L F)
  rw [inv_left h hf] at h1
  exact h1
/-- what Inverse answers -/
theorem gi_len {H : Array Obj} {x : IV} (h : GI H x) : (dig (ival x).natAbs).length ≤ x.m.n := by
  unfold ival
  rw [sgn_abs, dig_length h.u, ← h.s.len]
  exact sz_le _
theorem StT.inv {H : Array Obj} {n : Nat} {L T : List SP} {K : Nat} (h : StT H T (invL L) K) (hg : ∀ s ∈ L, GI H s.k) : InvR L.reverse T ∧ wsum T ≤ wsum L := by
  have hl := h.len
  rw [invL_len] at hl
  have key : ∀ (q : Nat) s t, L.reverse[q]? = some s → T[q]? = some t → Inv1 s t ∧ t.k.m.n ≤ s.k.m.n := fun q s t hs ht => by
    have hv : (invL L)[q]? = some (invV s) := by unfold invL; rw [List.getElem?_map, hs]; rfl
    have h1 := h.g q t _ ht hv
    have h2 := h1.k.val
    have h3 : t.k.m.n = (dig (invV s).k.natAbs).length := by rw [← h1.k.d, h1.k.g.s.len]
    have h4 := gi_len (hg s (List.mem_reverse.1 (List.mem_of_getElem? hs)))
    refine ⟨⟨h1.kind, h1.i, fun e => ?_, fun e => ?_⟩, ?_⟩
    · have := h1.j; unfold invV at this; rw [if_neg e] at this; exact this
    · unfold invV at h2; rw [if_pos e] at h2; exact h2
    · rw [h3]
      unfold invV
      dsimp only
      split
      · rw [Int.natAbs_neg]; exact h4
      · simp [dig_zero]
  refine ⟨⟨by rw [List.length_reverse]; exact hl, fun q s t hs ht => (key q s t hs ht).1⟩, ?_⟩
  have hsum : ∀ (R T : List SP), T.length = R.length → (∀ (q : Nat) s t, R[q]? = some s → T[q]? = some t → t.k.m.n ≤ s.k.m.n) → wsum T ≤ wsum R := by
    intro R
    induction R with
    | nil => intro T h1 _; rw [List.eq_nil_of_length_eq_zero h1]; exact Nat.le_refl _
    | cons s R ih =>
      intro T h1 h2
      cases T with
      | nil => simp at h1
      | cons t T =>
        have h3 := h2 0 s t rfl rfl
        have h4 := ih T (by simpa using h1) fun q a b ha hb => h2 (q + 1) a b (by simpa using ha) (by simpa using hb)
        unfold wsum at h4 ⊢
        simp only [List.map_cons, List.sum_cons]
        omega
  have h5 := hsum L.reverse T (by rw [List.length_reverse]; exact hl) fun q s t hs ht => (key q s t hs ht).2
  have h6 : wsum L.reverse = wsum L := by unfold wsum; rw [List.map_reverse, List.sum_reverse]
  omega
end Go.Proofs.Ytdhmhjbmkimplaa

namespace Go.NatM

/-- a digit told by the highest three over the highest two is right, or one too great -/
theorem qhat {B P u ul V vl d : Nat} (hB : 4 ≤ B) (hul : ul < P) (hvl : vl < P) (hV : B * B ≤ 2 * V) (hU : u * P + ul < (V * P + vl) * B) (hd : d < B) (h1 : d * V ≤ u) (h2 : d = B - 1 ∨ u < (d + 1) * V) :
    (u * P + ul) / (V * P + vl) ≤ d ∧ d ≤ (u * P + ul) / (V * P + vl) + 1 := by
  have hP : 0 < P := by omega
  have hVp : 0 < V := by
    have : 4 * 4 ≤ B * B := Nat.mul_le_mul hB hB
    omega
  have hv : 0 < V * P + vl := by have := Nat.mul_pos hVp hP; omega
  have hq1 := Nat.div_mul_le_self (u * P + ul) (V * P + vl)
  have hq2 : u * P + ul < ((u * P + ul) / (V * P + vl) + 1) * (V * P + vl) := by
    have := Nat.lt_mul_div_succ (u * P + ul) hv
    rwa [Nat.mul_comm (V * P + vl)] at this
  have hqB : (u * P + ul) / (V * P + vl) < B := Nat.div_lt_of_lt_mul hU
  generalize (u * P + ul) / (V * P + vl) = q at *
  have hqV : q * V ≤ u := by
    rcases Nat.lt_or_ge u (q * V) with h | h
    · exfalso
      have a1 : (u + 1) * P ≤ (q * V) * P := Nat.mul_le_mul_right P h
      have a2 : q * (V * P + vl) = q * V * P + q * vl := by rw [Nat.mul_add, Nat.mul_assoc]
      rw [Nat.add_mul] at a1
      omega
    · exact h
  constructor
  · rcases h2 with h2 | h2
    · omega
    · have h3 : q * V < (d + 1) * V := by omega
      have := Nat.lt_of_mul_lt_mul_right h3
      omega
  · rcases Nat.lt_or_ge d (q + 2) with h | h
    · omega
    · exfalso
      have a1 : (d * V) * P ≤ u * P := Nat.mul_le_mul_right P h1
      have a2 : (q + 1) * (V * P + vl) ≤ (q + 1) * ((V + 1) * P) := Nat.mul_le_mul_left _ (by rw [Nat.add_mul]; omega)
      have a3 : (d * V) * P < ((q + 1) * (V + 1)) * P := by rw [Nat.mul_assoc (q + 1)]; omega
      have a4 := Nat.lt_of_mul_lt_mul_right a3
      have a5 : (q + 2) * V ≤ d * V := Nat.mul_le_mul_right V h
      have a6 : (q + 1) * (V + 1) = (q + 1) * V + (q + 1) := Nat.mul_succ _ _
      have a7 : (q + 2) * V = (q + 1) * V + V := by rw [show q + 2 = (q + 1) + 1 by omega, Nat.add_mul, Nat.one_mul]
      have a8 : 4 * B ≤ B * B := Nat.mul_le_mul_right B hB
      omega
theorem guess_stop {B un u0 v1 v0 d rest : Nat} (h : d * v1 + rest = un) (hs : d * v0 ≤ rest * B + u0) : d * (v1 * B + v0) ≤ un * B + u0 := by
  rw [← h, Nat.mul_add, Nat.add_mul, Nat.mul_assoc]; omega
theorem guess_go {B un u0 v1 v0 d rest : Nat} (h : d * v1 + rest = un) (hs : rest * B + u0 < d * v0) : un * B + u0 < d * (v1 * B + v0) := by
  rw [← h, Nat.mul_add, Nat.add_mul, Nat.mul_assoc]; omega
theorem guess_big {B un u0 v1 v0 d rest : Nat} (h : d * v1 + rest = un) (hd : d ≤ B) (hv : v0 < B) (hr : B ≤ rest) : d * (v1 * B + v0) ≤ un * B + u0 := by
  refine guess_stop h ?_
  have h1 : d * v0 ≤ B * B := Nat.mul_le_mul hd (by omega)
  have h2 : B * B ≤ rest * B := Nat.mul_le_mul_right B hr
  omega
theorem guess_top {B un u0 v1 v0 : Nat} (hv : 0 < v1) (hu : u0 < B) : un * B + u0 < (un / v1 + 1) * (v1 * B + v0) := by
  have h1 : un < (un / v1 + 1) * v1 := by rw [Nat.mul_comm]; exact Nat.lt_mul_div_succ _ hv
  generalize un / v1 + 1 = e at *
  have h2 : (un + 1) * B ≤ (e * v1) * B := Nat.mul_le_mul_right B h1
  rw [Nat.mul_add, ← Nat.mul_assoc]
  rw [Nat.add_mul, Nat.one_mul] at h2
  omega
theorem guess_is {N d v : Nat} (h1 : d * v ≤ N) (h2 : N < (d + 1) * v) : d = N / v := by
  have hv : 0 < v := by
    rcases Nat.eq_zero_or_pos v with h | h
    · subst h; omega
    · exact h
  exact (Nat.div_eq_of_lt_le h1 h2).symm
/-- the first guess of half a quotient -/
theorem half_le {B un v1 v0 : Nat} (h : un < v1 * B + v0) (hv : v0 < B) (h1 : B ≤ 2 * v1) (hB : 0 < B) : un / v1 ≤ B + 1 := by
  have : un < v1 * (B + 2) := by rw [Nat.mul_add]; omega
  have := Nat.div_lt_of_lt_mul this
  omega
/-- a difference below the word, reckoned modulo it -/
theorem sub_wrap {W a b : Nat} (h : b ≤ a) (hs : a - b < W) : (a % W + W - b % W) % W = a - b := by
  have h1 := Nat.div_add_mod a W
  have h2 := Nat.div_add_mod b W
  have hW : 0 < W := by omega
  have ha := Nat.mod_lt a hW
  have hb := Nat.mod_lt b hW
  obtain ⟨c, hc⟩ : ∃ c, c = a - b := ⟨_, rfl⟩
  rw [← hc] at hs ⊢
  have h3 : a % W = (b % W + c) % W := by rw [show a = b + c by omega, Nat.add_mod, Nat.mod_eq_of_lt hs]
  rcases Nat.lt_or_ge (b % W + c) W with h4 | h4
  · rw [h3, Nat.mod_eq_of_lt h4, show b % W + c + W - b % W = c + W by omega, Nat.add_mod_right, Nat.mod_eq_of_lt hs]
  · have h5 : (b % W + c) % W = b % W + c - W := by
      rw [Nat.mod_eq_sub_mod h4, Nat.mod_eq_of_lt (by omega)]
    rw [h3, h5, show b % W + c - W + W - b % W = c by omega, Nat.mod_eq_of_lt hs]
/-- one word of u less d times v -/
theorem take_step {p cy lent z : Nat} (hp : p + cy < 340282366920938463463374607431768211456) (hl : lent ≤ 1) (hz : z < 18446744073709551616) :
    (z + 18446744073709551616 - (p % 18446744073709551616 + cy + 0) % 18446744073709551616 - lent) % 18446744073709551616 + p + cy + lent =
      z + 18446744073709551616 * ((p / 18446744073709551616 + (p % 18446744073709551616 + cy + 0) / 18446744073709551616) % 18446744073709551616 + (if z < (p % 18446744073709551616 + cy + 0) % 18446744073709551616 + lent then 1 else 0)) := by
  split <;> omega
theorem take_next {vD d vt vS P u x z c c' : Nat} (h : vD + d * vt = vS + P * c) (e : u + d * x + c = z + 18446744073709551616 * c') : vD + P * u + d * (vt + P * x) = vS + P * z + P * 18446744073709551616 * c' := by
  have h2 : P * u + P * (d * x) + P * c = P * z + P * (18446744073709551616 * c') := by rw [← Nat.mul_add, ← Nat.mul_add, e, Nat.mul_add]
  rw [Nat.mul_add, Nat.mul_left_comm d P x, Nat.mul_assoc P]
  generalize P * (18446744073709551616 * c') = a1 at *
  generalize P * (d * x) = a2 at *
  generalize P * u = a3 at *
  generalize P * z = a4 at *
  generalize P * c = a5 at *
  generalize d * vt = a6 at *
  omega
theorem take_last {x cy lent : Nat} (hcy : cy < 18446744073709551616) (hl : lent ≤ 1) (hx : x < 18446744073709551616) : (x + 18446744073709551616 - cy - lent) % 18446744073709551616 + (cy + lent) = x + 18446744073709551616 * (if x < cy + lent then 1 else 0) := by split <;> omega
theorem take_end {vD dv vS P u x c c' : Nat} (h : vD + dv = vS + P * c) (e : u + c = x + 18446744073709551616 * c') : vD + P * u + dv = vS + P * x + P * 18446744073709551616 * c' := by
  have h2 : P * u + P * c = P * x + P * (18446744073709551616 * c') := by rw [← Nat.mul_add, e, Nat.mul_add]
  rw [Nat.mul_assoc P]
  omega
/-- the first digit of a division, and the rest -/
theorem digit_low {U v d D1 M : Nat} (hv : 0 < v) (hd : d ≤ U / v + 1) (hq : U / v ≤ d) (h : D1 + d * v = U) : d = U / v ∧ D1 = U % v := by
  have h1 : d ≤ U / v := by
    rw [Nat.le_div_iff_mul_le hv]; omega
  obtain rfl : d = U / v := by omega
  refine ⟨rfl, ?_⟩
  have := Nat.div_add_mod U v
  rw [Nat.mul_comm] at this
  omega
theorem digit_high {U v d D1 D2 M c : Nat} (hv : 0 < v) (hd : d ≤ U / v + 1) (hU : U < M) (h1 : D1 < M) (h : D1 + d * v = U + M) (h2 : D2 < M) (hg : D2 + M * c = D1 + v) : 1 ≤ d ∧ d - 1 = U / v ∧ D2 = U % v := by
  have hm := Nat.div_add_mod U v
  have hlt := Nat.mod_lt U hv
  have hd2 : U / v < d := by
    rcases Nat.lt_or_ge (U / v) d with h3 | h3
    · exact h3
    · have := Nat.mul_le_mul_right v h3
      rw [Nat.mul_comm (U / v)] at this
      omega
  generalize U / v = g at *
  generalize U % v = r at *
  obtain rfl : d = g + 1 := by omega
  refine ⟨Nat.le_add_left _ _, Nat.add_sub_cancel _ _, ?_⟩
  rw [Nat.add_mul, Nat.one_mul, Nat.mul_comm] at h
  have hc : c = 1 := by
    rcases Nat.lt_trichotomy c 1 with h3 | h3 | h3
    · obtain rfl : c = 0 := by omega
      rw [Nat.mul_zero] at hg
      omega
    · exact h3
    · have := Nat.mul_le_mul_left M h3
      omega
  subst hc
  rw [Nat.mul_one] at hg
  omega
theorem val_top2 {l : List Nat} {n : Nat} (h : l.length = n + 2) : val l = val (l.take n) + 18446744073709551616 ^ n * (l.getD n 0 + 18446744073709551616 * l.getD (n + 1) 0) := by
  have h1 := val_split l n
  rw [val_drop l n, val_drop l (n + 1), List.drop_of_length_le (show l.length ≤ n + 1 + 1 by omega)] at h1
  simpa [val] using h1
theorem val_top3 {l : List Nat} {n : Nat} (h : l.length = n + 3) : val l = val (l.take n) + 18446744073709551616 ^ n * (l.getD n 0 + 18446744073709551616 * (l.getD (n + 1) 0 + 18446744073709551616 * l.getD (n + 2) 0)) := by
  have h1 := val_split l n
  rw [val_drop l n, val_drop l (n + 1), val_drop l (n + 2), List.drop_of_length_le (show l.length ≤ n + 2 + 1 by omega)] at h1
  simpa [val] using h1
/-- words behind a small value are 0 -/
theorem val_small {l : List Nat} (hu : U64 l) {k : Nat} (h : val l < 18446744073709551616 ^ k) : val (l.take k) = val l := by
  refine val_take_ge l k ?_
  rcases Nat.lt_or_ge k (sz l) with h1 | h1
  · have h2 := pow_le_val (l := l) (by omega)
    have : 18446744073709551616 ^ k ≤ 18446744073709551616 ^ (sz l - 1) := Nat.pow_le_pow_right (by omega) (by omega)
    omega
  · exact h1
end Go.NatM

namespace Go.Eng
open Go Go.RowKit
/-- code that does not begin with this region -/
def notHead (id : Nat) : Code → Bool
  | .region i _ _ => !(Nat.beq i id)
  | .seq a _ => notHead id a
  | _ => true
theorem T.seqM {P : Program} {N : Fm} {Q : Exit → Act → World → Prop} {σ : Store} {w : World} {x y : Code} (id : Nat) (hn : notHead id x = true) (h : T P N x (Exit.then (y.wp P Q) Q) σ w) : T P N (x.seq y) Q σ w := T.seq h
theorem TI.seqM {P : Program} {R : Option Nat} {N : Fm} {Q : Exit → Act → World → Prop} {σ : Store} {w : World} {x y : Code} (id : Nat) (hn : notHead id x = true) (h : TI P R N x (Exit.then (Kc P R y Q) Q) σ w) : TI P R N (x.seq y) Q σ w := TI.seq h
/-- a list of blocks without one -/
inductive Out : List VB → Nat → List VB → Prop
  | head {L : List VB} {b : Nat} {t : TypeId} {cs : List Value} : Out (⟨b, t, cs⟩ :: L) b L
  | tail {x : VB} {L L' : List VB} {b : Nat} : Out L b L' → Out (x :: L) b (x :: L')
theorem Out.sub {L L' : List VB} {b : Nat} (h : Out L b L') : L'.Sublist L := by
  induction h with
  | head => exact List.Sublist.cons _ (List.Sublist.refl _)
  | tail _ ih => exact List.Sublist.cons_cons _ ih
section
variable {P : Program} {N : Fm} {Q : Exit → Act → World → Prop} {σ : Store} {S : Nat → Prop} {w0 w : World} {L L' : List VB} {D : List DP} {l : List Oper}
/-- a drawn region in which the block b may be written -/
theorem T.regionFo (b : Nat) (hF : Fr w0 w L D S) (hp : Out L b L') (id : Nat) (f : Nat) (t : Rt) (hm : P.follows .mixedOrders = true) (hB : treeB l.toArray f t = true)
    (h : ∀ w1 : World, Fr w0 w1 L D S → TF P N l Q (fun w' => Fr w0 w' L' D S) f t σ w1) : T P N (.region id l.toArray true) Q σ w :=
  T.regionF _ f t hm hB ((hF.weak hp.sub allR).exts (ext_drewN w 1)) (h _ (hF.exts (ext_drewN w 1)))
end
end Go.Eng

namespace Go.Eng
open Go Go.RowKit
/-- code that does not begin, within blocks and loops, with this region -/
def notDeep (id : Nat) : Code → Bool
  | .region i _ _ => !(Nat.beq i id)
  | .seq a _ => notDeep id a
  | .block _ a => notDeep id a
  | .loop a => notDeep id a
  | .scope a => notDeep id a
  | _ => true
theorem T.seqL {P : Program} {N : Fm} {Q : Exit → Act → World → Prop} {σ : Store} {w : World} {x y : Code} (id : Nat) (hn : notDeep id x = true) (h : T P N x (Exit.then (y.wp P Q) Q) σ w) : T P N (x.seq y) Q σ w := T.seq h
theorem G.scopeR {N : Fm} {Q : Exit → Act → World → Prop} {σ : Store} {w : World} (h : G N .ret Q σ w) : G N .ret (Exit.noGoto Q) σ w := by unfold G at *; exact fun a ha => h a ha
end Go.Eng

namespace Go.Proofs.Ytdhmhjbmkimplaa
open Go Go.Eng Go.Proofs Go.NatM Go.RowKit

theorem lead_ok (w : World) {z : Int} {x : Nat} [e0 : IsN z x] (hx : x < 18446744073709551616) : Cl Try.prog 106 #[.int .u64 z] w (fun e w' => e = .returned (.int .i64 ((64 - bl x : Nat) : Int)) ∧ Ext w w') := by
  have hb := bl_le64 hx
  refine enter Try.func106 rfl rfl rfl ?_
  have hF := Fr.refl w
  repeat' (first | (refine TL.isOp ?_; first | (refine TL.isCall ?_; refine TL.call rfl rfl ?_; first | (refine (len64_ok _ (x := x) hx).cl.mono ?_; rintro _ _ ⟨rfl, q1, rfl⟩; replace hF := hF.exts (ext_drewN _ q1); refine Back.mk ?_)) | (apply TL.ev; (case hd => rfl); (case h => (first | exact ev_simple rfl | (apply Ev.isBin; first | exact ev_arN rfl rfl rfl (by omega)))))) | (refine T.is ?_; first | refine T.seq ?_ | refine T.region ?_ | refine T.ret ?_) | (refine G.is ?_; first | refine G.next ?_) | refine TL.nil ?_)
  exact G.ret1 rfl rfl ⟨by rw [Int.natCast_sub hb], hF.ext⟩
theorem ev_castU {P : Program} {σ : Store} {H : Array Obj} {o : Oper} {m n : Nat} (h : Ev P σ H o (.int .u64 (m : Int))) (e : m = n) : Ev P σ H o (.int .u64 (n : Int)) := e ▸ h
theorem ev_subW {P : Program} {σ : Store} {H : Array Obj} {d : Option Tmp} {t : TypeId} {pos : String} {af : Array Edge} {gd : Option (Nat × Bool)} {x y : Operand} {tx ty : TypeId} {z1 z2 : Int} {m n : Nat} [e1 : IsN z1 m] [e2 : IsN z2 n] (hx : Eng.look σ x = some (.int .u64 z1)) (hy : Eng.look σ y = some (.int .u64 z2)) (h : n < 18446744073709551616) :
    Ev P σ H ⟨d, .binOp .sub tx x y ty, t, pos, af, gd⟩ (.int .u64 (((m + 18446744073709551616 - n) % 18446744073709551616 : Nat) : Int)) := ev_bin (by rw [hx, e1.out]) (by rw [hy, e2.out]) fun w => by
  have e : IntKind.u64.wrap ((m : Int) - (n : Int)) = (((m + 18446744073709551616 - n) % 18446744073709551616 : Nat) : Int) := by rw [IntKind.wrap_u64]; omega
  rw [run_bin_sub, e]
theorem half_shift {y s : Nat} (hs : s = 64 - bl y) (hy : 0 < y) (hW : y < 18446744073709551616) : s < 64 ∧ y * 2 ^ s < 18446744073709551616 ∧ 9223372036854775808 ≤ y * 2 ^ s := by
  have h1 := bl_le64 hW
  have h2 := lt_two_pow_bl y
  have h3 := two_pow_bl_le (n := y) (by omega)
  have h4 : bl y ≠ 0 := fun h => by rw [h] at h2; omega
  subst hs
  refine ⟨by omega, ?_, ?_⟩
  · have h5 := Nat.mul_lt_mul_of_pos_right h2 (Nat.two_pow_pos (64 - bl y))
    rw [← Nat.pow_add, show bl y + (64 - bl y) = 64 by omega] at h5
    exact h5
  · have h5 := Nat.mul_le_mul_right (2 ^ (64 - bl y)) h3
    rw [← Nat.pow_add, show bl y - 1 + (64 - bl y) = 63 by omega] at h5
    exact h5
theorem halves {Q Q2 : Nat} (h : Q < 4294967296) (h2 : Q2 < 4294967296) : (Q * 4294967296 % 18446744073709551616 + Q2) % 18446744073709551616 = Q * 4294967296 + Q2 := by omega
theorem hide {p : Prop} (h : p) : Unit → p := fun _ => h
theorem half_lt {r u : Nat} (hr : r < 4294967296) (hu : u < 4294967296) : r * 4294967296 + u < 18446744073709551616 := by omega
theorem half_done {Y v1 v0 Q q r un u1 : Nat} (hY : Y = v1 * 4294967296 + v0) (hQ : Q = (un * 4294967296 + u1) / Y) (h : q * v1 + r = un) (hs : q * v0 ≤ r * 4294967296 + u1) (ht : un * 4294967296 + u1 < (q + 1) * Y) : q = Q := by
  rw [hQ]
  exact guess_is (by rw [hY]; exact guess_stop h hs) ht
theorem half_next {Y v1 v0 q r un u1 : Nat} (hY : Y = v1 * 4294967296 + v0) (h : q * v1 + r = un) (h0 : 0 < q) (hu : un < Y) (hu1 : u1 < 4294967296) (hs : 4294967296 ≤ q ∨ r * 4294967296 + u1 < q * v0) : (q - 1) * v1 + (r + v1) = un ∧ un * 4294967296 + u1 < (q - 1 + 1) * Y := by
  obtain ⟨p, rfl⟩ : ∃ p, q = p + 1 := ⟨q - 1, by omega⟩
  rw [Nat.add_mul, Nat.one_mul] at h
  refine ⟨by rw [Nat.add_sub_cancel]; omega, ?_⟩
  rw [Nat.add_sub_cancel]
  rcases hs with hs | hs
  · have h1 : 4294967296 * Y ≤ (p + 1) * Y := Nat.mul_le_mul_right Y hs
    omega
  · rw [hY]
    exact guess_go (by rw [Nat.add_mul, Nat.one_mul]; exact h) hs
theorem half_end {Y v1 v0 Q q r un u1 : Nat} (hY : Y = v1 * 4294967296 + v0) (hQ : Q = (un * 4294967296 + u1) / Y) (h : q * v1 + r = un) (hq : q ≤ 4294967296) (hv : v0 < 4294967296) (hr : 4294967296 ≤ r) (ht : un * 4294967296 + u1 < (q + 1) * Y) : q = Q := by
  rw [hQ]
  exact guess_is (by rw [hY]; exact guess_big h hq hv hr) ht
theorem div64_end {B N y s Y un u1 u0 Q R Q2 R2 : Nat} (hY : y * 2 ^ s = Y) (hy : 0 < y) (hN : N * 2 ^ s = (un * B + u1) * B + u0) (h1 : Q * Y + R = un * B + u1) (h2 : Q2 * Y + R2 = R * B + u0) (h3 : R2 < Y) : Q * B + Q2 = N / y ∧ R2 / 2 ^ s = N % y := by
  have hp := Nat.two_pow_pos s
  have e1 : N * 2 ^ s = Y * (Q * B + Q2) + R2 := by
    rw [hN, ← h1]
    have a1 : (Q * Y + R) * B = Y * (Q * B) + R * B := by rw [Nat.add_mul, ← Nat.mul_assoc, Nat.mul_comm Y Q]
    have a2 : Y * (Q * B + Q2) = Y * (Q * B) + Q2 * Y := by rw [Nat.mul_add, Nat.mul_comm Y Q2]
    omega
  have e2 : N / y = Q * B + Q2 := by
    rw [← Nat.mul_div_mul_right N y hp, hY, e1, Nat.mul_add_div (by rw [← hY]; exact Nat.mul_pos hy hp), Nat.div_eq_of_lt h3, Nat.add_zero]
  have e3 : N % y * 2 ^ s = R2 := by
    rw [← Nat.mul_mod_mul_right, hY, e1, Nat.mul_add_mod, Nat.mod_eq_of_lt h3]
  exact ⟨e2.symm, by rw [← e3, Nat.mul_div_cancel _ hp]⟩
def RetDv (w : World) (N y : Nat) (e : Ending) (w' : World) : Prop := e = .returned (.tuple #[.int .u64 ((N / y : Nat) : Int), .int .u64 ((N % y : Nat) : Int)]) ∧ Ext w w'
set_option maxRecDepth 100000 in
set_option maxHeartbeats 8000000 in
theorem div64_ok (w : World) {z1 z2 z3 : Int} {hi lo y : Nat} [e1 : IsN z1 hi] [e2 : IsN z2 lo] [e3 : IsN z3 y] (hh : hi < y) (hl : lo < 18446744073709551616) (hy : y < 18446744073709551616) :
    Cl Try.prog 105 #[.int .u64 z1, .int .u64 z2, .int .u64 z3] w (RetDv w (hi * 18446744073709551616 + lo) y) := by
  obtain rfl := e1.out
  obtain rfl := e2.out
  obtain rfl := e3.out
  obtain ⟨s, es⟩ : ∃ s, s = 64 - bl y := ⟨_, rfl⟩
  obtain ⟨hs64, hyW, hy63⟩ := half_shift es (by omega) hy
  refine enter Try.func105 rfl rfl rfl ?_
  have hF := Fr.refl w
  rcases Nat.eq_zero_or_pos hi with h0 | h0
  · subst h0
    repeat' (first | (refine TL.isOp ?_; first | (refine TL.isBin ?_; refine TL.cmpG rfl rfl rfl rfl (fun hc => ?_) (fun hc => ?_) <;> (try (first | (exfalso; omega) | exact absurd rfl hc))) | (apply TL.ev; (case hd => rfl); (case h => (first | exact ev_simple rfl | (apply Ev.isBin; first | exact ev_arU rfl rfl rfl (by first | exact True.intro | omega)))))) | (refine T.is ?_; first | refine T.seq ?_ | refine T.region ?_ | refine T.cond_t rfl ?_ | refine T.cond_f rfl ?_ | refine T.ret ?_ | refine T.skip ?_ | refine T.regionQ mixed (by kernel_rfl) ?_) | (refine G.is ?_; first | refine G.next ?_ | refine G.thenR ?_) | refine TL.nil ?_ | (refine TL.nilFr hF ?_; clear hF; intro wq hF))
    exact G.ret2 rfl rfl rfl ⟨by rw [Nat.zero_mul, Nat.zero_add], hF.ext⟩
  · -- y times 2^s, in halves; the dividend times 2^s, in halves
    obtain ⟨Y, hY⟩ : ∃ Y, y * 2 ^ s = Y := ⟨_, rfl⟩
    have hYm : y * 2 ^ s % 18446744073709551616 = Y := by rw [hY, Nat.mod_eq_of_lt (by omega)]
    obtain ⟨v1, h1⟩ : ∃ v1, Y / 2 ^ 32 = v1 := ⟨_, rfl⟩
    obtain ⟨v0, h0'⟩ : ∃ v0, Y &&& 4294967295 = v0 := ⟨_, rfl⟩
    have hv0 : v0 = Y % 4294967296 := by rw [← h0', and32]
    have hYs : Y = v1 * 4294967296 + v0 := by omega
    have hs2 : 2 ^ s < 18446744073709551616 := show 2 ^ s < 2 ^ 64 from Nat.pow_lt_pow_right (by omega) hs64
    have hlo2 : lo / 2 ^ (64 - s) < 2 ^ s := shr_lt (by omega) hl
    obtain ⟨a2, ha2⟩ : ∃ a2, lo / 2 ^ (64 - s) = a2 := ⟨_, rfl⟩
    have hhs : (hi + 1) * 2 ^ s ≤ Y := by rw [← hY]; exact Nat.mul_le_mul_right _ hh
    rw [Nat.add_mul, Nat.one_mul] at hhs
    have hor : hi * 2 ^ s % 18446744073709551616 ||| a2 = hi * 2 ^ s + a2 := by
      rw [Nat.or_comm, or_shl (by omega) (by omega), Nat.mod_eq_of_lt (by omega), Nat.add_comm]
    obtain ⟨un, hun⟩ : ∃ un, hi * 2 ^ s + a2 = un := ⟨_, rfl⟩
    have hunY : un < Y := by omega
    obtain ⟨ul, hul⟩ : ∃ ul, lo * 2 ^ s % 18446744073709551616 = ul := ⟨_, rfl⟩
    have hsw := shl_word lo (show s ≤ 64 by omega) hl
    rw [hul, ha2] at hsw
    have hulW : ul < 18446744073709551616 := by rw [← hul]; exact Nat.mod_lt _ (by omega)
    obtain ⟨u1, hu1⟩ : ∃ u1, ul / 2 ^ 32 = u1 := ⟨_, rfl⟩
    obtain ⟨u0, hu0⟩ : ∃ u0, ul &&& 4294967295 = u0 := ⟨_, rfl⟩
    have hu0' : u0 = ul % 4294967296 := by rw [← hu0, and32]
    have hN : (hi * 18446744073709551616 + lo) * 2 ^ s = (un * 4294967296 + u1) * 4294967296 + u0 := by rw [Nat.add_mul, Nat.mul_right_comm]; omega
    have hv1 : 2147483648 ≤ v1 := by omega
    obtain ⟨q, hq⟩ : ∃ q, un / v1 = q := ⟨_, rfl⟩
    have hqv := Nat.div_mul_le_self un v1
    have hqt := guess_top (B := 4294967296) (un := un) (u0 := u1) (v0 := v0) (show 0 < v1 by omega) (by omega)
    have hqr : un - un / v1 * v1 < v1 := by have a1 := Nat.div_add_mod un v1; have a3 := Nat.mod_lt un (show 0 < v1 by omega); rw [Nat.mul_comm] at a1; omega
    have hql := half_le (B := 4294967296) (un := un) (v1 := v1) (v0 := v0) (by omega) (by omega) (by omega) (by omega)
    rw [hq] at hqv hqt hqr hql
    rw [← hYs] at hqt
    obtain ⟨pv, hpv⟩ : ∃ pv, q * v1 = pv := ⟨_, rfl⟩
    rw [hpv] at hqv hqr
    have hpvm : q * v1 % 18446744073709551616 = pv := by rw [hpv, Nat.mod_eq_of_lt (by omega)]
    repeat' (first | (refine TL.isOp ?_; first | (refine TL.isCall ?_; refine TL.call rfl rfl ?_; first | (refine (lead_ok _ hy).mono ?_; rintro _ wl ⟨rfl, hE⟩; rw [← es]; replace hF := hF.exts hE; clear hE; refine Back.mk ?_)) | (refine TL.isBin ?_; refine TL.cmpG rfl rfl rfl rfl (fun hc => ?_) (fun hc => ?_) <;> (try (first | (exfalso; omega) | exact absurd rfl hc))) | (apply TL.ev; (case hd => rfl); (case h => (first | exact ev_simple rfl | exact ev_convU rfl (by omega) | exact ev_castU (ev_shlU rfl rfl) hYm | exact ev_castU (ev_shrU rfl rfl (by omega)) h1 | exact ev_castU (ev_andU rfl rfl (by omega) (by omega)) h0' | exact ev_castU (ev_shlU rfl rfl) hul | exact ev_shlU rfl rfl | exact ev_castU (ev_shrU rfl rfl hl) ha2 | exact ev_subU rfl rfl ⟨by omega, by omega⟩ | exact ev_castU (ev_castU (ev_orU rfl rfl (Nat.mod_lt _ (by omega)) (by omega)) hor) hun | exact ev_castU (ev_shrU rfl rfl hulW) hu1 | exact ev_castU (ev_andU rfl rfl hulW (by omega)) hu0 | exact ev_castU (ev_quoU rfl rfl ⟨by omega, by omega⟩) hq | exact ev_castU (ev_mulU rfl rfl) hpvm)))) | (refine T.is ?_; first | refine T.seqL 17 rfl ?_ | refine T.region ?_ | refine T.cond_f rfl ?_ | refine T.skip ?_) | (refine G.is ?_; first | refine G.next ?_) | refine TL.nil ?_)
    -- HALVES
    have u1l : u1 < 4294967296 := by omega
    have u0l : u0 < 4294967296 := by omega
    have v0l : v0 < 4294967296 := by omega
    have v1l : v1 < 4294967296 := by omega
    have hYW : Y < 18446744073709551616 := by omega
    have hY0 : 0 < Y := by omega
    have HYs := hide hYs
    have HN := hide hN
    have HY := hide hY
    have hqt1 := hide hqt
    clear hYs hN hY hqt hsw hor hhs hlo2 hun hul hu1 hu0 hu0' ha2 hs2 hv0 h0' h1 hYm hy63 hyW es hulW hpvm
    clear hh hl hy
    obtain ⟨Q, hQ⟩ : ∃ Q, Q = (un * 4294967296 + u1) / Y := ⟨_, rfl⟩
    refine T.cut (α := Unit) (fun _ => [(2, .int .u64 (Y : Int)), (8, .int .u64 (s : Int)), (9, .int .u64 (v1 : Int)), (10, .int .u64 (v0 : Int)), (14, .int .u64 (u0 : Int)), (11, .int .u64 (un : Int)), (13, .int .u64 (u1 : Int)), (15, .int .u64 (Q : Int))]) (fun _ w' => Fr w w' [] []) ?_ ?_
    · refine T.block ?_
      refine T.loop (α := Nat × Nat) (fun x => [(2, .int .u64 (Y : Int)), (8, .int .u64 (s : Int)), (9, .int .u64 (v1 : Int)), (10, .int .u64 (v0 : Int)), (14, .int .u64 (u0 : Int)), (11, .int .u64 (un : Int)), (13, .int .u64 (u1 : Int)), (15, .int .u64 (x.1 : Int)), (16, .int .u64 (x.2 : Int))]) (fun x w' => x.1 * v1 + x.2 = un ∧ x.2 < 4294967296 ∧ un * 4294967296 + u1 < (x.1 + 1) * Y ∧ x.1 ≤ 4294967297 ∧ Fr w w' [] [])
        (fun x => x.1) (q, un - pv) (by repeat (first | exact Sub.nil _ | refine Sub.cons rfl ?_ | refine Sub.cons' rfl (int_congr (by omega)) ?_)) ⟨by dsimp only; omega, by dsimp only; omega, hqt1 (), by dsimp only; omega, hF⟩ ?_
      clear hF
      rintro ⟨q, r⟩ w2 ⟨hq1, hr, hqt, hql, hF⟩
      dsimp only at hq1 hr hqt hql hF ⊢
      have hul0 : u1 < 4294967296 := by omega
      have hdone : q * v0 ≤ r * 4294967296 + u1 → q = Q := fun h => half_done (HYs ()) hQ hq1 h hqt
      have hgo : 0 < q → (4294967296 ≤ q ∨ r * 4294967296 + u1 < q * v0) → (q - 1) * v1 + (r + v1) = un ∧ un * 4294967296 + u1 < (q - 1 + 1) * Y := fun h0 h => half_next (HYs ()) hq1 h0 (hunY) hul0 h
      have hend : 0 < q → (4294967296 ≤ q ∨ r * 4294967296 + u1 < q * v0) → 4294967296 ≤ r + v1 → q - 1 = Q := fun h0 h h1 => by
        obtain ⟨a1, a2⟩ := hgo h0 h
        exact half_end (HYs ()) hQ a1 (by omega) (by omega) h1 a2
      have hvW : v1 < 18446744073709551616 := by omega
      have e1 : (r + v1) % 18446744073709551616 = r + v1 := Nat.mod_eq_of_lt (by omega)
      rcases Nat.lt_or_ge q 4294967296 with hlt | hge
      · have hm1 : q * v0 % 18446744073709551616 = q * v0 := Nat.mod_eq_of_lt (by have : q * v0 ≤ 4294967295 * 4294967295 := Nat.mul_le_mul (by omega) (by omega); omega)
        have hm1W : q * v0 < 18446744073709551616 := by rw [← hm1]; exact Nat.mod_lt _ (by omega)
        have hm2 : 4294967296 * r % 18446744073709551616 = 4294967296 * r := Nat.mod_eq_of_lt (by omega)
        have hm3 : (4294967296 * r + u1) % 18446744073709551616 = r * 4294967296 + u1 := by rw [Nat.mul_comm]; exact Nat.mod_eq_of_lt (half_lt hr hul0)
        rcases Nat.lt_or_ge (r * 4294967296 + u1) (q * v0) with hcmp | hcmp
        · have hq0 : 0 < q := by
            rcases Nat.eq_zero_or_pos q with h | h
            · subst h; simp at hcmp
            · exact h
          obtain ⟨g1, g2⟩ := hgo hq0 (.inr hcmp)
          have g3 := hend hq0 (.inr hcmp)
          clear hdone hgo hend hqt hq1 hQ
          obtain ⟨m1, k1⟩ : ∃ m1, m1 = q * v0 := ⟨_, rfl⟩
          obtain ⟨m3, k3⟩ : ∃ m3, m3 = r * 4294967296 + u1 := ⟨_, rfl⟩
          have j1 : Unit → q * v0 % 18446744073709551616 = m1 := fun _ => hm1.trans k1.symm
          rw [← k1] at hm1W hcmp
          rw [← k3] at hm3 hcmp
          have j2 := fun _ : Unit => hm2
          have j3 := fun _ : Unit => hm3
          clear hm1 hm2 hm3 k1 k3
          repeat' (first | (refine TL.isOp ?_; first | (refine TL.isG ?_; first | refine TL.grun rfl rfl rfl ?_) | (refine TL.isBin ?_; refine TL.cmpG rfl rfl rfl rfl (fun hc => ?_) (fun hc => ?_) <;> (try (first | (exfalso; omega) | exact absurd rfl hc))) | (apply TL.ev; (case hd => rfl); (case h => (first | exact ev_simple rfl | exact ev_castU (ev_mulU rfl rfl) (j1 ()) | exact ev_castU (ev_mulU rfl rfl) (j2 ()) | exact ev_castU (ev_addU rfl rfl) (j3 ()) | exact ev_subU rfl rfl ⟨by omega, by omega⟩ | exact ev_castU (ev_addU rfl rfl) e1)))) | (refine T.is ?_; first | refine T.seq ?_ | refine T.region ?_ | refine T.block ?_ | refine T.cond_t rfl ?_ | refine T.cond_f rfl ?_ | refine T.exit ?_ | refine T.skip ?_) | (refine G.is ?_; first | refine G.next ?_ | refine G.blockN ?_ | refine G.blockE ?_ | refine G.blockE' rfl ?_ | refine G.thenE ?_) | refine TL.nil ?_)
          · have := g3 (by omega)
            rw [this]
            exact G.cut () (by repeat (first | exact Sub.nil _ | refine Sub.cons rfl ?_ | refine Sub.cons' rfl (int_congr (by omega)) ?_)) hF
          · exact G.again (q - 1, r + v1) (by repeat (first | exact Sub.nil _ | refine Sub.cons rfl ?_ | refine Sub.cons' rfl (int_congr (by omega)) ?_)) ⟨g1, by dsimp only; omega, g2, by dsimp only; omega, hF⟩ (by dsimp only; omega)
        · have g3 := hdone hcmp
          clear hdone hgo hend hqt hq1 hQ
          obtain ⟨m1, k1⟩ : ∃ m1, m1 = q * v0 := ⟨_, rfl⟩
          obtain ⟨m3, k3⟩ : ∃ m3, m3 = r * 4294967296 + u1 := ⟨_, rfl⟩
          have j1 : Unit → q * v0 % 18446744073709551616 = m1 := fun _ => hm1.trans k1.symm
          rw [← k1] at hm1W hcmp
          rw [← k3] at hm3 hcmp
          have j2 := fun _ : Unit => hm2
          have j3 := fun _ : Unit => hm3
          clear hm1 hm2 hm3 k1 k3
          repeat' (first | (refine TL.isOp ?_; first | (refine TL.isG ?_; first | refine TL.grun rfl rfl rfl ?_) | (refine TL.isBin ?_; refine TL.cmpG rfl rfl rfl rfl (fun hc => ?_) (fun hc => ?_) <;> (try (first | (exfalso; omega) | exact absurd rfl hc))) | (apply TL.ev; (case hd => rfl); (case h => (first | exact ev_simple rfl | exact ev_castU (ev_mulU rfl rfl) (j1 ()) | exact ev_castU (ev_mulU rfl rfl) (j2 ()) | exact ev_castU (ev_addU rfl rfl) (j3 ()))))) | (refine T.is ?_; first | refine T.seq ?_ | refine T.region ?_ | refine T.cond_f rfl ?_ | refine T.exit ?_) | (refine G.is ?_; first | refine G.next ?_ | refine G.blockE ?_ | refine G.thenE ?_) | refine TL.nil ?_)
          rw [g3]
          exact G.cut () (by repeat (first | exact Sub.nil _ | refine Sub.cons rfl ?_ | refine Sub.cons' rfl (int_congr (by omega)) ?_)) hF
      · obtain ⟨g1, g2⟩ := hgo (by omega) (.inl hge)
        have g3 := hend (by omega) (.inl hge)
        clear hdone hgo hend hqt hq1 hQ
        repeat' (first | (refine TL.isOp ?_; first | (refine TL.isG ?_; first | refine TL.gskip rfl rfl rfl rfl ?_) | (refine TL.isBin ?_; refine TL.cmpG rfl rfl rfl rfl (fun hc => ?_) (fun hc => ?_) <;> (try (first | (exfalso; omega) | exact absurd rfl hc))) | (apply TL.ev; (case hd => rfl); (case h => (first | exact ev_simple rfl | exact ev_subU rfl rfl ⟨by omega, by omega⟩ | exact ev_castU (ev_addU rfl rfl) e1)))) | (refine T.is ?_; first | refine T.seq ?_ | refine T.region ?_ | refine T.block ?_ | refine T.cond_t rfl ?_ | refine T.cond_f rfl ?_ | refine T.exit ?_ | refine T.skip ?_) | (refine G.is ?_; first | refine G.next ?_ | refine G.blockN ?_ | refine G.blockE ?_ | refine G.blockE' rfl ?_ | refine G.thenE ?_) | refine TL.nil ?_)
        · have := g3 (by omega)
          rw [this]
          exact G.cut () (by repeat (first | exact Sub.nil _ | refine Sub.cons rfl ?_ | refine Sub.cons' rfl (int_congr (by omega)) ?_)) hF
        · exact G.again (q - 1, r + v1) (by repeat (first | exact Sub.nil _ | refine Sub.cons rfl ?_ | refine Sub.cons' rfl (int_congr (by omega)) ?_)) ⟨g1, by dsimp only; omega, g2, by dsimp only; omega, hF⟩ (by dsimp only; omega)
    clear hF
    rintro ⟨⟩ wm hF
    clear hqt1 hql hqr hqv
    clear hpv pv hq q
    have hQlt : Q < 4294967296 := by rw [hQ]; exact Nat.div_lt_of_lt_mul (by rw [Nat.mul_comm Y]; omega)
    have hQm := Nat.div_mul_le_self (un * 4294967296 + u1) Y
    have hRm := Nat.div_add_mod (un * 4294967296 + u1) Y
    have hRl := Nat.mod_lt (un * 4294967296 + u1) (show 0 < Y by omega)
    rw [Nat.mul_comm] at hRm
    rw [← hQ] at hQm hRm
    obtain ⟨R, hR⟩ : ∃ R, R = (un * 4294967296 + u1) % Y := ⟨_, rfl⟩
    rw [← hR] at hRm hRl
    have hR3 : (un * 4294967296 % 18446744073709551616 + u1) % 18446744073709551616 = (un * 4294967296 + u1) % 18446744073709551616 := by omega
    have hR2 : ((un * 4294967296 % 18446744073709551616 + u1) % 18446744073709551616 + 18446744073709551616 - Q * Y % 18446744073709551616) % 18446744073709551616 = R := by
      rw [hR3, sub_wrap hQm (by omega)]; omega
    have hQYm : Q * Y % 18446744073709551616 < 18446744073709551616 := Nat.mod_lt _ (by omega)
    obtain ⟨Q2, hQ2⟩ : ∃ Q2, Q2 = (R * 4294967296 + u0) / Y := ⟨_, rfl⟩
    obtain ⟨q, hq⟩ : ∃ q, R / v1 = q := ⟨_, rfl⟩
    have hqv := Nat.div_mul_le_self R v1
    have hqt := guess_top (B := 4294967296) (un := R) (u0 := u0) (v0 := v0) (show 0 < v1 by omega) (by omega)
    have hqr : R - R / v1 * v1 < v1 := by have a1 := Nat.div_add_mod R v1; have a3 := Nat.mod_lt R (show 0 < v1 by omega); rw [Nat.mul_comm] at a1; omega
    have hql := half_le (B := 4294967296) (un := R) (v1 := v1) (v0 := v0) (by have := HYs (); omega) (by omega) (by omega) (by omega)
    rw [hq] at hqv hqt hqr hql
    rw [← HYs ()] at hqt
    obtain ⟨pv, hpv⟩ : ∃ pv, q * v1 = pv := ⟨_, rfl⟩
    rw [hpv] at hqv hqr
    have hpvm : q * v1 % 18446744073709551616 = pv := by rw [hpv, Nat.mod_eq_of_lt (by omega)]
    have HQ := hide hQ
    have HRm := hide hRm
    have HR2 := hide hR2
    have HRl := hide hRl
    have HQY := hide hQYm
    have hqt1 := hide hqt
    have hRW : R < 18446744073709551616 := by omega
    have HQ2 := hide hQ2
    clear hQ hQm hRm hRl hR hR3 hR2 hQYm hqt hQ2
    repeat' (first | (refine TL.isOp ?_; first | (apply TL.ev; (case hd => rfl); (case h => (first | exact ev_simple rfl | exact ev_castU (ev_quoU rfl rfl ⟨by omega, by omega⟩) hq | exact ev_castU (ev_mulU rfl rfl) hpvm | exact ev_mulU rfl rfl | exact ev_addU rfl rfl | exact ev_castU (ev_subW rfl rfl (HQY ())) (HR2 ()) | exact ev_subU rfl rfl ⟨by omega, by omega⟩)))) | (refine T.is ?_; first | refine T.seqL 24 rfl ?_ | refine T.region ?_) | (refine G.is ?_; first | refine G.next ?_) | refine TL.nil ?_)
    refine T.cut (α := Unit) (fun _ => [(2, .int .u64 (Y : Int)), (8, .int .u64 (s : Int)), (9, .int .u64 (v1 : Int)), (10, .int .u64 (v0 : Int)), (14, .int .u64 (u0 : Int)), (17, .int .u64 (R : Int)), (15, .int .u64 (Q : Int)), (18, .int .u64 (Q2 : Int))]) (fun _ w' => Fr w w' [] []) ?_ ?_
    · refine T.block ?_
      refine T.loop (α := Nat × Nat) (fun x => [(2, .int .u64 (Y : Int)), (8, .int .u64 (s : Int)), (9, .int .u64 (v1 : Int)), (10, .int .u64 (v0 : Int)), (14, .int .u64 (u0 : Int)), (17, .int .u64 (R : Int)), (15, .int .u64 (Q : Int)), (18, .int .u64 (x.1 : Int)), (16, .int .u64 (x.2 : Int))]) (fun x w' => x.1 * v1 + x.2 = R ∧ x.2 < 4294967296 ∧ R * 4294967296 + u0 < (x.1 + 1) * Y ∧ x.1 ≤ 4294967297 ∧ Fr w w' [] [])
        (fun x => x.1) (q, R - pv) (by repeat (first | exact Sub.nil _ | refine Sub.cons rfl ?_ | refine Sub.cons' rfl (int_congr (by omega)) ?_)) ⟨by dsimp only; omega, by dsimp only; omega, hqt1 (), by dsimp only; omega, hF⟩ ?_
      clear hF
      rintro ⟨q, r⟩ w2 ⟨hq1, hr, hqt, hql, hF⟩
      dsimp only at hq1 hr hqt hql hF ⊢
      have hul0 : u0 < 4294967296 := by omega
      have hdone : q * v0 ≤ r * 4294967296 + u0 → q = Q2 := fun h => half_done (HYs ()) (HQ2 ()) hq1 h hqt
      have hgo : 0 < q → (4294967296 ≤ q ∨ r * 4294967296 + u0 < q * v0) → (q - 1) * v1 + (r + v1) = R ∧ R * 4294967296 + u0 < (q - 1 + 1) * Y := fun h0 h => half_next (HYs ()) hq1 h0 (HRl ()) hul0 h
      have hend : 0 < q → (4294967296 ≤ q ∨ r * 4294967296 + u0 < q * v0) → 4294967296 ≤ r + v1 → q - 1 = Q2 := fun h0 h h1 => by
        obtain ⟨a1, a2⟩ := hgo h0 h
        exact half_end (HYs ()) (HQ2 ()) a1 (by omega) (by omega) h1 a2
      have hvW : v1 < 18446744073709551616 := by omega
      have e1 : (r + v1) % 18446744073709551616 = r + v1 := Nat.mod_eq_of_lt (by omega)
      rcases Nat.lt_or_ge q 4294967296 with hlt | hge
      · have hm1 : q * v0 % 18446744073709551616 = q * v0 := Nat.mod_eq_of_lt (by have : q * v0 ≤ 4294967295 * 4294967295 := Nat.mul_le_mul (by omega) (by omega); omega)
        have hm1W : q * v0 < 18446744073709551616 := by rw [← hm1]; exact Nat.mod_lt _ (by omega)
        have hm2 : 4294967296 * r % 18446744073709551616 = 4294967296 * r := Nat.mod_eq_of_lt (by omega)
        have hm3 : (4294967296 * r + u0) % 18446744073709551616 = r * 4294967296 + u0 := by rw [Nat.mul_comm]; exact Nat.mod_eq_of_lt (half_lt hr hul0)
        rcases Nat.lt_or_ge (r * 4294967296 + u0) (q * v0) with hcmp | hcmp
        · have hq0 : 0 < q := by
            rcases Nat.eq_zero_or_pos q with h | h
            · subst h; simp at hcmp
            · exact h
          obtain ⟨g1, g2⟩ := hgo hq0 (.inr hcmp)
          have g3 := hend hq0 (.inr hcmp)
          clear hdone hgo hend hqt hq1 
          obtain ⟨m1, k1⟩ : ∃ m1, m1 = q * v0 := ⟨_, rfl⟩
          obtain ⟨m3, k3⟩ : ∃ m3, m3 = r * 4294967296 + u0 := ⟨_, rfl⟩
          have j1 : Unit → q * v0 % 18446744073709551616 = m1 := fun _ => hm1.trans k1.symm
          rw [← k1] at hm1W hcmp
          rw [← k3] at hm3 hcmp
          have j2 := fun _ : Unit => hm2
          have j3 := fun _ : Unit => hm3
          clear hm1 hm2 hm3 k1 k3
          repeat' (first | (refine TL.isOp ?_; first | (refine TL.isG ?_; first | refine TL.grun rfl rfl rfl ?_) | (refine TL.isBin ?_; refine TL.cmpG rfl rfl rfl rfl (fun hc => ?_) (fun hc => ?_) <;> (try (first | (exfalso; omega) | exact absurd rfl hc))) | (apply TL.ev; (case hd => rfl); (case h => (first | exact ev_simple rfl | exact ev_castU (ev_mulU rfl rfl) (j1 ()) | exact ev_castU (ev_mulU rfl rfl) (j2 ()) | exact ev_castU (ev_addU rfl rfl) (j3 ()) | exact ev_subU rfl rfl ⟨by omega, by omega⟩ | exact ev_castU (ev_addU rfl rfl) e1)))) | (refine T.is ?_; first | refine T.seq ?_ | refine T.region ?_ | refine T.block ?_ | refine T.cond_t rfl ?_ | refine T.cond_f rfl ?_ | refine T.exit ?_ | refine T.skip ?_) | (refine G.is ?_; first | refine G.next ?_ | refine G.blockN ?_ | refine G.blockE ?_ | refine G.blockE' rfl ?_ | refine G.thenE ?_) | refine TL.nil ?_)
          · have := g3 (by omega)
            rw [this]
            exact G.cut () (by repeat (first | exact Sub.nil _ | refine Sub.cons rfl ?_ | refine Sub.cons' rfl (int_congr (by omega)) ?_)) hF
          · exact G.again (q - 1, r + v1) (by repeat (first | exact Sub.nil _ | refine Sub.cons rfl ?_ | refine Sub.cons' rfl (int_congr (by omega)) ?_)) ⟨g1, by dsimp only; omega, g2, by dsimp only; omega, hF⟩ (by dsimp only; omega)
        · have g3 := hdone hcmp
          clear hdone hgo hend hqt hq1 
          obtain ⟨m1, k1⟩ : ∃ m1, m1 = q * v0 := ⟨_, rfl⟩
          obtain ⟨m3, k3⟩ : ∃ m3, m3 = r * 4294967296 + u0 := ⟨_, rfl⟩
          have j1 : Unit → q * v0 % 18446744073709551616 = m1 := fun _ => hm1.trans k1.symm
          rw [← k1] at hm1W hcmp
          rw [← k3] at hm3 hcmp
          have j2 := fun _ : Unit => hm2
          have j3 := fun _ : Unit => hm3
          clear hm1 hm2 hm3 k1 k3
          repeat' (first | (refine TL.isOp ?_; first | (refine TL.isG ?_; first | refine TL.grun rfl rfl rfl ?_) | (refine TL.isBin ?_; refine TL.cmpG rfl rfl rfl rfl (fun hc => ?_) (fun hc => ?_) <;> (try (first | (exfalso; omega) | exact absurd rfl hc))) | (apply TL.ev; (case hd => rfl); (case h => (first | exact ev_simple rfl | exact ev_castU (ev_mulU rfl rfl) (j1 ()) | exact ev_castU (ev_mulU rfl rfl) (j2 ()) | exact ev_castU (ev_addU rfl rfl) (j3 ()))))) | (refine T.is ?_; first | refine T.seq ?_ | refine T.region ?_ | refine T.cond_f rfl ?_ | refine T.exit ?_) | (refine G.is ?_; first | refine G.next ?_ | refine G.blockE ?_ | refine G.thenE ?_) | refine TL.nil ?_)
          rw [g3]
          exact G.cut () (by repeat (first | exact Sub.nil _ | refine Sub.cons rfl ?_ | refine Sub.cons' rfl (int_congr (by omega)) ?_)) hF
      · obtain ⟨g1, g2⟩ := hgo (by omega) (.inl hge)
        have g3 := hend (by omega) (.inl hge)
        clear hdone hgo hend hqt hq1 
        repeat' (first | (refine TL.isOp ?_; first | (refine TL.isG ?_; first | refine TL.gskip rfl rfl rfl rfl ?_) | (refine TL.isBin ?_; refine TL.cmpG rfl rfl rfl rfl (fun hc => ?_) (fun hc => ?_) <;> (try (first | (exfalso; omega) | exact absurd rfl hc))) | (apply TL.ev; (case hd => rfl); (case h => (first | exact ev_simple rfl | exact ev_subU rfl rfl ⟨by omega, by omega⟩ | exact ev_castU (ev_addU rfl rfl) e1)))) | (refine T.is ?_; first | refine T.seq ?_ | refine T.region ?_ | refine T.block ?_ | refine T.cond_t rfl ?_ | refine T.cond_f rfl ?_ | refine T.exit ?_ | refine T.skip ?_) | (refine G.is ?_; first | refine G.next ?_ | refine G.blockN ?_ | refine G.blockE ?_ | refine G.blockE' rfl ?_ | refine G.thenE ?_) | refine TL.nil ?_)
        · have := g3 (by omega)
          rw [this]
          exact G.cut () (by repeat (first | exact Sub.nil _ | refine Sub.cons rfl ?_ | refine Sub.cons' rfl (int_congr (by omega)) ?_)) hF
        · exact G.again (q - 1, r + v1) (by repeat (first | exact Sub.nil _ | refine Sub.cons rfl ?_ | refine Sub.cons' rfl (int_congr (by omega)) ?_)) ⟨g1, by dsimp only; omega, g2, by dsimp only; omega, hF⟩ (by dsimp only; omega)
    clear hF
    rintro ⟨⟩ wm2 hF
    have hQ2lt : Q2 < 4294967296 := by rw [HQ2 ()]; exact Nat.div_lt_of_lt_mul (by rw [Nat.mul_comm Y]; have := HRl (); omega)
    have hRl0 := HRl ()
    have hQ2m := Nat.div_mul_le_self (R * 4294967296 + u0) Y
    have hR2m := Nat.div_add_mod (R * 4294967296 + u0) Y
    have hR2l := Nat.mod_lt (R * 4294967296 + u0) (show 0 < Y by omega)
    rw [Nat.mul_comm] at hR2m
    rw [← HQ2 ()] at hQ2m hR2m
    obtain ⟨R2, hR4⟩ : ∃ R2, R2 = (R * 4294967296 + u0) % Y := ⟨_, rfl⟩
    rw [← hR4] at hR2m hR2l
    have hR5 : (R * 4294967296 % 18446744073709551616 + u0) % 18446744073709551616 = (R * 4294967296 + u0) % 18446744073709551616 := by omega
    have hR6 : ((R * 4294967296 % 18446744073709551616 + u0) % 18446744073709551616 + 18446744073709551616 - Q2 * Y % 18446744073709551616) % 18446744073709551616 = R2 := by
      rw [hR5, sub_wrap hQ2m (by omega)]; omega
    have hQ2Ym : Q2 * Y % 18446744073709551616 < 18446744073709551616 := Nat.mod_lt _ (by omega)
    have hQs : (Q * 4294967296 % 18446744073709551616 + Q2) % 18446744073709551616 = Q * 4294967296 + Q2 := halves hQlt hQ2lt
    have hRl := HRl ()
    have hfin := div64_end (HY ()) (by omega) (HN ()) (HRm ()) hR2m hR2l
    have hR2W : R2 < 18446744073709551616 := by omega
    have HQs := hide hQs
    have HR6 := hide hR6
    have HQY2 := hide hQ2Ym
    have Hf := hide hfin
    clear hQs hR6 hQ2Ym hfin hQ2m hR2m hR2l hR4 hR5 hRl0 hRl
    repeat' (first | (refine TL.isOp ?_; first | (apply TL.ev; (case hd => rfl); (case h => (first | exact ev_simple rfl | exact ev_mulU rfl rfl | exact ev_addU rfl rfl | exact ev_castU (ev_subW rfl rfl (HQY2 ())) (HR6 ()) | exact ev_castU (ev_shrU rfl rfl hR2W) (Hf ()).2)))) | (refine T.is ?_; first | refine T.seq ?_ | refine T.region ?_ | refine T.ret ?_) | (refine G.is ?_; first | refine G.next ?_) | refine TL.nil ?_)
    rw [HQs (), (Hf ()).1]
    exact G.ret2 rfl rfl rfl ⟨rfl, hF.ext⟩
end Go.Proofs.Ytdhmhjbmkimplaa

namespace Go.Proofs.Ytdhmhjbmkimplaa
open Go Go.Eng Go.Proofs Go.NatM

theorem bk_slIn {α : Type} {f : α → Value} {H : Array Obj} {b B n c o : Nat} {t : TypeId} {Pr S Po : List α} (h : Bk f H b t (Pr ++ (S ++ Po))) (ho : Pr.length = o) (hn : S.length = n) (hc : n ≤ c) (hb : b < B) : Sl f H B (some ⟨b, o, none⟩) n c S :=
  ⟨hn, hc, .inr ⟨b, o, rfl, hb, fun j x hx => by
    have hj := (List.getElem?_eq_some_iff.1 hx).1
    rw [h.cell, List.getElem?_append_right (by omega), show o + j - Pr.length = j by omega, List.getElem?_append_left hj, hx]
    rfl⟩⟩
theorem set_in (Pr D R Po : List Nat) (r x : Nat) : (Pr ++ ((D ++ r :: R) ++ Po)).set (Pr.length + D.length) x = Pr ++ (((D ++ [x]) ++ R) ++ Po) := by
  rw [List.set_append_right _ _ (by omega), Nat.add_sub_cancel_left, List.append_assoc, List.set_append_right _ _ (by omega), Nat.sub_self]
  simp
/-- words taken off a window of a block -/
def RetTk (w : World) (g : Nat) (Pr S Po l' : List Nat) (n d : Nat) (e : Ending) (w' : World) : Prop := ∃ (D : List Nat) (b : Bool), e = .returned (.bool b) ∧ Bk u64v w'.heap g 85 (Pr ++ (D ++ Po)) ∧ D.length = n + 1 ∧ U64 D ∧ val D + d * val l' = val S + 18446744073709551616 ^ (n + 1) * (if b = true then 1 else 0) ∧ Upd g w w'
set_option maxRecDepth 100000 in
set_option maxHeartbeats 4000000 in
theorem take_ok (w : World) (B g o n c n' c' : Nat) (A' : Option Addr) (Pr S Po l' : List Nat) {z : Int} {d : Nat} [e0 : IsN z d] (hB : Bk u64v w.heap g 85 (Pr ++ (S ++ Po))) (ho : Pr.length = o) (hS : S.length = n + 1) (hc0 : n + 1 ≤ c) (hs' : Sl u64v w.heap B A' n c' l') (hoff : Off g n A')
    (hu : U64 S) (hu' : U64 l') (hd : d < 18446744073709551616) (hn : n ≤ 35184372088832) :
    Cl Try.prog 109 #[.slice (some ⟨g, o, none⟩) (n + 1) c, .slice A' n c', .int .u64 z] w (RetTk w g Pr S Po l' n d) := by
  obtain rfl := e0.out
  have hlen' := hs'.len
  refine enter Try.func109 rfl rfl rfl ?_
  repeat' (first | refine TL.ev (ev_simple rfl) rfl ?_ | refine TL.ev (ev_len rfl) rfl ?_ | refine T.seq ?_ | refine T.region ?_ | refine TL.nil ?_ | refine T.block ?_ | refine G.next ?_)
  refine T.loop (α := Nat × List Nat × Nat × Nat) (fun x => [(0, .slice (some ⟨g, o, none⟩) (n + 1) c), (1, .slice A' n c'), (2, .int .u64 (d : Int)), (7, .int .u64 (x.2.2.1 : Int)), (8, .int .u64 (x.2.2.2 : Int)), (15, .int .i64 (n : Int)), (16, .int .i64 (x.1 : Int))])
    (fun x w' => x.1 ≤ n ∧ x.2.1.length = x.1 ∧ U64 x.2.1 ∧ x.2.2.1 < 18446744073709551616 ∧ x.2.2.2 ≤ 1 ∧ Upd g w w' ∧ Bk u64v w'.heap g 85 (Pr ++ ((x.2.1 ++ S.drop x.1) ++ Po)) ∧ val x.2.1 + d * val (l'.take x.1) = val (S.take x.1) + 18446744073709551616 ^ x.1 * (x.2.2.1 + x.2.2.2))
    (fun x => n - x.1) (0, [], 0, 0) (by repeat (first | exact Sub.nil _ | refine Sub.cons rfl ?_ | refine Sub.cons' rfl (int_congr (by omega)) ?_)) ⟨Nat.zero_le _, rfl, U64.nil, by dsimp only; omega, Nat.zero_le _, upd_refl _ _, by simpa using hB, by simp [val]⟩ ?_
  rintro ⟨i, D, cy, lent⟩ w2 ⟨hi, hD, hDu, hcy, hle, hE2, hB2, hv⟩
  dsimp only at hi hD hDu hcy hle hE2 hB2 hv ⊢
  have k1 := sl_off hE2 hs' hoff
  have hX : (D ++ S.drop i).length = n + 1 := by simp; omega
  have k2 := bk_slIn (B := w2.heap.size) hB2 ho (n := n + 1) (c := c) hX hc0 hB2.lt
  have x1 := hu.getD i
  have x2 := hu'.getD i
  have ex := getD_win D S i hD
  rcases Nat.lt_or_ge i n with hin | hin
  · have hbig := mul_hi_lt hd x2 hcy (z := 0) (by omega)
    rw [Nat.add_zero] at hbig
    have hlB : (Pr ++ ((D ++ S.drop i) ++ Po)).length = o + (n + 1) + Po.length := by simp; omega
    have hp1 : d * l'.getD i 0 % 18446744073709551616 < 18446744073709551616 := Nat.mod_lt _ (by omega)
    have hp2 : (d * l'.getD i 0 % 18446744073709551616 + cy + 0) % 18446744073709551616 < 18446744073709551616 := Nat.mod_lt _ (by omega)
    rw [ex.symm] at x1
    repeat' (first | refine TL.ev (ev_simple rfl) rfl ?_ | (refine TL.cmpG rfl rfl rfl rfl (fun hc => ?_) (fun hc => ?_) <;> try (exfalso; omega)) | refine TL.ev (ev_arN rfl rfl rfl (by omega)) rfl ?_ | refine TL.ev (ev_indexN rfl rfl (by omega) (by first | exact Or.inr rfl | exact Sl.some (by assumption))) rfl ?_ | refine TL.ev (ev_loadU rfl (by assumption) (by omega)) rfl ?_ | refine TL.ev (ev_arU rfl rfl rfl (by first | exact True.intro | omega)) rfl ?_ | (refine TL.callP rfl rfl (mul64_ok _ hd x2) (fun _ => ?_)) | (refine TL.ev (ev_callx rfl (fun w => add64_run w (by omega))) rfl ?_) | (refine TL.ev (ev_callx rfl (fun w => sub64_run w (by omega))) rfl ?_) | (refine TL.storeUo rfl rfl hB2 (by rw [hlB]; omega) (fun w3 hB3 hU => ?_)) | refine T.seq ?_ | refine T.region ?_ | refine TL.nil ?_ | refine T.block ?_ | refine T.cond_t rfl ?_ | refine T.skip ?_ | refine G.next ?_ | refine G.blockN ?_)
    have e := take_step hbig hle x1
    rw [drop_cons S i (by omega), show o + i = Pr.length + D.length by omega, set_in, ← drop_cons S i (by omega)] at hB3
    refine G.again (i + 1, D ++ [((D ++ S.drop i).getD i 0 + 18446744073709551616 - (d * l'.getD i 0 % 18446744073709551616 + cy + 0) % 18446744073709551616 - lent) % 18446744073709551616], (d * l'.getD i 0 / 18446744073709551616 + (d * l'.getD i 0 % 18446744073709551616 + cy + 0) / 18446744073709551616) % 18446744073709551616, if (D ++ S.drop i).getD i 0 < (d * l'.getD i 0 % 18446744073709551616 + cy + 0) % 18446744073709551616 + lent then 1 else 0) (by repeat (first | exact Sub.nil _ | refine Sub.cons rfl ?_ | refine Sub.cons' rfl (int_congr (by omega)) ?_)) ⟨by dsimp only; omega, ?_, ?_, ?_, ?_, upd_trans hE2 (upd_undrewN hU), hB3, ?_⟩ (by dsimp only; omega)
    · simp [hD]
    · exact hDu.append (U64.one (Nat.mod_lt _ (by omega)))
    · exact Nat.mod_lt _ (by omega)
    · dsimp only; split <;> omega
    · dsimp only
      rw [val_snoc, val_take_succ, val_take_succ, hD, Nat.pow_succ, ← ex]
      exact take_next hv (by omega)
  · obtain rfl : i = n := by omega
    have hlB : (Pr ++ ((D ++ S.drop i) ++ Po)).length = o + (i + 1) + Po.length := by simp; omega
    rw [ex.symm] at x1
    repeat' (first | refine TL.ev (ev_simple rfl) rfl ?_ | refine TL.ev (ev_len rfl) rfl ?_ | (refine TL.cmpG rfl rfl rfl rfl (fun hc => ?_) (fun hc => ?_) <;> try (exfalso; omega)) | refine TL.ev (ev_indexN rfl rfl (by omega) (by first | exact Or.inr rfl | exact Sl.some (by assumption))) rfl ?_ | refine TL.ev (ev_loadU rfl (by assumption) (by omega)) rfl ?_ | (refine TL.ev (ev_callx rfl (fun w => sub64_run w (by omega))) rfl ?_) | (refine TL.storeUo rfl rfl hB2 (by rw [hlB]; omega) (fun w3 hB3 hU => ?_)) | refine T.seq ?_ | refine T.region ?_ | refine TL.nil ?_ | refine T.cond_f rfl ?_ | refine T.exit ?_ | refine T.ret ?_ | refine G.next ?_ | refine G.blockE ?_ | refine G.thenE ?_)
    all_goals
      rw [drop_cons S i (by omega), show o + i = Pr.length + D.length by omega, set_in, ← drop_cons S i (by omega), List.drop_of_length_le (show S.length ≤ i + 1 by omega), List.append_nil] at hB3
      have hl : val (l'.take i) = val l' := by rw [List.take_of_length_le (by omega)]
      have hs : val S = val (S.take i) + 18446744073709551616 ^ i * S.getD i 0 := by rw [← val_take_succ, List.take_of_length_le (by omega)]
      rw [hl] at hv
      refine G.ret1 rfl rfl ⟨_, _, rfl, hB3, by simp [hD], hDu.append (U64.one (Nat.mod_lt _ (by omega))), ?_, upd_trans hE2 hU⟩
      rw [val_snoc, hD, hs, Nat.pow_succ, ← ex]
      have hx := take_last (x := (D ++ S.drop i).getD i 0) hcy hle x1
      have hq := take_end (P := 18446744073709551616 ^ i) hv hx
      generalize hk : (if (D ++ S.drop i).getD i 0 < cy + lent then 1 else 0 : Nat) = k at hc hq
      have hk2 : k ≤ 1 := by rw [← hk]; split <;> omega
      first
        | (obtain rfl : k = 1 := by omega
           simpa using hq)
        | (obtain rfl : k = 0 := by omega
           simpa using hq)

/-- words added to a window of a block, without what goes beyond it -/
def RetGv (w : World) (g : Nat) (Pr S Po l' : List Nat) (n : Nat) (e : Ending) (w' : World) : Prop := ∃ (D : List Nat) (k : Nat), e = .returned (.tuple #[]) ∧ Bk u64v w'.heap g 85 (Pr ++ (D ++ Po)) ∧ D.length = n + 1 ∧ U64 D ∧ val D + 18446744073709551616 ^ (n + 1) * k = val S + val l' ∧ Upd g w w'
set_option maxRecDepth 100000 in
set_option maxHeartbeats 4000000 in
theorem give_ok (w : World) (B g o n c n' c' : Nat) (A' : Option Addr) (Pr S Po l' : List Nat) (hB : Bk u64v w.heap g 85 (Pr ++ (S ++ Po))) (ho : Pr.length = o) (hS : S.length = n + 1) (hc0 : n + 1 ≤ c) (hs' : Sl u64v w.heap B A' n c' l') (hoff : Off g n A')
    (hu : U64 S) (hu' : U64 l') (hn : n ≤ 35184372088832) :
    Cl Try.prog 110 #[.slice (some ⟨g, o, none⟩) (n + 1) c, .slice A' n c'] w (RetGv w g Pr S Po l' n) := by
  have hlen' := hs'.len
  refine enter Try.func110 rfl rfl rfl ?_
  repeat' (first | refine TL.ev (ev_simple rfl) rfl ?_ | refine TL.ev (ev_len rfl) rfl ?_ | refine T.seq ?_ | refine T.region ?_ | refine TL.nil ?_ | refine T.block ?_ | refine G.next ?_)
  refine T.loop (α := Nat × List Nat × Nat) (fun x => [(0, .slice (some ⟨g, o, none⟩) (n + 1) c), (1, .slice A' n c'), (4, .int .u64 (x.2.2 : Int)), (7, .int .i64 (n : Int)), (8, .int .i64 (x.1 : Int))])
    (fun x w' => x.1 ≤ n ∧ x.2.1.length = x.1 ∧ U64 x.2.1 ∧ x.2.2 ≤ 1 ∧ Upd g w w' ∧ Bk u64v w'.heap g 85 (Pr ++ ((x.2.1 ++ S.drop x.1) ++ Po)) ∧ val x.2.1 + 18446744073709551616 ^ x.1 * x.2.2 = val (S.take x.1) + val (l'.take x.1))
    (fun x => n - x.1) (0, [], 0) (by repeat (first | exact Sub.nil _ | refine Sub.cons rfl ?_ | refine Sub.cons' rfl (int_congr (by omega)) ?_)) ⟨Nat.zero_le _, rfl, U64.nil, Nat.zero_le _, upd_refl _ _, by simpa using hB, by simp [val]⟩ ?_
  rintro ⟨i, D, cy⟩ w2 ⟨hi, hD, hDu, hcy, hE2, hB2, hv⟩
  dsimp only at hi hD hDu hcy hE2 hB2 hv ⊢
  have k1 := sl_off hE2 hs' hoff
  have hX : (D ++ S.drop i).length = n + 1 := by simp; omega
  have k2 := bk_slIn (B := w2.heap.size) hB2 ho (n := n + 1) (c := c) hX hc0 hB2.lt
  have x1 := hu.getD i
  have x2 := hu'.getD i
  have ex := getD_win D S i hD
  rw [ex.symm] at x1
  rcases Nat.lt_or_ge i n with hin | hin
  · have hlB : (Pr ++ ((D ++ S.drop i) ++ Po)).length = o + (n + 1) + Po.length := by simp; omega
    repeat' (first | refine TL.ev (ev_simple rfl) rfl ?_ | (refine TL.cmpG rfl rfl rfl rfl (fun hc => ?_) (fun hc => ?_) <;> try (exfalso; omega)) | refine TL.ev (ev_arN rfl rfl rfl (by omega)) rfl ?_ | refine TM.f rfl (fun _ => ev_simple rfl) rfl ?_ | refine TM.f rfl (fun _ => ev_indexN rfl rfl (by omega) (by first | exact Or.inr rfl | exact Sl.some (by assumption))) rfl ?_ | refine TM.s rfl (ev_loadU rfl (by assumption) (by omega)) rfl ?_ | refine TM.s rfl (ev_callx rfl (fun w => add64_run w (by omega))) rfl ?_ | refine T.regionM [(0, 0), (1, 0), (2, 0), (3, 0), (4, 0), (6, 0), (7, 0), (8, 0), (10, 0), (5, 1), (9, 1), (11, 1), (12, 0), (13, 0), (14, 0), (15, 0), (16, 2), (17, 0)] mixed (by kernel_rfl) ?_ | (refine TL.storeUo rfl rfl hB2 (by rw [hlB]; omega) (fun w3 hB3 hU => ?_)) | refine T.seq ?_ | refine T.region ?_ | refine TL.nil ?_ | refine T.block ?_ | refine T.cond_t rfl ?_ | refine T.skip ?_ | refine G.next ?_ | refine G.blockN ?_ | refine G.only ?_ | refine G.mixed ?_ | refine TM.nil ?_ | refine TM.e rfl ?_)
    rw [drop_cons S i (by omega), show o + i = Pr.length + D.length by omega, set_in, ← drop_cons S i (by omega)] at hB3
    refine G.again (i + 1, D ++ [((D ++ S.drop i).getD i 0 + l'.getD i 0 + cy) % 18446744073709551616], ((D ++ S.drop i).getD i 0 + l'.getD i 0 + cy) / 18446744073709551616) (by repeat (first | exact Sub.nil _ | refine Sub.cons rfl ?_ | refine Sub.cons' rfl (int_congr (by omega)) ?_)) ⟨by dsimp only; omega, by simp [hD], hDu.append (U64.one (Nat.mod_lt _ (by omega))), by dsimp only; omega, upd_trans hE2 (upd_undrewN hU), hB3, ?_⟩ (by dsimp only; omega)
    dsimp only
    rw [val_snoc, val_take_succ, val_take_succ, hD, Nat.pow_succ, ← ex]
    exact add_step hv (by omega)
  · obtain rfl : i = n := by omega
    have hlB : (Pr ++ ((D ++ S.drop i) ++ Po)).length = o + (i + 1) + Po.length := by simp; omega
    repeat' (first | refine TL.ev (ev_simple rfl) rfl ?_ | refine TL.ev (ev_len rfl) rfl ?_ | (refine TL.cmpG rfl rfl rfl rfl (fun hc => ?_) (fun hc => ?_) <;> try (exfalso; omega)) | refine TL.ev (ev_indexN rfl rfl (by omega) (by first | exact Or.inr rfl | exact Sl.some (by assumption))) rfl ?_ | refine TL.ev (ev_loadU rfl (by assumption) (by omega)) rfl ?_ | refine TL.ev (ev_arU rfl rfl rfl (by first | exact True.intro | omega)) rfl ?_ | (refine TL.storeUo rfl rfl hB2 (by rw [hlB]; omega) (fun w3 hB3 hU => ?_)) | refine T.seq ?_ | refine T.region ?_ | refine TL.nil ?_ | refine T.cond_f rfl ?_ | refine T.exit ?_ | refine G.next ?_ | refine G.blockE ?_ | refine G.thenE ?_)
    rw [drop_cons S i (by omega), show o + i = Pr.length + D.length by omega, set_in, ← drop_cons S i (by omega), List.drop_of_length_le (show S.length ≤ i + 1 by omega), List.append_nil] at hB3
    have hl : val (l'.take i) = val l' := by rw [List.take_of_length_le (by omega)]
    have hs : val S = val (S.take i) + 18446744073709551616 ^ i * S.getD i 0 := by rw [← val_take_succ, List.take_of_length_le (by omega)]
    rw [hl] at hv
    refine G.end0 rfl ⟨_, ((D ++ S.drop i).getD i 0 + cy) / 18446744073709551616, rfl, hB3, by simp [hD], hDu.append (U64.one (Nat.mod_lt _ (by omega))), ?_, upd_trans hE2 hU⟩
    rw [val_snoc, hD, hs, Nat.pow_succ, ← ex]
    have hx : ((D ++ S.drop i).getD i 0 + cy) % 18446744073709551616 + 18446744073709551616 * (((D ++ S.drop i).getD i 0 + cy) / 18446744073709551616) = (D ++ S.drop i).getD i 0 + 0 + cy := by omega
    have hq := add_step (vb := val l') (y := 0) hv hx
    simpa using hq
/-- the words of l times 2^s -/
theorem or_shl' {y x n : Nat} (h : n ≤ 64) (hy : y < 2 ^ n) : x * 2 ^ n % 18446744073709551616 ||| y = x * 2 ^ n % 18446744073709551616 + y := by rw [Nat.or_comm, or_shl h hy, Nat.add_comm]
theorem shifted_next {vD P cy b x vt u c' : Nat} (hv : vD + P * cy = vt * b) (e : u + 18446744073709551616 * c' = x * b + cy) : vD + P * u + P * 18446744073709551616 * c' = (vt + P * x) * b := by
  have h2 : P * u + P * (18446744073709551616 * c') = P * (x * b) + P * cy := by rw [← Nat.mul_add, e, Nat.mul_add]
  rw [Nat.add_mul, Nat.mul_assoc P, Nat.mul_assoc P]
  omega
theorem shr_zero {x : Nat} (hx : x < 18446744073709551616) : x / 2 ^ 64 = 0 := Nat.div_eq_of_lt hx
set_option maxRecDepth 100000 in
set_option maxHeartbeats 8000000 in
theorem shifted_ok (w : World) (B : Nat) (A : Option Addr) (n c : Nat) (l : List Nat) {z1 z2 : Int} {s m : Nat} [e1 : IsN z1 s] [e2 : IsN z2 m] (hs : Sl u64v w.heap B A n c l) (hu : U64 l) (hss : s < 64) (hm : m ≤ 17592186044416) (hn : n ≤ m) (hfit : val l * 2 ^ s < 18446744073709551616 ^ m) :
    Cl Try.prog 107 #[.slice A n c, .int .u64 z1, .int .i64 z2] w (RetB w m (val l * 2 ^ s)) := by
  obtain rfl := e1.out
  obtain rfl := e2.out
  have hlen := hs.len
  replace hs := hs.size
  refine enter Try.func107 rfl rfl rfl ?_
  repeat' (first | refine TL.ev (ev_simple rfl) rfl ?_ | refine TL.ev (ev_len rfl) rfl ?_ | (refine TL.makeU rfl rfl rfl (by omega) (by omega) (fun w1 b1 eb hB hE hz => ?_)) | refine T.seq ?_ | refine T.region ?_ | refine TL.nil ?_ | refine T.block ?_ | refine G.next ?_)
  refine T.loop (α := Nat × List Nat × Nat) (fun x => [(0, .slice A n c), (1, .int .u64 (s : Int)), (7, .slice (some ⟨b1, 0, none⟩) m m), (8, .int .u64 (x.2.2 : Int)), (14, .int .i64 (m : Int)), (15, .int .i64 (x.1 : Int))])
    (fun x w' => x.1 ≤ m ∧ x.2.1.length = x.1 ∧ U64 x.2.1 ∧ x.2.2 < 2 ^ s ∧ Ext w w' ∧ Bk u64v w'.heap b1 85 (x.2.1 ++ List.replicate (m - x.1) 0) ∧ val x.2.1 + 18446744073709551616 ^ x.1 * x.2.2 = val (l.take x.1) * 2 ^ s)
    (fun x => m - x.1) (0, [], 0) (by repeat (first | exact Sub.nil _ | refine Sub.cons rfl ?_ | refine Sub.cons' rfl (int_congr (by omega)) ?_)) ⟨Nat.zero_le _, rfl, U64.nil, Nat.two_pow_pos s, hE, by simpa using hB, by simp [val]⟩ ?_
  have hb1 : w.heap.size ≤ b1 := by omega
  clear hB hE hz eb
  rintro ⟨i, D, cy⟩ w2 ⟨hi, hD, hDu, hcy, hE2, hB2, hv⟩
  dsimp only at hi hD hDu hcy hE2 hB2 hv ⊢
  have hs2 := hs.ext hE2
  have hlB : (D ++ List.replicate (m - i) 0).length = m := by simp; omega
  have hcy2 : cy < 18446744073709551616 := Nat.lt_of_lt_of_le hcy (show 2 ^ s ≤ 2 ^ 64 from Nat.pow_le_pow_right (by omega) (by omega))
  rcases Nat.lt_or_ge i m with him | him
  · have hmk : ∀ x, x < 18446744073709551616 → x * 2 ^ s % 18446744073709551616 ||| cy = x * 2 ^ s % 18446744073709551616 + cy ∧ x * 2 ^ s % 18446744073709551616 + cy < 18446744073709551616 := fun x hx => by
      refine ⟨or_shl' (by omega) hcy, ?_⟩
      rw [shl_mod x (show s ≤ 64 by omega)]
      have h1 : x % 2 ^ (64 - s) < 2 ^ (64 - s) := Nat.mod_lt _ (Nat.two_pow_pos _)
      have h2 : 2 ^ s * (x % 2 ^ (64 - s) + 1) ≤ 2 ^ s * 2 ^ (64 - s) := Nat.mul_le_mul_left _ h1
      rw [← Nat.pow_add, show s + (64 - s) = 64 by omega, Nat.mul_add, Nat.mul_one] at h2
      omega
    have hgo : ∀ (x : Nat) (w3 : World), l.getD i 0 = x → x < 18446744073709551616 → Ext w w3 → Bk u64v w3.heap b1 85 ((D ++ List.replicate (m - i) 0).set i (x * 2 ^ s % 18446744073709551616 ||| cy)) →
        ((D ++ [x * 2 ^ s % 18446744073709551616 + cy]).length = i + 1 ∧ U64 (D ++ [x * 2 ^ s % 18446744073709551616 + cy]) ∧ x / 2 ^ (64 - s) < 2 ^ s ∧ Ext w w3 ∧ Bk u64v w3.heap b1 85 ((D ++ [x * 2 ^ s % 18446744073709551616 + cy]) ++ List.replicate (m - (i + 1)) 0) ∧ val (D ++ [x * 2 ^ s % 18446744073709551616 + cy]) + 18446744073709551616 ^ (i + 1) * (x / 2 ^ (64 - s)) = val (l.take (i + 1)) * 2 ^ s) := fun x w3 hx hlt hE3 hB3 => by
      obtain ⟨h1, h2⟩ := hmk x hlt
      rw [h1, show m - i = (m - (i + 1)) + 1 by omega, ← hD, set_zeros, hD] at hB3
      refine ⟨by simp [hD], hDu.append (U64.one h2), shr_lt (by omega) hlt, hE3, hB3, ?_⟩
      rw [val_snoc, val_take_succ, hD, hx, Nat.pow_succ]
      have h3 := shl_word x (show s ≤ 64 by omega) hlt
      exact shifted_next hv (by omega)
    rcases Nat.lt_or_ge i n with hin | hin
    · have x1 := hu.getD i
      have h2 := hmk _ x1
      rcases Nat.eq_zero_or_pos s with h0 | h0
      · subst h0
        repeat' (first | refine TL.ev (ev_simple rfl) rfl ?_ | refine TL.ev (ev_len rfl) rfl ?_ | (refine TL.cmpG rfl rfl rfl rfl (fun hc => ?_) (fun hc => ?_) <;> try (exfalso; omega)) | refine TL.ev (ev_arN rfl rfl rfl (by omega)) rfl ?_ | refine TL.ev (ev_indexN rfl rfl (by omega) (by first | exact Or.inr rfl | exact Sl.some (by assumption))) rfl ?_ | refine TL.ev (ev_loadU rfl (by assumption) (by omega)) rfl ?_ | refine TL.ev (ev_shlU rfl rfl) rfl ?_ | refine TL.ev (ev_orU rfl rfl (by first | omega | exact U64.getD (by assumption) _) (by first | omega | exact U64.getD (by assumption) _)) rfl ?_ | (refine TL.storeU rfl rfl hB2 (by rw [hlB]; omega) (fun w3 hB3 hU => ?_)) | refine T.seq ?_ | refine T.region ?_ | refine TL.nil ?_ | refine T.block ?_ | refine T.cond_t rfl ?_ | refine T.cond_f rfl ?_ | refine T.skip ?_ | refine G.next ?_ | refine G.blockN ?_)
        obtain ⟨g1, g2, g3, g4, g5, g6⟩ := hgo _ w3 rfl x1 (hE2.upd hU hb1) hB3
        rw [shr_zero x1] at g3 g6
        exact G.again (i + 1, _, 0) (by repeat (first | exact Sub.nil _ | refine Sub.cons rfl ?_ | refine Sub.cons' rfl (int_congr (by omega)) ?_)) ⟨by dsimp only; omega, g1, g2, g3, g4, g5, g6⟩ (by dsimp only; omega)
      · repeat' (first | refine TL.ev (ev_simple rfl) rfl ?_ | refine TL.ev (ev_len rfl) rfl ?_ | (refine TL.cmpG rfl rfl rfl rfl (fun hc => ?_) (fun hc => ?_) <;> try (exfalso; omega)) | refine TL.ev (ev_arN rfl rfl rfl (by omega)) rfl ?_ | refine TL.ev (ev_indexN rfl rfl (by omega) (by first | exact Or.inr rfl | exact Sl.some (by assumption))) rfl ?_ | refine TL.ev (ev_loadU rfl (by assumption) (by omega)) rfl ?_ | refine TL.ev (ev_subU rfl rfl (by omega)) rfl ?_ | refine TL.ev (ev_shrU rfl rfl (by first | omega | exact U64.getD (by assumption) _)) rfl ?_ | refine TL.ev (ev_shlU rfl rfl) rfl ?_ | refine TL.ev (ev_orU rfl rfl (by first | omega | exact U64.getD (by assumption) _) (by first | omega | exact U64.getD (by assumption) _)) rfl ?_ | (refine TL.storeU rfl rfl hB2 (by rw [hlB]; omega) (fun w3 hB3 hU => ?_)) | refine T.seq ?_ | refine T.region ?_ | refine TL.nil ?_ | refine T.block ?_ | refine T.cond_t rfl ?_ | refine T.skip ?_ | refine G.next ?_ | refine G.blockN ?_)
        obtain ⟨g1, g2, g3, g4, g5, g6⟩ := hgo _ w3 rfl x1 (hE2.upd hU hb1) hB3
        exact G.again (i + 1, _, _) (by repeat (first | exact Sub.nil _ | refine Sub.cons rfl ?_ | refine Sub.cons' rfl (int_congr (by omega)) ?_)) ⟨by dsimp only; omega, g1, g2, g3, g4, g5, g6⟩ (by dsimp only; omega)
    · have x1 : l.getD i 0 = 0 := getD_ge (by omega)
      have h2 := hmk 0 (by omega)
      rcases Nat.eq_zero_or_pos s with h0 | h0
      · subst h0
        repeat' (first | refine TL.ev (ev_simple rfl) rfl ?_ | refine TL.ev (ev_len rfl) rfl ?_ | (refine TL.cmpG rfl rfl rfl rfl (fun hc => ?_) (fun hc => ?_) <;> try (exfalso; omega)) | refine TL.ev (ev_arN rfl rfl rfl (by omega)) rfl ?_ | refine TL.ev (ev_indexN rfl rfl (by omega) (by first | exact Or.inr rfl | exact Sl.some (by assumption))) rfl ?_ | refine TL.ev (ev_shlU rfl rfl) rfl ?_ | refine TL.ev (ev_orU rfl rfl (by first | omega | exact U64.getD (by assumption) _) (by first | omega | exact U64.getD (by assumption) _)) rfl ?_ | (refine TL.storeU rfl rfl hB2 (by rw [hlB]; omega) (fun w3 hB3 hU => ?_)) | refine T.seq ?_ | refine T.region ?_ | refine TL.nil ?_ | refine T.block ?_ | refine T.cond_t rfl ?_ | refine T.cond_f rfl ?_ | refine T.skip ?_ | refine G.next ?_ | refine G.blockN ?_)
        obtain ⟨g1, g2, g3, g4, g5, g6⟩ := hgo 0 w3 x1 (by omega) (hE2.upd hU hb1) hB3
        exact G.again (i + 1, _, 0) (by repeat (first | exact Sub.nil _ | refine Sub.cons rfl ?_ | refine Sub.cons' rfl (int_congr (by omega)) ?_)) ⟨by dsimp only; omega, g1, g2, g3, g4, g5, g6⟩ (by dsimp only; omega)
      · repeat' (first | refine TL.ev (ev_simple rfl) rfl ?_ | refine TL.ev (ev_len rfl) rfl ?_ | (refine TL.cmpG rfl rfl rfl rfl (fun hc => ?_) (fun hc => ?_) <;> try (exfalso; omega)) | refine TL.ev (ev_arN rfl rfl rfl (by omega)) rfl ?_ | refine TL.ev (ev_indexN rfl rfl (by omega) (by first | exact Or.inr rfl | exact Sl.some (by assumption))) rfl ?_ | refine TL.ev (ev_subU rfl rfl (by omega)) rfl ?_ | refine TL.ev (ev_shrU rfl rfl (by first | omega | exact U64.getD (by assumption) _)) rfl ?_ | refine TL.ev (ev_shlU rfl rfl) rfl ?_ | refine TL.ev (ev_orU rfl rfl (by first | omega | exact U64.getD (by assumption) _) (by first | omega | exact U64.getD (by assumption) _)) rfl ?_ | (refine TL.storeU rfl rfl hB2 (by rw [hlB]; omega) (fun w3 hB3 hU => ?_)) | refine T.seq ?_ | refine T.region ?_ | refine TL.nil ?_ | refine T.block ?_ | refine T.cond_t rfl ?_ | refine T.cond_f rfl ?_ | refine T.skip ?_ | refine G.next ?_ | refine G.blockN ?_)
        obtain ⟨g1, g2, g3, g4, g5, g6⟩ := hgo 0 w3 x1 (by omega) (hE2.upd hU hb1) hB3
        exact G.again (i + 1, _, _) (by repeat (first | exact Sub.nil _ | refine Sub.cons rfl ?_ | refine Sub.cons' rfl (int_congr (by omega)) ?_)) ⟨by dsimp only; omega, g1, g2, g3, g4, g5, g6⟩ (by dsimp only; omega)
  · obtain rfl : i = m := by omega
    rw [Nat.sub_self, List.replicate_zero, List.append_nil] at hB2
    have hvl : val (l.take i) = val l := by rw [List.take_of_length_le (by omega)]
    rw [hvl] at hv
    have hz : cy = 0 := by
      rcases Nat.eq_zero_or_pos cy with h | h
      · exact h
      · have := Nat.mul_le_mul_left (18446744073709551616 ^ i) h
        omega
    subst hz
    repeat' (first | refine TL.ev (ev_simple rfl) rfl ?_ | (refine TL.cmpG rfl rfl rfl rfl (fun hc => ?_) (fun hc => ?_) <;> try (exfalso; omega)) | refine T.seq ?_ | refine T.region ?_ | refine TL.nil ?_ | refine T.cond_f rfl ?_ | refine T.exit ?_ | refine T.ret ?_ | refine G.next ?_ | refine G.blockE ?_ | refine G.thenE ?_)
    exact G.ret1 rfl rfl (RetB.mk hb1 hB2 hD hDu (by omega) hE2)
end Go.Proofs.Ytdhmhjbmkimplaa
