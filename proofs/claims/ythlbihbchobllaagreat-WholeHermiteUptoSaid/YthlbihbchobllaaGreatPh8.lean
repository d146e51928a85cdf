/- Lattices of rows: spans, and the bound of an echelon basis' minors by those of any rows that span the same; plain Lean. The ladder's operations keep the lattice; rows taken up and left out; plain Lean. Quotients rounded towards zero, down, and with a rest from zero on, out of the quotient of the sizes; plain Lean. The ladder's plain law: operations on rows, and on an inverse's columns. The engine: a list of structs appended to a list of structs whose block is known whole; to nothing. The ladder: its sides; swap, turn, add, mix over all of them (printed by genladder.py). Long division: plain arithmetic. The engine: walks that stop ahead of a region. The engine: walks that stop ahead of a loop. Long division: contracts of math/bits.LeadingZeros64, Div64. -/
import Derived.Test.YthlbihbchobllaaGreatPh7
import Derived.Test.YthlbihbchobllaaGreatPh5
import Derived.Test.YthlbihbchobllaaGreatPh3
set_option linter.unusedVariables false
set_option linter.unusedSimpArgs false
namespace Go.Det

/-- v is an integer combination of the first r rows of F -/
def Sp (r : Nat) (F : Mx) (v : Nat → Int) : Prop := ∃ x : Nat → Int, ∀ c, v c = sm (fun p => x p * F p c) r
theorem Sp.row {r p : Nat} {F : Mx} (hp : p < r) : Sp r F (F p) := ⟨fun q => if q = p then 1 else 0, fun c => by
  rw [sm_one hp fun k _ hk => by dsimp only; rw [if_neg hk, Int.zero_mul]]
  dsimp only
  rw [if_pos rfl, Int.one_mul]⟩
theorem choose_rows {r : Nat} {Q : Nat → (Nat → Int) → Prop} (h : ∀ p, p < r → ∃ x, Q p x) : ∃ X : Mx, ∀ p, p < r → Q p (X p) := by
  refine ⟨fun p => if h' : p < r then (h p h').choose else fun _ => 0, fun p hp => ?_⟩
  dsimp only
  rw [dif_pos hp]
  exact (h p hp).choose_spec
theorem subs_mem : ∀ {n k : Nat} {K : List Nat}, K ∈ subs n k → ∀ x, x ∈ K → x < n
  | n, 0, K, h, x, hx => by
    have : K = [] := by cases n <;> simpa [subs] using h
    rw [this] at hx; cases hx
  | 0, k + 1, K, h, x, hx => by simp [subs] at h
  | n + 1, k + 1, K, h, x, hx => by
    rcases List.mem_append.1 (show K ∈ subs n (k + 1) ++ (subs n k).map (· ++ [n]) from h) with h | h
    · have := subs_mem h x hx; omega
    · obtain ⟨K', h1, rfl⟩ := List.mem_map.1 h
      rcases List.mem_append.1 hx with hx | hx
      · have := subs_mem h1 x hx; omega
      · rw [List.mem_singleton] at hx; omega
theorem Sp.trans {r s : Nat} {F G : Mx} {v : Nat → Int} (h : Sp r F v) (hG : ∀ p, p < r → Sp s G (F p)) : Sp s G v := by
  obtain ⟨x, hx⟩ := h
  have hY : ∃ Y : Mx, ∀ p, p < r → ∀ c, F p c = sm (fun q => Y p q * G q c) s := choose_rows hG
  obtain ⟨Y, hY⟩ := hY
  refine ⟨fun q => sm (fun p => x p * Y p q) r, fun c => ?_⟩
  rw [hx c, sm_congr (g := fun p => sm (fun q => x p * (Y p q * G q c)) s) fun p hp => by rw [hY p hp c, sm_mul], sm_swap]
  refine sm_congr fun q _ => ?_
  rw [Int.mul_comm, ← sm_mul]
  exact sm_congr fun p _ => by grind
theorem Sp.lin {r : Nat} {F : Mx} {u v : Nat → Int} (hu : Sp r F u) (hv : Sp r F v) (a b : Int) : Sp r F (fun c => a * u c + b * v c) := by
  obtain ⟨x, hx⟩ := hu
  obtain ⟨y, hy⟩ := hv
  refine ⟨fun p => a * x p + b * y p, fun c => ?_⟩
  dsimp only
  rw [hx c, hy c, ← sm_lin]
  exact sm_congr fun p _ => by grind
/-- a row of zeros behind is of no weight -/
theorem Sp.drop {r : Nat} {F : Mx} {v : Nat → Int} (h : Sp (r + 1) F v) (h0 : ∀ c, F r c = 0) : Sp r F v := by
  obtain ⟨x, hx⟩ := h
  exact ⟨x, fun c => by rw [hx c]; show sm _ r + x r * F r c = _; rw [h0 c, Int.mul_zero, Int.add_zero]⟩
theorem Sp.wide {r s : Nat} {F : Mx} {v : Nat → Int} (h : Sp r F v) (hrs : r ≤ s) : Sp s F v := h.trans fun p hp => Sp.row (by omega)
/-- rows of A and rows of F span the same -/
structure Lat (s r : Nat) (A F : Mx) : Prop where
  to : ∀ i, i < s → Sp r F (A i)
  of : ∀ p, p < r → Sp s A (F p)
theorem Lat.refl (r : Nat) (F : Mx) : Lat r r F F := ⟨fun _ hi => Sp.row hi, fun _ hp => Sp.row hp⟩
/-- rows turned into others that span the same -/
theorem Lat.turn {s r : Nat} {A F G : Mx} (h : Lat s r A F) (h1 : ∀ p, p < r → Sp r F (G p)) (h2 : ∀ p, p < r → Sp r G (F p)) : Lat s r A G :=
  ⟨fun i hi => (h.to i hi).trans h2, fun p hp => (h1 p hp).trans h.of⟩
/-- two rows mixed by a matrix that can be turned over -/
theorem Lat.mix2 {s r : Nat} {A F : Mx} (h : Lat s r A F) {i j : Nat} (hi : i < r) (hj : j < r) (hne : i ≠ j) {a b c d e : Int} (hd : a * d - b * c = e) (he : e * e = 1) : Lat s r A (mixR F i j a b c d) := by
  have hji : j ≠ i := fun e => hne e.symm
  refine h.turn (fun p hp => ?_) fun p hp => ?_
  · by_cases e1 : p = i
    · subst e1
      rw [show mixR F p j a b c d p = fun q => a * F p q + b * F j q from funext fun q => mixR_r ..]
      exact (Sp.row hp).lin (Sp.row hj) a b
    · by_cases e2 : p = j
      · subst e2
        rw [show mixR F i p a b c d p = fun q => c * F i q + d * F p q from funext fun q => mixR_q hji ..]
        exact (Sp.row hi).lin (Sp.row hp) c d
      · rw [show mixR F i j a b c d p = F p from funext fun q => mixR_o e1 e2 ..]
        exact Sp.row hp
  · have g1 := Sp.row (F := mixR F i j a b c d) hi
    have g2 := Sp.row (F := mixR F i j a b c d) hj
    by_cases e1 : p = i
    · subst e1
      have := g1.lin g2 (e * d) (-(e * b))
      refine (funext fun q => ?_ : F p = _) ▸ this
      rw [mixR_r, mixR_q hji]
      have : e * d * (a * F p q + b * F j q) + -(e * b) * (c * F p q + d * F j q) = e * (a * d - b * c) * F p q := by grind
      rw [this, hd, he, Int.one_mul]
    · by_cases e2 : p = j
      · subst e2
        have := g1.lin g2 (-(e * c)) (e * a)
        refine (funext fun q => ?_ : F p = _) ▸ this
        rw [mixR_r, mixR_q hji]
        have : -(e * c) * (a * F i q + b * F p q) + e * a * (c * F i q + d * F p q) = e * (a * d - b * c) * F p q := by grind
        rw [this, hd, he, Int.one_mul]
      · rw [← show mixR F i j a b c d p = F p from funext fun q => mixR_o e1 e2 ..]
        exact Sp.row hp
/-- rows in echelon form are independent -/
theorem Ech.ind {n : Nat} {R : Mx} {J : Nat → Nat} (h : Ech n R J) {x : Nat → Int} (hx : ∀ c, sm (fun p => x p * R p c) n = 0) : ∀ p, p < n → x p = 0 := by
  intro p
  induction p using Nat.strongRecOn with
  | _ p ih =>
    intro hp
    have h1 := hx (J p)
    rw [sm_one hp fun k hk hne => by
      rcases Nat.lt_or_ge k p with hkp | hkp
      · rw [ih k hkp hk, Int.zero_mul]
      · rw [h.zero k (J p) hk (h.inc p k (by omega) hk), Int.mul_zero]] at h1
    have h2 := h.pos p hp
    rcases Int.mul_eq_zero.1 h1 with e | e
    · exact e
    · omega
theorem ls_ne {α : Type} {g : α → Int} : ∀ {l : List α}, ls g l ≠ 0 → ∃ x, x ∈ l ∧ g x ≠ 0
  | [], h => absurd rfl h
  | y :: l, h => by
    by_cases e : g y = 0
    · have h1 : ls g l ≠ 0 := fun e2 => h (by show g y + ls g l = 0; omega)
      obtain ⟨x, hx, hg⟩ := ls_ne h1
      exact ⟨x, List.mem_cons_of_mem _ hx, hg⟩
    · exact ⟨y, List.mem_cons_self .., e⟩
theorem Bd.of_mul {B d x : Int} (h : Bd B (d * x)) (hd : d ≠ 0) : Bd B x := by
  have h1 : az x ≤ az (d * x) := by
    rw [az_mul]
    have := Int.mul_le_mul_of_nonneg_right (show 1 ≤ az d by unfold az; omega) (az_nn x)
    omega
  exact az_bd.1 (Int.le_trans h1 (az_bd.2 h))
/-- the minors of an echelon basis are bounded by those of the rows that span the same -/
theorem Lat.mn {s t : Nat} {A F : Mx} {J : Nat → Nat} {B : Int} (h : Lat s t A F) (he : Ech t F J) (hB : ∀ K C : Nat → Nat, Bd B (det t (fun i j => A (K i) (C j)))) : Mn t F B := by
  have hX : ∃ X : Mx, ∀ i, i < s → ∀ c, A i c = sm (fun p => X i p * F p c) t := choose_rows h.to
  have hY : ∃ Y : Mx, ∀ p, p < t → ∀ c, F p c = sm (fun i => Y p i * A i c) s := choose_rows h.of
  obtain ⟨X, hX⟩ := hX
  obtain ⟨Y, hY⟩ := hY
  have hI : ∀ p q, p < t → q < t → sm (fun i => Y p i * X i q) s = if p = q then 1 else 0 := fun p q hp hq => by
    have h1 : ∀ c, sm (fun r => (sm (fun i => Y p i * X i r) s - (if p = r then 1 else 0)) * F r c) t = 0 := fun c => by
      have e1 : sm (fun r => sm (fun i => Y p i * X i r) s * F r c) t = F p c := by
        rw [hY p hp c, sm_congr (f := fun i => Y p i * A i c) (g := fun i => sm (fun r => Y p i * (X i r * F r c)) t) fun i hi => by rw [hX i hi c, sm_mul], sm_swap]
        refine sm_congr fun r _ => ?_
        rw [Int.mul_comm, ← sm_mul]
        exact sm_congr fun i _ => by grind
      have e2 : sm (fun r => (if p = r then 1 else 0) * F r c) t = F p c := by
        rw [sm_one hp fun k _ hk => by rw [if_neg (fun e => hk e.symm), Int.zero_mul], if_pos rfl, Int.one_mul]
      have e3 := sm_lin 1 (-1) (fun r => sm (fun i => Y p i * X i r) s * F r c) (fun r => (if p = r then 1 else 0) * F r c) t
      rw [e1, e2] at e3
      rw [sm_congr (g := fun r => 1 * (sm (fun i => Y p i * X i r) s * F r c) + -1 * ((if p = r then 1 else 0) * F r c)) fun r _ => by grind, e3]
      omega
    have h2 := he.ind h1 q hq
    omega
  have hdet : ls (fun K => det t (cols Y K) * det t (rows X K)) (subs s t) = 1 := by
    rw [← det_mul, det_congr (N := fun i j => if i = j then 1 else 0) fun i j hi hj => hI i j hi hj]
    exact det_unit t
  obtain ⟨K, hK, hne⟩ := ls_ne (by rw [hdet]; decide)
  have hd : det t (rows X K) ≠ 0 := fun e => hne (by rw [e, Int.mul_zero])
  have hlen := subs_len hK
  have hlt : ∀ i, i < t → K.getD i 0 < s := fun i hi => subs_mem hK (K.getD i 0) (by
    simp [List.getD, List.getElem?_eq_getElem (show i < K.length by omega)])
  intro C
  have h3 := hB (fun i => K.getD i 0) C
  rw [det_congr (N := fun i j => sm (fun p => rows X K i p * (fun p j => F p (C j)) p j) t) fun i j hi hj => hX _ (hlt i hi) (C j), det_prod] at h3
  exact h3.of_mul hd
end Go.Det

namespace Go.Det

section
variable {s r : Nat} {A F : Mx}
theorem Lat.swap (h : Lat s r A F) {i j : Nat} (hi : i < r) (hj : j < r) (hne : i ≠ j) : Lat s r A (swp F i j) := by
  rw [swp_mix F hne]
  exact h.mix2 hi hj hne (e := -1) (by decide) (by decide)
theorem Lat.add (h : Lat s r A F) {i j : Nat} (hi : i < r) (hj : j < r) (hne : i ≠ j) (k : Int) : Lat s r A (up F i (fun c => F i c + k * F j c)) := by
  rw [up_mix F hne]
  exact h.mix2 hi hj hne (e := 1) (by omega) (by decide)
theorem Lat.mix (h : Lat s r A F) {i j : Nat} (hi : i < r) (hj : j < r) (hne : i ≠ j) {a b c d : Int} (hd : a * d - b * c = 1) : Lat s r A (mixR F i j a b c d) :=
  h.mix2 hi hj hne (e := 1) hd (by decide)
theorem Lat.neg (h : Lat s r A F) {i : Nat} (hi : i < r) : Lat s r A (up F i (fun c => - F i c)) := by
  refine h.turn (fun p hp => ?_) fun p hp => ?_
  · by_cases e : p = i
    · subst e
      refine (funext fun q => ?_ : up F p (fun c => - F p c) p = fun c => (-1) * F p c + 0 * F p c) ▸ (Sp.row hp).lin (Sp.row hp) (-1) 0
      rw [up_eq]; omega
    · rw [show up F i (fun c => - F i c) p = F p from funext fun q => up_ne e q]
      exact Sp.row hp
  · have g := Sp.row (F := up F i (fun c => - F i c)) hp
    by_cases e : p = i
    · subst e
      have g2 := g.lin g (-1) 0
      have e2 : (fun c => -1 * up F p (fun c => - F p c) p c + 0 * up F p (fun c => - F p c) p c) = F p := funext fun q => by rw [up_eq]; omega
      rwa [e2] at g2
    · rwa [show up F i (fun c => - F i c) p = F p from funext fun q => up_ne e q] at g
/-- the next row is taken up -/
theorem Lat.next (h : Lat s r A F) (e : ∀ c, F r c = A s c) : Lat (s + 1) (r + 1) A F := by
  have e' : F r = A s := funext e
  refine ⟨fun i hi => ?_, fun p hp => ?_⟩
  · rcases Nat.lt_or_ge i s with h1 | h1
    · exact (h.to i h1).wide (Nat.le_succ _)
    · obtain rfl : i = s := by omega
      rw [← e']; exact Sp.row (Nat.lt_succ_self _)
  · rcases Nat.lt_or_ge p r with h1 | h1
    · exact (h.of p h1).wide (Nat.le_succ _)
    · obtain rfl : p = r := by omega
      rw [e']; exact Sp.row (Nat.lt_succ_self _)
/-- a row of zeros is left out -/
theorem Lat.drop (h : Lat s (r + 1) A F) (e : ∀ c, F r c = 0) : Lat s r A F :=
  ⟨fun i hi => (h.to i hi).drop e, fun p hp => h.of p (by omega)⟩
theorem Lat.none (A F : Mx) : Lat 0 0 A F := ⟨fun i hi => absurd hi (Nat.not_lt_zero _), fun p hp => absurd hp (Nat.not_lt_zero _)⟩
/-- rows that are alike as far as they count -/
theorem Lat.congr {G : Mx} (h : Lat s r A F) (e : ∀ p, p < r → ∀ c, G p c = F p c) : Lat s r A G :=
  h.turn (fun p hp => by rw [show G p = F p from funext (e p hp)]; exact Sp.row hp) fun p hp => by rw [← show G p = F p from funext (e p hp)]; exact Sp.row hp
end
/-- minors of any t rows -/
theorem minors_bd {e t : Nat} {A : Mx} (h : ∀ i c, Bd (2 ^ e) (A i c)) (ht : t ≤ 64) (K C : Nat → Nat) : Bd (2 ^ (64 * (e + 6))) (det t (fun i j => A (K i) (C j))) :=
  (det_bdt (Int.le_of_lt (two_pow_pos e)) (n := t) (F := fun i j => A (K i) (C j)) fun i j hi hj => h (K i) (C j)).mono (Int.le_trans (bdt_pow ht) (two_pow_le (Nat.mul_le_mul_right _ ht)))
/-- the numbers of rows in Hermite form of a lattice -/
theorem Lat.bd {s t e : Nat} {A F : Mx} {J : Nat → Nat} (h : Lat s t A F) (he : Ech t F J) (hr : RedA t F J) (hA : ∀ i c, Bd (2 ^ e) (A i c)) (ht : t ≤ 64) : ∀ p c, p < t → Bd (2 ^ (128 * (e + 6) + 7) - 1) (F p c) := fun p c hp => by
  have h1 := hr.bd he (h.mn he fun K C => minors_bd hA ht K C) p c hp
  exact h1.mono (by have := kk_pow (n := t) (e := e) ht; omega)
end Go.Det

namespace Go.Det

/-- bezout.Ext of a positive number and a smaller positive one, as ladder.meet asks it -/
theorem ExtOk.det {p v g x y : Int} (h : ExtOk p v g x y) : ∃ s t, v = g * s ∧ p = g * t ∧ x * t - y * -s = 1 := by
  obtain ⟨t, ht⟩ := h.da
  obtain ⟨s, hs⟩ := h.db
  refine ⟨s, t, hs, ht, ?_⟩
  have h1 := h.eq
  rw [hs, ht] at h1
  have hg := h.pos
  have h2 : g * (x * t - y * -s) = g * 1 := by grind
  exact Int.eq_of_mul_eq_mul_left (by omega) h2
end Go.Det

namespace Go.Det
inductive Opn
  | sw (i j : Nat)
  | tn (i : Nat)
  | ad (i j : Nat) (k : Int)
  | mx (i j : Nat) (a b c d : Int)
def Opn.on (o : Opn) (back : Bool) (F : Mx) : Mx :=
  match o, back with
  | .sw i j, _ => swp F i j
  | .tn i, _ => up F i (fun c => - F i c)
  | .ad i j k, false => up F i (fun c => F i c + k * F j c)
  | .ad i j k, true => up F j (fun c => F j c + -k * F i c)
  | .mx i j a b c d, false => mixR F i j a b c d
  | .mx i j a b c d, true => mixR F i j d (-c) (-b) a
def Opn.ok (n : Nat) : Opn → Prop
  | .sw i j => i < n ∧ j < n ∧ i ≠ j
  | .tn i => i < n
  | .ad i j _ => i < n ∧ j < n ∧ i ≠ j
  | .mx i j a b c d => i < n ∧ j < n ∧ i ≠ j ∧ a * d - b * c = 1
theorem Opn.ok.mono {n m : Nat} (h : n ≤ m) : ∀ {o : Opn}, o.ok n → o.ok m
  | .sw i j, ⟨a, b, c⟩ => ⟨by omega, by omega, c⟩
  | .tn i, a => Nat.lt_of_lt_of_le a h
  | .ad i j _, ⟨a, b, c⟩ => ⟨by omega, by omega, c⟩
  | .mx i j _ _ _ _, ⟨a, b, c, d⟩ => ⟨by omega, by omega, c, d⟩
theorem Wide.opn {n m : Nat} {A F V : Mx} (h : Wide n m A F V) : ∀ {o : Opn}, o.ok n → Wide n m A (o.on false F) (o.on true V)
  | .sw i j, ⟨a, b, c⟩ => h.swap a b c
  | .tn i, a => h.turn a
  | .ad i j k, ⟨a, b, c⟩ => h.add a b c k
  | .mx i j _ _ _ _, ⟨a, b, c, d⟩ => h.mix a b c d
theorem Lat.opn {s r : Nat} {A F : Mx} (h : Lat s r A F) : ∀ {o : Opn}, o.ok r → Lat s r A (o.on false F)
  | .sw i j, ⟨a, b, c⟩ => h.swap a b c
  | .tn i, a => h.neg a
  | .ad i j k, ⟨a, b, c⟩ => h.add a b c k
  | .mx i j _ _ _ _, ⟨a, b, c, d⟩ => h.mix a b c d
/-- rows that an operation does not touch -/
theorem Opn.far {r p : Nat} {F : Mx} {b : Bool} (hp : r ≤ p) : ∀ {o : Opn}, o.ok r → ∀ c, o.on b F p c = F p c
  | .sw i j, ⟨a, d, _⟩ => fun c => by show swp F i j p c = _; unfold swp; rw [if_neg (by omega), if_neg (by omega)]
  | .tn i, a => fun c => by
    have a' : i < r := a
    show up F i (fun c => - F i c) p c = _
    exact up_ne (by omega) c
  | .ad i j k, ⟨a, d, _⟩ => fun c => by
    cases b
    · show up F i (fun c => F i c + k * F j c) p c = _
      exact up_ne (by omega) c
    · show up F j (fun c => F j c + -k * F i c) p c = _
      exact up_ne (by omega) c
  | .mx i j e f g h, ⟨a, d, _, _⟩ => fun c => by
    cases b
    · exact mixR_o (by omega) (by omega) _ _ _ _ c
    · exact mixR_o (by omega) (by omega) _ _ _ _ c
/-- columns of zeros stay so -/
theorem Opn.col {n c : Nat} {F : Mx} {e : Bool} (hz : ∀ p, p < n → F p c = 0) : ∀ {o : Opn}, o.ok n → ∀ p, p < n → o.on e F p c = 0
  | .sw i j, ⟨a, b, _⟩ => fun p hp => by show swp F i j p c = _; unfold swp; split; exact hz _ b; split; exact hz _ a; exact hz p hp
  | .tn i, a => fun p hp => by show up F i (fun c => - F i c) p c = _; unfold up; split; dsimp only; rw [hz i a]; rfl; exact hz p hp
  | .ad i j k, ⟨a, b, _⟩ => fun p hp => by
    cases e
    · show up F i (fun c => F i c + k * F j c) p c = _; unfold up; split; dsimp only; rw [hz i a, hz j b, Int.mul_zero]; rfl; exact hz p hp
    · show up F j (fun c => F j c + -k * F i c) p c = _; unfold up; split; dsimp only; rw [hz i a, hz j b, Int.mul_zero]; rfl; exact hz p hp
  | .mx i j _ _ _ _, ⟨a, b, _, _⟩ => fun p hp => by
    cases e
    · show mixR F i j _ _ _ _ p c = _; unfold mixR; split; rw [hz i a, hz j b, Int.mul_zero, Int.mul_zero]; rfl; split; rw [hz i a, hz j b, Int.mul_zero, Int.mul_zero]; rfl; exact hz p hp
    · show mixR F i j _ _ _ _ p c = _; unfold mixR; split; rw [hz i a, hz j b, Int.mul_zero, Int.mul_zero]; rfl; split; rw [hz i a, hz j b, Int.mul_zero, Int.mul_zero]; rfl; exact hz p hp
end Go.Det

namespace Go.Eng
open Go Go.RowKit

theorem sm_cells {α : Type} {f : α → List Value} {w : World} {k B n c : Nat} {A : Option Addr} {l : List α} (h : Sm k f w.heap B A n c l) {b o : Nat} (hA : A = some ⟨b, o, none⟩) : ∀ j v, (l.flatMap f)[j]? = some v → w.cell? ((⟨b, o, none⟩ : Addr).add j) = some v := by
  intro j v hv
  have hlen := h.len
  have hk := h.pos
  have hfl := flatMap_len h.wid
  have hj : j < l.length * k := by rw [← hfl]; exact (List.getElem?_eq_some_iff.1 hv).1
  rcases h.mem with h0 | ⟨b', o', e, _, hc⟩
  · rw [hlen, h0, Nat.zero_mul] at hj; omega
  · rw [hA] at e
    cases e
    rw [add_mk, cell_of_hcell]
    have h1 : j / k < l.length := Nat.div_lt_of_lt_mul (by rw [Nat.mul_comm]; exact hj)
    have h2 := flatMap_get h.wid (j / k) (j % k) l[j / k] (List.getElem?_eq_getElem h1) (Nat.mod_lt _ hk)
    rw [Nat.div_add_mod'] at h2
    have h3 := hc (j / k) l[j / k] (List.getElem?_eq_getElem h1) (j % k) v (by rw [← h2]; exact hv)
    rw [Nat.div_add_mod'] at h3
    exact h3
theorem zero_noU {z : List Value} (hz : z.all noU64 = true) (n : Nat) : (Builtin.zeroCells z.toArray n).toList.all noU64 = true := by
  rw [List.all_eq_true]
  intro v hv
  simp only [Builtin.zeroCells, Array.toList_map, List.mem_map] at hv
  obtain ⟨q, hq, rfl⟩ := hv
  have hq' : q < n * z.length := by simpa using hq
  have hlt : q % z.length < z.length := Nat.mod_lt _ (by rcases Nat.eq_zero_or_pos z.length with h | h; rw [h] at hq'; omega; exact h)
  have : z.toArray[q % z.toArray.size]! = z[q % z.length] := by simp [List.getElem?_eq_getElem hlt]
  rw [this]
  exact List.all_eq_true.1 hz _ (List.getElem_mem hlt)
section
variable {P : Program} {N : Fm} {Q : Exit → Act → World → Prop} {σ : Store} {S : Nat → Prop} {w0 w : World} {L : List VB} {D : List DP} {ops : Array Oper} {d : Nat} {t : TypeId} {pos : String} {af : Array Edge} {rest : List Oper}
theorem Fr.swap {a b : VB} (h : Fr w0 w (a :: b :: L) D S) : Fr w0 w (b :: a :: L) D S := by
  have hp : ∀ v, v ∈ b :: a :: L → v ∈ a :: b :: L := fun v hv => by simp only [List.mem_cons] at hv ⊢; rcases hv with h | h | h <;> simp [h]
  refine ⟨h.exs, fun v hv => h.vars v (hp v hv), ?_, h.data, fun v hv => h.apart v (hp v hv)⟩
  have hd := h.dist
  simp only [List.pairwise_cons, List.mem_cons] at hd ⊢
  refine ⟨fun v hv => ?_, fun v hv => hd.1 v (.inr hv), hd.2.2⟩
  rcases hv with rfl | hv
  · exact fun e => hd.1 b (.inl rfl) e.symm
  · exact hd.2.1 v hv
theorem ev_loadMc {H : Array Obj} {d : Option Tmp} {gd : Option (Nat × Bool)} {x : Operand} {ty : TypeId} [hA : UAgg P ty] {z : Value} {sz b1 : Nat} [hS : USize P ty z sz b1] {α : Type} {f : α → List Value} {B n c i : Nat} {A : Option Addr} {l : List α} {y : α} (cs : List Value)
    (hx : look σ x = some (.pointer (elemA A (i * sz)))) (hs : Sm sz f H B A n c l) (hy : l[i]? = some y) (hc : f y = cs) : Ev P σ H ⟨d, .load ty x, t, pos, af, gd⟩ (.agg cs.toArray) := hc ▸ ev_loadM hx hs hy
/-- nothing appended -/
theorem TL.appendZero {x y : Operand} {ty e : TypeId} [hT : USlice P ty e] {z : Value} {sz b1 : Nat} [hS : USize P e z sz b1] {A A' : Option Addr} {n c c' : Nat}
    (hx : look σ x = some (.slice A n c)) (hy : look σ y = some (.slice A' 0 c')) (hd : Nat.blt d N.n = true) (hn : n ≤ c)
    (K : TL P N .seq ops Q rest ((d, .slice A n c) :: σ) w) :
    TL P N .seq ops Q (⟨some d, .call { callee := .builtin .append, args := #[x, y], argTypes := #[ty, ty] }, t, pos, af, none⟩ :: rest) σ w := by
  obtain ⟨i, hi, hz0, hsz, hby⟩ := hS.info
  refine TL.op (fun ρ hρ => ?_) hd K
  have : (Builtin.append_ #[ty, ty] t #[.slice A n c, .slice A' 0 c']).run P w = .ok (.slice A n c) w := by
    cases A <;> cases A' <;> simp [Builtin.append_, run_underlying hT.out, sizeOf, typeInfo, hi, Builtin.lenOf, Builtin.firstCells, loadCells, loadCellsFrom, storeCells, hn]
  simp [execOp, resolve, invoke, builtin, hρ x _ hx, hρ y _ hy, this]
end
end Go.Eng

namespace Go.Proofs.YthlbihbchobllaaGreat
open Go Go.Eng Go.Proofs Go.NatM Go.RowKit Go.Det

/-- what stays of a side: the variables of its functions, its list of rows -/
structure Ss where
  v : Nat
  v2 : Nat
  g : Nat
  c : Nat
  back : Bool
instance : Inhabited Ss := ⟨⟨0, 0, 0, 0, false⟩⟩
def Sd.st (s : Sd) : Ss := ⟨s.v, s.v2, s.g, s.c, s.back⟩
def fnV (f v : Nat) : Value := .func (.func f) #[] #[.pointer (some ⟨v, 0, none⟩)]
def fAdd (s : Ss) : Nat := match s.back with | true => 38 | false => 60
def fMix (s : Ss) : Nat := match s.back with | true => 41 | false => 61
def sdF (s : Ss) : List Value := [fnV 58 s.v, fnV 59 s.v, fnV (fAdd s) s.v2, fnV (fMix s) s.v2]
structure LdOk (lb sb g0 n m : Nat) (T : List Ss) (H : Array Obj) : Prop where
  ld : Vr H lb 54 [.slice (some ⟨g0, 0, none⟩) n n, .slice (some ⟨sb, 0, none⟩) T.length m]
  sb : ∃ zs, Vr H sb 60 (T.flatMap sdF ++ zs)
  le : T.length ≤ m
  cap : ∀ s ∈ T, Vr H s.v 48 (capV s.g n) ∧ Vr H s.v2 48 (capV s.g n)
theorem LdOk.sm {lb sb g0 n m : Nat} {T : List Ss} {H : Array Obj} (h : LdOk lb sb g0 n m T H) : Sm 4 sdF H H.size (some ⟨sb, 0, none⟩) T.length m T := by
  obtain ⟨zs, hz⟩ := h.sb
  exact vr_sm (zs := zs) (by omega) (fun _ _ => rfl) hz rfl h.le hz.lt
def dpLd (lb sb g0 n m : Nat) (T : List Ss) : DP where
  p H := LdOk lb sb g0 n m T H
  fp k := k = lb ∨ k = sb ∨ ∃ s ∈ T, k = s.v ∨ k = s.v2
  lt H k h hk := by
    rcases hk with rfl | rfl | ⟨s, hs, rfl | rfl⟩
    · exact h.ld.lt
    · exact h.sb.choose_spec.lt
    · exact (h.cap s hs).1.lt
    · exact (h.cap s hs).2.lt
  st H H' hd h := ⟨(hd.block _ _ _ _ h.ld (.inl (.inl rfl))).trans h.ld, ⟨h.sb.choose, (hd.block _ _ _ _ h.sb.choose_spec (.inl (.inr (.inl rfl)))).trans h.sb.choose_spec⟩, h.le, fun s hs => ⟨(hd.block _ _ _ _ (h.cap s hs).1 (.inl (.inr (.inr ⟨s, hs, .inl rfl⟩)))).trans (h.cap s hs).1, (hd.block _ _ _ _ (h.cap s hs).2 (.inl (.inr (.inr ⟨s, hs, .inr rfl⟩)))).trans (h.cap s hs).2⟩⟩
def dpSds (n K : Nat) (Q : List Sd) : DP := ⟨fun H => ∀ s ∈ Q, SdK n K s H, fun _ => False, fun _ _ _ h => h.elim, fun _ _ hd h s hs i hi q hq => ⟨(h s hs i hi q hq).1.de hd, (h s hs i hi q hq).2⟩⟩
section
variable {S : Nat → Prop} {w0 w w' : World} {L : List VB} {D : List DP}
theorem Fr.ld (h : Fr w0 w L D S) {lb sb g0 n m : Nat} {T : List Ss} (hm : dpLd lb sb g0 n m T ∈ D) : LdOk lb sb g0 n m T w.heap := h.data _ hm
theorem Fr.sds (h : Fr w0 w L D S) {n K : Nat} {Q : List Sd} (hm : dpSds n K Q ∈ D) : ∀ s ∈ Q, SdK n K s w.heap := h.data _ hm
theorem Fr.addSds (h : Fr w0 w L D S) {n K : Nat} {Q : List Sd} (k : ∀ s ∈ Q, SdK n K s w.heap) : Fr w0 w L (dpSds n K Q :: D) S := h.add _ k fun _ _ h => h
theorem Fr.addVr (h : Fr w0 w L D S) {lb sb g0 n m : Nat} {T : List Ss} (hm : dpLd lb sb g0 n m T ∈ D) {s : Ss} (hs : s ∈ T) : Fr w0 w L (dpVr s.v 48 (capV s.g n) :: dpVr s.v2 48 (capV s.g n) :: D) S := by
  have h1 := (Fr.ld h hm).cap s hs
  refine (h.add (dpVr s.v2 48 (capV s.g n)) (by unfold dpVr; exact h1.2) ?_).add (dpVr s.v 48 (capV s.g n)) (by unfold dpVr; exact h1.1) ?_
  · intro v hv hk
    refine h.apart v hv _ hm ?_
    unfold dpVr at hk
    exact .inr (.inr ⟨s, hs, .inr hk⟩)
  · intro v hv hk
    refine h.apart v hv _ hm ?_
    unfold dpVr at hk
    exact .inr (.inr ⟨s, hs, .inl hk⟩)
end
theorem dpSds_fp {n K k : Nat} {Q : List Sd} : ¬ (dpSds n K Q).fp k := id
attribute [irreducible] dpLd dpSds

def sdsL (Q : List Sd) : List VB := Q.flatMap sdL
theorem sds_split {Q : List Sd} {p : Nat} {s : Sd} (h : Q[p]? = some s) : sdsL Q = sdsL (Q.take p) ++ (sdL s ++ sdsL (Q.drop (p + 1))) := by
  have hp := (List.getElem?_eq_some_iff.1 h).1
  have e : Q = Q.take p ++ s :: Q.drop (p + 1) := by
    have h1 := (List.getElem?_eq_some_iff.1 h).2
    rw [← h1, List.getElem_cons_drop, List.take_append_drop]
  conv => lhs; rw [e]
  unfold sdsL
  rw [List.flatMap_append, List.flatMap_cons]
theorem sds_set {Q : List Sd} {p : Nat} {s s' : Sd} (h : Q[p]? = some s) : sdsL (Q.set p s') = sdsL (Q.take p) ++ (sdL s' ++ sdsL (Q.drop (p + 1))) := by
  have hp := (List.getElem?_eq_some_iff.1 h).1
  rw [sds_split (Q := Q.set p s') (p := p) (s := s') (by simp [hp]), List.take_set_of_le (Nat.le_refl _), List.drop_set_of_lt (Nat.lt_succ_self _)]
theorem sdsL_no (Q : List Sd) : ∀ v ∈ sdsL Q, v.cs.all noU64 = true := fun v hv => by
  obtain ⟨s, _, h⟩ := List.mem_flatMap.1 hv
  exact sdL_no s v h
/-- a side behind an operation -/
def SdRel (n : Nat) (o : Opn) (s s' : Sd) : Prop := ∃ R', s' = s.up R' (o.on s.back s.F) ∧ Shp n s' ∧ (R'.map (·.b)).Perm (s.R.map (·.b))
def OpRel (n : Nat) (o : Opn) (Q Q' : List Sd) : Prop := Q'.length = Q.length ∧ ∀ (p : Nat) (s : Sd), Q[p]? = some s → ∃ s', Q'[p]? = some s' ∧ SdRel n o s s'
theorem SdRel.st {n : Nat} {o : Opn} {s s' : Sd} (h : SdRel n o s s') : s'.st = s.st := by obtain ⟨R', rfl, _⟩ := h; rfl
theorem OpRel.st {n : Nat} {o : Opn} {Q Q' : List Sd} (h : OpRel n o Q Q') : Q'.map Sd.st = Q.map Sd.st := by
  apply List.ext_getElem?
  intro p
  rw [List.getElem?_map, List.getElem?_map]
  cases hp : Q[p]? with
  | none =>
    have h1 := List.getElem?_eq_none_iff.1 hp
    rw [List.getElem?_eq_none (by rw [h.1]; exact h1)]
  | some s =>
    obtain ⟨s', h1, h2⟩ := h.2 p s hp
    rw [h1]
    show some s'.st = some s.st
    rw [h2.st]
theorem OpRel.blk {n : Nat} {o : Opn} : ∀ {Q Q' : List Sd}, OpRel n o Q Q' → ((sdsL Q').map (·.b)).Perm ((sdsL Q).map (·.b))
  | [], Q', h => by
    have : Q' = [] := List.eq_nil_of_length_eq_zero h.1
    subst this; exact .refl _
  | s :: Q, [], h => by have := h.1; simp at this
  | s :: Q, s' :: Q', h => by
    obtain ⟨s1, e1, R', e2, _, hp⟩ := h.2 0 s rfl
    have e3 : s' = s1 := by simpa using e1
    have ih := OpRel.blk (Q := Q) (Q' := Q') ⟨by simpa using h.1, fun p t ht => by
      obtain ⟨t', h1, h2⟩ := h.2 (p + 1) t (by simpa using ht)
      exact ⟨t', by simpa using h1, h2⟩⟩
    unfold sdsL at ih ⊢
    rw [List.flatMap_cons, List.flatMap_cons, List.map_append, List.map_append]
    refine List.Perm.append ?_ ih
    rw [e3, e2]
    exact sd_perm hp
def RetOp (w : World) (n K : Nat) (Q : List Sd) (o : Opn) (S : Nat → Prop) (e : Ending) (w' : World) : Prop :=
  e = .returned (.tuple #[]) ∧ ∃ Q', OpRel n o Q Q' ∧ Fr w w' (sdsL Q') [dpSds n K Q'] S
theorem OpRel.shp {n : Nat} {o : Opn} {Q Q' : List Sd} (h : OpRel n o Q Q') : ∀ s ∈ Q', Shp n s := fun s' hs => by
  obtain ⟨p, hp⟩ := List.getElem?_of_mem hs
  have hlt := (List.getElem?_eq_some_iff.1 hp).1
  obtain ⟨s1, h1, _, _, h2, _⟩ := h.2 p (Q[p]'(by rw [← h.1]; exact hlt)) (List.getElem?_eq_getElem _)
  rw [hp] at h1
  cases h1
  exact h2
/-- part of the sides have been worked on -/
def Part (n : Nat) (o : Opn) (p : Nat) (Q Q' : List Sd) : Prop := Q'.length = Q.length ∧ ∀ (q : Nat) (s : Sd), Q[q]? = some s → (q < p → ∃ s', Q'[q]? = some s' ∧ SdRel n o s s') ∧ (p ≤ q → Q'[q]? = some s)
theorem Part.start (n : Nat) (o : Opn) (Q : List Sd) : Part n o 0 Q Q := ⟨rfl, fun q s h => ⟨fun h1 => absurd h1 (Nat.not_lt_zero _), fun _ => h⟩⟩
theorem Part.step {n p : Nat} {o : Opn} {Q Q' : List Sd} {s s' : Sd} (h : Part n o p Q Q') (hs : Q[p]? = some s) (hr : SdRel n o s s') : Part n o (p + 1) Q (Q'.set p s') := by
  have hp := (List.getElem?_eq_some_iff.1 hs).1
  refine ⟨by rw [List.length_set]; exact h.1, fun q t ht => ⟨fun hq => ?_, fun hq => ?_⟩⟩
  · by_cases e : q = p
    · subst e
      rw [hs] at ht; cases ht
      exact ⟨s', by simp [h.1, hp], hr⟩
    · obtain ⟨t', h1, h2⟩ := (h.2 q t ht).1 (by omega)
      exact ⟨t', by rw [List.getElem?_set_ne (fun e' => e e'.symm)]; exact h1, h2⟩
  · rw [List.getElem?_set_ne (by omega)]
    exact (h.2 q t ht).2 (by omega)
theorem Part.fin {n : Nat} {o : Opn} {Q Q' : List Sd} (h : Part n o Q.length Q Q') : OpRel n o Q Q' := ⟨h.1, fun q s hs => (h.2 q s hs).1 (List.getElem?_eq_some_iff.1 hs).1⟩
theorem Part.st {n p : Nat} {o : Opn} {Q Q' : List Sd} (h : Part n o p Q Q') : Q'.map Sd.st = Q.map Sd.st := by
  apply List.ext_getElem?
  intro q
  rw [List.getElem?_map, List.getElem?_map]
  cases hq : Q[q]? with
  | none => rw [List.getElem?_eq_none (by rw [h.1]; exact List.getElem?_eq_none_iff.1 hq)]
  | some s =>
    rcases Nat.lt_or_ge q p with h1 | h1
    · obtain ⟨s', h2, h3⟩ := (h.2 q s hq).1 h1
      rw [h2]
      show some s'.st = some s.st
      rw [h3.st]
    · rw [(h.2 q s hq).2 h1]
/-- the frame behind the call of a side's function -/
theorem Fr.side {S : Nat → Prop} {w0 w w' : World} {Pre : List VB} {D : List DP} {n K p : Nat} {Q1 : List Sd} {s : Sd} {F' : Mx} {R' : List RQ} (hp : Q1[p]? = some s) (h : Fr w0 w (Pre ++ (sdsL (Q1.take p) ++ (sdL s ++ sdsL (Q1.drop (p + 1))))) D S) (hm : dpSds n K Q1 ∈ D) (hpm : (R'.map (·.b)).Perm (s.R.map (·.b))) (hc : Fr w w' (sdL (s.up R' F')) [dpSd n K (s.up R' F')] (blk (sdL s))) :
    Fr w0 w' (Pre ++ sdsL (Q1.set p (s.up R' F'))) (dpSds n K (Q1.set p (s.up R' F')) :: D) S := by
  rw [sds_set hp]
  rw [← List.append_assoc] at h
  have h1 := Fr.call h hc (fun k hk => hk) (sd_perm hpm) (sdL_no s) one_fp
  rw [List.append_assoc] at h1
  have h2 := Fr.sds h1 (n := n) (K := K) (Q := Q1) (List.mem_cons_of_mem _ hm)
  have h3 := Fr.sd h1 (n := n) (K := K) (s := s.up R' F') (List.mem_cons_self ..)
  refine Fr.addSds (h1.weak (.refl _) (fun d hd => List.mem_cons_of_mem _ hd)) fun t ht => ?_
  rcases List.mem_or_eq_of_mem_set ht with h4 | h4
  · exact h2 t h4
  · rw [h4]; exact h3
theorem Fr.sideIn {S : Nat → Prop} {w0 w : World} {Pre : List VB} {D D1 : List DP} {p : Nat} {Q1 : List Sd} {s : Sd} (h : Fr w0 w (Pre ++ (sdsL (Q1.take p) ++ (sdL s ++ sdsL (Q1.drop (p + 1))))) D S) (hD : ∀ d ∈ D1, d ∈ D) : Fr w w (sdL s) D1 (blk (sdL s)) := by
  rw [← List.append_assoc] at h
  exact Fr.sub h hD
set_option maxRecDepth 100000 in
set_option maxHeartbeats 8000000 in
theorem lmswap_ok (w : World) (lb sb g0 n m K i j : Nat) (Q : List Sd)  (S : Nat → Prop) (hQ : ∀ s ∈ Q, Shp n s) (hm : Q.length ≤ 1048576) (hi : i < n) (hj : j < n) (hij : i ≠ j) (hF : Fr w w (sdsL Q) ( dpLd lb sb g0 n m (Q.map Sd.st) :: dpSds n K Q :: []) S) :
    Cl Tryz.prog 44 #[.pointer (some ⟨lb, 0, none⟩), .int .i64 (i : Int), .int .i64 (j : Int)] w (RetOp w n K Q (.sw i j) S) := by
  skip
  refine enter Tryz.func44 rfl rfl rfl ?_
  skip
  repeat' (first | (refine TL.isOp ?_; first | (apply TL.ev; (case hd => rfl); (case h => (first | exact ev_simple rfl | (apply Ev.isLoad; first | exact ev_loadV rfl (Fr.ld hF (by repeat (first | exact memH | apply memT))).ld rfl) | exact ev_len rfl | exact ev_fieldAddr rfl | exact ev_nilCheck rfl)))) | (refine T.is ?_; first | refine T.seq ?_ | refine T.region ?_ | refine T.block ?_) | (refine G.is ?_; first | refine G.next ?_) | refine TL.nil ?_)
  have hl : (Q.map Sd.st).length = Q.length := List.length_map _
  have hQl : Q.length ≤ 1048576 := hm
  refine T.loop (α := Nat × List Sd) (fun x => [(1, .int .i64 (i : Int)), (2, .int .i64 (j : Int)), (11, .slice (some ⟨sb, 0, none⟩) (Q.map Sd.st).length m), (12, .int .i64 ((Q.map Sd.st).length : Int)), (13, .int .i64 (x.1 : Int))])
    (fun x w' => x.1 ≤ Q.length ∧ Part n (.sw i j) x.1 Q x.2 ∧ Fr w w' ((sdsL x.2)) (dpSds n K x.2 ::  [dpLd lb sb g0 n m (Q.map Sd.st)]) S)
    (fun x => Q.length - x.1) (0, Q) (by repeat (first | exact Sub.nil _ | refine Sub.cons rfl ?_ | refine Sub.cons' rfl (int_congr (by omega)) ?_)) ⟨Nat.zero_le _, Part.start .., hF.weak (.refl _) (allH (by repeat (first | exact memH | apply memT)) (allH (by repeat (first | exact memH | apply memT)) allN))⟩ ?_
  clear hF
  rintro ⟨p, Q1⟩ w2 ⟨hp, hP, hF⟩
  dsimp only at hp hP hF ⊢
  rcases Nat.lt_or_ge p Q.length with hpn | hpn
  · obtain ⟨s, hs⟩ : ∃ s, Q[p]? = some s := ⟨_, List.getElem?_eq_getElem hpn⟩
    have hs1 := (hP.2 p s hs).2 (Nat.le_refl _)
    have hsm := List.mem_of_getElem? hs
    have hSh := hQ s hsm
    have hst : (Q.map Sd.st)[p]? = some s.st := by rw [List.getElem?_map, hs]; rfl
    rw [sds_split hs1] at hF
    have hpl : p < (Q.map Sd.st).length := by omega
    replace hF := Fr.addVr hF (s := s.st) (by repeat (first | exact memH | apply memT)) (List.mem_of_getElem? hst)
    replace hF := Fr.addSd hF (n := n) (K := K) (s := s) (Fr.sds hF (n := n) (K := K) (Q := Q1) (by repeat (first | exact memH | apply memT)) s (List.mem_of_getElem? hs1))
    repeat' (first | (refine TL.isOp ?_; first | (refine TL.isBin ?_; refine TL.cmpG rfl rfl rfl rfl (fun hc => ?_) (fun hc => ?_) <;> (try (first | (exfalso; omega) | exact absurd rfl hc))) | (apply TL.ev; (case hd => rfl); (case h => (first | exact ev_simple rfl | (apply Ev.isBin; first | exact ev_arN rfl rfl rfl (by omega)) | (apply Ev.isLoad; first | exact ev_loadFr hF rfl (by refine ⟨?_, ?_⟩; (focus (repeat (first | exact InV.head | apply InV.tail))); rfl) | exact ev_loadMc [.func (.func 58) #[] #[.pointer (some ⟨s.v, 0, none⟩)], .func (.func 59) #[] #[.pointer (some ⟨s.v, 0, none⟩)], .func (.func (fAdd s.st)) #[] #[.pointer (some ⟨s.v2, 0, none⟩)], .func (.func (fMix s.st)) #[] #[.pointer (some ⟨s.v2, 0, none⟩)]] rfl ((Fr.ld hF (by repeat (first | exact memH | apply memT))).sm) hst (rfl)) | exact ev_fieldAddr rfl | exact ev_indexM rfl rfl hpl (.inr rfl)))) | (refine TL.storeAFr hF rfl rfl rfl rfl (by refine ⟨?_, ?_⟩; (focus (repeat (first | apply SetV.head | apply SetV.tail))); rfl) rfl ?_; clear hF; intro ws hF) | (refine TL.allocFr hF (d := 7) rfl rfl ?_; clear hF; intro w7 b7 hF) | (refine TL.callV (vs := [.int .i64 (i : Int), .int .i64 (j : Int)]) (cap := [.pointer (some ⟨s.v, 0, none⟩)]) (by infer_instance) rfl rfl rfl ?_; refine (like_swap _ n K i j s.v s _ hSh hi hj hij (Fr.sideIn (Pre := [_]) hF (allH (by repeat (first | exact memH | apply memT)) (allH (by repeat (first | exact memH | apply memT)) allN)))).mono ?_; rintro _ w3 ⟨rfl, R', hR', hpm, hF'⟩; replace hF := Fr.side (Pre := [_]) hs1 hF (by repeat (first | exact memH | apply memT)) hpm hF'; clear hF'; refine Back.mk ?_)) | (refine T.is ?_; first | refine T.seq ?_ | refine T.region ?_ | refine T.block ?_ | refine T.cond_t rfl ?_ | refine T.skip ?_) | (refine G.is ?_; first | refine G.next ?_ | refine G.blockN ?_) | refine TL.nil ?_)
    exact G.again (p + 1, Q1.set p (s.up R' _)) (by repeat (first | exact Sub.nil _ | refine Sub.cons rfl ?_ | refine Sub.cons' rfl (int_congr (by omega)) ?_)) ⟨hpn, hP.step hs ⟨R', rfl, hR', hpm⟩, hF.weak (.cons _ (.refl _)) (allH (by repeat (first | exact memH | apply memT)) (allH (by repeat (first | exact memH | apply memT)) allN))⟩ (by dsimp only; omega)
  · obtain rfl : p = Q.length := by omega
    repeat' (first | (refine TL.isOp ?_; first | (refine TL.isBin ?_; refine TL.cmpG rfl rfl rfl rfl (fun hc => ?_) (fun hc => ?_) <;> (try (first | (exfalso; omega) | exact absurd rfl hc)))) | (refine T.is ?_; first | refine T.seq ?_ | refine T.region ?_ | refine T.cond_f rfl ?_ | refine T.exit ?_) | (refine G.is ?_; first | refine G.next ?_ | refine G.blockE ?_ | refine G.thenE ?_) | refine TL.nil ?_)
    refine G.end0 rfl ⟨rfl, Q1, hP.fin, hF.weak (.refl _) (allH (by repeat (first | exact memH | apply memT)) allN)⟩
set_option maxRecDepth 100000 in
set_option maxHeartbeats 8000000 in
theorem lmturn_ok (w : World) (lb sb g0 n m K i : Nat) (Q : List Sd)  (S : Nat → Prop) (hQ : ∀ s ∈ Q, Shp n s) (hm : Q.length ≤ 1048576) (hi : i < n) (hK : K ≤ 8796093022000) (hF : Fr w w (sdsL Q) ( dpLd lb sb g0 n m (Q.map Sd.st) :: dpSds n K Q :: []) S) :
    Cl Tryz.prog 66 #[.pointer (some ⟨lb, 0, none⟩), .int .i64 (i : Int)] w (RetOp w n K Q (.tn i) S) := by
  skip
  refine enter Tryz.func66 rfl rfl rfl ?_
  skip
  repeat' (first | (refine TL.isOp ?_; first | (apply TL.ev; (case hd => rfl); (case h => (first | exact ev_simple rfl | (apply Ev.isLoad; first | exact ev_loadV rfl (Fr.ld hF (by repeat (first | exact memH | apply memT))).ld rfl) | exact ev_len rfl | exact ev_fieldAddr rfl | exact ev_nilCheck rfl)))) | (refine T.is ?_; first | refine T.seq ?_ | refine T.region ?_ | refine T.block ?_) | (refine G.is ?_; first | refine G.next ?_) | refine TL.nil ?_)
  have hl : (Q.map Sd.st).length = Q.length := List.length_map _
  have hQl : Q.length ≤ 1048576 := hm
  refine T.loop (α := Nat × List Sd) (fun x => [(1, .int .i64 (i : Int)), (9, .slice (some ⟨sb, 0, none⟩) (Q.map Sd.st).length m), (10, .int .i64 ((Q.map Sd.st).length : Int)), (11, .int .i64 (x.1 : Int))])
    (fun x w' => x.1 ≤ Q.length ∧ Part n (.tn i) x.1 Q x.2 ∧ Fr w w' ((sdsL x.2)) (dpSds n K x.2 ::  [dpLd lb sb g0 n m (Q.map Sd.st)]) S)
    (fun x => Q.length - x.1) (0, Q) (by repeat (first | exact Sub.nil _ | refine Sub.cons rfl ?_ | refine Sub.cons' rfl (int_congr (by omega)) ?_)) ⟨Nat.zero_le _, Part.start .., hF.weak (.refl _) (allH (by repeat (first | exact memH | apply memT)) (allH (by repeat (first | exact memH | apply memT)) allN))⟩ ?_
  clear hF
  rintro ⟨p, Q1⟩ w2 ⟨hp, hP, hF⟩
  dsimp only at hp hP hF ⊢
  rcases Nat.lt_or_ge p Q.length with hpn | hpn
  · obtain ⟨s, hs⟩ : ∃ s, Q[p]? = some s := ⟨_, List.getElem?_eq_getElem hpn⟩
    have hs1 := (hP.2 p s hs).2 (Nat.le_refl _)
    have hsm := List.mem_of_getElem? hs
    have hSh := hQ s hsm
    have hst : (Q.map Sd.st)[p]? = some s.st := by rw [List.getElem?_map, hs]; rfl
    rw [sds_split hs1] at hF
    have hpl : p < (Q.map Sd.st).length := by omega
    replace hF := Fr.addVr hF (s := s.st) (by repeat (first | exact memH | apply memT)) (List.mem_of_getElem? hst)
    replace hF := Fr.addSd hF (n := n) (K := K) (s := s) (Fr.sds hF (n := n) (K := K) (Q := Q1) (by repeat (first | exact memH | apply memT)) s (List.mem_of_getElem? hs1))
    repeat' (first | (refine TL.isOp ?_; first | (refine TL.isBin ?_; refine TL.cmpG rfl rfl rfl rfl (fun hc => ?_) (fun hc => ?_) <;> (try (first | (exfalso; omega) | exact absurd rfl hc))) | (apply TL.ev; (case hd => rfl); (case h => (first | exact ev_simple rfl | (apply Ev.isBin; first | exact ev_arN rfl rfl rfl (by omega)) | (apply Ev.isLoad; first | exact ev_loadFr hF rfl (by refine ⟨?_, ?_⟩; (focus (repeat (first | exact InV.head | apply InV.tail))); rfl) | exact ev_loadMc [.func (.func 58) #[] #[.pointer (some ⟨s.v, 0, none⟩)], .func (.func 59) #[] #[.pointer (some ⟨s.v, 0, none⟩)], .func (.func (fAdd s.st)) #[] #[.pointer (some ⟨s.v2, 0, none⟩)], .func (.func (fMix s.st)) #[] #[.pointer (some ⟨s.v2, 0, none⟩)]] rfl ((Fr.ld hF (by repeat (first | exact memH | apply memT))).sm) hst (rfl)) | exact ev_fieldAddr rfl | exact ev_indexM rfl rfl hpl (.inr rfl)))) | (refine TL.storeAFr hF rfl rfl rfl rfl (by refine ⟨?_, ?_⟩; (focus (repeat (first | apply SetV.head | apply SetV.tail))); rfl) rfl ?_; clear hF; intro ws hF) | (refine TL.allocFr hF (d := 5) rfl rfl ?_; clear hF; intro w5 b5 hF) | (refine TL.callV (vs := [.int .i64 (i : Int)]) (cap := [.pointer (some ⟨s.v, 0, none⟩)]) (by infer_instance) rfl rfl rfl ?_; refine (like_turn _ n K i s.v s _ hSh hi hK (Fr.sideIn (Pre := [_]) hF (allH (by repeat (first | exact memH | apply memT)) (allH (by repeat (first | exact memH | apply memT)) allN)))).mono ?_; rintro _ w3 ⟨rfl, R', hR', hpm, hF'⟩; replace hF := Fr.side (Pre := [_]) hs1 hF (by repeat (first | exact memH | apply memT)) hpm hF'; clear hF'; refine Back.mk ?_)) | (refine T.is ?_; first | refine T.seq ?_ | refine T.region ?_ | refine T.block ?_ | refine T.cond_t rfl ?_ | refine T.skip ?_) | (refine G.is ?_; first | refine G.next ?_ | refine G.blockN ?_) | refine TL.nil ?_)
    exact G.again (p + 1, Q1.set p (s.up R' _)) (by repeat (first | exact Sub.nil _ | refine Sub.cons rfl ?_ | refine Sub.cons' rfl (int_congr (by omega)) ?_)) ⟨hpn, hP.step hs ⟨R', rfl, hR', hpm⟩, hF.weak (.cons _ (.refl _)) (allH (by repeat (first | exact memH | apply memT)) (allH (by repeat (first | exact memH | apply memT)) allN))⟩ (by dsimp only; omega)
  · obtain rfl : p = Q.length := by omega
    repeat' (first | (refine TL.isOp ?_; first | (refine TL.isBin ?_; refine TL.cmpG rfl rfl rfl rfl (fun hc => ?_) (fun hc => ?_) <;> (try (first | (exfalso; omega) | exact absurd rfl hc)))) | (refine T.is ?_; first | refine T.seq ?_ | refine T.region ?_ | refine T.cond_f rfl ?_ | refine T.exit ?_) | (refine G.is ?_; first | refine G.next ?_ | refine G.blockE ?_ | refine G.thenE ?_) | refine TL.nil ?_)
    refine G.end0 rfl ⟨rfl, Q1, hP.fin, hF.weak (.refl _) (allH (by repeat (first | exact memH | apply memT)) allN)⟩
set_option maxRecDepth 100000 in
set_option maxHeartbeats 8000000 in
theorem lmadd_ok (w : World) (lb sb g0 n m K i j : Nat) (Q : List Sd) (k : IV) (z : Int) (S : Nat → Prop) (hQ : ∀ s ∈ Q, Shp n s) (hm : Q.length ≤ 1048576) (hi : i < n) (hj : j < n) (hij : i ≠ j) (hkn : k.m.n ≤ 4398046511104) (hK : K ≤ 4398046511104) (hF : Fr w w (sdsL Q) (dpLI z k :: dpLd lb sb g0 n m (Q.map Sd.st) :: dpSds n K Q :: []) S) (hB : ∀ s ∈ Q, BdW n K ((Opn.ad i j z).on s.back s.F)) (hz : z ≠ 0) :
    Cl Tryz.prog 74 #[.pointer (some ⟨lb, 0, none⟩), .int .i64 (i : Int), .int .i64 (j : Int), .agg (ivc k).toArray] w (RetOp w n K Q (.ad i j z) S) := by
  obtain ⟨kn, ⟨kA, km, kc, kl⟩⟩ := k; dsimp only at hkn
  refine enter Tryz.func74 rfl rfl rfl ?_
  obtain ⟨sg, hs1, hs0⟩ : ∃ sg, sig z = sg ∧ sg ≠ 0 := ⟨_, rfl, fun h => hz (sig_0.1 h)⟩
  repeat' (first | (refine TL.isOp ?_; first | (refine TL.isCall ?_; refine TL.call rfl rfl ?_; first | (refine (zsignX _ ⟨kn, ⟨kA, km, kc, kl⟩⟩ (Fr.li hF (z := z) (by repeat (first | exact memH | apply memT))).g (by dsimp only; omega)).mono ?_; rintro _ w1 ⟨rfl, hE⟩; rw [(Fr.li hF (z := z) (by repeat (first | exact memH | apply memT))).val, hs1]; replace hF := hF.exts hE; clear hE; refine Back.mk ?_)) | (refine TL.isBin ?_; refine TL.cmpG rfl rfl rfl rfl (fun hc => ?_) (fun hc => ?_) <;> (try (first | (exfalso; omega) | exact absurd rfl hc))) | (apply TL.ev; (case hd => rfl); (case h => (first | exact ev_simple rfl | (apply Ev.isLoad; first | exact ev_loadAFr hF rfl (by refine ⟨?_, ?_⟩; (focus (repeat (first | exact InV.head | apply InV.tail))); rfl) | exact ev_loadV rfl (Fr.ld hF (by repeat (first | exact memH | apply memT))).ld rfl) | exact ev_len rfl | exact ev_fieldAddr rfl | exact ev_nilCheck rfl))) | (refine TL.boxAFr hF (d := 7) (cs := [.bool kn, .slice kA km kc]) rfl rfl ?_; clear hF; intro w7 b7 hF)) | (refine T.is ?_; first | refine T.seq ?_ | refine T.region ?_ | refine T.block ?_ | refine T.cond_f rfl ?_ | refine T.skip ?_) | (refine G.is ?_; first | refine G.next ?_) | refine TL.nil ?_)
  have hl : (Q.map Sd.st).length = Q.length := List.length_map _
  have hQl : Q.length ≤ 1048576 := hm
  refine T.loop (α := Nat × List Sd) (fun x => [(1, .int .i64 (i : Int)), (2, .int .i64 (j : Int)), (7, .pointer (some ⟨b7, 0, none⟩)), (16, .slice (some ⟨sb, 0, none⟩) (Q.map Sd.st).length m), (17, .int .i64 ((Q.map Sd.st).length : Int)), (18, .int .i64 (x.1 : Int))])
    (fun x w' => x.1 ≤ Q.length ∧ Part n (.ad i j z) x.1 Q x.2 ∧ Fr w w' (⟨b7, 43, [.bool kn, .slice kA km kc]⟩ :: (sdsL x.2)) (dpSds n K x.2 :: dpLI z ⟨kn, ⟨kA, km, kc, kl⟩⟩ :: [dpLd lb sb g0 n m (Q.map Sd.st)]) S)
    (fun x => Q.length - x.1) (0, Q) (by repeat (first | exact Sub.nil _ | refine Sub.cons rfl ?_ | refine Sub.cons' rfl (int_congr (by omega)) ?_)) ⟨Nat.zero_le _, Part.start .., hF.weak (.refl _) (allH (by repeat (first | exact memH | apply memT)) (allH (by repeat (first | exact memH | apply memT)) (allH (by repeat (first | exact memH | apply memT)) allN)))⟩ ?_
  clear hF
  rintro ⟨p, Q1⟩ w2 ⟨hp, hP, hF⟩
  dsimp only at hp hP hF ⊢
  rcases Nat.lt_or_ge p Q.length with hpn | hpn
  · obtain ⟨s, hs⟩ : ∃ s, Q[p]? = some s := ⟨_, List.getElem?_eq_getElem hpn⟩
    have hs1 := (hP.2 p s hs).2 (Nat.le_refl _)
    have hsm := List.mem_of_getElem? hs
    have hSh := hQ s hsm
    have hst : (Q.map Sd.st)[p]? = some s.st := by rw [List.getElem?_map, hs]; rfl
    rw [sds_split hs1] at hF
    have hpl : p < (Q.map Sd.st).length := by omega
    replace hF := Fr.addVr hF (s := s.st) (by repeat (first | exact memH | apply memT)) (List.mem_of_getElem? hst)
    replace hF := Fr.addSd hF (n := n) (K := K) (s := s) (Fr.sds hF (n := n) (K := K) (Q := Q1) (by repeat (first | exact memH | apply memT)) s (List.mem_of_getElem? hs1))
    cases hbk : s.back
    · repeat' (first | (refine TL.isOp ?_; first | (refine TL.isBin ?_; refine TL.cmpG rfl rfl rfl rfl (fun hc => ?_) (fun hc => ?_) <;> (try (first | (exfalso; omega) | exact absurd rfl hc))) | (apply TL.ev; (case hd => rfl); (case h => (first | exact ev_simple rfl | (apply Ev.isBin; first | exact ev_arN rfl rfl rfl (by omega)) | (apply Ev.isLoad; first | exact ev_loadFr hF rfl (by refine ⟨?_, ?_⟩; (focus (repeat (first | exact InV.head | apply InV.tail))); rfl) | exact ev_loadAFr hF rfl (by refine ⟨?_, ?_⟩; (focus (repeat (first | exact InV.head | apply InV.tail))); rfl) | exact ev_loadMc [.func (.func 58) #[] #[.pointer (some ⟨s.v, 0, none⟩)], .func (.func 59) #[] #[.pointer (some ⟨s.v, 0, none⟩)], .func (.func 60) #[] #[.pointer (some ⟨s.v2, 0, none⟩)], .func (.func 61) #[] #[.pointer (some ⟨s.v2, 0, none⟩)]] rfl ((Fr.ld hF (by repeat (first | exact memH | apply memT))).sm) hst (by unfold sdF fAdd fMix Sd.st fnV; simp only [hbk])) | exact ev_fieldAddr rfl | exact ev_indexM rfl rfl hpl (.inr rfl)))) | (refine TL.storeAFr hF rfl rfl rfl rfl (by refine ⟨?_, ?_⟩; (focus (repeat (first | apply SetV.head | apply SetV.tail))); rfl) rfl ?_; clear hF; intro ws hF) | (refine TL.allocFr hF (d := 9) rfl rfl ?_; clear hF; intro w9 b9 hF) | (refine TL.callV (vs := [.int .i64 (i : Int), .int .i64 (j : Int), .agg (ivc ⟨kn, ⟨kA, km, kc, kl⟩⟩).toArray]) (cap := [.pointer (some ⟨s.v2, 0, none⟩)]) (by infer_instance) rfl rfl rfl ?_; refine (like_add _ n K i j s.v2 s ⟨kn, ⟨kA, km, kc, kl⟩⟩ z _ hSh hi hj hij (by dsimp only; omega) (by omega) (by have := hB s hsm; rwa [hbk] at this) (Fr.sideIn (Pre := [_, _]) hF (allH (by repeat (first | exact memH | apply memT)) (allH (by repeat (first | exact memH | apply memT)) (allH (by repeat (first | exact memH | apply memT)) allN))))).mono ?_; rintro _ w3 ⟨rfl, R', hR', hpm, hF'⟩; replace hF := Fr.side (Pre := [_, _]) hs1 hF (by repeat (first | exact memH | apply memT)) hpm hF'; clear hF'; refine Back.mk ?_)) | (refine T.is ?_; first | refine T.seq ?_ | refine T.region ?_ | refine T.block ?_ | refine T.cond_t rfl ?_ | refine T.skip ?_) | (refine G.is ?_; first | refine G.next ?_ | refine G.blockN ?_) | refine TL.nil ?_)
      exact G.again (p + 1, Q1.set p (s.up R' _)) (by repeat (first | exact Sub.nil _ | refine Sub.cons rfl ?_ | refine Sub.cons' rfl (int_congr (by omega)) ?_)) ⟨hpn, hP.step hs ⟨R', by rw [hbk]; rfl, hR', hpm⟩, hF.weak (.cons _ (.refl _)) (allH (by repeat (first | exact memH | apply memT)) (allH (by repeat (first | exact memH | apply memT)) (allH (by repeat (first | exact memH | apply memT)) allN)))⟩ (by dsimp only; omega)
    · repeat' (first | (refine TL.isOp ?_; first | (refine TL.isBin ?_; refine TL.cmpG rfl rfl rfl rfl (fun hc => ?_) (fun hc => ?_) <;> (try (first | (exfalso; omega) | exact absurd rfl hc))) | (apply TL.ev; (case hd => rfl); (case h => (first | exact ev_simple rfl | (apply Ev.isBin; first | exact ev_arN rfl rfl rfl (by omega)) | (apply Ev.isLoad; first | exact ev_loadFr hF rfl (by refine ⟨?_, ?_⟩; (focus (repeat (first | exact InV.head | apply InV.tail))); rfl) | exact ev_loadAFr hF rfl (by refine ⟨?_, ?_⟩; (focus (repeat (first | exact InV.head | apply InV.tail))); rfl) | exact ev_loadMc [.func (.func 58) #[] #[.pointer (some ⟨s.v, 0, none⟩)], .func (.func 59) #[] #[.pointer (some ⟨s.v, 0, none⟩)], .func (.func 38) #[] #[.pointer (some ⟨s.v2, 0, none⟩)], .func (.func 41) #[] #[.pointer (some ⟨s.v2, 0, none⟩)]] rfl ((Fr.ld hF (by repeat (first | exact memH | apply memT))).sm) hst (by unfold sdF fAdd fMix Sd.st fnV; simp only [hbk])) | exact ev_fieldAddr rfl | exact ev_indexM rfl rfl hpl (.inr rfl)))) | (refine TL.storeAFr hF rfl rfl rfl rfl (by refine ⟨?_, ?_⟩; (focus (repeat (first | apply SetV.head | apply SetV.tail))); rfl) rfl ?_; clear hF; intro ws hF) | (refine TL.allocFr hF (d := 9) rfl rfl ?_; clear hF; intro w9 b9 hF) | (refine TL.callV (vs := [.int .i64 (i : Int), .int .i64 (j : Int), .agg (ivc ⟨kn, ⟨kA, km, kc, kl⟩⟩).toArray]) (cap := [.pointer (some ⟨s.v2, 0, none⟩)]) (by infer_instance) rfl rfl rfl ?_; refine (ag_add _ n K i j s.v2 s ⟨kn, ⟨kA, km, kc, kl⟩⟩ z _ hSh hi hj hij (by dsimp only; omega) (by omega) (by have := hB s hsm; rwa [hbk] at this) (Fr.sideIn (Pre := [_, _]) hF (allH (by repeat (first | exact memH | apply memT)) (allH (by repeat (first | exact memH | apply memT)) (allH (by repeat (first | exact memH | apply memT)) allN))))).mono ?_; rintro _ w3 ⟨rfl, R', hR', hpm, hF'⟩; replace hF := Fr.side (Pre := [_, _]) hs1 hF (by repeat (first | exact memH | apply memT)) hpm hF'; clear hF'; refine Back.mk ?_)) | (refine T.is ?_; first | refine T.seq ?_ | refine T.region ?_ | refine T.block ?_ | refine T.cond_t rfl ?_ | refine T.skip ?_) | (refine G.is ?_; first | refine G.next ?_ | refine G.blockN ?_) | refine TL.nil ?_)
      exact G.again (p + 1, Q1.set p (s.up R' _)) (by repeat (first | exact Sub.nil _ | refine Sub.cons rfl ?_ | refine Sub.cons' rfl (int_congr (by omega)) ?_)) ⟨hpn, hP.step hs ⟨R', by rw [hbk]; rfl, hR', hpm⟩, hF.weak (.cons _ (.refl _)) (allH (by repeat (first | exact memH | apply memT)) (allH (by repeat (first | exact memH | apply memT)) (allH (by repeat (first | exact memH | apply memT)) allN)))⟩ (by dsimp only; omega)
  · obtain rfl : p = Q.length := by omega
    repeat' (first | (refine TL.isOp ?_; first | (refine TL.isBin ?_; refine TL.cmpG rfl rfl rfl rfl (fun hc => ?_) (fun hc => ?_) <;> (try (first | (exfalso; omega) | exact absurd rfl hc)))) | (refine T.is ?_; first | refine T.seq ?_ | refine T.region ?_ | refine T.cond_f rfl ?_ | refine T.exit ?_) | (refine G.is ?_; first | refine G.next ?_ | refine G.blockE ?_ | refine G.thenE ?_) | refine TL.nil ?_)
    refine G.end0 rfl ⟨rfl, Q1, hP.fin, hF.weak (.cons _ (.refl _)) (allH (by repeat (first | exact memH | apply memT)) allN)⟩
set_option maxRecDepth 100000 in
set_option maxHeartbeats 8000000 in
theorem lmmix_ok (w : World) (lb sb g0 n m K i j : Nat) (Q : List Sd) (a b c d : IV) (za zb zc zd : Int) (S : Nat → Prop) (hQ : ∀ s ∈ Q, Shp n s) (hm : Q.length ≤ 1048576) (hi : i < n) (hj : j < n) (hij : i ≠ j) (hna : a.m.n ≤ 4398046511104) (hnb : b.m.n ≤ 4398046511104) (hnc : c.m.n ≤ 4398046511104) (hnd : d.m.n ≤ 4398046511104) (hK : K ≤ 4398046511104) (hF : Fr w w (sdsL Q) (dpLI za a :: dpLI zb b :: dpLI zc c :: dpLI zd d :: dpLd lb sb g0 n m (Q.map Sd.st) :: dpSds n K Q :: []) S) (hB : ∀ s ∈ Q, BdW n K ((Opn.mx i j za zb zc zd).on s.back s.F)) :
    Cl Tryz.prog 77 #[.pointer (some ⟨lb, 0, none⟩), .int .i64 (i : Int), .int .i64 (j : Int), .agg (m2c a b c d).toArray] w (RetOp w n K Q (.mx i j za zb zc zd) S) := by
  obtain ⟨an, ⟨aA, am, ac, al⟩⟩ := a; obtain ⟨bn, ⟨bA, bm, bc, bl⟩⟩ := b; obtain ⟨cn, ⟨cA, cm, cc, cl⟩⟩ := c; obtain ⟨dn, ⟨dA, dm, dc, dl⟩⟩ := d
  refine enter Tryz.func77 rfl rfl rfl ?_
  skip
  repeat' (first | (refine TL.isOp ?_; first | (apply TL.ev; (case hd => rfl); (case h => (first | exact ev_simple rfl | (apply Ev.isLoad; first | exact ev_loadV rfl (Fr.ld hF (by repeat (first | exact memH | apply memT))).ld rfl) | exact ev_len rfl | exact ev_fieldAddr rfl | exact ev_nilCheck rfl))) | (refine TL.boxAFr hF (d := 7) (cs := [.bool an, .slice aA am ac, .bool bn, .slice bA bm bc, .bool cn, .slice cA cm cc, .bool dn, .slice dA dm dc]) rfl rfl ?_; clear hF; intro w7 b7 hF)) | (refine T.is ?_; first | refine T.seq ?_ | refine T.region ?_ | refine T.block ?_) | (refine G.is ?_; first | refine G.next ?_) | refine TL.nil ?_)
  have hl : (Q.map Sd.st).length = Q.length := List.length_map _
  have hQl : Q.length ≤ 1048576 := hm
  refine T.loop (α := Nat × List Sd) (fun x => [(1, .int .i64 (i : Int)), (2, .int .i64 (j : Int)), (7, .pointer (some ⟨b7, 0, none⟩)), (13, .slice (some ⟨sb, 0, none⟩) (Q.map Sd.st).length m), (14, .int .i64 ((Q.map Sd.st).length : Int)), (15, .int .i64 (x.1 : Int))])
    (fun x w' => x.1 ≤ Q.length ∧ Part n (.mx i j za zb zc zd) x.1 Q x.2 ∧ Fr w w' (⟨b7, 84, [.bool an, .slice aA am ac, .bool bn, .slice bA bm bc, .bool cn, .slice cA cm cc, .bool dn, .slice dA dm dc]⟩ :: (sdsL x.2)) (dpSds n K x.2 :: dpLI za ⟨an, ⟨aA, am, ac, al⟩⟩ :: dpLI zb ⟨bn, ⟨bA, bm, bc, bl⟩⟩ :: dpLI zc ⟨cn, ⟨cA, cm, cc, cl⟩⟩ :: dpLI zd ⟨dn, ⟨dA, dm, dc, dl⟩⟩ :: [dpLd lb sb g0 n m (Q.map Sd.st)]) S)
    (fun x => Q.length - x.1) (0, Q) (by repeat (first | exact Sub.nil _ | refine Sub.cons rfl ?_ | refine Sub.cons' rfl (int_congr (by omega)) ?_)) ⟨Nat.zero_le _, Part.start .., hF.weak (.refl _) (allH (by repeat (first | exact memH | apply memT)) (allH (by repeat (first | exact memH | apply memT)) (allH (by repeat (first | exact memH | apply memT)) (allH (by repeat (first | exact memH | apply memT)) (allH (by repeat (first | exact memH | apply memT)) (allH (by repeat (first | exact memH | apply memT)) allN))))))⟩ ?_
  clear hF
  rintro ⟨p, Q1⟩ w2 ⟨hp, hP, hF⟩
  dsimp only at hp hP hF ⊢
  rcases Nat.lt_or_ge p Q.length with hpn | hpn
  · obtain ⟨s, hs⟩ : ∃ s, Q[p]? = some s := ⟨_, List.getElem?_eq_getElem hpn⟩
    have hs1 := (hP.2 p s hs).2 (Nat.le_refl _)
    have hsm := List.mem_of_getElem? hs
    have hSh := hQ s hsm
    have hst : (Q.map Sd.st)[p]? = some s.st := by rw [List.getElem?_map, hs]; rfl
    rw [sds_split hs1] at hF
    have hpl : p < (Q.map Sd.st).length := by omega
    replace hF := Fr.addVr hF (s := s.st) (by repeat (first | exact memH | apply memT)) (List.mem_of_getElem? hst)
    replace hF := Fr.addSd hF (n := n) (K := K) (s := s) (Fr.sds hF (n := n) (K := K) (Q := Q1) (by repeat (first | exact memH | apply memT)) s (List.mem_of_getElem? hs1))
    cases hbk : s.back
    · repeat' (first | (refine TL.isOp ?_; first | (refine TL.isBin ?_; refine TL.cmpG rfl rfl rfl rfl (fun hc => ?_) (fun hc => ?_) <;> (try (first | (exfalso; omega) | exact absurd rfl hc))) | (apply TL.ev; (case hd => rfl); (case h => (first | exact ev_simple rfl | (apply Ev.isBin; first | exact ev_arN rfl rfl rfl (by omega)) | (apply Ev.isLoad; first | exact ev_loadFr hF rfl (by refine ⟨?_, ?_⟩; (focus (repeat (first | exact InV.head | apply InV.tail))); rfl) | exact ev_loadArr hF rfl (by refine ⟨?_, ?_⟩; (focus (repeat (first | exact InV.head | apply InV.tail))); rfl) | exact ev_loadMc [.func (.func 58) #[] #[.pointer (some ⟨s.v, 0, none⟩)], .func (.func 59) #[] #[.pointer (some ⟨s.v, 0, none⟩)], .func (.func 60) #[] #[.pointer (some ⟨s.v2, 0, none⟩)], .func (.func 61) #[] #[.pointer (some ⟨s.v2, 0, none⟩)]] rfl ((Fr.ld hF (by repeat (first | exact memH | apply memT))).sm) hst (by unfold sdF fAdd fMix Sd.st fnV; simp only [hbk])) | exact ev_fieldAddr rfl | exact ev_indexM rfl rfl hpl (.inr rfl)))) | (refine TL.storeAFr hF rfl rfl rfl rfl (by refine ⟨?_, ?_⟩; (focus (repeat (first | apply SetV.head | apply SetV.tail))); rfl) rfl ?_; clear hF; intro ws hF) | (refine TL.allocFr hF (d := 9) rfl rfl ?_; clear hF; intro w9 b9 hF) | (refine TL.callV (vs := [.int .i64 (i : Int), .int .i64 (j : Int), .agg (m2c ⟨an, ⟨aA, am, ac, al⟩⟩ ⟨bn, ⟨bA, bm, bc, bl⟩⟩ ⟨cn, ⟨cA, cm, cc, cl⟩⟩ ⟨dn, ⟨dA, dm, dc, dl⟩⟩).toArray]) (cap := [.pointer (some ⟨s.v2, 0, none⟩)]) (by infer_instance) rfl rfl rfl ?_; refine (like_mix _ n K i j s.v2 s ⟨an, ⟨aA, am, ac, al⟩⟩ ⟨bn, ⟨bA, bm, bc, bl⟩⟩ ⟨cn, ⟨cA, cm, cc, cl⟩⟩ ⟨dn, ⟨dA, dm, dc, dl⟩⟩ za zb zc zd _ hSh hi hj hij hna hnb hnc hnd hK (by have := hB s hsm; rwa [hbk] at this) (Fr.sideIn (Pre := [_, _]) hF (allH (by repeat (first | exact memH | apply memT)) (allH (by repeat (first | exact memH | apply memT)) (allH (by repeat (first | exact memH | apply memT)) (allH (by repeat (first | exact memH | apply memT)) (allH (by repeat (first | exact memH | apply memT)) (allH (by repeat (first | exact memH | apply memT)) allN)))))))).mono ?_; rintro _ w3 ⟨rfl, R', hR', hpm, hF'⟩; replace hF := Fr.side (Pre := [_, _]) hs1 hF (by repeat (first | exact memH | apply memT)) hpm hF'; clear hF'; refine Back.mk ?_)) | (refine T.is ?_; first | refine T.seq ?_ | refine T.region ?_ | refine T.block ?_ | refine T.cond_t rfl ?_ | refine T.skip ?_) | (refine G.is ?_; first | refine G.next ?_ | refine G.blockN ?_) | refine TL.nil ?_)
      exact G.again (p + 1, Q1.set p (s.up R' _)) (by repeat (first | exact Sub.nil _ | refine Sub.cons rfl ?_ | refine Sub.cons' rfl (int_congr (by omega)) ?_)) ⟨hpn, hP.step hs ⟨R', by rw [hbk]; rfl, hR', hpm⟩, hF.weak (.cons _ (.refl _)) (allH (by repeat (first | exact memH | apply memT)) (allH (by repeat (first | exact memH | apply memT)) (allH (by repeat (first | exact memH | apply memT)) (allH (by repeat (first | exact memH | apply memT)) (allH (by repeat (first | exact memH | apply memT)) (allH (by repeat (first | exact memH | apply memT)) allN))))))⟩ (by dsimp only; omega)
    · repeat' (first | (refine TL.isOp ?_; first | (refine TL.isBin ?_; refine TL.cmpG rfl rfl rfl rfl (fun hc => ?_) (fun hc => ?_) <;> (try (first | (exfalso; omega) | exact absurd rfl hc))) | (apply TL.ev; (case hd => rfl); (case h => (first | exact ev_simple rfl | (apply Ev.isBin; first | exact ev_arN rfl rfl rfl (by omega)) | (apply Ev.isLoad; first | exact ev_loadFr hF rfl (by refine ⟨?_, ?_⟩; (focus (repeat (first | exact InV.head | apply InV.tail))); rfl) | exact ev_loadArr hF rfl (by refine ⟨?_, ?_⟩; (focus (repeat (first | exact InV.head | apply InV.tail))); rfl) | exact ev_loadMc [.func (.func 58) #[] #[.pointer (some ⟨s.v, 0, none⟩)], .func (.func 59) #[] #[.pointer (some ⟨s.v, 0, none⟩)], .func (.func 38) #[] #[.pointer (some ⟨s.v2, 0, none⟩)], .func (.func 41) #[] #[.pointer (some ⟨s.v2, 0, none⟩)]] rfl ((Fr.ld hF (by repeat (first | exact memH | apply memT))).sm) hst (by unfold sdF fAdd fMix Sd.st fnV; simp only [hbk])) | exact ev_fieldAddr rfl | exact ev_indexM rfl rfl hpl (.inr rfl)))) | (refine TL.storeAFr hF rfl rfl rfl rfl (by refine ⟨?_, ?_⟩; (focus (repeat (first | apply SetV.head | apply SetV.tail))); rfl) rfl ?_; clear hF; intro ws hF) | (refine TL.allocFr hF (d := 9) rfl rfl ?_; clear hF; intro w9 b9 hF) | (refine TL.callV (vs := [.int .i64 (i : Int), .int .i64 (j : Int), .agg (m2c ⟨an, ⟨aA, am, ac, al⟩⟩ ⟨bn, ⟨bA, bm, bc, bl⟩⟩ ⟨cn, ⟨cA, cm, cc, cl⟩⟩ ⟨dn, ⟨dA, dm, dc, dl⟩⟩).toArray]) (cap := [.pointer (some ⟨s.v2, 0, none⟩)]) (by infer_instance) rfl rfl rfl ?_; refine (ag_mix _ n K i j s.v2 s ⟨an, ⟨aA, am, ac, al⟩⟩ ⟨bn, ⟨bA, bm, bc, bl⟩⟩ ⟨cn, ⟨cA, cm, cc, cl⟩⟩ ⟨dn, ⟨dA, dm, dc, dl⟩⟩ za zb zc zd _ hSh hi hj hij hna hnb hnc hnd hK (by have := hB s hsm; rwa [hbk] at this) (Fr.sideIn (Pre := [_, _]) hF (allH (by repeat (first | exact memH | apply memT)) (allH (by repeat (first | exact memH | apply memT)) (allH (by repeat (first | exact memH | apply memT)) (allH (by repeat (first | exact memH | apply memT)) (allH (by repeat (first | exact memH | apply memT)) (allH (by repeat (first | exact memH | apply memT)) allN)))))))).mono ?_; rintro _ w3 ⟨rfl, R', hR', hpm, hF'⟩; replace hF := Fr.side (Pre := [_, _]) hs1 hF (by repeat (first | exact memH | apply memT)) hpm hF'; clear hF'; refine Back.mk ?_)) | (refine T.is ?_; first | refine T.seq ?_ | refine T.region ?_ | refine T.block ?_ | refine T.cond_t rfl ?_ | refine T.skip ?_) | (refine G.is ?_; first | refine G.next ?_ | refine G.blockN ?_) | refine TL.nil ?_)
      exact G.again (p + 1, Q1.set p (s.up R' _)) (by repeat (first | exact Sub.nil _ | refine Sub.cons rfl ?_ | refine Sub.cons' rfl (int_congr (by omega)) ?_)) ⟨hpn, hP.step hs ⟨R', by rw [hbk]; rfl, hR', hpm⟩, hF.weak (.cons _ (.refl _)) (allH (by repeat (first | exact memH | apply memT)) (allH (by repeat (first | exact memH | apply memT)) (allH (by repeat (first | exact memH | apply memT)) (allH (by repeat (first | exact memH | apply memT)) (allH (by repeat (first | exact memH | apply memT)) (allH (by repeat (first | exact memH | apply memT)) allN))))))⟩ (by dsimp only; omega)
  · obtain rfl : p = Q.length := by omega
    repeat' (first | (refine TL.isOp ?_; first | (refine TL.isBin ?_; refine TL.cmpG rfl rfl rfl rfl (fun hc => ?_) (fun hc => ?_) <;> (try (first | (exfalso; omega) | exact absurd rfl hc)))) | (refine T.is ?_; first | refine T.seq ?_ | refine T.region ?_ | refine T.cond_f rfl ?_ | refine T.exit ?_) | (refine G.is ?_; first | refine G.next ?_ | refine G.blockE ?_ | refine G.thenE ?_) | refine TL.nil ?_)
    refine G.end0 rfl ⟨rfl, Q1, hP.fin, hF.weak (.cons _ (.refl _)) (allH (by repeat (first | exact memH | apply memT)) allN)⟩
theorem opn_ad0 (i j : Nat) (b : Bool) (F : Mx) : (Opn.ad i j 0).on b F = F := by
  cases b
  · show up F i (fun c => F i c + 0 * F j c) = F
    rw [show (fun c => F i c + 0 * F j c) = F i from funext fun c => by omega]; exact up_self F i
  · show up F j (fun c => F j c + -0 * F i c) = F
    rw [show (fun c => F j c + -0 * F i c) = F j from funext fun c => by omega]; exact up_self F j
theorem opRel_id {n : Nat} {o : Opn} {Q : List Sd} (hQ : ∀ s ∈ Q, Shp n s) (h : ∀ b F, o.on b F = F) : OpRel n o Q Q := ⟨rfl, fun p s hs => ⟨s, hs, s.R, by rw [h]; rfl, hQ s (List.mem_of_getElem? hs), .refl _⟩⟩
set_option maxRecDepth 100000 in
theorem lmadd0_ok (w : World) (lb sb g0 n m K i j : Nat) (Q : List Sd) (k : IV) (S : Nat → Prop) (hQ : ∀ s ∈ Q, Shp n s) (hkn : k.m.n ≤ 4398046511104) (hF : Fr w w (sdsL Q) (dpLI 0 k :: dpLd lb sb g0 n m (Q.map Sd.st) :: dpSds n K Q :: []) S) :
    Cl Tryz.prog 74 #[.pointer (some ⟨lb, 0, none⟩), .int .i64 (i : Int), .int .i64 (j : Int), .agg (ivc k).toArray] w (RetOp w n K Q (.ad i j 0) S) := by
  obtain ⟨kn, ⟨kA, km, kc, kl⟩⟩ := k
  dsimp only at hkn
  have hs1 : sig 0 = 0 := rfl
  refine enter Tryz.func74 rfl rfl rfl ?_
  repeat' (first | (refine TL.isOp ?_; first | (refine TL.isCall ?_; refine TL.call rfl rfl ?_; first | (refine (zsignX _ ⟨kn, ⟨kA, km, kc, kl⟩⟩ (Fr.li hF (z := 0) (by repeat (first | exact memH | apply memT))).g (by dsimp only; omega)).mono ?_; rintro _ w1 ⟨rfl, hE⟩; rw [(Fr.li hF (z := 0) (by repeat (first | exact memH | apply memT))).val, hs1]; replace hF := hF.exts hE; clear hE; refine Back.mk ?_)) | (refine TL.isBin ?_; refine TL.cmpG rfl rfl rfl rfl (fun hc => ?_) (fun hc => ?_) <;> (try (first | (exfalso; omega) | exact absurd rfl hc))) | (apply TL.ev; (case hd => rfl); (case h => (first | (apply Ev.isLoad; first | exact ev_loadAFr hF rfl (by refine ⟨?_, ?_⟩; (focus (repeat (first | exact InV.head | apply InV.tail))); rfl))))) | (refine TL.boxAFr hF (d := 7) (cs := [.bool kn, .slice kA km kc]) rfl rfl ?_; clear hF; intro w7 b7 hF)) | (refine T.is ?_; first | refine T.seq ?_ | refine T.region ?_ | refine T.cond_t rfl ?_ | refine T.ret ?_) | (refine G.is ?_; first | refine G.next ?_ | refine G.thenR ?_) | refine TL.nil ?_)
  exact G.ret0 rfl ⟨rfl, Q, opRel_id hQ (opn_ad0 i j), hF.weak (.cons _ (.refl _)) (allH (by repeat (first | exact memH | apply memT)) allN)⟩
/-- whatever the multiple is -/
theorem lmaddZ_ok (w : World) (lb sb g0 n m K i j : Nat) (Q : List Sd) (k : IV) (z : Int) (S : Nat → Prop) (hQ : ∀ s ∈ Q, Shp n s) (hm : Q.length ≤ 1048576) (hi : i < n) (hj : j < n) (hij : i ≠ j) (hkn : k.m.n ≤ 4398046511104) (hK : K ≤ 4398046511104) (hF : Fr w w (sdsL Q) (dpLI z k :: dpLd lb sb g0 n m (Q.map Sd.st) :: dpSds n K Q :: []) S) (hB : ∀ s ∈ Q, BdW n K ((Opn.ad i j z).on s.back s.F)) :
    Cl Tryz.prog 74 #[.pointer (some ⟨lb, 0, none⟩), .int .i64 (i : Int), .int .i64 (j : Int), .agg (ivc k).toArray] w (RetOp w n K Q (.ad i j z) S) := by
  by_cases h : z = 0
  · subst h
    exact lmadd0_ok w lb sb g0 n m K i j Q k S hQ hkn hF
  · exact lmadd_ok w lb sb g0 n m K i j Q k z S hQ hm hi hj hij hkn hK hF hB h
end Go.Proofs.YthlbihbchobllaaGreat

namespace Go.NatM

/-- a digit told by the highest three over the highest two is right, or one too great -/
theorem qhat {B P u ul V vl d : Nat} (hB : 4 ≤ B) (hul : ul < P) (hvl : vl < P) (hV : B * B ≤ 2 * V) (hU : u * P + ul < (V * P + vl) * B) (hd : d < B) (h1 : d * V ≤ u) (h2 : d = B - 1 ∨ u < (d + 1) * V) :
    (u * P + ul) / (V * P + vl) ≤ d ∧ d ≤ (u * P + ul) / (V * P + vl) + 1 := by
  have hP : 0 < P := by omega
  have hVp : 0 < V := by
    have : 4 * 4 ≤ B * B := Nat.mul_le_mul hB hB
    omega
  have hv : 0 < V * P + vl := by have := Nat.mul_pos hVp hP; omega
  have hq1 := Nat.div_mul_le_self (u * P + ul) (V * P + vl)
  have hq2 : u * P + ul < ((u * P + ul) / (V * P + vl) + 1) * (V * P + vl) := by
    have := Nat.lt_mul_div_succ (u * P + ul) hv
    rwa [Nat.mul_comm (V * P + vl)] at this
  have hqB : (u * P + ul) / (V * P + vl) < B := Nat.div_lt_of_lt_mul hU
  generalize (u * P + ul) / (V * P + vl) = q at *
  have hqV : q * V ≤ u := by
    rcases Nat.lt_or_ge u (q * V) with h | h
    · exfalso
      have a1 : (u + 1) * P ≤ (q * V) * P := Nat.mul_le_mul_right P h
      have a2 : q * (V * P + vl) = q * V * P + q * vl := by rw [Nat.mul_add, Nat.mul_assoc]
      rw [Nat.add_mul] at a1
      omega
    · exact h
  constructor
  · rcases h2 with h2 | h2
    · omega
    · have h3 : q * V < (d + 1) * V := by omega
      have := Nat.lt_of_mul_lt_mul_right h3
      omega
  · rcases Nat.lt_or_ge d (q + 2) with h | h
    · omega
    · exfalso
      have a1 : (d * V) * P ≤ u * P := Nat.mul_le_mul_right P h1
      have a2 : (q + 1) * (V * P + vl) ≤ (q + 1) * ((V + 1) * P) := Nat.mul_le_mul_left _ (by rw [Nat.add_mul]; omega)
      have a3 : (d * V) * P < ((q + 1) * (V + 1)) * P := by rw [Nat.mul_assoc (q + 1)]; omega
      have a4 := Nat.lt_of_mul_lt_mul_right a3
      have a5 : (q + 2) * V ≤ d * V := Nat.mul_le_mul_right V h
      have a6 : (q + 1) * (V + 1) = (q + 1) * V + (q + 1) := Nat.mul_succ _ _
      have a7 : (q + 2) * V = (q + 1) * V + V := by rw [show q + 2 = (q + 1) + 1 by omega, Nat.add_mul, Nat.one_mul]
      have a8 : 4 * B ≤ B * B := Nat.mul_le_mul_right B hB
      omega
theorem guess_stop {B un u0 v1 v0 d rest : Nat} (h : d * v1 + rest = un) (hs : d * v0 ≤ rest * B + u0) : d * (v1 * B + v0) ≤ un * B + u0 := by
  rw [← h, Nat.mul_add, Nat.add_mul, Nat.mul_assoc]; omega
theorem guess_go {B un u0 v1 v0 d rest : Nat} (h : d * v1 + rest = un) (hs : rest * B + u0 < d * v0) : un * B + u0 < d * (v1 * B + v0) := by
  rw [← h, Nat.mul_add, Nat.add_mul, Nat.mul_assoc]; omega
theorem guess_big {B un u0 v1 v0 d rest : Nat} (h : d * v1 + rest = un) (hd : d ≤ B) (hv : v0 < B) (hr : B ≤ rest) : d * (v1 * B + v0) ≤ un * B + u0 := by
  refine guess_stop h ?_
  have h1 : d * v0 ≤ B * B := Nat.mul_le_mul hd (by omega)
  have h2 : B * B ≤ rest * B := Nat.mul_le_mul_right B hr
  omega
theorem guess_top {B un u0 v1 v0 : Nat} (hv : 0 < v1) (hu : u0 < B) : un * B + u0 < (un / v1 + 1) * (v1 * B + v0) := by
  have h1 : un < (un / v1 + 1) * v1 := by rw [Nat.mul_comm]; exact Nat.lt_mul_div_succ _ hv
  generalize un / v1 + 1 = e at *
  have h2 : (un + 1) * B ≤ (e * v1) * B := Nat.mul_le_mul_right B h1
  rw [Nat.mul_add, ← Nat.mul_assoc]
  rw [Nat.add_mul, Nat.one_mul] at h2
  omega
theorem guess_is {N d v : Nat} (h1 : d * v ≤ N) (h2 : N < (d + 1) * v) : d = N / v := by
  have hv : 0 < v := by
    rcases Nat.eq_zero_or_pos v with h | h
    · subst h; omega
    · exact h
  exact (Nat.div_eq_of_lt_le h1 h2).symm
/-- the first guess of half a quotient -/
theorem half_le {B un v1 v0 : Nat} (h : un < v1 * B + v0) (hv : v0 < B) (h1 : B ≤ 2 * v1) (hB : 0 < B) : un / v1 ≤ B + 1 := by
  have : un < v1 * (B + 2) := by rw [Nat.mul_add]; omega
  have := Nat.div_lt_of_lt_mul this
  omega
/-- a difference below the word, reckoned modulo it -/
theorem sub_wrap {W a b : Nat} (h : b ≤ a) (hs : a - b < W) : (a % W + W - b % W) % W = a - b := by
  have h1 := Nat.div_add_mod a W
  have h2 := Nat.div_add_mod b W
  have hW : 0 < W := by omega
  have ha := Nat.mod_lt a hW
  have hb := Nat.mod_lt b hW
  obtain ⟨c, hc⟩ : ∃ c, c = a - b := ⟨_, rfl⟩
  rw [← hc] at hs ⊢
  have h3 : a % W = (b % W + c) % W := by rw [show a = b + c by omega, Nat.add_mod, Nat.mod_eq_of_lt hs]
  rcases Nat.lt_or_ge (b % W + c) W with h4 | h4
  · rw [h3, Nat.mod_eq_of_lt h4, show b % W + c + W - b % W = c + W by omega, Nat.add_mod_right, Nat.mod_eq_of_lt hs]
  · have h5 : (b % W + c) % W = b % W + c - W := by
      rw [Nat.mod_eq_sub_mod h4, Nat.mod_eq_of_lt (by omega)]
    rw [h3, h5, show b % W + c - W + W - b % W = c by omega, Nat.mod_eq_of_lt hs]
/-- one word of u less d times v -/
theorem take_step {p cy lent z : Nat} (hp : p + cy < 340282366920938463463374607431768211456) (hl : lent ≤ 1) (hz : z < 18446744073709551616) :
    (z + 18446744073709551616 - (p % 18446744073709551616 + cy + 0) % 18446744073709551616 - lent) % 18446744073709551616 + p + cy + lent =
      z + 18446744073709551616 * ((p / 18446744073709551616 + (p % 18446744073709551616 + cy + 0) / 18446744073709551616) % 18446744073709551616 + (if z < (p % 18446744073709551616 + cy + 0) % 18446744073709551616 + lent then 1 else 0)) := by
  split <;> omega
theorem take_next {vD d vt vS P u x z c c' : Nat} (h : vD + d * vt = vS + P * c) (e : u + d * x + c = z + 18446744073709551616 * c') : vD + P * u + d * (vt + P * x) = vS + P * z + P * 18446744073709551616 * c' := by
  have h2 : P * u + P * (d * x) + P * c = P * z + P * (18446744073709551616 * c') := by rw [← Nat.mul_add, ← Nat.mul_add, e, Nat.mul_add]
  rw [Nat.mul_add, Nat.mul_left_comm d P x, Nat.mul_assoc P]
  generalize P * (18446744073709551616 * c') = a1 at *
  generalize P * (d * x) = a2 at *
  generalize P * u = a3 at *
  generalize P * z = a4 at *
  generalize P * c = a5 at *
  generalize d * vt = a6 at *
  omega
theorem take_last {x cy lent : Nat} (hcy : cy < 18446744073709551616) (hl : lent ≤ 1) (hx : x < 18446744073709551616) : (x + 18446744073709551616 - cy - lent) % 18446744073709551616 + (cy + lent) = x + 18446744073709551616 * (if x < cy + lent then 1 else 0) := by split <;> omega
theorem take_end {vD dv vS P u x c c' : Nat} (h : vD + dv = vS + P * c) (e : u + c = x + 18446744073709551616 * c') : vD + P * u + dv = vS + P * x + P * 18446744073709551616 * c' := by
  have h2 : P * u + P * c = P * x + P * (18446744073709551616 * c') := by rw [← Nat.mul_add, e, Nat.mul_add]
  rw [Nat.mul_assoc P]
  omega
/-- the first digit of a division, and the rest -/
theorem digit_low {U v d D1 M : Nat} (hv : 0 < v) (hd : d ≤ U / v + 1) (hq : U / v ≤ d) (h : D1 + d * v = U) : d = U / v ∧ D1 = U % v := by
  have h1 : d ≤ U / v := by
    rw [Nat.le_div_iff_mul_le hv]; omega
  obtain rfl : d = U / v := by omega
  refine ⟨rfl, ?_⟩
  have := Nat.div_add_mod U v
  rw [Nat.mul_comm] at this
  omega
theorem digit_high {U v d D1 D2 M c : Nat} (hv : 0 < v) (hd : d ≤ U / v + 1) (hU : U < M) (h1 : D1 < M) (h : D1 + d * v = U + M) (h2 : D2 < M) (hg : D2 + M * c = D1 + v) : 1 ≤ d ∧ d - 1 = U / v ∧ D2 = U % v := by
  have hm := Nat.div_add_mod U v
  have hlt := Nat.mod_lt U hv
  have hd2 : U / v < d := by
    rcases Nat.lt_or_ge (U / v) d with h3 | h3
    · exact h3
    · have := Nat.mul_le_mul_right v h3
      rw [Nat.mul_comm (U / v)] at this
      omega
  generalize U / v = g at *
  generalize U % v = r at *
  obtain rfl : d = g + 1 := by omega
  refine ⟨Nat.le_add_left _ _, Nat.add_sub_cancel _ _, ?_⟩
  rw [Nat.add_mul, Nat.one_mul, Nat.mul_comm] at h
  have hc : c = 1 := by
    rcases Nat.lt_trichotomy c 1 with h3 | h3 | h3
    · obtain rfl : c = 0 := by omega
      rw [Nat.mul_zero] at hg
      omega
    · exact h3
    · have := Nat.mul_le_mul_left M h3
      omega
  subst hc
  rw [Nat.mul_one] at hg
  omega
theorem val_top2 {l : List Nat} {n : Nat} (h : l.length = n + 2) : val l = val (l.take n) + 18446744073709551616 ^ n * (l.getD n 0 + 18446744073709551616 * l.getD (n + 1) 0) := by
  have h1 := val_split l n
  rw [val_drop l n, val_drop l (n + 1), List.drop_of_length_le (show l.length ≤ n + 1 + 1 by omega)] at h1
  simpa [val] using h1
theorem val_top3 {l : List Nat} {n : Nat} (h : l.length = n + 3) : val l = val (l.take n) + 18446744073709551616 ^ n * (l.getD n 0 + 18446744073709551616 * (l.getD (n + 1) 0 + 18446744073709551616 * l.getD (n + 2) 0)) := by
  have h1 := val_split l n
  rw [val_drop l n, val_drop l (n + 1), val_drop l (n + 2), List.drop_of_length_le (show l.length ≤ n + 2 + 1 by omega)] at h1
  simpa [val] using h1
/-- words behind a small value are 0 -/
theorem val_small {l : List Nat} (hu : U64 l) {k : Nat} (h : val l < 18446744073709551616 ^ k) : val (l.take k) = val l := by
  refine val_take_ge l k ?_
  rcases Nat.lt_or_ge k (sz l) with h1 | h1
  · have h2 := pow_le_val (l := l) (by omega)
    have : 18446744073709551616 ^ k ≤ 18446744073709551616 ^ (sz l - 1) := Nat.pow_le_pow_right (by omega) (by omega)
    omega
  · exact h1
end Go.NatM

namespace Go.Eng
open Go Go.RowKit
/-- code that does not begin with this region -/
def notHead (id : Nat) : Code → Bool
  | .region i _ _ => !(Nat.beq i id)
  | .seq a _ => notHead id a
  | _ => true
theorem T.seqM {P : Program} {N : Fm} {Q : Exit → Act → World → Prop} {σ : Store} {w : World} {x y : Code} (id : Nat) (hn : notHead id x = true) (h : T P N x (Exit.then (y.wp P Q) Q) σ w) : T P N (x.seq y) Q σ w := T.seq h
theorem TI.seqM {P : Program} {R : Option Nat} {N : Fm} {Q : Exit → Act → World → Prop} {σ : Store} {w : World} {x y : Code} (id : Nat) (hn : notHead id x = true) (h : TI P R N x (Exit.then (Kc P R y Q) Q) σ w) : TI P R N (x.seq y) Q σ w := TI.seq h
/-- a list of blocks without one -/
inductive Out : List VB → Nat → List VB → Prop
  | head {L : List VB} {b : Nat} {t : TypeId} {cs : List Value} : Out (⟨b, t, cs⟩ :: L) b L
  | tail {x : VB} {L L' : List VB} {b : Nat} : Out L b L' → Out (x :: L) b (x :: L')
theorem Out.sub {L L' : List VB} {b : Nat} (h : Out L b L') : L'.Sublist L := by
  induction h with
  | head => exact List.Sublist.cons _ (List.Sublist.refl _)
  | tail _ ih => exact List.Sublist.cons_cons _ ih
section
variable {P : Program} {N : Fm} {Q : Exit → Act → World → Prop} {σ : Store} {S : Nat → Prop} {w0 w : World} {L L' : List VB} {D : List DP} {l : List Oper}
/-- a drawn region in which the block b may be written -/
theorem T.regionFo (b : Nat) (hF : Fr w0 w L D S) (hp : Out L b L') (id : Nat) (f : Nat) (t : Rt) (hm : P.follows .mixedOrders = true) (hB : treeB l.toArray f t = true)
    (h : ∀ w1 : World, Fr w0 w1 L D S → TF P N l Q (fun w' => Fr w0 w' L' D S) f t σ w1) : T P N (.region id l.toArray true) Q σ w :=
  T.regionF _ f t hm hB ((hF.weak hp.sub allR).exts (ext_drewN w 1)) (h _ (hF.exts (ext_drewN w 1)))
end
end Go.Eng

namespace Go.Eng
open Go Go.RowKit
/-- code that does not begin, within blocks and loops, with this region -/
def notDeep (id : Nat) : Code → Bool
  | .region i _ _ => !(Nat.beq i id)
  | .seq a _ => notDeep id a
  | .block _ a => notDeep id a
  | .loop a => notDeep id a
  | .scope a => notDeep id a
  | _ => true
theorem T.seqL {P : Program} {N : Fm} {Q : Exit → Act → World → Prop} {σ : Store} {w : World} {x y : Code} (id : Nat) (hn : notDeep id x = true) (h : T P N x (Exit.then (y.wp P Q) Q) σ w) : T P N (x.seq y) Q σ w := T.seq h
theorem G.scopeR {N : Fm} {Q : Exit → Act → World → Prop} {σ : Store} {w : World} (h : G N .ret Q σ w) : G N .ret (Exit.noGoto Q) σ w := by unfold G at *; exact fun a ha => h a ha
end Go.Eng

namespace Go.Proofs.YthlbihbchobllaaGreat
open Go Go.Eng Go.Proofs Go.NatM Go.RowKit

theorem lead_ok (w : World) {z : Int} {x : Nat} [e0 : IsN z x] (hx : x < 18446744073709551616) : Cl Tryz.prog 101 #[.int .u64 z] w (fun e w' => e = .returned (.int .i64 ((64 - bl x : Nat) : Int)) ∧ Ext w w') := by
  have hb := bl_le64 hx
  refine enter Tryz.func101 rfl rfl rfl ?_
  have hF := Fr.refl w
  repeat' (first | (refine TL.isOp ?_; first | (refine TL.isCall ?_; refine TL.call rfl rfl ?_; first | (refine (len64_ok _ (x := x) hx).cl.mono ?_; rintro _ _ ⟨rfl, q1, rfl⟩; replace hF := hF.exts (ext_drewN _ q1); refine Back.mk ?_)) | (apply TL.ev; (case hd => rfl); (case h => (first | exact ev_simple rfl | (apply Ev.isBin; first | exact ev_arN rfl rfl rfl (by omega)))))) | (refine T.is ?_; first | refine T.seq ?_ | refine T.region ?_ | refine T.ret ?_) | (refine G.is ?_; first | refine G.next ?_) | refine TL.nil ?_)
  exact G.ret1 rfl rfl ⟨by rw [Int.natCast_sub hb], hF.ext⟩
theorem ev_castU {P : Program} {σ : Store} {H : Array Obj} {o : Oper} {m n : Nat} (h : Ev P σ H o (.int .u64 (m : Int))) (e : m = n) : Ev P σ H o (.int .u64 (n : Int)) := e ▸ h
theorem ev_subW {P : Program} {σ : Store} {H : Array Obj} {d : Option Tmp} {t : TypeId} {pos : String} {af : Array Edge} {gd : Option (Nat × Bool)} {x y : Operand} {tx ty : TypeId} {z1 z2 : Int} {m n : Nat} [e1 : IsN z1 m] [e2 : IsN z2 n] (hx : Eng.look σ x = some (.int .u64 z1)) (hy : Eng.look σ y = some (.int .u64 z2)) (h : n < 18446744073709551616) :
    Ev P σ H ⟨d, .binOp .sub tx x y ty, t, pos, af, gd⟩ (.int .u64 (((m + 18446744073709551616 - n) % 18446744073709551616 : Nat) : Int)) := ev_bin (by rw [hx, e1.out]) (by rw [hy, e2.out]) fun w => by
  have e : IntKind.u64.wrap ((m : Int) - (n : Int)) = (((m + 18446744073709551616 - n) % 18446744073709551616 : Nat) : Int) := by rw [IntKind.wrap_u64]; omega
  rw [run_bin_sub, e]
theorem half_shift {y s : Nat} (hs : s = 64 - bl y) (hy : 0 < y) (hW : y < 18446744073709551616) : s < 64 ∧ y * 2 ^ s < 18446744073709551616 ∧ 9223372036854775808 ≤ y * 2 ^ s := by
  have h1 := bl_le64 hW
  have h2 := lt_two_pow_bl y
  have h3 := two_pow_bl_le (n := y) (by omega)
  have h4 : bl y ≠ 0 := fun h => by rw [h] at h2; omega
  subst hs
  refine ⟨by omega, ?_, ?_⟩
  · have h5 := Nat.mul_lt_mul_of_pos_right h2 (Nat.two_pow_pos (64 - bl y))
    rw [← Nat.pow_add, show bl y + (64 - bl y) = 64 by omega] at h5
    exact h5
  · have h5 := Nat.mul_le_mul_right (2 ^ (64 - bl y)) h3
    rw [← Nat.pow_add, show bl y - 1 + (64 - bl y) = 63 by omega] at h5
    exact h5
theorem halves {Q Q2 : Nat} (h : Q < 4294967296) (h2 : Q2 < 4294967296) : (Q * 4294967296 % 18446744073709551616 + Q2) % 18446744073709551616 = Q * 4294967296 + Q2 := by omega
theorem hide {p : Prop} (h : p) : Unit → p := fun _ => h
theorem half_lt {r u : Nat} (hr : r < 4294967296) (hu : u < 4294967296) : r * 4294967296 + u < 18446744073709551616 := by omega
theorem half_done {Y v1 v0 Q q r un u1 : Nat} (hY : Y = v1 * 4294967296 + v0) (hQ : Q = (un * 4294967296 + u1) / Y) (h : q * v1 + r = un) (hs : q * v0 ≤ r * 4294967296 + u1) (ht : un * 4294967296 + u1 < (q + 1) * Y) : q = Q := by
  rw [hQ]
  exact guess_is (by rw [hY]; exact guess_stop h hs) ht
theorem half_next {Y v1 v0 q r un u1 : Nat} (hY : Y = v1 * 4294967296 + v0) (h : q * v1 + r = un) (h0 : 0 < q) (hu : un < Y) (hu1 : u1 < 4294967296) (hs : 4294967296 ≤ q ∨ r * 4294967296 + u1 < q * v0) : (q - 1) * v1 + (r + v1) = un ∧ un * 4294967296 + u1 < (q - 1 + 1) * Y := by
  obtain ⟨p, rfl⟩ : ∃ p, q = p + 1 := ⟨q - 1, by omega⟩
  rw [Nat.add_mul, Nat.one_mul] at h
  refine ⟨by rw [Nat.add_sub_cancel]; omega, ?_⟩
  rw [Nat.add_sub_cancel]
  rcases hs with hs | hs
  · have h1 : 4294967296 * Y ≤ (p + 1) * Y := Nat.mul_le_mul_right Y hs
    omega
  · rw [hY]
    exact guess_go (by rw [Nat.add_mul, Nat.one_mul]; exact h) hs
theorem half_end {Y v1 v0 Q q r un u1 : Nat} (hY : Y = v1 * 4294967296 + v0) (hQ : Q = (un * 4294967296 + u1) / Y) (h : q * v1 + r = un) (hq : q ≤ 4294967296) (hv : v0 < 4294967296) (hr : 4294967296 ≤ r) (ht : un * 4294967296 + u1 < (q + 1) * Y) : q = Q := by
  rw [hQ]
  exact guess_is (by rw [hY]; exact guess_big h hq hv hr) ht
theorem div64_end {B N y s Y un u1 u0 Q R Q2 R2 : Nat} (hY : y * 2 ^ s = Y) (hy : 0 < y) (hN : N * 2 ^ s = (un * B + u1) * B + u0) (h1 : Q * Y + R = un * B + u1) (h2 : Q2 * Y + R2 = R * B + u0) (h3 : R2 < Y) : Q * B + Q2 = N / y ∧ R2 / 2 ^ s = N % y := by
  have hp := Nat.two_pow_pos s
  have e1 : N * 2 ^ s = Y * (Q * B + Q2) + R2 := by
    rw [hN, ← h1]
    have a1 : (Q * Y + R) * B = Y * (Q * B) + R * B := by rw [Nat.add_mul, ← Nat.mul_assoc, Nat.mul_comm Y Q]
    have a2 : Y * (Q * B + Q2) = Y * (Q * B) + Q2 * Y := by rw [Nat.mul_add, Nat.mul_comm Y Q2]
    omega
  have e2 : N / y = Q * B + Q2 := by
    rw [← Nat.mul_div_mul_right N y hp, hY, e1, Nat.mul_add_div (by rw [← hY]; exact Nat.mul_pos hy hp), Nat.div_eq_of_lt h3, Nat.add_zero]
  have e3 : N % y * 2 ^ s = R2 := by
    rw [← Nat.mul_mod_mul_right, hY, e1, Nat.mul_add_mod, Nat.mod_eq_of_lt h3]
  exact ⟨e2.symm, by rw [← e3, Nat.mul_div_cancel _ hp]⟩
def RetDv (w : World) (N y : Nat) (e : Ending) (w' : World) : Prop := e = .returned (.tuple #[.int .u64 ((N / y : Nat) : Int), .int .u64 ((N % y : Nat) : Int)]) ∧ Ext w w'
set_option maxRecDepth 100000 in
set_option maxHeartbeats 8000000 in
theorem div64_ok (w : World) {z1 z2 z3 : Int} {hi lo y : Nat} [e1 : IsN z1 hi] [e2 : IsN z2 lo] [e3 : IsN z3 y] (hh : hi < y) (hl : lo < 18446744073709551616) (hy : y < 18446744073709551616) :
    Cl Tryz.prog 100 #[.int .u64 z1, .int .u64 z2, .int .u64 z3] w (RetDv w (hi * 18446744073709551616 + lo) y) := by
  obtain rfl := e1.out
  obtain rfl := e2.out
  obtain rfl := e3.out
  obtain ⟨s, es⟩ : ∃ s, s = 64 - bl y := ⟨_, rfl⟩
  obtain ⟨hs64, hyW, hy63⟩ := half_shift es (by omega) hy
  refine enter Tryz.func100 rfl rfl rfl ?_
  have hF := Fr.refl w
  rcases Nat.eq_zero_or_pos hi with h0 | h0
  · subst h0
    repeat' (first | (refine TL.isOp ?_; first | (refine TL.isBin ?_; refine TL.cmpG rfl rfl rfl rfl (fun hc => ?_) (fun hc => ?_) <;> (try (first | (exfalso; omega) | exact absurd rfl hc))) | (apply TL.ev; (case hd => rfl); (case h => (first | exact ev_simple rfl | (apply Ev.isBin; first | exact ev_arU rfl rfl rfl (by first | exact True.intro | omega)))))) | (refine T.is ?_; first | refine T.seq ?_ | refine T.region ?_ | refine T.cond_t rfl ?_ | refine T.cond_f rfl ?_ | refine T.ret ?_ | refine T.skip ?_ | refine T.regionQ mixed (by kernel_rfl) ?_) | (refine G.is ?_; first | refine G.next ?_ | refine G.thenR ?_) | refine TL.nil ?_ | (refine TL.nilFr hF ?_; clear hF; intro wq hF))
    exact G.ret2 rfl rfl rfl ⟨by rw [Nat.zero_mul, Nat.zero_add], hF.ext⟩
  · -- y times 2^s, in halves; the dividend times 2^s, in halves
    obtain ⟨Y, hY⟩ : ∃ Y, y * 2 ^ s = Y := ⟨_, rfl⟩
    have hYm : y * 2 ^ s % 18446744073709551616 = Y := by rw [hY, Nat.mod_eq_of_lt (by omega)]
    obtain ⟨v1, h1⟩ : ∃ v1, Y / 2 ^ 32 = v1 := ⟨_, rfl⟩
    obtain ⟨v0, h0'⟩ : ∃ v0, Y &&& 4294967295 = v0 := ⟨_, rfl⟩
    have hv0 : v0 = Y % 4294967296 := by rw [← h0', and32]
    have hYs : Y = v1 * 4294967296 + v0 := by omega
    have hs2 : 2 ^ s < 18446744073709551616 := show 2 ^ s < 2 ^ 64 from Nat.pow_lt_pow_right (by omega) hs64
    have hlo2 : lo / 2 ^ (64 - s) < 2 ^ s := shr_lt (by omega) hl
    obtain ⟨a2, ha2⟩ : ∃ a2, lo / 2 ^ (64 - s) = a2 := ⟨_, rfl⟩
    have hhs : (hi + 1) * 2 ^ s ≤ Y := by rw [← hY]; exact Nat.mul_le_mul_right _ hh
    rw [Nat.add_mul, Nat.one_mul] at hhs
    have hor : hi * 2 ^ s % 18446744073709551616 ||| a2 = hi * 2 ^ s + a2 := by
      rw [Nat.or_comm, or_shl (by omega) (by omega), Nat.mod_eq_of_lt (by omega), Nat.add_comm]
    obtain ⟨un, hun⟩ : ∃ un, hi * 2 ^ s + a2 = un := ⟨_, rfl⟩
    have hunY : un < Y := by omega
    obtain ⟨ul, hul⟩ : ∃ ul, lo * 2 ^ s % 18446744073709551616 = ul := ⟨_, rfl⟩
    have hsw := shl_word lo (show s ≤ 64 by omega) hl
    rw [hul, ha2] at hsw
    have hulW : ul < 18446744073709551616 := by rw [← hul]; exact Nat.mod_lt _ (by omega)
    obtain ⟨u1, hu1⟩ : ∃ u1, ul / 2 ^ 32 = u1 := ⟨_, rfl⟩
    obtain ⟨u0, hu0⟩ : ∃ u0, ul &&& 4294967295 = u0 := ⟨_, rfl⟩
    have hu0' : u0 = ul % 4294967296 := by rw [← hu0, and32]
    have hN : (hi * 18446744073709551616 + lo) * 2 ^ s = (un * 4294967296 + u1) * 4294967296 + u0 := by rw [Nat.add_mul, Nat.mul_right_comm]; omega
    have hv1 : 2147483648 ≤ v1 := by omega
    obtain ⟨q, hq⟩ : ∃ q, un / v1 = q := ⟨_, rfl⟩
    have hqv := Nat.div_mul_le_self un v1
    have hqt := guess_top (B := 4294967296) (un := un) (u0 := u1) (v0 := v0) (show 0 < v1 by omega) (by omega)
    have hqr : un - un / v1 * v1 < v1 := by have a1 := Nat.div_add_mod un v1; have a3 := Nat.mod_lt un (show 0 < v1 by omega); rw [Nat.mul_comm] at a1; omega
    have hql := half_le (B := 4294967296) (un := un) (v1 := v1) (v0 := v0) (by omega) (by omega) (by omega) (by omega)
    rw [hq] at hqv hqt hqr hql
    rw [← hYs] at hqt
    obtain ⟨pv, hpv⟩ : ∃ pv, q * v1 = pv := ⟨_, rfl⟩
    rw [hpv] at hqv hqr
    have hpvm : q * v1 % 18446744073709551616 = pv := by rw [hpv, Nat.mod_eq_of_lt (by omega)]
    repeat' (first | (refine TL.isOp ?_; first | (refine TL.isCall ?_; refine TL.call rfl rfl ?_; first | (refine (lead_ok _ hy).mono ?_; rintro _ wl ⟨rfl, hE⟩; rw [← es]; replace hF := hF.exts hE; clear hE; refine Back.mk ?_)) | (refine TL.isBin ?_; refine TL.cmpG rfl rfl rfl rfl (fun hc => ?_) (fun hc => ?_) <;> (try (first | (exfalso; omega) | exact absurd rfl hc))) | (apply TL.ev; (case hd => rfl); (case h => (first | exact ev_simple rfl | exact ev_convU rfl (by omega) | exact ev_castU (ev_shlU rfl rfl) hYm | exact ev_castU (ev_shrU rfl rfl (by omega)) h1 | exact ev_castU (ev_andU rfl rfl (by omega) (by omega)) h0' | exact ev_castU (ev_shlU rfl rfl) hul | exact ev_shlU rfl rfl | exact ev_castU (ev_shrU rfl rfl hl) ha2 | exact ev_subU rfl rfl ⟨by omega, by omega⟩ | exact ev_castU (ev_castU (ev_orU rfl rfl (Nat.mod_lt _ (by omega)) (by omega)) hor) hun | exact ev_castU (ev_shrU rfl rfl hulW) hu1 | exact ev_castU (ev_andU rfl rfl hulW (by omega)) hu0 | exact ev_castU (ev_quoU rfl rfl ⟨by omega, by omega⟩) hq | exact ev_castU (ev_mulU rfl rfl) hpvm)))) | (refine T.is ?_; first | refine T.seqL 17 rfl ?_ | refine T.region ?_ | refine T.cond_f rfl ?_ | refine T.skip ?_) | (refine G.is ?_; first | refine G.next ?_) | refine TL.nil ?_)
    -- HALVES
    have u1l : u1 < 4294967296 := by omega
    have u0l : u0 < 4294967296 := by omega
    have v0l : v0 < 4294967296 := by omega
    have v1l : v1 < 4294967296 := by omega
    have hYW : Y < 18446744073709551616 := by omega
    have hY0 : 0 < Y := by omega
    have HYs := hide hYs
    have HN := hide hN
    have HY := hide hY
    have hqt1 := hide hqt
    clear hYs hN hY hqt hsw hor hhs hlo2 hun hul hu1 hu0 hu0' ha2 hs2 hv0 h0' h1 hYm hy63 hyW es hulW hpvm
    clear hh hl hy
    obtain ⟨Q, hQ⟩ : ∃ Q, Q = (un * 4294967296 + u1) / Y := ⟨_, rfl⟩
    refine T.cut (α := Unit) (fun _ => [(2, .int .u64 (Y : Int)), (8, .int .u64 (s : Int)), (9, .int .u64 (v1 : Int)), (10, .int .u64 (v0 : Int)), (14, .int .u64 (u0 : Int)), (11, .int .u64 (un : Int)), (13, .int .u64 (u1 : Int)), (15, .int .u64 (Q : Int))]) (fun _ w' => Fr w w' [] []) ?_ ?_
    · refine T.block ?_
      refine T.loop (α := Nat × Nat) (fun x => [(2, .int .u64 (Y : Int)), (8, .int .u64 (s : Int)), (9, .int .u64 (v1 : Int)), (10, .int .u64 (v0 : Int)), (14, .int .u64 (u0 : Int)), (11, .int .u64 (un : Int)), (13, .int .u64 (u1 : Int)), (15, .int .u64 (x.1 : Int)), (16, .int .u64 (x.2 : Int))]) (fun x w' => x.1 * v1 + x.2 = un ∧ x.2 < 4294967296 ∧ un * 4294967296 + u1 < (x.1 + 1) * Y ∧ x.1 ≤ 4294967297 ∧ Fr w w' [] [])
        (fun x => x.1) (q, un - pv) (by repeat (first | exact Sub.nil _ | refine Sub.cons rfl ?_ | refine Sub.cons' rfl (int_congr (by omega)) ?_)) ⟨by dsimp only; omega, by dsimp only; omega, hqt1 (), by dsimp only; omega, hF⟩ ?_
      clear hF
      rintro ⟨q, r⟩ w2 ⟨hq1, hr, hqt, hql, hF⟩
      dsimp only at hq1 hr hqt hql hF ⊢
      have hul0 : u1 < 4294967296 := by omega
      have hdone : q * v0 ≤ r * 4294967296 + u1 → q = Q := fun h => half_done (HYs ()) hQ hq1 h hqt
      have hgo : 0 < q → (4294967296 ≤ q ∨ r * 4294967296 + u1 < q * v0) → (q - 1) * v1 + (r + v1) = un ∧ un * 4294967296 + u1 < (q - 1 + 1) * Y := fun h0 h => half_next (HYs ()) hq1 h0 (hunY) hul0 h
      have hend : 0 < q → (4294967296 ≤ q ∨ r * 4294967296 + u1 < q * v0) → 4294967296 ≤ r + v1 → q - 1 = Q := fun h0 h h1 => by
        obtain ⟨a1, a2⟩ := hgo h0 h
        exact half_end (HYs ()) hQ a1 (by omega) (by omega) h1 a2
      have hvW : v1 < 18446744073709551616 := by omega
      have e1 : (r + v1) % 18446744073709551616 = r + v1 := Nat.mod_eq_of_lt (by omega)
      rcases Nat.lt_or_ge q 4294967296 with hlt | hge
      · have hm1 : q * v0 % 18446744073709551616 = q * v0 := Nat.mod_eq_of_lt (by have : q * v0 ≤ 4294967295 * 4294967295 := Nat.mul_le_mul (by omega) (by omega); omega)
        have hm1W : q * v0 < 18446744073709551616 := by rw [← hm1]; exact Nat.mod_lt _ (by omega)
        have hm2 : 4294967296 * r % 18446744073709551616 = 4294967296 * r := Nat.mod_eq_of_lt (by omega)
        have hm3 : (4294967296 * r + u1) % 18446744073709551616 = r * 4294967296 + u1 := by rw [Nat.mul_comm]; exact Nat.mod_eq_of_lt (half_lt hr hul0)
        rcases Nat.lt_or_ge (r * 4294967296 + u1) (q * v0) with hcmp | hcmp
        · have hq0 : 0 < q := by
            rcases Nat.eq_zero_or_pos q with h | h
            · subst h; simp at hcmp
            · exact h
          obtain ⟨g1, g2⟩ := hgo hq0 (.inr hcmp)
          have g3 := hend hq0 (.inr hcmp)
          clear hdone hgo hend hqt hq1 hQ
          obtain ⟨m1, k1⟩ : ∃ m1, m1 = q * v0 := ⟨_, rfl⟩
          obtain ⟨m3, k3⟩ : ∃ m3, m3 = r * 4294967296 + u1 := ⟨_, rfl⟩
          have j1 : Unit → q * v0 % 18446744073709551616 = m1 := fun _ => hm1.trans k1.symm
          rw [← k1] at hm1W hcmp
          rw [← k3] at hm3 hcmp
          have j2 := fun _ : Unit => hm2
          have j3 := fun _ : Unit => hm3
          clear hm1 hm2 hm3 k1 k3
          repeat' (first | (refine TL.isOp ?_; first | (refine TL.isG ?_; first | refine TL.grun rfl rfl rfl ?_) | (refine TL.isBin ?_; refine TL.cmpG rfl rfl rfl rfl (fun hc => ?_) (fun hc => ?_) <;> (try (first | (exfalso; omega) | exact absurd rfl hc))) | (apply TL.ev; (case hd => rfl); (case h => (first | exact ev_simple rfl | exact ev_castU (ev_mulU rfl rfl) (j1 ()) | exact ev_castU (ev_mulU rfl rfl) (j2 ()) | exact ev_castU (ev_addU rfl rfl) (j3 ()) | exact ev_subU rfl rfl ⟨by omega, by omega⟩ | exact ev_castU (ev_addU rfl rfl) e1)))) | (refine T.is ?_; first | refine T.seq ?_ | refine T.region ?_ | refine T.block ?_ | refine T.cond_t rfl ?_ | refine T.cond_f rfl ?_ | refine T.exit ?_ | refine T.skip ?_) | (refine G.is ?_; first | refine G.next ?_ | refine G.blockN ?_ | refine G.blockE ?_ | refine G.blockE' rfl ?_ | refine G.thenE ?_) | refine TL.nil ?_)
          · have := g3 (by omega)
            rw [this]
            exact G.cut () (by repeat (first | exact Sub.nil _ | refine Sub.cons rfl ?_ | refine Sub.cons' rfl (int_congr (by omega)) ?_)) hF
          · exact G.again (q - 1, r + v1) (by repeat (first | exact Sub.nil _ | refine Sub.cons rfl ?_ | refine Sub.cons' rfl (int_congr (by omega)) ?_)) ⟨g1, by dsimp only; omega, g2, by dsimp only; omega, hF⟩ (by dsimp only; omega)
        · have g3 := hdone hcmp
          clear hdone hgo hend hqt hq1 hQ
          obtain ⟨m1, k1⟩ : ∃ m1, m1 = q * v0 := ⟨_, rfl⟩
          obtain ⟨m3, k3⟩ : ∃ m3, m3 = r * 4294967296 + u1 := ⟨_, rfl⟩
          have j1 : Unit → q * v0 % 18446744073709551616 = m1 := fun _ => hm1.trans k1.symm
          rw [← k1] at hm1W hcmp
          rw [← k3] at hm3 hcmp
          have j2 := fun _ : Unit => hm2
          have j3 := fun _ : Unit => hm3
          clear hm1 hm2 hm3 k1 k3
          repeat' (first | (refine TL.isOp ?_; first | (refine TL.isG ?_; first | refine TL.grun rfl rfl rfl ?_) | (refine TL.isBin ?_; refine TL.cmpG rfl rfl rfl rfl (fun hc => ?_) (fun hc => ?_) <;> (try (first | (exfalso; omega) | exact absurd rfl hc))) | (apply TL.ev; (case hd => rfl); (case h => (first | exact ev_simple rfl | exact ev_castU (ev_mulU rfl rfl) (j1 ()) | exact ev_castU (ev_mulU rfl rfl) (j2 ()) | exact ev_castU (ev_addU rfl rfl) (j3 ()))))) | (refine T.is ?_; first | refine T.seq ?_ | refine T.region ?_ | refine T.cond_f rfl ?_ | refine T.exit ?_) | (refine G.is ?_; first | refine G.next ?_ | refine G.blockE ?_ | refine G.thenE ?_) | refine TL.nil ?_)
          rw [g3]
          exact G.cut () (by repeat (first | exact Sub.nil _ | refine Sub.cons rfl ?_ | refine Sub.cons' rfl (int_congr (by omega)) ?_)) hF
      · obtain ⟨g1, g2⟩ := hgo (by omega) (.inl hge)
        have g3 := hend (by omega) (.inl hge)
        clear hdone hgo hend hqt hq1 hQ
        repeat' (first | (refine TL.isOp ?_; first | (refine TL.isG ?_; first | refine TL.gskip rfl rfl rfl rfl ?_) | (refine TL.isBin ?_; refine TL.cmpG rfl rfl rfl rfl (fun hc => ?_) (fun hc => ?_) <;> (try (first | (exfalso; omega) | exact absurd rfl hc))) | (apply TL.ev; (case hd => rfl); (case h => (first | exact ev_simple rfl | exact ev_subU rfl rfl ⟨by omega, by omega⟩ | exact ev_castU (ev_addU rfl rfl) e1)))) | (refine T.is ?_; first | refine T.seq ?_ | refine T.region ?_ | refine T.block ?_ | refine T.cond_t rfl ?_ | refine T.cond_f rfl ?_ | refine T.exit ?_ | refine T.skip ?_) | (refine G.is ?_; first | refine G.next ?_ | refine G.blockN ?_ | refine G.blockE ?_ | refine G.blockE' rfl ?_ | refine G.thenE ?_) | refine TL.nil ?_)
        · have := g3 (by omega)
          rw [this]
          exact G.cut () (by repeat (first | exact Sub.nil _ | refine Sub.cons rfl ?_ | refine Sub.cons' rfl (int_congr (by omega)) ?_)) hF
        · exact G.again (q - 1, r + v1) (by repeat (first | exact Sub.nil _ | refine Sub.cons rfl ?_ | refine Sub.cons' rfl (int_congr (by omega)) ?_)) ⟨g1, by dsimp only; omega, g2, by dsimp only; omega, hF⟩ (by dsimp only; omega)
    clear hF
    rintro ⟨⟩ wm hF
    clear hqt1 hql hqr hqv
    clear hpv pv hq q
    have hQlt : Q < 4294967296 := by rw [hQ]; exact Nat.div_lt_of_lt_mul (by rw [Nat.mul_comm Y]; omega)
    have hQm := Nat.div_mul_le_self (un * 4294967296 + u1) Y
    have hRm := Nat.div_add_mod (un * 4294967296 + u1) Y
    have hRl := Nat.mod_lt (un * 4294967296 + u1) (show 0 < Y by omega)
    rw [Nat.mul_comm] at hRm
    rw [← hQ] at hQm hRm
    obtain ⟨R, hR⟩ : ∃ R, R = (un * 4294967296 + u1) % Y := ⟨_, rfl⟩
    rw [← hR] at hRm hRl
    have hR3 : (un * 4294967296 % 18446744073709551616 + u1) % 18446744073709551616 = (un * 4294967296 + u1) % 18446744073709551616 := by omega
    have hR2 : ((un * 4294967296 % 18446744073709551616 + u1) % 18446744073709551616 + 18446744073709551616 - Q * Y % 18446744073709551616) % 18446744073709551616 = R := by
      rw [hR3, sub_wrap hQm (by omega)]; omega
    have hQYm : Q * Y % 18446744073709551616 < 18446744073709551616 := Nat.mod_lt _ (by omega)
    obtain ⟨Q2, hQ2⟩ : ∃ Q2, Q2 = (R * 4294967296 + u0) / Y := ⟨_, rfl⟩
    obtain ⟨q, hq⟩ : ∃ q, R / v1 = q := ⟨_, rfl⟩
    have hqv := Nat.div_mul_le_self R v1
    have hqt := guess_top (B := 4294967296) (un := R) (u0 := u0) (v0 := v0) (show 0 < v1 by omega) (by omega)
    have hqr : R - R / v1 * v1 < v1 := by have a1 := Nat.div_add_mod R v1; have a3 := Nat.mod_lt R (show 0 < v1 by omega); rw [Nat.mul_comm] at a1; omega
    have hql := half_le (B := 4294967296) (un := R) (v1 := v1) (v0 := v0) (by have := HYs (); omega) (by omega) (by omega) (by omega)
    rw [hq] at hqv hqt hqr hql
    rw [← HYs ()] at hqt
    obtain ⟨pv, hpv⟩ : ∃ pv, q * v1 = pv := ⟨_, rfl⟩
    rw [hpv] at hqv hqr
    have hpvm : q * v1 % 18446744073709551616 = pv := by rw [hpv, Nat.mod_eq_of_lt (by omega)]
    have HQ := hide hQ
    have HRm := hide hRm
    have HR2 := hide hR2
    have HRl := hide hRl
    have HQY := hide hQYm
    have hqt1 := hide hqt
    have hRW : R < 18446744073709551616 := by omega
    have HQ2 := hide hQ2
    clear hQ hQm hRm hRl hR hR3 hR2 hQYm hqt hQ2
    repeat' (first | (refine TL.isOp ?_; first | (apply TL.ev; (case hd => rfl); (case h => (first | exact ev_simple rfl | exact ev_castU (ev_quoU rfl rfl ⟨by omega, by omega⟩) hq | exact ev_castU (ev_mulU rfl rfl) hpvm | exact ev_mulU rfl rfl | exact ev_addU rfl rfl | exact ev_castU (ev_subW rfl rfl (HQY ())) (HR2 ()) | exact ev_subU rfl rfl ⟨by omega, by omega⟩)))) | (refine T.is ?_; first | refine T.seqL 24 rfl ?_ | refine T.region ?_) | (refine G.is ?_; first | refine G.next ?_) | refine TL.nil ?_)
    refine T.cut (α := Unit) (fun _ => [(2, .int .u64 (Y : Int)), (8, .int .u64 (s : Int)), (9, .int .u64 (v1 : Int)), (10, .int .u64 (v0 : Int)), (14, .int .u64 (u0 : Int)), (17, .int .u64 (R : Int)), (15, .int .u64 (Q : Int)), (18, .int .u64 (Q2 : Int))]) (fun _ w' => Fr w w' [] []) ?_ ?_
    · refine T.block ?_
      refine T.loop (α := Nat × Nat) (fun x => [(2, .int .u64 (Y : Int)), (8, .int .u64 (s : Int)), (9, .int .u64 (v1 : Int)), (10, .int .u64 (v0 : Int)), (14, .int .u64 (u0 : Int)), (17, .int .u64 (R : Int)), (15, .int .u64 (Q : Int)), (18, .int .u64 (x.1 : Int)), (16, .int .u64 (x.2 : Int))]) (fun x w' => x.1 * v1 + x.2 = R ∧ x.2 < 4294967296 ∧ R * 4294967296 + u0 < (x.1 + 1) * Y ∧ x.1 ≤ 4294967297 ∧ Fr w w' [] [])
        (fun x => x.1) (q, R - pv) (by repeat (first | exact Sub.nil _ | refine Sub.cons rfl ?_ | refine Sub.cons' rfl (int_congr (by omega)) ?_)) ⟨by dsimp only; omega, by dsimp only; omega, hqt1 (), by dsimp only; omega, hF⟩ ?_
      clear hF
      rintro ⟨q, r⟩ w2 ⟨hq1, hr, hqt, hql, hF⟩
      dsimp only at hq1 hr hqt hql hF ⊢
      have hul0 : u0 < 4294967296 := by omega
      have hdone : q * v0 ≤ r * 4294967296 + u0 → q = Q2 := fun h => half_done (HYs ()) (HQ2 ()) hq1 h hqt
      have hgo : 0 < q → (4294967296 ≤ q ∨ r * 4294967296 + u0 < q * v0) → (q - 1) * v1 + (r + v1) = R ∧ R * 4294967296 + u0 < (q - 1 + 1) * Y := fun h0 h => half_next (HYs ()) hq1 h0 (HRl ()) hul0 h
      have hend : 0 < q → (4294967296 ≤ q ∨ r * 4294967296 + u0 < q * v0) → 4294967296 ≤ r + v1 → q - 1 = Q2 := fun h0 h h1 => by
        obtain ⟨a1, a2⟩ := hgo h0 h
        exact half_end (HYs ()) (HQ2 ()) a1 (by omega) (by omega) h1 a2
      have hvW : v1 < 18446744073709551616 := by omega
      have e1 : (r + v1) % 18446744073709551616 = r + v1 := Nat.mod_eq_of_lt (by omega)
      rcases Nat.lt_or_ge q 4294967296 with hlt | hge
      · have hm1 : q * v0 % 18446744073709551616 = q * v0 := Nat.mod_eq_of_lt (by have : q * v0 ≤ 4294967295 * 4294967295 := Nat.mul_le_mul (by omega) (by omega); omega)
        have hm1W : q * v0 < 18446744073709551616 := by rw [← hm1]; exact Nat.mod_lt _ (by omega)
        have hm2 : 4294967296 * r % 18446744073709551616 = 4294967296 * r := Nat.mod_eq_of_lt (by omega)
        have hm3 : (4294967296 * r + u0) % 18446744073709551616 = r * 4294967296 + u0 := by rw [Nat.mul_comm]; exact Nat.mod_eq_of_lt (half_lt hr hul0)
        rcases Nat.lt_or_ge (r * 4294967296 + u0) (q * v0) with hcmp | hcmp
        · have hq0 : 0 < q := by
            rcases Nat.eq_zero_or_pos q with h | h
            · subst h; simp at hcmp
            · exact h
          obtain ⟨g1, g2⟩ := hgo hq0 (.inr hcmp)
          have g3 := hend hq0 (.inr hcmp)
          clear hdone hgo hend hqt hq1 
          obtain ⟨m1, k1⟩ : ∃ m1, m1 = q * v0 := ⟨_, rfl⟩
          obtain ⟨m3, k3⟩ : ∃ m3, m3 = r * 4294967296 + u0 := ⟨_, rfl⟩
          have j1 : Unit → q * v0 % 18446744073709551616 = m1 := fun _ => hm1.trans k1.symm
          rw [← k1] at hm1W hcmp
          rw [← k3] at hm3 hcmp
          have j2 := fun _ : Unit => hm2
          have j3 := fun _ : Unit => hm3
          clear hm1 hm2 hm3 k1 k3
          repeat' (first | (refine TL.isOp ?_; first | (refine TL.isG ?_; first | refine TL.grun rfl rfl rfl ?_) | (refine TL.isBin ?_; refine TL.cmpG rfl rfl rfl rfl (fun hc => ?_) (fun hc => ?_) <;> (try (first | (exfalso; omega) | exact absurd rfl hc))) | (apply TL.ev; (case hd => rfl); (case h => (first | exact ev_simple rfl | exact ev_castU (ev_mulU rfl rfl) (j1 ()) | exact ev_castU (ev_mulU rfl rfl) (j2 ()) | exact ev_castU (ev_addU rfl rfl) (j3 ()) | exact ev_subU rfl rfl ⟨by omega, by omega⟩ | exact ev_castU (ev_addU rfl rfl) e1)))) | (refine T.is ?_; first | refine T.seq ?_ | refine T.region ?_ | refine T.block ?_ | refine T.cond_t rfl ?_ | refine T.cond_f rfl ?_ | refine T.exit ?_ | refine T.skip ?_) | (refine G.is ?_; first | refine G.next ?_ | refine G.blockN ?_ | refine G.blockE ?_ | refine G.blockE' rfl ?_ | refine G.thenE ?_) | refine TL.nil ?_)
          · have := g3 (by omega)
            rw [this]
            exact G.cut () (by repeat (first | exact Sub.nil _ | refine Sub.cons rfl ?_ | refine Sub.cons' rfl (int_congr (by omega)) ?_)) hF
          · exact G.again (q - 1, r + v1) (by repeat (first | exact Sub.nil _ | refine Sub.cons rfl ?_ | refine Sub.cons' rfl (int_congr (by omega)) ?_)) ⟨g1, by dsimp only; omega, g2, by dsimp only; omega, hF⟩ (by dsimp only; omega)
        · have g3 := hdone hcmp
          clear hdone hgo hend hqt hq1 
          obtain ⟨m1, k1⟩ : ∃ m1, m1 = q * v0 := ⟨_, rfl⟩
          obtain ⟨m3, k3⟩ : ∃ m3, m3 = r * 4294967296 + u0 := ⟨_, rfl⟩
          have j1 : Unit → q * v0 % 18446744073709551616 = m1 := fun _ => hm1.trans k1.symm
          rw [← k1] at hm1W hcmp
          rw [← k3] at hm3 hcmp
          have j2 := fun _ : Unit => hm2
          have j3 := fun _ : Unit => hm3
          clear hm1 hm2 hm3 k1 k3
          repeat' (first | (refine TL.isOp ?_; first | (refine TL.isG ?_; first | refine TL.grun rfl rfl rfl ?_) | (refine TL.isBin ?_; refine TL.cmpG rfl rfl rfl rfl (fun hc => ?_) (fun hc => ?_) <;> (try (first | (exfalso; omega) | exact absurd rfl hc))) | (apply TL.ev; (case hd => rfl); (case h => (first | exact ev_simple rfl | exact ev_castU (ev_mulU rfl rfl) (j1 ()) | exact ev_castU (ev_mulU rfl rfl) (j2 ()) | exact ev_castU (ev_addU rfl rfl) (j3 ()))))) | (refine T.is ?_; first | refine T.seq ?_ | refine T.region ?_ | refine T.cond_f rfl ?_ | refine T.exit ?_) | (refine G.is ?_; first | refine G.next ?_ | refine G.blockE ?_ | refine G.thenE ?_) | refine TL.nil ?_)
          rw [g3]
          exact G.cut () (by repeat (first | exact Sub.nil _ | refine Sub.cons rfl ?_ | refine Sub.cons' rfl (int_congr (by omega)) ?_)) hF
      · obtain ⟨g1, g2⟩ := hgo (by omega) (.inl hge)
        have g3 := hend (by omega) (.inl hge)
        clear hdone hgo hend hqt hq1 
        repeat' (first | (refine TL.isOp ?_; first | (refine TL.isG ?_; first | refine TL.gskip rfl rfl rfl rfl ?_) | (refine TL.isBin ?_; refine TL.cmpG rfl rfl rfl rfl (fun hc => ?_) (fun hc => ?_) <;> (try (first | (exfalso; omega) | exact absurd rfl hc))) | (apply TL.ev; (case hd => rfl); (case h => (first | exact ev_simple rfl | exact ev_subU rfl rfl ⟨by omega, by omega⟩ | exact ev_castU (ev_addU rfl rfl) e1)))) | (refine T.is ?_; first | refine T.seq ?_ | refine T.region ?_ | refine T.block ?_ | refine T.cond_t rfl ?_ | refine T.cond_f rfl ?_ | refine T.exit ?_ | refine T.skip ?_) | (refine G.is ?_; first | refine G.next ?_ | refine G.blockN ?_ | refine G.blockE ?_ | refine G.blockE' rfl ?_ | refine G.thenE ?_) | refine TL.nil ?_)
        · have := g3 (by omega)
          rw [this]
          exact G.cut () (by repeat (first | exact Sub.nil _ | refine Sub.cons rfl ?_ | refine Sub.cons' rfl (int_congr (by omega)) ?_)) hF
        · exact G.again (q - 1, r + v1) (by repeat (first | exact Sub.nil _ | refine Sub.cons rfl ?_ | refine Sub.cons' rfl (int_congr (by omega)) ?_)) ⟨g1, by dsimp only; omega, g2, by dsimp only; omega, hF⟩ (by dsimp only; omega)
    clear hF
    rintro ⟨⟩ wm2 hF
    have hQ2lt : Q2 < 4294967296 := by rw [HQ2 ()]; exact Nat.div_lt_of_lt_mul (by rw [Nat.mul_comm Y]; have := HRl (); omega)
    have hRl0 := HRl ()
    have hQ2m := Nat.div_mul_le_self (R * 4294967296 + u0) Y
    have hR2m := Nat.div_add_mod (R * 4294967296 + u0) Y
    have hR2l := Nat.mod_lt (R * 4294967296 + u0) (show 0 < Y by omega)
    rw [Nat.mul_comm] at hR2m
    rw [← HQ2 ()] at hQ2m hR2m
    obtain ⟨R2, hR4⟩ : ∃ R2, R2 = (R * 4294967296 + u0) % Y := ⟨_, rfl⟩
    rw [← hR4] at hR2m hR2l
    have hR5 : (R * 4294967296 % 18446744073709551616 + u0) % 18446744073709551616 = (R * 4294967296 + u0) % 18446744073709551616 := by omega
    have hR6 : ((R * 4294967296 % 18446744073709551616 + u0) % 18446744073709551616 + 18446744073709551616 - Q2 * Y % 18446744073709551616) % 18446744073709551616 = R2 := by
      rw [hR5, sub_wrap hQ2m (by omega)]; omega
    have hQ2Ym : Q2 * Y % 18446744073709551616 < 18446744073709551616 := Nat.mod_lt _ (by omega)
    have hQs : (Q * 4294967296 % 18446744073709551616 + Q2) % 18446744073709551616 = Q * 4294967296 + Q2 := halves hQlt hQ2lt
    have hRl := HRl ()
    have hfin := div64_end (HY ()) (by omega) (HN ()) (HRm ()) hR2m hR2l
    have hR2W : R2 < 18446744073709551616 := by omega
    have HQs := hide hQs
    have HR6 := hide hR6
    have HQY2 := hide hQ2Ym
    have Hf := hide hfin
    clear hQs hR6 hQ2Ym hfin hQ2m hR2m hR2l hR4 hR5 hRl0 hRl
    repeat' (first | (refine TL.isOp ?_; first | (apply TL.ev; (case hd => rfl); (case h => (first | exact ev_simple rfl | exact ev_mulU rfl rfl | exact ev_addU rfl rfl | exact ev_castU (ev_subW rfl rfl (HQY2 ())) (HR6 ()) | exact ev_castU (ev_shrU rfl rfl hR2W) (Hf ()).2)))) | (refine T.is ?_; first | refine T.seq ?_ | refine T.region ?_ | refine T.ret ?_) | (refine G.is ?_; first | refine G.next ?_) | refine TL.nil ?_)
    rw [HQs (), (Hf ()).1]
    exact G.ret2 rfl rfl rfl ⟨rfl, hF.ext⟩
end Go.Proofs.YthlbihbchobllaaGreat
