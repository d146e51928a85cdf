/- Plain laws of naturals as lists of words to the base 65536, the lowest first. No program in sight. Plain arithmetic: trailing zeros, single digits. Words and digits to the base 65536. The document's answers for layer 1: Split, trim, Join, at, Least, order, Cmp. The document's answers for layer 1: at, Least, order, Cmp, Add. The document's answers for layer 5: made, Least, Sign, CmpAbs, Cmp of equal integers. Layer 9: contracts of mat: Turn, Trace; the law's equal. Layer 9: Least, Lines and its iterator. The engine: a list of structs appended to a list of structs whose block is known whole; to nothing. The engine: append to lists of any kind in frames; literals of one value; functions as values; returns in memory behind a range over a function. The engine: literals of any number of structs; lists as facts in frames. The engine: interface values, calls of their methods; calls that write into blocks known whole. The types of this translation that stand in interface values. -/
import Derived.Test.YtdhmhjbmkimplaaPp5
import Derived.Test.YtdhmhjbmkimplaaPp4
import Derived.Test.YtdhmhjbmkimplaaPp3
import Derived.Test.YtdhmhjbmkimplaaPp9
set_option linter.unusedVariables false
set_option linter.unusedSimpArgs false
namespace Go.N16

def U64 (l : List Nat) : Prop := ∀ x ∈ l, x < 65536
def val : List Nat → Nat
  | [] => 0
  | x :: l => x + 65536 * val l
/-- how many words up to the highest that is not 0 -/
def sz : List Nat → Nat
  | [] => 0
  | x :: l => if sz l = 0 ∧ x = 0 then 0 else sz l + 1
/-- the words of a number, without zeros at the high end -/
def dig (n : Nat) : List Nat := if h : n = 0 then [] else (n % 65536) :: dig (n / 65536)
termination_by n
decreasing_by exact Nat.div_lt_self (by omega) (by omega)

theorem U64.nil : U64 [] := fun x h => by cases h
theorem U64.cons {x : Nat} {l : List Nat} (h : x < 65536) (hl : U64 l) : U64 (x :: l) := fun y hy => by
  rcases List.mem_cons.1 hy with rfl | hy
  · exact h
  · exact hl y hy
theorem U64.head {x : Nat} {l : List Nat} (h : U64 (x :: l)) : x < 65536 := h x (by simp)
theorem U64.tail {x : Nat} {l : List Nat} (h : U64 (x :: l)) : U64 l := fun y hy => h y (by simp [hy])
theorem U64.append {l r : List Nat} (h : U64 l) (k : U64 r) : U64 (l ++ r) := fun y hy => (List.mem_append.1 hy).elim (h y) (k y)
theorem U64.take {l : List Nat} (h : U64 l) (n : Nat) : U64 (l.take n) := fun y hy => h y (List.mem_of_mem_take hy)
theorem U64.drop {l : List Nat} (h : U64 l) (n : Nat) : U64 (l.drop n) := fun y hy => h y (List.mem_of_mem_drop hy)
theorem U64.replicate (n : Nat) : U64 (List.replicate n 0) := fun y hy => by rw [(List.mem_replicate.1 hy).2]; omega
theorem U64.one {x : Nat} (h : x < 65536) : U64 [x] := U64.cons h U64.nil
theorem U64.getD {l : List Nat} (h : U64 l) (k : Nat) : l.getD k 0 < 65536 := by
  rcases Nat.lt_or_ge k l.length with hk | hk
  · have : l.getD k 0 = l[k] := by simp [List.getD, hk]
    rw [this]; exact h _ (List.getElem_mem hk)
  · simp [List.getD, List.getElem?_eq_none hk]
theorem U64.set {l : List Nat} (h : U64 l) (k x : Nat) (hx : x < 65536) : U64 (l.set k x) := fun y hy => by
  rcases List.mem_or_eq_of_mem_set hy with hy | rfl
  · exact h y hy
  · exact hx

theorem getD_ge {l : List Nat} {j : Nat} (h : l.length ≤ j) : l.getD j 0 = 0 := by simp [List.getD, List.getElem?_eq_none h]
theorem sz_le (l : List Nat) : sz l ≤ l.length := by
  induction l with
  | nil => simp [sz]
  | cons x l ih => simp only [sz, List.length_cons]; split <;> omega
theorem sz_eq (l : List Nat) (n : Nat) (h1 : n ≤ l.length) (h2 : ∀ j, n ≤ j → l.getD j 0 = 0) (h3 : n = 0 ∨ l.getD (n - 1) 0 ≠ 0) : sz l = n := by
  induction l generalizing n with
  | nil => simp at h1; simp [sz, h1]
  | cons x l ih =>
    rcases n with _ | n
    · have hx : x = 0 := by simpa using h2 0 (by omega)
      have : sz l = 0 := ih 0 (by omega) (fun j _ => by simpa using h2 (j + 1) (by omega)) (.inl rfl)
      simp [sz, this, hx]
    · have hl : sz l = n := by
        refine ih n (by simpa using h1) (fun j hj => by simpa using h2 (j + 1) (by omega)) ?_
        rcases n with _ | n
        · exact .inl rfl
        · right; simpa using h3.resolve_left (by omega)
      simp only [sz]
      rw [if_neg]
      · omega
      · rintro ⟨h0, hx⟩
        have : n = 0 := by omega
        subst this
        simp [hx] at h3
theorem sz_top (l : List Nat) : sz l = 0 ∨ l.getD (sz l - 1) 0 ≠ 0 := by
  induction l with
  | nil => simp [sz]
  | cons x l ih =>
    simp only [sz]
    split
    · exact .inl rfl
    · rename_i h
      right
      rcases Nat.eq_zero_or_pos (sz l) with h0 | h0
      · have hx : x ≠ 0 := fun hx => h ⟨h0, hx⟩
        simp [h0, hx]
      · rcases ih with h1 | h1
        · omega
        · rw [show sz l + 1 - 1 = (sz l - 1) + 1 by omega]; simpa using h1
theorem sz_zero (l : List Nat) (j : Nat) (h : sz l ≤ j) : l.getD j 0 = 0 := by
  induction l generalizing j with
  | nil => simp
  | cons x l ih =>
    simp only [sz] at h
    split at h
    · rename_i h0
      rcases j with _ | j
      · simpa using h0.2
      · simpa using ih j (by omega)
    · rcases j with _ | j
      · omega
      · simpa using ih j (by omega)

theorem val_append (l r : List Nat) : val (l ++ r) = val l + 65536 ^ l.length * val r := by
  induction l with
  | nil => simp [val]
  | cons x l ih => simp only [List.cons_append, val, ih, List.length_cons, Nat.pow_succ, Nat.mul_add, Nat.add_assoc]; congr 2; rw [← Nat.mul_assoc, Nat.mul_comm 65536]
theorem val_one (x : Nat) : val [x] = x := by simp [val]
theorem val_snoc (l : List Nat) (x : Nat) : val (l ++ [x]) = val l + 65536 ^ l.length * x := by rw [val_append, val_one]
theorem val_zeros (n : Nat) : val (List.replicate n 0) = 0 := by
  induction n with
  | zero => rfl
  | succ n ih => simp [List.replicate_succ, val, ih]
theorem val_take_succ (l : List Nat) (i : Nat) : val (l.take (i + 1)) = val (l.take i) + 65536 ^ i * l.getD i 0 := by
  rcases Nat.lt_or_ge i l.length with h | h
  · rw [List.take_succ_eq_append_getElem h, val_snoc]
    simp [List.getD, h, Nat.min_eq_left (Nat.le_of_lt h)]
  · rw [List.take_of_length_le h, List.take_of_length_le (by omega), getD_ge h]; simp
theorem val_lt {l : List Nat} (h : U64 l) : val l < 65536 ^ l.length := by
  induction l with
  | nil => simp [val]
  | cons x l ih =>
    have h1 := ih h.tail
    have h2 := h.head
    simp only [val, List.length_cons, Nat.pow_succ]
    have h3 : val l + 1 ≤ 65536 ^ l.length := h1
    have h4 := Nat.mul_le_mul_left 65536 h3
    rw [Nat.mul_comm (65536 ^ l.length)]
    omega
theorem val_sz (l : List Nat) : val (l.take (sz l)) = val l := by
  induction l with
  | nil => rfl
  | cons x l ih =>
    simp only [sz]
    split
    · rename_i h
      rw [h.1] at ih
      simp only [List.take_zero, val] at ih ⊢
      rw [← ih, h.2]
    · simp only [List.take_succ_cons, val, ih]
theorem val_take_ge (l : List Nat) (k : Nat) (h : sz l ≤ k) : val (l.take k) = val l := by
  have e : l = l.take k ++ l.drop k := (List.take_append_drop k l).symm
  have h0 : val (l.drop k) = 0 := by
    have : l.drop k = List.replicate (l.drop k).length 0 := by
      apply List.ext_getElem
      · simp
      · intro i h1 h2
        have hz := sz_zero l (k + i) (by omega)
        simp only [List.getElem_drop, List.getElem_replicate]
        rw [List.length_drop] at h1
        have hki : k + i < l.length := by omega
        have : l.getD (k + i) 0 = l[k + i] := by simp [List.getD, hki]
        omega
    rw [this, val_zeros]
  conv => rhs; rw [e, val_append, h0]
  simp

theorem dig_zero : dig 0 = [] := by rw [dig]; simp
theorem dig_pos {n : Nat} (h : n ≠ 0) : dig n = (n % 65536) :: dig (n / 65536) := by rw [dig]; simp [h]
theorem val_dig (n : Nat) : val (dig n) = n := by
  induction n using Nat.strongRecOn with
  | _ n ih =>
    rcases Nat.eq_zero_or_pos n with rfl | h
    · rw [dig_zero]; rfl
    · rw [dig_pos (by omega), val, ih _ (Nat.div_lt_self h (by omega))]; omega
theorem U64_dig (n : Nat) : U64 (dig n) := by
  induction n using Nat.strongRecOn with
  | _ n ih =>
    rcases Nat.eq_zero_or_pos n with rfl | h
    · rw [dig_zero]; exact U64.nil
    · rw [dig_pos (by omega)]; exact U64.cons (Nat.mod_lt _ (by omega)) (ih _ (Nat.div_lt_self h (by omega)))
/-- the words up to the highest that is not 0 are the digits of the number -/
theorem take_sz {l : List Nat} (h : U64 l) : l.take (sz l) = dig (val l) := by
  induction l with
  | nil => simp [sz, val, dig_zero]
  | cons x l ih =>
    have hx := h.head
    have ih' := ih h.tail
    simp only [sz, val]
    split
    · rename_i h0
      rw [h0.1] at ih'
      have hv : val l = 0 := by rw [← val_sz l, h0.1]; rfl
      rw [h0.2, hv]; simp [dig_zero]
    · rename_i h0
      have hne : x + 65536 * val l ≠ 0 := by
        intro he
        have hx0 : x = 0 := by omega
        have hv : val l = 0 := by omega
        apply h0
        refine ⟨?_, hx0⟩
        rcases sz_top l with h1 | h1
        · exact h1
        · rw [hv, dig_zero] at ih'
          have := congrArg List.length ih'
          rw [List.length_take, List.length_nil] at this
          have := sz_le l
          omega
      rw [dig_pos hne, List.take_succ_cons, ih']
      congr 1
      · omega
      · congr 1; omega
theorem dig_length {l : List Nat} (h : U64 l) : (dig (val l)).length = sz l := by rw [← take_sz h, List.length_take]; have := sz_le l; omega
theorem dig_length_le {n k : Nat} (h : n < 65536 ^ k) : (dig n).length ≤ k := by
  induction k generalizing n with
  | zero => have : n = 0 := by simpa using h
            rw [this, dig_zero]; simp
  | succ k ih =>
    rcases Nat.eq_zero_or_pos n with rfl | h0
    · rw [dig_zero]; simp
    · rw [dig_pos (by omega), List.length_cons]
      have := ih (n := n / 65536) (by rw [Nat.div_lt_iff_lt_mul (by omega)]; rw [Nat.pow_succ] at h; exact h)
      omega
/-- a list of so many words more is not below -/
theorem pow_le_val {l : List Nat} (h : sz l ≠ 0) : 65536 ^ (sz l - 1) ≤ val l := by
  rw [← val_sz l]
  obtain ⟨k, hk⟩ : ∃ k, sz l = k + 1 := ⟨sz l - 1, by omega⟩
  have ht := (sz_top l).resolve_left h
  rw [hk, val_take_succ]
  rw [hk] at ht
  simp only [Nat.add_sub_cancel] at ht ⊢
  have : 65536 ^ k * 1 ≤ 65536 ^ k * l.getD k 0 := Nat.mul_le_mul_left _ (by omega)
  omega
theorem val_lt_sz {l : List Nat} (h : U64 l) : val l < 65536 ^ sz l := by
  have := val_lt (h.take (sz l))
  rw [val_sz, List.length_take, Nat.min_eq_left (sz_le l)] at this
  exact this
theorem lt_of_sz_lt {l r : List Nat} (hl : U64 l) (h : sz l < sz r) : val l < val r :=
  Nat.lt_of_lt_of_le (val_lt_sz hl) (Nat.le_trans (Nat.pow_le_pow_right (by omega) (by omega)) (pow_le_val (by omega)))
/-- a new word behind what is done, before zeros -/
theorem set_zeros (D : List Nat) (r x : Nat) : (D ++ List.replicate (r + 1) 0).set D.length x = (D ++ [x]) ++ List.replicate r 0 := by
  rw [List.set_append_right _ _ (Nat.le_refl _), Nat.sub_self, List.replicate_succ, List.set_cons_zero, List.append_assoc]; rfl
theorem val_ext {a b : List Nat} (h : ∀ j, a.getD j 0 = b.getD j 0) : val a = val b := by
  induction a generalizing b with
  | nil =>
    induction b with
    | nil => rfl
    | cons y b ih =>
      have h0 := h 0
      have := ih fun j => by simpa using h (j + 1)
      simp at h0
      simp [val, ← h0, ← this]
  | cons x a ih =>
    cases b with
    | nil =>
      have h0 := h 0
      have := ih (b := []) fun j => by simpa using h (j + 1)
      simp at h0
      simp [val, h0, this]
    | cons y b =>
      have h0 := h 0
      have := ih (b := b) fun j => by simpa using h (j + 1)
      simp at h0
      simp [val, h0, this]
theorem getD_drop (l : List Nat) (k j : Nat) : (l.drop k).getD j 0 = l.getD (k + j) 0 := by simp [List.getD, List.getElem?_drop]
theorem val_split (l : List Nat) (k : Nat) : val l = val (l.take k) + 65536 ^ k * val (l.drop k) := by
  induction k generalizing l with
  | zero => simp [val]
  | succ k ih =>
    cases l with
    | nil => simp [val]
    | cons x l =>
      have := ih l
      simp only [List.take_succ_cons, List.drop_succ_cons, val, this, Nat.pow_succ]
      rw [Nat.mul_add, Nat.add_assoc, Nat.mul_comm (65536 ^ k) 65536, Nat.mul_assoc]
theorem val_drop (l : List Nat) (k : Nat) : val (l.drop k) = l.getD k 0 + 65536 * val (l.drop (k + 1)) := by
  rcases Nat.lt_or_ge k l.length with h | h
  · rw [List.drop_eq_getElem_cons h, val]; simp [List.getD, h]
  · rw [List.drop_of_length_le h, List.drop_of_length_le (by omega), getD_ge h]; rfl
theorem U64.take_lt {l : List Nat} (h : U64 l) (k : Nat) : val (l.take k) < 65536 ^ k :=
  Nat.lt_of_lt_of_le (val_lt (h.take k)) (Nat.pow_le_pow_right (by omega) (by rw [List.length_take]; omega))
/-- the highest place at which two lists differ decides -/
theorem val_lt_of {a b : List Nat} (ha : U64 a) (k : Nat) (h1 : ∀ j, k < j → a.getD j 0 = b.getD j 0) (h2 : a.getD k 0 < b.getD k 0) : val a < val b := by
  have e : val (a.drop (k + 1)) = val (b.drop (k + 1)) := val_ext fun j => by rw [getD_drop, getD_drop]; exact h1 _ (by omega)
  have l1 := ha.take_lt k
  rw [val_split a k, val_split b k, val_drop a k, val_drop b k, e]
  generalize val (b.drop (k + 1)) = q
  generalize 65536 ^ k = p at l1 ⊢
  have : p * (a.getD k 0 + 65536 * q) + p ≤ p * (b.getD k 0 + 65536 * q) := by
    rw [← Nat.mul_succ]
    exact Nat.mul_le_mul_left _ (by omega)
  omega
def cmp3 (m n : Nat) : Int := if m < n then -1 else if n < m then 1 else 0
theorem add_step {p vD va vb s c' x y c : Nat} (h : vD + p * c = va + vb) (e : s + 65536 * c' = x + y + c) :
    vD + p * s + p * 65536 * c' = (va + p * x) + (vb + p * y) := by
  have e1 : p * (s + 65536 * c') = p * (x + y + c) := by rw [e]
  rw [Nat.mul_add, Nat.mul_add, Nat.mul_add, ← Nat.mul_assoc] at e1
  omega
theorem sub_step {p vD va vb s c' x y c : Nat} (h : vD + vb = va + p * c) (e : s + y + c = x + 65536 * c') :
    (vD + p * s) + (vb + p * y) = (va + p * x) + p * 65536 * c' := by
  have e1 : p * (s + y + c) = p * (x + 65536 * c') := by rw [e]
  rw [Nat.mul_add, Nat.mul_add, Nat.mul_add, ← Nat.mul_assoc] at e1
  omega
end Go.N16

namespace Go.NatM

end Go.NatM

namespace Go.NatM
open Go

end Go.NatM

namespace Go.Proofs.Ytdhmhjbmkimplaa
open Go Go.Eng Go.Proofs Go.NatM Go.RowKit

/-- a new list of small digits, of at most K -/
def RetI (w : World) (L : List Nat) (K : Nat) (e : Ending) (w' : World) : Prop := ∃ A n c, e = .returned (.slice A n c) ∧ Ow n64v w'.heap w.heap.size 3 A n c L ∧ Ext w w' ∧ n ≤ K
theorem RetI.mk {w w' : World} {L : List Nat} {A : Option Addr} {n c K : Nat} (h : Ow n64v w'.heap w.heap.size 3 A n c L) (he : Ext w w') (hk : n ≤ K) : RetI w L K (.returned (.slice A n c)) w' := ⟨A, n, c, rfl, h, he, hk⟩

end Go.Proofs.Ytdhmhjbmkimplaa

namespace Go.Proofs.Ytdhmhjbmkimplaa
open Go Go.Eng Go.Proofs Go.NatM Go.RowKit

end Go.Proofs.Ytdhmhjbmkimplaa

namespace Go.Proofs.Ytdhmhjbmkimplaa
open Go Go.Eng Go.Proofs Go.NatM Go.RowKit

end Go.Proofs.Ytdhmhjbmkimplaa

namespace Go.Proofs.Ytdhmhjbmkimplaa
open Go Go.Eng Go.Proofs Go.NatM Go.RowKit

set_option maxRecDepth 100000 in
set_option maxHeartbeats 8000000 in
theorem turn1_ok (w : World) (r c i j K : Nat) (A : Option Addr) (k : Nat) (l : List IV) (pa : Nat) (gx : GM w.heap ⟨r, c, A, r * c, k, l⟩ r c K) (hK : K ≤ 35184372088832) (hpa : Vr w.heap pa 24 (mvc ⟨r, c, A, r * c, k, l⟩)) (hi : i < c) (hj : j < r) :
    Cl Try.prog 42 #[.int .i64 (i : Int), .int .i64 (j : Int), .pointer (some ⟨pa, 0, none⟩)] w (RetZ w (ival (l.getD (j * c + i) default)) K) := by
  have hm := mul64 gx.sh.r64 gx.sh.c64
  have hs := gx.s
  have hlen := hs.len
  dsimp only at hs hlen
  have hp := place_lt hj hi
  have y1 : l[j * c + i]? = some (l.getD (j * c + i) default) := by simp [List.getD, show j * c + i < l.length by omega]
  obtain ⟨g1, n1⟩ := gx.g _ (List.mem_of_getElem? y1)
  generalize l.getD (j * c + i) default = x1 at *
  refine enter Try.func42 rfl rfl rfl ?_
  have hF := Fr.refl w
  repeat' (first | (refine TL.isOp ?_; first | (refine TL.isG ?_; first | refine TL.grun rfl rfl rfl ?_ | refine TL.gskip rfl rfl rfl rfl ?_ | refine TL.gskipU rfl rfl rfl ?_) | (refine TL.isCall ?_; refine TL.call rfl rfl ?_; first | (refine (zleast_ok _ x1 (g1.ext hF.ext) (by omega)).mono ?_; rintro _ wm ⟨s', rfl, hLm, hE, hKm⟩; replace hF := Fr.addLI (hF.exts hE) hLm; clear hE; refine Back.mk ?_)) | (refine TL.isBin ?_; refine TL.cmpG rfl rfl rfl rfl (fun hc => ?_) (fun hc => ?_) <;> (try (first | (exfalso; omega) | exact absurd rfl hc))) | (apply TL.ev; (case hd => rfl); (case h => (first | exact ev_simple rfl | (apply Ev.isBin; first | exact ev_arN rfl rfl rfl (by omega) | exact ev_arI rfl rfl rfl (by omega) | exact ev_eqlB (r := true) rfl rfl rfl | exact ev_eqlB (r := false) rfl rfl rfl | exact ev_neqB (r := true) rfl rfl rfl | exact ev_neqB (r := false) rfl rfl rfl) | (apply Ev.isLoad; first | exact ev_loadFr hF rfl (by refine ⟨?_, ?_⟩; (focus (repeat (first | exact InV.head | apply InV.tail))); rfl) | exact ev_loadAFr hF rfl (by refine ⟨?_, ?_⟩; (focus (repeat (first | exact InV.head | apply InV.tail))); rfl) | exact ev_loadV rfl (hpa.ext hF.ext) rfl | exact ev_loadM rfl (hs.ext hF.ext) y1) | exact ev_len rfl | exact ev_fieldAddr rfl | exact ev_field rfl rfl | exact ev_fieldA rfl rfl | exact ev_buildX rfl rfl | exact ev_makeFunc rfl | exact ev_nilCheck rfl | exact ev_neg rfl (by omega) | exact ev_cap rfl | exact ev_indexM rfl rfl hp (hs.ext hF.ext).some))) | (refine TL.storeAFr hF rfl rfl rfl rfl (by refine ⟨?_, ?_⟩; (focus (repeat (first | apply SetV.head | apply SetV.tail))); rfl) rfl ?_; clear hF; intro ws hF) | (refine TL.storeFr hF rfl rfl rfl rfl (by refine ⟨?_, ?_⟩; (focus (repeat (first | apply SetV.head | apply SetV.tail))); rfl) rfl ?_; clear hF; intro ws hF) | (refine TL.boxAFr hF rfl rfl ?_; clear hF; intro wb bb hF) | (refine TL.boxFr hF rfl rfl ?_; clear hF; intro wb bb hF) | (refine TL.allocFr hF rfl rfl ?_; clear hF; intro wa ba hF)) | (refine T.is ?_; first | refine T.seq ?_ | refine T.region ?_ | refine T.block ?_ | refine T.cond_t rfl ?_ | refine T.cond_f rfl ?_ | refine T.exit ?_ | refine T.ret ?_ | refine T.skip ?_ | refine T.regionQ mixed (by kernel_rfl) ?_) | (refine G.is ?_; first | refine G.next ?_ | refine G.blockN ?_ | refine G.blockE ?_ | refine G.blockE' rfl ?_ | refine G.blockR ?_ | refine G.thenE ?_ | refine G.thenR ?_ | refine G.only ?_) | refine TL.nil ?_ | (refine TL.nilFr hF ?_; clear hF; intro wq hF))
  exact G.retC1 rfl rfl (held_agg (hF.var (by repeat (first | exact InV.head | apply InV.tail))) rfl) ⟨s', rfl, Fr.li hF (by repeat (first | exact memH | apply memT)), hF.ext, by omega⟩
set_option maxRecDepth 100000 in
set_option maxHeartbeats 8000000 in
theorem mturn_ok (w : World) (x : MV) (r c K : Nat) (gx : GM w.heap x r c K) (hK : K ≤ 35184372088832) :
    Cl Try.prog 14 #[.agg (mvc x).toArray] w (RetME w c r (fun i j => ent x c j i) K) := by
  obtain ⟨xr, xc, A, n, k, l⟩ := x
  obtain ⟨h1, h2, h3, h4, h5⟩ := id gx.sh
  dsimp only at h1 h2 h5
  subst h1 h2 h5
  refine enter Try.func14 rfl rfl rfl ?_
  have hF := Fr.refl w
  repeat' (first | (refine TL.isOp ?_; first | (refine TL.isG ?_; first | refine TL.grun rfl rfl rfl ?_ | refine TL.gskip rfl rfl rfl rfl ?_ | refine TL.gskipU rfl rfl rfl ?_) | (refine TL.isCall ?_; refine TL.call rfl rfl ?_; first | (refine (chk_ok _ _ r c gx.sh).mono ?_; rintro _ wc ⟨rfl, hE⟩; replace hF := hF.exts hE; clear hE; refine Back.mk ?_) | (refine (build_ok _ c r h4 h3 42 [.pointer (some ⟨b1, 0, none⟩)] inferInstance (fun i j => ival (l.getD (j * c + i) default)) K (fun i j w1 hi hj hE1 => turn1_ok w1 r c i j K A k l b1 (gx.ext (hF.exts hE1).ext) hK ((hF.var (by repeat (first | exact InV.head | apply InV.tail))).ext hE1) hi hj)).mono ?_; rintro _ wp ⟨z, rfl, hLp, hE, hf⟩; have hsz := hF.ext.size; replace hF := Fr.addLM hF hE hLp hf; clear hE; refine Back.mk ?_)) | (refine TL.isBin ?_; refine TL.cmpG rfl rfl rfl rfl (fun hc => ?_) (fun hc => ?_) <;> (try (first | (exfalso; omega) | exact absurd rfl hc))) | (apply TL.ev; (case hd => rfl); (case h => (first | exact ev_simple rfl | (apply Ev.isBin; first | exact ev_arN rfl rfl rfl (by omega) | exact ev_arI rfl rfl rfl (by omega) | exact ev_eqlB (r := true) rfl rfl rfl | exact ev_eqlB (r := false) rfl rfl rfl | exact ev_neqB (r := true) rfl rfl rfl | exact ev_neqB (r := false) rfl rfl rfl) | (apply Ev.isLoad; first | exact ev_loadFr hF rfl (by refine ⟨?_, ?_⟩; (focus (repeat (first | exact InV.head | apply InV.tail))); rfl) | exact ev_loadAFr hF rfl (by refine ⟨?_, ?_⟩; (focus (repeat (first | exact InV.head | apply InV.tail))); rfl)) | exact ev_len rfl | exact ev_fieldAddr rfl | exact ev_field rfl rfl | exact ev_fieldA rfl rfl | exact ev_buildX rfl rfl | exact ev_makeFunc rfl | exact ev_nilCheck rfl | exact ev_neg rfl (by omega) | exact ev_cap rfl))) | (refine TL.storeAFr hF rfl rfl rfl rfl (by refine ⟨?_, ?_⟩; (focus (repeat (first | apply SetV.head | apply SetV.tail))); rfl) rfl ?_; clear hF; intro ws hF) | (refine TL.storeFr hF rfl rfl rfl rfl (by refine ⟨?_, ?_⟩; (focus (repeat (first | apply SetV.head | apply SetV.tail))); rfl) rfl ?_; clear hF; intro ws hF) | (refine TL.boxAFr hF (d := 1) (cs := mvc ⟨r, c, A, r * c, k, l⟩) rfl rfl ?_; clear hF; intro w1 b1 hF) | (refine TL.allocFr hF (d := 2) rfl rfl ?_; clear hF; intro w2 b2 hF) | (refine TL.boxAFr hF rfl rfl ?_; clear hF; intro wb bb hF) | (refine TL.boxFr hF rfl rfl ?_; clear hF; intro wb bb hF) | (refine TL.allocFr hF rfl rfl ?_; clear hF; intro wa ba hF)) | (refine T.is ?_; first | refine T.seq ?_ | refine T.region ?_ | refine T.block ?_ | refine T.cond_t rfl ?_ | refine T.cond_f rfl ?_ | refine T.exit ?_ | refine T.ret ?_ | refine T.skip ?_ | refine T.regionQ mixed (by kernel_rfl) ?_) | (refine G.is ?_; first | refine G.next ?_ | refine G.blockN ?_ | refine G.blockE ?_ | refine G.blockE' rfl ?_ | refine G.blockR ?_ | refine G.thenE ?_ | refine G.thenR ?_ | refine G.only ?_) | refine TL.nil ?_ | (refine TL.nilFr hF ?_; clear hF; intro wq hF))
  exact G.retC2 rfl rfl rfl (held_agg (hF.var (by repeat (first | exact InV.head | apply InV.tail))) rfl) ⟨z, rfl, Fr.lm hF (by repeat (first | exact memH | apply memT)), hF.ext, hf.mono hsz⟩
end Go.Proofs.Ytdhmhjbmkimplaa

namespace Go.Proofs.Ytdhmhjbmkimplaa
open Go Go.Eng Go.Proofs Go.NatM Go.RowKit

theorem least_each (w : World) (l : List IV) (K : Nat) (hg : ∀ y ∈ l, GI w.heap y ∧ y.m.n ≤ K) (hK : K ≤ 35184372088832) :
    ∀ i y (w1 : World), l[i]? = some y → Ext w w1 → Cl Try.prog 43 ([Value.agg (ivc y).toArray] ++ []).toArray w1 (RetZ w1 ((fun q => ival (l.getD q default)) i) K) := by
  intro i y w1 hy hE
  obtain ⟨g1, g2⟩ := hg y (List.mem_of_getElem? hy)
  refine (zleast_ok w1 y (g1.ext hE) (by omega)).mono ?_
  rintro e w' ⟨x, rfl, h1, h2, h3⟩
  refine ⟨x, rfl, ?_, h2, by omega⟩
  have e1 : l.getD i default = y := by simp [List.getD, hy]
  simp only [e1]
  exact h1
theorem LL.lm {H : Array Obj} {x : MV} {r c K k : Nat} {A : Option Addr} {l : List IV} (sh : Sound x r c) (h : LL H A (r * c) k l (fun q => ival (x.l.getD q default)) K) : LM H ⟨r, c, A, r * c, k, l⟩ r c (ent x c) K :=
  ⟨⟨rfl, rfl, sh.r64, sh.c64, rfl⟩, h.s, fun i j hi hj => h.g (i * c + j) (place_lt hi hj)⟩
theorem LF.mf {w : World} {A : Option Addr} {r c k : Nat} {l : List IV} {n : Nat} (h : LF w A n) : MF w ⟨r, c, A, n, k, l⟩ := h
set_option maxRecDepth 100000 in
set_option maxHeartbeats 8000000 in
theorem mleast_ok (w : World) (x : MV) (r c K : Nat) (gx : GM w.heap x r c K) (hK : K ≤ 35184372088832) : Cl Try.prog 25 #[.agg (mvc x).toArray] w (RetME w r c (ent x c) K) := by
  have hs0 := gx.sh
  obtain ⟨xr, xc, A1, n1, k1, l1⟩ := x
  obtain ⟨hr1, hc1, hr, hc, hn1⟩ := hs0
  dsimp only at hr1 hc1 hn1
  subst hr1 hc1 hn1
  have hm := mul64 hr hc
  refine enter Try.func25 rfl rfl rfl ?_
  have hF := Fr.refl w
  repeat' (first | (refine TL.isOp ?_; first | (refine TL.isG ?_; first | refine TL.grun rfl rfl rfl ?_ | refine TL.gskip rfl rfl rfl rfl ?_ | refine TL.gskipU rfl rfl rfl ?_) | (refine TL.isCall ?_; refine TL.call rfl rfl ?_; first | (refine (chk_ok _ _ r c gx.sh).mono ?_; rintro _ wy ⟨rfl, hE⟩; replace hF := hF.exts hE; clear hE; refine Back.mk ?_) | (refine (each_ok _ A1 (r * c) k1 l1 (gx.s.ext hF.ext).size (by omega) 43 [] inferInstance _ K (least_each _ l1 K (fun y hy => ⟨(gx.g y hy).1.ext hF.ext, (gx.g y hy).2⟩) hK)).mono ?_; rintro _ wl ⟨Al, kl, ll, rfl, hL, hE, hf⟩; have hLm := LL.lm gx.sh hL; have hMf := LF.mf (r := r) (c := c) (k := kl) (l := ll) hf; replace hMf := hMf.mono hF.ext.size; replace hF := Fr.addLM hF hE hLm (LF.mf hf); clear hE hf hL hLm; refine Back.mk ?_)) | (refine TL.isBin ?_; refine TL.cmpG rfl rfl rfl rfl (fun hc => ?_) (fun hc => ?_) <;> (try (first | (exfalso; omega) | exact absurd rfl hc))) | (apply TL.ev; (case hd => rfl); (case h => (first | exact ev_simple rfl | (apply Ev.isBin; first | exact ev_arN rfl rfl rfl (by omega) | exact ev_arI rfl rfl rfl (by omega) | exact ev_eqlB (r := true) rfl rfl rfl | exact ev_eqlB (r := false) rfl rfl rfl | exact ev_neqB (r := true) rfl rfl rfl | exact ev_neqB (r := false) rfl rfl rfl) | (apply Ev.isLoad; first | exact ev_loadFr hF rfl (by refine ⟨?_, ?_⟩; (focus (repeat (first | exact InV.head | apply InV.tail))); rfl) | exact ev_loadAFr hF rfl (by refine ⟨?_, ?_⟩; (focus (repeat (first | exact InV.head | apply InV.tail))); rfl)) | exact ev_len rfl | exact ev_fieldAddr rfl | exact ev_field rfl rfl | exact ev_fieldA rfl rfl | exact ev_buildX rfl rfl | exact ev_makeFunc rfl | exact ev_nilCheck rfl | exact ev_neg rfl (by omega) | exact ev_cap rfl))) | (refine TL.storeAFr hF rfl rfl rfl rfl (by refine ⟨?_, ?_⟩; (focus (repeat (first | apply SetV.head | apply SetV.tail))); rfl) rfl ?_; clear hF; intro ws hF) | (refine TL.storeFr hF rfl rfl rfl rfl (by refine ⟨?_, ?_⟩; (focus (repeat (first | apply SetV.head | apply SetV.tail))); rfl) rfl ?_; clear hF; intro ws hF) | (refine TL.boxAFr hF (d := 1) (cs := [.int .i64 (r : Int), .int .i64 (c : Int), .slice A1 (r * c) k1]) rfl rfl ?_; clear hF; intro w1 b1 hF) | (refine TL.allocFr hF (d := 2) rfl rfl ?_; clear hF; intro w2 b2 hF) | (refine TL.boxAFr hF rfl rfl ?_; clear hF; intro wb bb hF) | (refine TL.boxFr hF rfl rfl ?_; clear hF; intro wb bb hF) | (refine TL.allocFr hF rfl rfl ?_; clear hF; intro wa ba hF)) | (refine TF.is ?_; first | refine TF.nil ?_ | refine TF.e rfl ?_ | refine TF.alt ?_ ?_ | (refine TF.pick rfl ?_; first | (refine TFo.cmpG rfl rfl rfl rfl (fun hc => ?_) (fun hc => ?_) <;> (try (first | (exfalso; omega) | exact absurd rfl hc))) | (refine TFo.cmpGg rfl rfl rfl rfl rfl rfl rfl (fun hc => ?_) (fun hc => ?_) <;> (try (first | (exfalso; omega) | exact absurd rfl hc))) | (apply TFo.ev; (case hd => rfl); (case h => (intro wh hF; first | exact ev_simple rfl | (apply Ev.isBin; first | exact ev_arN rfl rfl rfl (by omega) | exact ev_arI rfl rfl rfl (by omega) | exact ev_eqlB (r := true) rfl rfl rfl | exact ev_eqlB (r := false) rfl rfl rfl | exact ev_neqB (r := true) rfl rfl rfl | exact ev_neqB (r := false) rfl rfl rfl) | (apply Ev.isLoad; first | exact ev_loadFr hF rfl (by refine ⟨?_, ?_⟩; (focus (repeat (first | exact InV.head | apply InV.tail))); rfl) | exact ev_loadAFr hF rfl (by refine ⟨?_, ?_⟩; (focus (repeat (first | exact InV.head | apply InV.tail))); rfl)) | exact ev_len rfl | exact ev_fieldAddr rfl | exact ev_field rfl rfl | exact ev_fieldA rfl rfl | exact ev_buildX rfl rfl | exact ev_makeFunc rfl | exact ev_nilCheck rfl | exact ev_neg rfl (by omega) | exact ev_cap rfl))) | (apply TFo.evg rfl rfl rfl; (case hd => rfl); (case h => (intro wh hF; first | exact ev_simple rfl | (apply Ev.isBin; first | exact ev_arN rfl rfl rfl (by omega) | exact ev_arI rfl rfl rfl (by omega) | exact ev_eqlB (r := true) rfl rfl rfl | exact ev_eqlB (r := false) rfl rfl rfl | exact ev_neqB (r := true) rfl rfl rfl | exact ev_neqB (r := false) rfl rfl rfl) | (apply Ev.isLoad; first | exact ev_loadFr hF rfl (by refine ⟨?_, ?_⟩; (focus (repeat (first | exact InV.head | apply InV.tail))); rfl) | exact ev_loadAFr hF rfl (by refine ⟨?_, ?_⟩; (focus (repeat (first | exact InV.head | apply InV.tail))); rfl)) | exact ev_len rfl | exact ev_fieldAddr rfl | exact ev_field rfl rfl | exact ev_fieldA rfl rfl | exact ev_buildX rfl rfl | exact ev_makeFunc rfl | exact ev_nilCheck rfl | exact ev_neg rfl (by omega) | exact ev_cap rfl))) | refine TFo.skip rfl rfl rfl rfl ?_ | refine TFo.skipU rfl rfl rfl ?_)) | (refine T.is ?_; first | refine T.seq ?_ | refine T.region ?_ | refine T.block ?_ | refine T.cond_t rfl ?_ | refine T.cond_f rfl ?_ | refine T.exit ?_ | refine T.ret ?_ | refine T.skip ?_ | (refine T.regionFt hF 4 10 (.s 0 (.s 1 (.s 2 (.s 3 (.s 4 (.s 5 (.e 6 (.s 7 (.e 8 (.s 9 .nil)))))))))) mixed (by kernel_rfl) ?_; clear hF; intro wr hF) | refine T.regionQ mixed (by kernel_rfl) ?_) | (refine G.is ?_; first | refine G.next ?_ | refine G.blockN ?_ | refine G.blockE ?_ | refine G.blockE' rfl ?_ | refine G.blockR ?_ | refine G.thenE ?_ | refine G.thenR ?_ | refine G.only ?_ | refine G.treeEnd rfl ?_ | refine G.tree rfl (by first | exact hF | exact hF.weak (by repeat (first | exact List.Sublist.refl _ | apply List.Sublist.cons)) (by repeat (first | exact allR | apply allT)) | exact hF.weak (by repeat (first | exact List.Sublist.refl _ | apply List.Sublist.cons)) (by repeat (first | exact allN | refine allH (by repeat (first | exact memH | apply memT)) ?_))) ?_) | refine TL.nil ?_ | (refine TL.nilFr hF ?_; clear hF; intro wq hF))
  exact G.retC2 rfl rfl rfl (held_agg (hF.var (by repeat (first | exact InV.head | apply InV.tail))) rfl) ⟨⟨r, c, Al, r * c, kl, ll⟩, rfl, Fr.lm hF (by repeat (first | exact memH | apply memT)), hF.ext, hMf⟩
/-- a matrix value whose numbers are in range -/
structure InR (x : MV) : Prop where
  r : -9223372036854775808 ≤ x.r ∧ x.r < 9223372036854775808
  c : -9223372036854775808 ≤ x.c ∧ x.c < 9223372036854775808
theorem chk_bad (w : World) (x : MV) (hx : InR x) (hn : ¬ ∃ r c, Sound x r c) : Cl Try.prog 34 #[.agg (mvc x).toArray] w (fun e w' => e = .returned (.int .i64 1) ∧ Ext w w') := by
  obtain ⟨xr, xc, A, n, k, l⟩ := x
  obtain ⟨hr, hc⟩ := hx
  dsimp only at hr hc
  by_cases h1 : 0 ≤ xr ∧ xr ≤ 64
  · by_cases h2 : 0 ≤ xc ∧ xc ≤ 64
    · obtain ⟨r, rfl⟩ := Int.eq_ofNat_of_zero_le h1.1
      obtain ⟨c, rfl⟩ := Int.eq_ofNat_of_zero_le h2.1
      have hm := mul64 (r := r) (c := c) (by omega) (by omega)
      have hne : n ≠ r * c := fun e => hn ⟨r, c, rfl, rfl, by omega, by omega, e⟩
      refine enter Try.func34 rfl rfl rfl ?_
      have hF := Fr.refl w
      repeat' (first | (refine TL.isOp ?_; first | (refine TL.isG ?_; first | refine TL.grun rfl rfl rfl ?_ | refine TL.gskip rfl rfl rfl rfl ?_ | refine TL.gskipU rfl rfl rfl ?_) | (refine TL.isCall ?_; refine TL.call rfl rfl ?_; first | (refine (side_ok _ _ true (decide_eq_true (by omega))).cl.mono ?_; rintro _ wc ⟨rfl, hE⟩; replace hF := hF.exts hE.ext; clear hE; refine Back.mk ?_)) | (refine TL.isBin ?_; refine TL.cmpG rfl rfl rfl rfl (fun hc => ?_) (fun hc => ?_) <;> (try (first | (exfalso; omega) | exact absurd rfl hc))) | (apply TL.ev; (case hd => rfl); (case h => (first | exact ev_simple rfl | (apply Ev.isBin; first | exact ev_arN rfl rfl rfl (by omega) | exact ev_arI rfl rfl rfl (by omega) | exact ev_eqlB (r := true) rfl rfl rfl | exact ev_eqlB (r := false) rfl rfl rfl | exact ev_neqB (r := true) rfl rfl rfl | exact ev_neqB (r := false) rfl rfl rfl) | (apply Ev.isLoad; first | exact ev_loadFr hF rfl (by refine ⟨?_, ?_⟩; (focus (repeat (first | exact InV.head | apply InV.tail))); rfl) | exact ev_loadAFr hF rfl (by refine ⟨?_, ?_⟩; (focus (repeat (first | exact InV.head | apply InV.tail))); rfl)) | exact ev_len rfl | exact ev_fieldAddr rfl | exact ev_field rfl rfl | exact ev_fieldA rfl rfl | exact ev_buildX rfl rfl | exact ev_makeFunc rfl | exact ev_nilCheck rfl | exact ev_neg rfl (by omega) | exact ev_cap rfl))) | (refine TL.storeAFr hF rfl rfl rfl rfl (by refine ⟨?_, ?_⟩; (focus (repeat (first | apply SetV.head | apply SetV.tail))); rfl) rfl ?_; clear hF; intro ws hF) | (refine TL.storeFr hF rfl rfl rfl rfl (by refine ⟨?_, ?_⟩; (focus (repeat (first | apply SetV.head | apply SetV.tail))); rfl) rfl ?_; clear hF; intro ws hF) | (refine TL.boxAFr hF (d := 1) (cs := [.int .i64 (r : Int), .int .i64 (c : Int), .slice A n k]) rfl rfl ?_; clear hF; intro w1 b1 hF) | (refine TL.boxAFr hF rfl rfl ?_; clear hF; intro wb bb hF) | (refine TL.boxFr hF rfl rfl ?_; clear hF; intro wb bb hF) | (refine TL.allocFr hF rfl rfl ?_; clear hF; intro wa ba hF)) | (refine T.is ?_; first | refine T.seq ?_ | refine T.region ?_ | refine T.block ?_ | refine T.cond_t rfl ?_ | refine T.cond_f rfl ?_ | refine T.exit ?_ | refine T.ret ?_ | refine T.skip ?_ | refine T.regionQ mixed (by kernel_rfl) ?_) | (refine G.is ?_; first | refine G.next ?_ | refine G.blockN ?_ | refine G.blockE ?_ | refine G.blockE' rfl ?_ | refine G.blockR ?_ | refine G.thenE ?_ | refine G.thenR ?_ | refine G.only ?_) | refine TL.nil ?_ | (refine TL.nilFr hF ?_; clear hF; intro wq hF))
      exact G.ret1 rfl rfl ⟨rfl, hF.ext⟩
    · refine enter Try.func34 rfl rfl rfl ?_
      have hF := Fr.refl w
      repeat' (first | (refine TL.isOp ?_; first | (refine TL.isG ?_; first | refine TL.grun rfl rfl rfl ?_ | refine TL.gskip rfl rfl rfl rfl ?_ | refine TL.gskipU rfl rfl rfl ?_) | (refine TL.isCall ?_; refine TL.call rfl rfl ?_; first | (refine (side_ok _ xr true (decide_eq_true (by omega))).cl.mono ?_; rintro _ wc ⟨rfl, hE⟩; replace hF := hF.exts hE.ext; clear hE; refine Back.mk ?_) | (refine (side_ok _ xc false (decide_eq_false (by omega))).cl.mono ?_; rintro _ wc ⟨rfl, hE⟩; replace hF := hF.exts hE.ext; clear hE; refine Back.mk ?_)) | (refine TL.isBin ?_; refine TL.cmpG rfl rfl rfl rfl (fun hc => ?_) (fun hc => ?_) <;> (try (first | (exfalso; omega) | exact absurd rfl hc))) | (apply TL.ev; (case hd => rfl); (case h => (first | exact ev_simple rfl | (apply Ev.isBin; first | exact ev_arN rfl rfl rfl (by omega) | exact ev_arI rfl rfl rfl (by omega) | exact ev_eqlB (r := true) rfl rfl rfl | exact ev_eqlB (r := false) rfl rfl rfl | exact ev_neqB (r := true) rfl rfl rfl | exact ev_neqB (r := false) rfl rfl rfl) | (apply Ev.isLoad; first | exact ev_loadFr hF rfl (by refine ⟨?_, ?_⟩; (focus (repeat (first | exact InV.head | apply InV.tail))); rfl) | exact ev_loadAFr hF rfl (by refine ⟨?_, ?_⟩; (focus (repeat (first | exact InV.head | apply InV.tail))); rfl)) | exact ev_len rfl | exact ev_fieldAddr rfl | exact ev_field rfl rfl | exact ev_fieldA rfl rfl | exact ev_buildX rfl rfl | exact ev_makeFunc rfl | exact ev_nilCheck rfl | exact ev_neg rfl (by omega) | exact ev_cap rfl))) | (refine TL.storeAFr hF rfl rfl rfl rfl (by refine ⟨?_, ?_⟩; (focus (repeat (first | apply SetV.head | apply SetV.tail))); rfl) rfl ?_; clear hF; intro ws hF) | (refine TL.storeFr hF rfl rfl rfl rfl (by refine ⟨?_, ?_⟩; (focus (repeat (first | apply SetV.head | apply SetV.tail))); rfl) rfl ?_; clear hF; intro ws hF) | (refine TL.boxAFr hF (d := 1) (cs := [.int .i64 xr, .int .i64 xc, .slice A n k]) rfl rfl ?_; clear hF; intro w1 b1 hF) | (refine TL.boxAFr hF rfl rfl ?_; clear hF; intro wb bb hF) | (refine TL.boxFr hF rfl rfl ?_; clear hF; intro wb bb hF) | (refine TL.allocFr hF rfl rfl ?_; clear hF; intro wa ba hF)) | (refine T.is ?_; first | refine T.seq ?_ | refine T.region ?_ | refine T.block ?_ | refine T.cond_t rfl ?_ | refine T.cond_f rfl ?_ | refine T.exit ?_ | refine T.ret ?_ | refine T.skip ?_ | refine T.regionQ mixed (by kernel_rfl) ?_) | (refine G.is ?_; first | refine G.next ?_ | refine G.blockN ?_ | refine G.blockE ?_ | refine G.blockE' rfl ?_ | refine G.blockR ?_ | refine G.thenE ?_ | refine G.thenR ?_ | refine G.only ?_) | refine TL.nil ?_ | (refine TL.nilFr hF ?_; clear hF; intro wq hF))
      exact G.ret1 rfl rfl ⟨rfl, hF.ext⟩
  · refine enter Try.func34 rfl rfl rfl ?_
    have hF := Fr.refl w
    repeat' (first | (refine TL.isOp ?_; first | (refine TL.isG ?_; first | refine TL.grun rfl rfl rfl ?_ | refine TL.gskip rfl rfl rfl rfl ?_ | refine TL.gskipU rfl rfl rfl ?_) | (refine TL.isCall ?_; refine TL.call rfl rfl ?_; first | (refine (side_ok _ xr false (decide_eq_false (by omega))).cl.mono ?_; rintro _ wc ⟨rfl, hE⟩; replace hF := hF.exts hE.ext; clear hE; refine Back.mk ?_)) | (refine TL.isBin ?_; refine TL.cmpG rfl rfl rfl rfl (fun hc => ?_) (fun hc => ?_) <;> (try (first | (exfalso; omega) | exact absurd rfl hc))) | (apply TL.ev; (case hd => rfl); (case h => (first | exact ev_simple rfl | (apply Ev.isBin; first | exact ev_arN rfl rfl rfl (by omega) | exact ev_arI rfl rfl rfl (by omega) | exact ev_eqlB (r := true) rfl rfl rfl | exact ev_eqlB (r := false) rfl rfl rfl | exact ev_neqB (r := true) rfl rfl rfl | exact ev_neqB (r := false) rfl rfl rfl) | (apply Ev.isLoad; first | exact ev_loadFr hF rfl (by refine ⟨?_, ?_⟩; (focus (repeat (first | exact InV.head | apply InV.tail))); rfl) | exact ev_loadAFr hF rfl (by refine ⟨?_, ?_⟩; (focus (repeat (first | exact InV.head | apply InV.tail))); rfl)) | exact ev_len rfl | exact ev_fieldAddr rfl | exact ev_field rfl rfl | exact ev_fieldA rfl rfl | exact ev_buildX rfl rfl | exact ev_makeFunc rfl | exact ev_nilCheck rfl | exact ev_neg rfl (by omega) | exact ev_cap rfl))) | (refine TL.storeAFr hF rfl rfl rfl rfl (by refine ⟨?_, ?_⟩; (focus (repeat (first | apply SetV.head | apply SetV.tail))); rfl) rfl ?_; clear hF; intro ws hF) | (refine TL.storeFr hF rfl rfl rfl rfl (by refine ⟨?_, ?_⟩; (focus (repeat (first | apply SetV.head | apply SetV.tail))); rfl) rfl ?_; clear hF; intro ws hF) | (refine TL.boxAFr hF (d := 1) (cs := [.int .i64 xr, .int .i64 xc, .slice A n k]) rfl rfl ?_; clear hF; intro w1 b1 hF) | (refine TL.boxAFr hF rfl rfl ?_; clear hF; intro wb bb hF) | (refine TL.boxFr hF rfl rfl ?_; clear hF; intro wb bb hF) | (refine TL.allocFr hF rfl rfl ?_; clear hF; intro wa ba hF)) | (refine T.is ?_; first | refine T.seq ?_ | refine T.region ?_ | refine T.block ?_ | refine T.cond_t rfl ?_ | refine T.cond_f rfl ?_ | refine T.exit ?_ | refine T.ret ?_ | refine T.skip ?_ | refine T.regionQ mixed (by kernel_rfl) ?_) | (refine G.is ?_; first | refine G.next ?_ | refine G.blockN ?_ | refine G.blockE ?_ | refine G.blockE' rfl ?_ | refine G.blockR ?_ | refine G.thenE ?_ | refine G.thenR ?_ | refine G.only ?_) | refine TL.nil ?_ | (refine TL.nilFr hF ?_; clear hF; intro wq hF))
    exact G.ret1 rfl rfl ⟨rfl, hF.ext⟩
/-- a walk over the rows of a matrix: a closure over the matrix -/
def RetIt (w : World) (r c : Nat) (F : Nat → Nat → Int) (K : Nat) (e : Ending) (w' : World) : Prop := ∃ (b : Nat) (A : Option Addr) (k : Nat) (l : List IV), e = .returned (.func (.func 82) #[] #[.pointer (some ⟨b, 0, none⟩)]) ∧
  Vr w'.heap b 24 [.int .i64 (r : Int), .int .i64 (c : Int), .slice A (r * c) k] ∧ LM w'.heap ⟨r, c, A, r * c, k, l⟩ r c F K ∧ Ext w w' ∧ w.heap.size ≤ b ∧ MF w ⟨r, c, A, r * c, k, l⟩
theorem lines_ok (w : World) (x : MV) (r c K : Nat) (gx : GM w.heap x r c K) (hK : K ≤ 35184372088832) : Cl Try.prog 67 #[.agg (mvc x).toArray] w (RetIt w r c (ent x c) K) := by
  have hl := fun w1 (hE : Ext w w1) => mleast_ok w1 x r c K (gx.ext hE) hK
  obtain ⟨xr, xc, A, n, k, l⟩ := x
  refine enter Try.func67 rfl rfl rfl ?_
  have hF := Fr.refl w
  repeat' (first | (refine TL.isOp ?_; first | (refine TL.isG ?_; first | refine TL.grun rfl rfl rfl ?_ | refine TL.gskip rfl rfl rfl rfl ?_ | refine TL.gskipU rfl rfl rfl ?_) | (refine TL.isCall ?_; refine TL.call rfl rfl ?_; first | (refine (hl _ hF.ext).mono ?_; rintro _ wu ⟨zu, rfl, hLu, hE, hf⟩; obtain ⟨Au, ku, lu, rfl⟩ := lm_mk hLu; rw [mvc_mk _ _ Au]; have hfu := hf.mono hF.ext.size; replace hF := Fr.addLM hF hE hLu hf; clear hE hf hLu; refine Back.mk ?_)) | (refine TL.isBin ?_; refine TL.cmpG rfl rfl rfl rfl (fun hc => ?_) (fun hc => ?_) <;> (try (first | (exfalso; omega) | exact absurd rfl hc))) | (apply TL.ev; (case hd => rfl); (case h => (first | exact ev_simple rfl | (apply Ev.isBin; first | exact ev_arN rfl rfl rfl (by omega) | exact ev_arI rfl rfl rfl (by omega) | exact ev_eqlB (r := true) rfl rfl rfl | exact ev_eqlB (r := false) rfl rfl rfl | exact ev_neqB (r := true) rfl rfl rfl | exact ev_neqB (r := false) rfl rfl rfl) | (apply Ev.isLoad; first | exact ev_loadFr hF rfl (by refine ⟨?_, ?_⟩; (focus (repeat (first | exact InV.head | apply InV.tail))); rfl) | exact ev_loadAFr hF rfl (by refine ⟨?_, ?_⟩; (focus (repeat (first | exact InV.head | apply InV.tail))); rfl)) | exact ev_len rfl | exact ev_fieldAddr rfl | exact ev_field rfl rfl | exact ev_fieldA rfl rfl | exact ev_buildX rfl rfl | exact ev_makeFunc rfl | exact ev_nilCheck rfl | exact ev_neg rfl (by omega) | exact ev_cap rfl))) | (refine TL.storeAFr hF rfl rfl rfl rfl (by refine ⟨?_, ?_⟩; (focus (repeat (first | apply SetV.head | apply SetV.tail))); rfl) rfl ?_; clear hF; intro ws hF) | (refine TL.storeFr hF rfl rfl rfl rfl (by refine ⟨?_, ?_⟩; (focus (repeat (first | apply SetV.head | apply SetV.tail))); rfl) rfl ?_; clear hF; intro ws hF) | (refine TL.boxAFr hF (d := 1) (cs := [.int .i64 xr, .int .i64 xc, .slice A n k]) rfl rfl ?_; clear hF; intro w1 b1 hF) | (refine TL.allocFr hF (d := 3) rfl rfl ?_; clear hF; intro w3 b3 hF) | (refine TL.boxAFr hF rfl rfl ?_; clear hF; intro wb bb hF) | (refine TL.boxFr hF rfl rfl ?_; clear hF; intro wb bb hF) | (refine TL.allocFr hF rfl rfl ?_; clear hF; intro wa ba hF)) | (refine T.is ?_; first | refine T.seq ?_ | refine T.region ?_ | refine T.block ?_ | refine T.cond_t rfl ?_ | refine T.cond_f rfl ?_ | refine T.exit ?_ | refine T.ret ?_ | refine T.skip ?_ | refine T.regionQ mixed (by kernel_rfl) ?_) | (refine G.is ?_; first | refine G.next ?_ | refine G.blockN ?_ | refine G.blockE ?_ | refine G.blockE' rfl ?_ | refine G.blockR ?_ | refine G.thenE ?_ | refine G.thenR ?_ | refine G.only ?_) | refine TL.nil ?_ | (refine TL.nilFr hF ?_; clear hF; intro wq hF))
  have hlo := hF.lo (.head (b := b3))
  exact G.ret1 rfl rfl ⟨b3, Au, ku, lu, rfl, hF.var (by repeat (first | exact InV.head | apply InV.tail)), Fr.lm hF (by repeat (first | exact memH | apply memT)), hF.ext, hlo.resolve_right id, hfu⟩
theorem Sm.sub {α : Type} {k : Nat} {f : α → List Value} {H : Array Obj} {B n c lo m : Nat} {A : Option Addr} {l : List α} (h : Sm k f H B A n c l) (hm : lo + m ≤ n) : Sm k f H B (elemA A (lo * k)) m (c - lo) ((l.drop lo).take m) := by
  have hlen := h.len
  have hcap := h.cap
  refine ⟨by rw [List.length_take, List.length_drop]; omega, by omega, h.pos, fun x hx => h.wid x (List.mem_of_mem_drop (List.mem_of_mem_take hx)), ?_⟩
  rcases Nat.eq_zero_or_pos m with h0 | h0
  · exact .inl h0
  · rcases h.mem with h1 | ⟨b, o, e, hlt, hc⟩
    · omega
    · refine .inr ⟨b, o + lo * k, by rw [e]; simp [elemA, add_mk], hlt, fun j x hx q v hv => ?_⟩
      have h2 : l[lo + j]? = some x := by
        rw [List.getElem?_take] at hx
        split at hx
        · rwa [List.getElem?_drop] at hx
        · cases hx
      have := hc (lo + j) x h2 q v hv
      rw [Nat.add_mul] at this
      rw [show o + lo * k + (j * k + q) = o + (lo * k + j * k + q) by omega]
      exact this
/-- a row that a walk hands over -/
structure RowV where
  i : Nat
  A : Option Addr
  n : Nat
  k : Nat
  l : List IV
theorem LL.congr {H : Array Obj} {A : Option Addr} {n k K : Nat} {l : List IV} {Z Z' : Nat → Int} (h : LL H A n k l Z K) (e : ∀ q, q < n → Z q = Z' q) : LL H A n k l Z' K := ⟨h.s, fun q hq => by rw [← e q hq]; exact h.g q hq⟩
theorem row_sub (i c : Nat) : (i + 1) * c - i * c = c := by rw [Nat.add_mul, Nat.one_mul]; omega
theorem ev_rowSl {P : Program} {σ : Store} {H : Array Obj} {d : Option Tmp} {t : TypeId} {pos : String} {af : Array Edge} {gd : Option (Nat × Bool)} {x : Operand} {A : Option Addr} {n cc i c : Nat} {ty e : TypeId} [hT : USlice P ty e] {z : Value} {b1 : Nat} [hS : USize P e z 2 b1] {y u : Operand}
    (hx : Eng.look σ x = some (.slice A n cc)) (hy : Eng.look σ y = some (.int .i64 ((i * c : Nat) : Int))) (hu : Eng.look σ u = some (.int .i64 (((i + 1) * c : Nat) : Int))) (hn : (i + 1) * c ≤ cc) :
    Ev P σ H ⟨d, .slice ty x (some y) (some u) none, t, pos, af, gd⟩ (.slice (cutM 2 A cc (i * c)) c (cc - i * c)) := by
  have := ev_slM_lh (P := P) (σ := σ) (H := H) (d := d) (t := t) (pos := pos) (af := af) (gd := gd) (ty := ty) (l := i * c) (h := (i + 1) * c) hx hy hu (Nat.mul_le_mul_right c (Nat.le_succ i)) hn
  rwa [row_sub] at this
end Go.Proofs.Ytdhmhjbmkimplaa

namespace Go.Eng
open Go Go.RowKit

theorem sm_cells {α : Type} {f : α → List Value} {w : World} {k B n c : Nat} {A : Option Addr} {l : List α} (h : Sm k f w.heap B A n c l) {b o : Nat} (hA : A = some ⟨b, o, none⟩) : ∀ j v, (l.flatMap f)[j]? = some v → w.cell? ((⟨b, o, none⟩ : Addr).add j) = some v := by
  intro j v hv
  have hlen := h.len
  have hk := h.pos
  have hfl := flatMap_len h.wid
  have hj : j < l.length * k := by rw [← hfl]; exact (List.getElem?_eq_some_iff.1 hv).1
  rcases h.mem with h0 | ⟨b', o', e, _, hc⟩
  · rw [hlen, h0, Nat.zero_mul] at hj; omega
  · rw [hA] at e
    cases e
    rw [add_mk, cell_of_hcell]
    have h1 : j / k < l.length := Nat.div_lt_of_lt_mul (by rw [Nat.mul_comm]; exact hj)
    have h2 := flatMap_get h.wid (j / k) (j % k) l[j / k] (List.getElem?_eq_getElem h1) (Nat.mod_lt _ hk)
    rw [Nat.div_add_mod'] at h2
    have h3 := hc (j / k) l[j / k] (List.getElem?_eq_getElem h1) (j % k) v (by rw [← h2]; exact hv)
    rw [Nat.div_add_mod'] at h3
    exact h3
theorem zero_noU {z : List Value} (hz : z.all noU64 = true) (n : Nat) : (Builtin.zeroCells z.toArray n).toList.all noU64 = true := by
  rw [List.all_eq_true]
  intro v hv
  simp only [Builtin.zeroCells, Array.toList_map, List.mem_map] at hv
  obtain ⟨q, hq, rfl⟩ := hv
  have hq' : q < n * z.length := by simpa using hq
  have hlt : q % z.length < z.length := Nat.mod_lt _ (by rcases Nat.eq_zero_or_pos z.length with h | h; rw [h] at hq'; omega; exact h)
  have : z.toArray[q % z.toArray.size]! = z[q % z.length] := by simp [List.getElem?_eq_getElem hlt]
  rw [this]
  exact List.all_eq_true.1 hz _ (List.getElem_mem hlt)
section
variable {P : Program} {N : Fm} {Q : Exit → Act → World → Prop} {σ : Store} {S : Nat → Prop} {w0 w : World} {L : List VB} {D : List DP} {ops : Array Oper} {d : Nat} {t : TypeId} {pos : String} {af : Array Edge} {rest : List Oper}
theorem Fr.swap {a b : VB} (h : Fr w0 w (a :: b :: L) D S) : Fr w0 w (b :: a :: L) D S := by
  have hp : ∀ v, v ∈ b :: a :: L → v ∈ a :: b :: L := fun v hv => by simp only [List.mem_cons] at hv ⊢; rcases hv with h | h | h <;> simp [h]
  refine ⟨h.exs, fun v hv => h.vars v (hp v hv), ?_, h.data, fun v hv => h.apart v (hp v hv)⟩
  have hd := h.dist
  simp only [List.pairwise_cons, List.mem_cons] at hd ⊢
  refine ⟨fun v hv => ?_, fun v hv => hd.1 v (.inr hv), hd.2.2⟩
  rcases hv with rfl | hv
  · exact fun e => hd.1 b (.inl rfl) e.symm
  · exact hd.2.1 v hv
end
end Go.Eng

namespace Go.Eng
open Go Go.RowKit
section
variable {P : Program} {N : Fm} {Q : Exit → Act → World → Prop} {σ : Store} {S : Nat → Prop} {w0 w : World} {L : List VB} {D : List DP} {ops : Array Oper} {d : Nat} {t : TypeId} {pos : String} {af : Array Edge} {rest : List Oper}
/-- to what stands at the head of a block known whole, elements of any type -/
theorem TL.appendAtFr {α : Type} {f : α → List Value} {g n c : Nat} {e : TypeId} {l : List α} {zs : List Value} {L' : List VB} (hF : Fr w0 w L D S) {x y : Operand} {ty : TypeId} [hT : USlice P ty e] {v0 : Value} {z : List Value} {sz b1 : Nat} [hS : USize P e v0 sz b1] (hzv : v0.cells = z.toArray) {a : Addr} {m c' B : Nat} {l' : List α}
    (hx : look σ x = some (.slice (some ⟨g, 0, none⟩) n c)) (hy : look σ y = some (.slice (some a) m c')) (hd : Nat.blt d N.n = true) (hs : Sm sz f w.heap B (some a) m c' l') (h1 : ∀ u, (f u).all (·.oneCell') = true) (hw : ∀ u, (f u).length = sz) (hzl : Nat.beq z.length sz = true) (hzn : z.all noU64 = true)
    (hl : l.length = n) (hzs : zs.length = (c - n) * sz) (hnc : n ≤ c) (hno : (l.flatMap f ++ zs).all noU64 = true)
    (hroom : (n + m) * b1 ≤ 140737488355328 ∧ n + m ≤ 4611686018427387904)
    (hL : SetV L g e (l.flatMap f ++ zs) ((l ++ l').flatMap f ++ zs.drop (m * sz)) L')
    (K1 : n + m ≤ c → ∀ w', Fr w0 w' L' D S → TL P N .seq ops Q rest ((d, .slice (some ⟨g, 0, none⟩) (n + m) c) :: σ) w')
    (K2 : c < n + m → ∀ w' b c2 zs', n + m ≤ c2 → zs'.length = (c2 - (n + m)) * sz → zs'.all noU64 = true → Fr w0 w' (⟨b, e, (l ++ l').flatMap f ++ zs'⟩ :: L) D S → TL P N .seq ops Q rest ((d, .slice (some ⟨b, 0, none⟩) (n + m) c2) :: σ) w') :
    TL P N .seq ops Q (⟨some d, .call { callee := .builtin .append, args := #[x, y], argTypes := #[ty, ty] }, t, pos, af, none⟩ :: rest) σ w := by
  obtain ⟨i, hi, hz0, hsz, hby⟩ := hS.info
  have hl' := hs.len
  have hzl' := Nat.eq_of_beq_eq_true hzl
  have hlf : (l.flatMap f).length = n * sz := by rw [flatMap_len (fun x _ => hw x), hl]
  have hlf' : (l'.flatMap f).length = m * sz := by rw [flatMap_len hs.wid, hl']
  have hV := hF.var hL.inV
  obtain ⟨b0, o0, hab⟩ : ∃ b0 o0, (a = ⟨b0, o0, none⟩ ∨ m = 0) := by
    rcases hs.mem with h | ⟨b, o, h, _⟩
    · exact ⟨0, 0, .inr h⟩
    · cases h; exact ⟨b, o, .inl rfl⟩
  have hnews : ∀ j v, (l'.flatMap f)[j]? = some v → w.cell? (a.add j) = some v := by
    rcases hab with rfl | h
    · exact sm_cells hs rfl
    · intro j v hv
      have := (List.getElem?_eq_some_iff.1 hv).1
      rw [hlf', h, Nat.zero_mul] at this; omega
  have holds : ∀ j v, (l.flatMap f)[j]? = some v → w.cell? ((⟨g, 0, none⟩ : Addr).add j) = some v := fun j v hv => by
    rw [add_mk, cell_of_hcell, Nat.zero_add, hV.cell, List.getElem?_append_left (List.getElem?_eq_some_iff.1 hv).1]; exact hv
  have h1' : ∀ u ∈ l'.flatMap f, u.oneCell' = true := fun u hu => by
    obtain ⟨q, _, hq⟩ := List.mem_flatMap.1 hu
    exact List.all_eq_true.1 (h1 q) u hq
  rcases Nat.lt_or_ge c (n + m) with hcm | hcm
  · have hr := run_append_grow (P := P) w ty t e i v0 hT.out hi hz0 ⟨g, 0, none⟩ n c (l.flatMap f) (by rw [hlf, hsz]) holds a m c' (l'.flatMap f) (by rw [hlf', hsz]) hnews (by omega) (by omega) (growslice_fits (by omega) (by rw [hby]; exact hroom.1))
    have hge := grownCap_ge w (n + m) c e
    have hV2 : Vr (w.drew.alloc (.cells ((l.flatMap f).toArray ++ (l'.flatMap f).toArray ++ Builtin.zeroCells z.toArray (grownCap w (n + m) c e - (n + m))) e)).heap w.heap.size e ((l ++ l').flatMap f ++ (Builtin.zeroCells z.toArray (grownCap w (n + m) c e - (n + m))).toList) := by
      unfold Vr
      have := heap_alloc w.drew (.cells ((l.flatMap f).toArray ++ (l'.flatMap f).toArray ++ Builtin.zeroCells z.toArray (grownCap w (n + m) c e - (n + m))) e)
      rw [show w.drew.heap.size = w.heap.size from rfl] at this
      rw [this]
      congr 2
      apply Array.ext'
      simp
    have hE : Ext w (w.drew.alloc (.cells ((l.flatMap f).toArray ++ (l'.flatMap f).toArray ++ Builtin.zeroCells z.toArray (grownCap w (n + m) c e - (n + m))) e)) := Ext.trans (ext_drewN w 1) (ext_alloc _ _)
    refine TL.op (fun ρ hρ => ?_) hd (K2 hcm _ _ _ _ hge (by rw [Array.length_toList, size_zeroCells, List.size_toArray, hzl']) (zero_noU hzn _) (hF.new rfl hV2 hE))
    rw [hzv] at hr
    simp [execOp, resolve, invoke, builtin, hρ x _ hx, hρ y _ hy, hr]
  · have hms : m * sz ≤ (c - n) * sz := Nat.mul_le_mul_right _ (by omega)
    have hr := run_append_room (P := P) w ty t e i hT.out hi g n c (l.flatMap f ++ zs).toArray hV a m c' (l'.flatMap f) (by rw [hlf', hsz]) hnews h1' hcm (by simp [hlf, hlf', hsz, hzs]; omega)
    have e1 : List.take (n * sz) (l.flatMap f ++ zs) = l.flatMap f := by rw [← hlf, List.take_left]
    have e2 : List.drop (n * sz + (l'.flatMap f).length) (l.flatMap f ++ zs) = zs.drop (m * sz) := by rw [← hlf, hlf', List.drop_append, List.drop_of_length_le (by omega)]; simp
    refine TL.op (w' := w.setRow g ((l.flatMap f) ++ l'.flatMap f ++ zs.drop (m * sz)).toArray) (fun ρ hρ => ?_) hd (K1 hcm _ (hF.store hL hno (upd_setRow _ _ _) ?_))
    · simp only [execOp, resolve, invoke, builtin, Sem.run_bind, Sem.run_pure, Result.andThen_ok, List.map_toArray, List.map_cons, List.map_nil, hρ x _ hx, hρ y _ hy]
      rw [hr]
      simp only [Result.andThen_ok, Sem.run_pure, hsz]
      rw [e1, e2]
    · unfold Vr at hV ⊢
      rw [setRow_heap w g _ _ e _ hV, List.flatMap_append]
/-- a literal of one value of one cell -/
theorem TL.build1Fr (hF : Fr w0 w L D S) {α : Type} {f : α → Value} (hfc : ∀ u, (f u).cells = #[f u]) {x : Operand} {ty e : TypeId} [hT : USlice P ty e] {z : Value} {b1 : Nat} [hS : USize P e z 1 b1] (hzc : z.cells = #[z]) {u : α} (hx : look σ x = some (f u)) (hd : Nat.blt d N.n = true)
    (K : ∀ w' b, w.heap.size ≤ b → Fr w0 w' L D S → Sm 1 (fun u => [f u]) w'.heap w'.heap.size (some ⟨b, 0, none⟩) 1 1 [u] → Ext w w' → TL P N .seq ops Q rest ((d, .slice (some ⟨b, 0, none⟩) 1 1) :: σ) w') :
    TL P N .seq ops Q (⟨some d, .buildSlice ty 1 #[(0, x)], t, pos, af, none⟩ :: rest) σ w :=
  TL.build1 hfc hzc hx hd fun w' b hb hB hE _ => by
    have hV : Vr w'.heap b e ([u].flatMap (fun u => [f u]) ++ []) := by unfold Bk at hB; unfold Vr; simpa using hB
    exact K w' b (by omega) (hF.exts hE) (vr_sm (by omega) (fun _ _ => rfl) hV rfl (Nat.le_refl _) hV.lt) hE
end
section
variable {S : Nat → Prop} {w0 w w' : World} {L : List VB} {D : List DP} {b : Nat} {t : TypeId} {cs : List Value}
/-- a block that a callee has made -/
theorem Fr.newGe (h : Fr w0 w L D S) (hb : w.heap.size ≤ b) (hV : Vr w'.heap b t cs) (hE : Ext w w') : Fr w0 w' (⟨b, t, cs⟩ :: L) D S := by
  have h1 := h.exts hE
  refine ⟨h1.exs, fun v hv => ?_, List.pairwise_cons.2 ⟨fun v hv e => ?_, h.dist⟩, h1.data, fun v hv d hd => ?_⟩
  · rcases List.mem_cons.1 hv with rfl | hv
    · exact ⟨.inl (Nat.le_trans h.exs.size hb), hV⟩
    · exact h1.vars v hv
  · have := (h.vars v hv).2.lt
    simp only at e
    omega
  · rcases List.mem_cons.1 hv with rfl | hv
    · intro hk
      have := d.lt _ _ (h.data d hd) hk
      simp only at this
      omega
    · exact h.apart v hv d hd
end
section
variable {P : Program} {n : Nat} {σ : Store} {w : World} {fn : Func} {R : Ending → World → Prop}
theorem Held.cx {ty : TypeId} {b B : Nat} {e : TypeId} {cs : List Value} [hA : UAgg P ty] {z : Value} {sz b1 : Nat} [hS : USize P ty z sz b1] {w' : World} (hV : Vr w.heap b e cs) (hl : Nat.beq cs.length sz = true) (hc : Cx B w w') : Held P ty w' b (.agg cs.toArray) :=
  held_agg (e := e) (by unfold Vr at hV ⊢; exact (hc.cells _ _ hV rfl).trans hV) hl
end
class UFunc (P : Program) (t : TypeId) : Prop where
  out : ∃ a b c, P.underlying t = some (.func a b c)
section
variable {P : Program} {σ : Store} {H : Array Obj} {d : Option Tmp} {t : TypeId} {pos : String} {af : Array Edge} {gd : Option (Nat × Bool)}
end
end Go.Eng

namespace Go.Eng
open Go Go.RowKit

theorem put_mid (a b z : List Value) (h : b.length ≤ z.length) : putV (a ++ z) a.length b = a ++ b ++ z.drop b.length := by
  apply List.ext_getElem?
  intro j
  rw [putV_get]
  simp only [List.length_append, List.append_assoc]
  rcases Nat.lt_or_ge j a.length with h1 | h1
  · rw [if_neg (by omega), List.getElem?_append_left h1, List.getElem?_append_left h1]
  · rw [List.getElem?_append_right h1, List.getElem?_append_right h1]
    rcases Nat.lt_or_ge (j - a.length) b.length with h2 | h2
    · rw [if_pos (by omega), List.getElem?_append_left h2]
    · rw [if_neg (by omega), List.getElem?_append_right h2, List.getElem?_drop]
      congr 1
      omega
theorem fill_all {α : Type} {f : α → List Value} {sz : Nat} : ∀ (us : List α) (i : Nat) (pre rest : List Value), (∀ u ∈ us, (f u).length = sz) → pre.length = i * sz → rest.length = us.length * sz →
    Instr.fill (fun j => some (j * sz, sz)) (pre ++ rest).toArray ((us.zipIdx i).map fun p => (p.2, Value.agg (f p.1).toArray)) = some (pre ++ us.flatMap f).toArray
  | [], i, pre, rest, _, _, hr => by
    have : rest = [] := List.eq_nil_of_length_eq_zero (by simpa using hr)
    subst this
    simp [Instr.fill]
  | u :: us, i, pre, rest, hw, hp, hr => by
    have hu := hw u (List.mem_cons_self ..)
    rw [List.length_cons, Nat.add_mul, Nat.one_mul] at hr
    have p1 : Array.foldl (fun (cs : Array Value) (p : Value × Nat) => cs.setIfInBounds (i * sz + p.2) p.1) (pre ++ rest).toArray (f u).toArray.zipIdx = (pre ++ f u ++ rest.drop sz).toArray := by
      apply Array.ext'
      have := foldl_put (f u) 0 (i * sz) (pre ++ rest).toArray
      rw [← Array.foldl_toList, Array.toList_zipIdx]
      simp only [Nat.add_zero] at this
      rw [this, ← hp]
      simp only [List.toList_toArray]
      rw [put_mid _ _ _ (by omega), hu]
    have e3 : (decide ((Value.agg (f u).toArray).cells.size ≠ sz) || decide (i * sz + (Value.agg (f u).toArray).cells.size > (pre ++ rest).toArray.size)) = false := by
      simp [Value.cells, hu]; omega
    rw [List.zipIdx_cons, List.map_cons]
    unfold Instr.fill
    simp only [e3]
    rw [show (Value.agg (f u).toArray).cells = (f u).toArray from rfl, p1]
    have ih := fill_all us (i + 1) (pre ++ f u) (rest.drop sz) (fun v hv => hw v (List.mem_cons_of_mem _ hv)) (by rw [List.length_append, hp, hu, Nat.add_mul, Nat.one_mul]) (by rw [List.length_drop]; omega)
    simp only [List.append_assoc, List.flatMap_cons] at ih ⊢
    simpa using ih
theorem rep_zeros {z : List Value} {sz : Nat} (hz : z.length = sz) (hpos : 0 < sz) (n : Nat) : ((Array.range (n * sz)).map (fun q => z.toArray[q % z.toArray.size]!)) = ((List.replicate n z).flatMap id).toArray := by
  have hf := made_flat (f := fun _ : Unit => z) (u := ()) (c := n) hpos rfl hz
  unfold madeCells at hf
  apply Array.ext'
  rw [hf]
  simp only [List.flatMap, List.map_replicate, id]
section
variable {P : Program} {N : Fm} {Q : Exit → Act → World → Prop} {σ : Store} {S : Nat → Prop} {w0 w : World} {L : List VB} {D : List DP} {ops : Array Oper} {d : Nat} {t : TypeId} {pos : String} {af : Array Edge} {rest : List Oper}
/-- a literal of structs -/
theorem TL.buildXs (hF : Fr w0 w L D S) {α : Type} {f : α → List Value} (us : List α) (xs : List Operand) {ty e : TypeId} [hT : USlice P ty e] {z : List Value} {sz b1 : Nat} [hS : USize P e (.agg z.toArray) sz b1] {n : Nat} {parts : Array (Nat × Operand)} (hp : parts = (xs.zipIdx.map fun p => (p.2, p.1)).toArray) (hn : us.length = n) (hx : looks σ xs = some (us.map fun u => Value.agg (f u).toArray)) (hd : Nat.blt d N.n = true)
    (hw : ∀ u ∈ us, (f u).length = sz) (hzl : Nat.beq z.length sz = true) (h0 : Nat.blt 0 sz = true) (hn0 : 0 < n) (hm : n * sz ≤ 1000000)
    (K : ∀ w' b, Fr w0 w' L D S → Ext w w' → w.heap.size ≤ b → Sm sz f w'.heap w'.heap.size (some ⟨b, 0, none⟩) n n us → TL P N .seq ops Q rest ((d, .slice (some ⟨b, 0, none⟩) n n) :: σ) w') :
    TL P N .seq ops Q (⟨some d, .buildSlice ty n parts, t, pos, af, none⟩ :: rest) σ w := by
  subst hp hn
  obtain ⟨i, hi, hz0, hsz, hby⟩ := hS.info
  have hzlen := Nat.eq_of_beq_eq_true hzl
  have hpos : 0 < sz := by simpa [Nat.blt_eq] using h0
  have hfl : ((List.replicate us.length z).flatMap id).length = us.length * sz := by rw [flatMap_len (k := sz) (fun x hx => by rw [(List.mem_replicate.1 hx).2]; exact hzlen)]; simp
  have hn1 : 0 < us.length * sz := Nat.mul_pos hn0 hpos
  have hfill : Instr.fill (fun j => some (j * i.size, i.size)) ((Array.range (us.length * i.size)).map (fun q => z.toArray[q % z.toArray.size]!)) (us.zipIdx.map fun p => (p.2, Value.agg (f p.1).toArray)) = some (us.flatMap f).toArray := by
    rw [hsz, rep_zeros hzlen hpos]
    have := fill_all us 0 [] ((List.replicate us.length z).flatMap id) hw (by simp) hfl
    simpa using this
  have hrun : (Instr.buildSlice ty us.length (us.zipIdx.map fun p => (p.2, Value.agg (f p.1).toArray)).toArray).run P w = .ok (.slice (some ⟨w.heap.size, 0, none⟩) us.length us.length) (w.alloc (.cells (us.flatMap f).toArray e)) := by
    refine run_buildSlice w ty e us.length _ (us.flatMap f).toArray i (.agg z.toArray) hT.out hi hz0 (by rw [hsz]; omega) (by rw [hsz]; omega) ?_
    simp only [Value.cells]
    exact hfill
  have hE := ext_alloc w (.cells (us.flatMap f).toArray e)
  have hV : Vr (w.alloc (.cells (us.flatMap f).toArray e)).heap w.heap.size e (us.flatMap f ++ []) := by unfold Vr; rw [heap_alloc]; simp
  refine TL.op (w' := w.alloc (.cells (us.flatMap f).toArray e)) (fun ρ hρ => ?_) hd (K _ _ (hF.exts hE) hE (Nat.le_refl _) (vr_sm hpos hw hV rfl (Nat.le_refl _) hV.lt))
  have h1 := hρ.list _ _ hx
  have h2 : ((xs.zipIdx.map fun p => (p.2, p.1)).toArray.map fun (p : Nat × Operand) => (p.1, ρ p.2)) = (us.zipIdx.map fun p => (p.2, Value.agg (f p.1).toArray)).toArray := by
    rw [List.map_toArray, List.map_map]
    congr 1
    have e1 : ∀ (ys : List Operand) (k : Nat), (ys.zipIdx k).map ((fun (p : Nat × Operand) => (p.1, ρ p.2)) ∘ fun p => (p.2, p.1)) = ((ys.map ρ).zipIdx k).map fun p => (p.2, p.1) := by
      intro ys
      induction ys with
      | nil => intro k; rfl
      | cons y ys ih => intro k; simp [List.zipIdx_cons]; exact ih (k + 1)
    have e2 : ∀ (vs : List α) (k : Nat), ((vs.map fun u => Value.agg (f u).toArray).zipIdx k).map (fun p => (p.2, p.1)) = (vs.zipIdx k).map fun p => (p.2, Value.agg (f p.1).toArray) := by
      intro vs
      induction vs with
      | nil => intro k; rfl
      | cons y ys ih => intro k; simp [List.zipIdx_cons]; exact ih (k + 1)
    rw [e1, h1, e2]
  simp only [execOp]
  rw [h2]
  simp [hrun]
end
/-- code that is not this region -/
def notReg (id : Nat) : Code → Bool
  | .region i _ _ => !(Nat.beq i id)
  | _ => true
theorem T.seqN {P : Program} {N : Fm} {Q : Exit → Act → World → Prop} {σ : Store} {w : World} {x y : Code} (id : Nat) (hn : notReg id x = true) (h : T P N x (Exit.then (y.wp P Q) Q) σ w) : T P N (x.seq y) Q σ w := T.seq h
theorem TI.seqN {P : Program} {R : Option Nat} {N : Fm} {Q : Exit → Act → World → Prop} {σ : Store} {w : World} {x y : Code} (id : Nat) (hn : notReg id x = true) (h : TI P R N x (Exit.then (Kc P R y Q) Q) σ w) : TI P R N (x.seq y) Q σ w := TI.seq h
/-- a list of structs, as a fact -/
def dpSmG {α : Type} (k : Nat) (f : α → List Value) (A : Option Addr) (n c : Nat) (l : List α) : DP := ⟨fun H => Sm k f H H.size A n c l, fpA A n, fun _ _ h hk => h.fp_lt hk, fun _ _ hd h => (Sm.de (fun _ h => h) hd h).size⟩
theorem Fr.smG {S : Nat → Prop} {w0 w : World} {L : List VB} {D : List DP} (h : Fr w0 w L D S) {α : Type} {k : Nat} {f : α → List Value} {A : Option Addr} {n c : Nat} {l : List α} (hm : dpSmG k f A n c l ∈ D) : Sm k f w.heap w.heap.size A n c l := h.data _ hm
theorem Fr.addSmG {S : Nat → Prop} {w0 w w' : World} {L : List VB} {D : List DP} (h : Fr w0 w L D S) (h' : Fr w0 w' L D S) {α : Type} {k : Nat} {f : α → List Value} {b n c : Nat} {l : List α} (hb : w.heap.size ≤ b) (g : Sm k f w'.heap w'.heap.size (some ⟨b, 0, none⟩) n c l) : Fr w0 w' L (dpSmG k f (some ⟨b, 0, none⟩) n c l :: D) S :=
  h'.add _ g fun v hv ⟨_, o, e⟩ => by
    cases e
    have := (h.vars v hv).2.lt
    omega
attribute [irreducible] dpSmG

end Go.Eng

namespace Go.Eng
open Go Go.RowKit

/-- a method by value of a type that is no pointer -/
class UMeth (P : Program) (t : TypeId) (name : String) (f : outParam FuncId) : Prop where
  out : ∀ (v : Value) (w : World), (method (P.types.size + Made.depth) t v name).run P w = .ok (f, v) w
/-- a type that is no interface -/
class UConc (P : Program) (t : TypeId) : Prop where
  out : ∃ d, P.underlying t = some d ∧ (match d with | .interface _ => false | _ => true) = true
section
variable {P : Program} {N : Fm} {Q : Exit → Act → World → Prop} {σ : Store} {S : Nat → Prop} {w0 w : World} {L : List VB} {D : List DP} {ops : Array Oper} {d : Nat} {t : TypeId} {pos : String} {af : Array Edge} {rest : List Oper}
theorem exec_callI {ρ : Operand → Value} {f : FuncId} {x : Operand} {xs : List Operand} {tys : Array TypeId} {vs : List Value} {dd : Option Tmp} {gd : Option (Nat × Bool)} {ti : TypeId} {v : Value} {name : String} (hρ : Agree σ ρ) (hr : look σ x = some (.iface ti v)) (hx : looks σ xs = some vs) (hm : UMeth P ti name f) (hf : IsFn P f) (w : World) :
    (execOp ρ ⟨dd, .call { callee := .invoke x name, args := xs.toArray, argTypes := tys }, t, pos, af, gd⟩).run P w = .ok (.enter f (v :: vs).toArray) w := by
  have e := hρ.list xs vs hx
  have er := hρ x _ hr
  have h1 : (#[Value.iface ti v] ++ vs.toArray).extract 1 (#[Value.iface ti v] ++ vs.toArray).size = vs.toArray := by
    apply Array.ext'
    simp
  have h2 : (#[v] ++ vs.toArray) = (v :: vs).toArray := by apply Array.ext'; simp
  have h3 := run_callFunc_enter (P := P) hf (v :: vs).toArray w
  simp only [execOp, resolve, er, List.map_toArray, e, Sem.run_bind, Sem.run_pure, Result.andThen_ok, invoke]
  simp only [List.append_toArray, List.cons_append, List.nil_append]
  simp [callMethod, hm.out, h3]
/-- a method's call -/
theorem TL.callI {f : FuncId} {x : Operand} {xs : List Operand} {tys : Array TypeId} {vs : List Value} {ti : TypeId} {v : Value} {name : String} [hm : UMeth P ti name f] [hf : IsFn P f] (hr : look σ x = some (.iface ti v)) (hx : looks σ xs = some vs) (hd : Nat.blt d N.n = true)
    (k : Cl P f (v :: vs).toArray w (Back P N ops Q rest d σ)) :
    TL P N .seq ops Q (⟨some d, .call { callee := .invoke x name, args := xs.toArray, argTypes := tys }, t, pos, af, none⟩ :: rest) σ w := by
  unfold TL
  intro a ha
  refine wpList_plain rfl fun K hK => ?_
  unfold Oper.wp
  rw [exec_callI ha.agree hr hx hm hf]
  refine Calls.mono k.out ?_
  intro e w' hb
  unfold Back at hb
  obtain ⟨v, rfl, hk⟩ := hb
  unfold TL at hk
  exact hK _ _ (hk _ (ha.put hd v))
end
section
variable {P : Program} {σ : Store} {H : Array Obj} {d : Option Tmp} {t : TypeId} {pos : String} {af : Array Edge} {gd : Option (Nat × Bool)}
theorem ev_iface {x : Operand} {ty : TypeId} [hC : UConc P ty] {v : Value} (hx : look σ x = some v) : Ev P σ H ⟨d, .makeInterface ty x, t, pos, af, gd⟩ (.iface ty v) := by
  unfold Ev
  intro ρ w hρ _
  obtain ⟨dd, h1, h2⟩ := hC.out
  cases dd <;> simp_all [execOp, hρ x _ hx, Instr.makeInterface, run_underlying h1]
end
theorem TM.is {P : Program} {N : Fm} {l : List Oper} {Q : Exit → Act → World → Prop} {r : List (Nat × Nat)} {σ : Store} {w : World} (h : TM P N l Q r σ w) : TM P N l Q r σ w := h
/-! ### Blocks written by a callee -/
section
variable {S T : Nat → Prop} {w0 w w' : World} {L L1 L2 L1' : List VB} {D : List DP}
theorem SetV.mid {pre post : List VB} {b : Nat} {t : TypeId} {cs r : List Value} : SetV (pre ++ ⟨b, t, cs⟩ :: post) b t cs r (pre ++ ⟨b, t, r⟩ :: post) := by
  induction pre with
  | nil => exact .head
  | cons x pre ih => exact .tail ih
/-- a list of blocks, of which one is set -/
theorem SetV.map {α : Type} {f : α → VB} {l : List α} {i : Nat} {x y : α} {b : Nat} {t : TypeId} {cs r : List Value} {post : List VB} (hi : l[i]? = some x) (hx : f x = ⟨b, t, cs⟩) (hy : f y = ⟨b, t, r⟩) : SetV (l.map f ++ post) b t cs r ((l.set i y).map f ++ post) := by
  obtain ⟨hlt, he⟩ := List.getElem?_eq_some_iff.1 hi
  have e1 : l = l.take i ++ x :: l.drop (i + 1) := by rw [← he, ← List.drop_eq_getElem_cons hlt, List.take_append_drop]
  have e2 : l.set i y = l.take i ++ y :: l.drop (i + 1) := by rw [List.set_eq_take_append_cons_drop, if_pos hlt]
  rw [e2]
  conv => arg 1; rw [e1]
  simp only [List.map_append, List.map_cons, List.append_assoc, List.cons_append]
  rw [hx, hy]
  exact SetV.mid
theorem InV.map {α : Type} {f : α → VB} {l : List α} {i : Nat} {x : α} {b : Nat} {t : TypeId} {cs : List Value} {post : List VB} (hi : l[i]? = some x) (hx : f x = ⟨b, t, cs⟩) : InV (l.map f ++ post) b t cs := (SetV.map (r := cs) (y := x) hi hx hx).inV
end
end Go.Eng

namespace Go.Proofs.Ytdhmhjbmkimplaa
open Go Go.Eng Go.Proofs
instance : UConc Try.prog 63 := ⟨⟨_, Try.underlying63, rfl⟩⟩
theorem meth38 (v : Value) (w : World) : (method (Try.prog.types.size + Made.depth) 63 v "trellis/steps.matrix").run Try.prog w = .ok (38, v) w := by kernel_rfl
instance : UMeth Try.prog 63 "trellis/steps.matrix" 38 := ⟨meth38⟩
instance : UConc Try.prog 97 := ⟨⟨_, Try.underlying97, rfl⟩⟩
theorem meth127 (v : Value) (w : World) : (method (Try.prog.types.size + Made.depth) 97 v "trellis/steps.fits").run Try.prog w = .ok (127, v) w := by kernel_rfl
instance : UMeth Try.prog 97 "trellis/steps.fits" 127 := ⟨meth127⟩
theorem meth128 (v : Value) (w : World) : (method (Try.prog.types.size + Made.depth) 97 v "trellis/steps.on").run Try.prog w = .ok (128, v) w := by kernel_rfl
instance : UMeth Try.prog 97 "trellis/steps.on" 128 := ⟨meth128⟩
theorem meth129 (v : Value) (w : World) : (method (Try.prog.types.size + Made.depth) 97 v "trellis/steps.step").run Try.prog w = .ok (129, v) w := by kernel_rfl
instance : UMeth Try.prog 97 "trellis/steps.step" 129 := ⟨meth129⟩
instance : UConc Try.prog 108 := ⟨⟨_, Try.underlying108, rfl⟩⟩
theorem meth131 (v : Value) (w : World) : (method (Try.prog.types.size + Made.depth) 108 v "trellis/steps.fits").run Try.prog w = .ok (131, v) w := by kernel_rfl
instance : UMeth Try.prog 108 "trellis/steps.fits" 131 := ⟨meth131⟩
theorem meth132 (v : Value) (w : World) : (method (Try.prog.types.size + Made.depth) 108 v "trellis/steps.on").run Try.prog w = .ok (132, v) w := by kernel_rfl
instance : UMeth Try.prog 108 "trellis/steps.on" 132 := ⟨meth132⟩
theorem meth133 (v : Value) (w : World) : (method (Try.prog.types.size + Made.depth) 108 v "trellis/steps.step").run Try.prog w = .ok (133, v) w := by kernel_rfl
instance : UMeth Try.prog 108 "trellis/steps.step" 133 := ⟨meth133⟩
instance : UConc Try.prog 110 := ⟨⟨_, Try.underlying110, rfl⟩⟩
theorem meth134 (v : Value) (w : World) : (method (Try.prog.types.size + Made.depth) 110 v "trellis/steps.fits").run Try.prog w = .ok (134, v) w := by kernel_rfl
instance : UMeth Try.prog 110 "trellis/steps.fits" 134 := ⟨meth134⟩
theorem meth135 (v : Value) (w : World) : (method (Try.prog.types.size + Made.depth) 110 v "trellis/steps.on").run Try.prog w = .ok (135, v) w := by kernel_rfl
instance : UMeth Try.prog 110 "trellis/steps.on" 135 := ⟨meth135⟩
theorem meth136 (v : Value) (w : World) : (method (Try.prog.types.size + Made.depth) 110 v "trellis/steps.step").run Try.prog w = .ok (136, v) w := by kernel_rfl
instance : UMeth Try.prog 110 "trellis/steps.step" 136 := ⟨meth136⟩
instance : UConc Try.prog 112 := ⟨⟨_, Try.underlying112, rfl⟩⟩
theorem meth137 (v : Value) (w : World) : (method (Try.prog.types.size + Made.depth) 112 v "trellis/steps.fits").run Try.prog w = .ok (137, v) w := by kernel_rfl
instance : UMeth Try.prog 112 "trellis/steps.fits" 137 := ⟨meth137⟩
theorem meth138 (v : Value) (w : World) : (method (Try.prog.types.size + Made.depth) 112 v "trellis/steps.on").run Try.prog w = .ok (138, v) w := by kernel_rfl
instance : UMeth Try.prog 112 "trellis/steps.on" 138 := ⟨meth138⟩
theorem meth139 (v : Value) (w : World) : (method (Try.prog.types.size + Made.depth) 112 v "trellis/steps.step").run Try.prog w = .ok (139, v) w := by kernel_rfl
instance : UMeth Try.prog 112 "trellis/steps.step" 139 := ⟨meth139⟩
end Go.Proofs.Ytdhmhjbmkimplaa
