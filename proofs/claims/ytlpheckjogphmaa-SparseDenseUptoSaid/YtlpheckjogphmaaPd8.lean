/- Layer 9: lists of integers in least form: each. Plain laws of naturals as lists of words to the base 65536, the lowest first. No program in sight. Plain arithmetic: trailing zeros, single digits. Words and digits to the base 65536. The document's answers for layer 1: Split, trim, Join, at, Least, order, Cmp. The document's answers for layer 1: at, Least, order, Cmp, Add. The document's answers for layer 5: made, Least, Sign, CmpAbs, Cmp of equal integers. Layer 9: contracts of mat: Turn, Trace; the law's equal. Layer 9: Least, Lines and its iterator. From a law's row to its walk: arguments as the engine has them. What the bound of an Upto statement gives. Layers 1 and 2: contracts of nat.Shl, mulnat.MulLow. Layer 2: contracts of math/bits.Len, mulnat.Pow. Layer 2: contract of mulnat.Product. Arguments as the engine has them, more: slices of slices of words. Arguments as the engine has them, more: slices of structs, of whatever depth. Arguments as the engine has them: integers and matrices. Layer 9: MatTurns (printed by genturns.py). Layer 9: calls at unsound matrices (printed by genmati.py). Layer 9: zint's Sign, Cmp, Sub. The engine: a list of structs appended to a list of structs whose block is known whole; to nothing. The engine: append to lists of any kind in frames; literals of one value; functions as values; returns in memory behind a range over a function. Engine: pointers held against nil; two results in memory. Layer 10: grids; contracts of in, long, put, Get, Set, Len. -/
import Derived.Test.YtlpheckjogphmaaPd7
import Derived.Test.YtlpheckjogphmaaPd4
import Derived.Test.YtlpheckjogphmaaPd6
import Derived.Test.YtlpheckjogphmaaPd5
import Derived.Test.YtlpheckjogphmaaPd3
import Derived.ProofKit
import Derived.OpenShut
import Derived.ChangeOld
import Derived.SizedLaws
import Derived.Test.YtlpheckjogphmaaRows
import Derived.Deep.Slices
set_option linter.unusedVariables false
set_option linter.unusedSimpArgs false
namespace Go.Proofs.Ytlpheckjogphmaa
open Go Go.Eng Go.Proofs Go.NatM Go.RowKit

theorem ivc_noV (l : List IV) : (l.flatMap ivc).all noU64 = true := by
  have := ivc_all l [] rfl
  rwa [List.append_nil] at this
/-- the first i of a list are Z, in least form, of at most K words -/
def LsK (i : Nat) (l : List IV) (Z : Nat → Int) (K : Nat) (H : Array Obj) : Prop := ∀ q, q < i → LI H (Z q) (l.getD q default) ∧ (l.getD q default).m.n ≤ K
def dpLK (i : Nat) (l : List IV) (Z : Nat → Int) (K : Nat) : DP := ⟨LsK i l Z K, fun _ => False, fun _ _ _ h => h.elim, fun _ _ hd h q hq => ⟨(h q hq).1.de hd, (h q hq).2⟩⟩
section
variable {S : Nat → Prop} {w0 w w' : World} {L : List VB} {D : List DP}
theorem Fr.addLK (h : Fr w0 w L D S) {i : Nat} {l : List IV} {Z : Nat → Int} {K : Nat} (k : LsK i l Z K w.heap) : Fr w0 w L (dpLK i l Z K :: D) S := h.add _ k fun _ _ h => h
theorem Fr.lk (h : Fr w0 w L D S) {i : Nat} {l : List IV} {Z : Nat → Int} {K : Nat} (hm : dpLK i l Z K ∈ D) : LsK i l Z K w.heap := h.data _ hm
end
attribute [irreducible] dpLK

theorem LsK.set {H : Array Obj} {l : List IV} {Z : Nat → Int} {i K : Nat} {u : IV} (h : LsK i l Z K H) (hi : i < l.length) (hu : LI H (Z i) u) (hn : u.m.n ≤ K) : LsK (i + 1) (l.set i u) Z K H := by
  intro q hq
  by_cases e : q = i
  · subst e
    have e1 : (l.set q u).getD q default = u := by simp [List.getD, hi]
    rw [e1]; exact ⟨hu, hn⟩
  · have e1 : (l.set i u).getD q default = l.getD q default := by simp [List.getD, List.getElem?_set_ne (fun h => e h.symm)]
    rw [e1]; exact h q (by omega)
/-- a list in memory: the numbers Z in least form, of at most K words each -/
structure LL (H : Array Obj) (A : Option Addr) (n k : Nat) (l : List IV) (Z : Nat → Int) (K : Nat) : Prop where
  s : Sm 2 ivc H H.size A n k l
  g : LsK n l Z K H
theorem LL.ext {w w' : World} {A : Option Addr} {n k K : Nat} {l : List IV} {Z : Nat → Int} (hE : Ext w w') (h : LL w.heap A n k l Z K) : LL w'.heap A n k l Z K := ⟨(h.s.ext hE).size, fun q hq => ⟨(h.g q hq).1.ext hE, (h.g q hq).2⟩⟩
theorem LL.de {H H' : Array Obj} {A : Option Addr} {n k K : Nat} {l : List IV} {Z : Nat → Int} (hd : DE (fpA A n) H H') (h : LL H A n k l Z K) : LL H' A n k l Z K := ⟨Sm.deS (fun _ h => h) hd h.s, fun q hq => ⟨(h.g q hq).1.de hd, (h.g q hq).2⟩⟩
/-- the list lies in a block that is not older than w -/
def LF (w : World) (A : Option Addr) (n : Nat) : Prop := n = 0 ∨ ∃ b, A = some ⟨b, 0, none⟩ ∧ w.heap.size ≤ b
def RetL (w : World) (n : Nat) (Z : Nat → Int) (K : Nat) (e : Ending) (w' : World) : Prop := ∃ A k l, e = .returned (.slice A n k) ∧ LL w'.heap A n k l Z K ∧ Ext w w' ∧ LF w A n

set_option maxRecDepth 100000 in
set_option maxHeartbeats 8000000 in
theorem each_ok (w : World) (A : Option Addr) (n k : Nat) (l : List IV) (hs : Sm 2 ivc w.heap w.heap.size A n k l) (hn : n ≤ 1048576) (g : FuncId) (cap : List Value) (hg : IsFn Try.prog g) (Z : Nat → Int) (K : Nat)
    (hG : ∀ i y (w1 : World), l[i]? = some y → Ext w w1 → Cl Try.prog g ([Value.agg (ivc y).toArray] ++ cap).toArray w1 (RetZ w1 (Z i) K)) :
    Cl Try.prog 76 #[.slice A n k, .func (.func g) #[] cap.toArray] w (RetL w n Z K) := by
  have hlen := hs.len
  refine enter Try.func76 rfl rfl rfl ?_
  have hF := Fr.refl w
  repeat' (first | (refine TL.isOp ?_; first | (apply TL.ev; (case hd => rfl); (case h => (first | exact ev_simple rfl | exact ev_len rfl))) | (refine TL.makeFr hF ivc ⟨false, ⟨none, 0, 0, []⟩⟩ (d := 10) rfl rfl rfl (Nat.le_refl _) (by omega) rfl rfl rfl ?_; clear hF; intro w10 b10 hF)) | (refine T.is ?_; first | refine T.seq ?_ | refine T.region ?_ | refine T.block ?_) | (refine G.is ?_; first | refine G.next ?_) | refine TL.nil ?_)
  refine T.loop (α := Nat × List IV) (fun x => [(1, .func (.func g) #[] cap.toArray), (5, .slice (some ⟨b10, 0, none⟩) n n), (11, .slice A n k), (12, .int .i64 (n : Int)), (13, .int .i64 (x.1 : Int))])
    (fun x w' => x.1 ≤ n ∧ x.2.length = n ∧ Fr w w' [⟨b10, 42, x.2.flatMap ivc⟩] [dpLK x.1 x.2 Z K])
    (fun x => n - x.1) (0, List.replicate n ⟨false, ⟨none, 0, 0, []⟩⟩) (by repeat (first | exact Sub.nil _ | refine Sub.cons rfl ?_ | refine Sub.cons' rfl (int_congr (by omega)) ?_)) ⟨Nat.zero_le _, List.length_replicate .., Fr.addLK hF (fun q hq => absurd hq (Nat.not_lt_zero _))⟩ ?_
  clear hF
  rintro ⟨i, zl⟩ w2 ⟨hi, hzl, hF⟩
  dsimp only at hi hzl hF ⊢
  rcases Nat.lt_or_ge i n with hin | hin
  · have hy : l[i]? = some (l.getD i default) := by simp [List.getD, show i < l.length by omega]
    obtain ⟨⟨yneg, ⟨yA, yn, yc, yl⟩⟩, ey⟩ : ∃ y, l.getD i default = y := ⟨_, rfl⟩
    rw [ey] at hy
    repeat' (first | (refine TL.isOp ?_; first | (refine TL.isBin ?_; refine TL.cmpG rfl rfl rfl rfl (fun hc => ?_) (fun hc => ?_) <;> (try (first | (exfalso; omega) | exact absurd rfl hc))) | (apply TL.ev; (case hd => rfl); (case h => (first | exact ev_simple rfl | (apply Ev.isBin; first | exact ev_arN rfl rfl rfl (by omega)) | (apply Ev.isLoad; first | exact ev_loadAFr hF rfl (by refine ⟨?_, ?_⟩; (focus (repeat (first | exact InV.head | apply InV.tail))); rfl) | exact ev_loadM rfl (hs.ext hF.ext) hy) | exact ev_indexM rfl rfl hin (hs.ext hF.ext).some | exact ev_indexM rfl rfl hin (.inr rfl)))) | (refine TL.storeAFr hF rfl rfl rfl rfl (by refine ⟨?_, ?_⟩; (focus (repeat (first | apply SetV.head | apply SetV.tail))); rfl) rfl ?_; clear hF; intro ws hF) | (refine TL.callV (vs := [.agg (ivc ⟨yneg, ⟨yA, yn, yc, yl⟩⟩).toArray]) (cap := cap) hg rfl rfl rfl ?_; refine (hG i _ _ hy hF.ext).mono ?_; rintro _ wf ⟨x, rfl, hLx, hE, hKx⟩; replace hF := Fr.addLI (hF.exts hE) hLx; clear hE hLx; refine Back.mk ?_) | (refine TL.storeAtFr hF (f := ivc) x rfl rfl rfl rfl (fun _ => rfl) (by rw [hzl]; exact hin) (ivc_noV zl) (by repeat (first | apply SetV.head | apply SetV.tail)) ?_; clear hF; intro ws hF) | (refine TL.allocFr hF rfl rfl ?_; clear hF; intro wa ba hF)) | (refine T.is ?_; first | refine T.seq ?_ | refine T.region ?_ | refine T.block ?_ | refine T.cond_t rfl ?_ | refine T.skip ?_) | (refine G.is ?_; first | refine G.next ?_ | refine G.blockN ?_) | refine TL.nil ?_)
    have hk := (Fr.lk hF (i := i) (l := zl) (by repeat (first | exact memH | apply memT))).set (by omega) (Fr.li hF (x := x) (by repeat (first | exact memH | apply memT))) hKx
    exact G.again (i + 1, zl.set i x) (by repeat (first | exact Sub.nil _ | refine Sub.cons rfl ?_ | refine Sub.cons' rfl (int_congr (by omega)) ?_)) ⟨by dsimp only; omega, by rw [List.length_set]; exact hzl, Fr.addLK (hF.weak (L := [⟨b10, 42, (zl.set i x).flatMap ivc⟩]) (D := []) (List.Sublist.cons _ (List.Sublist.refl _)) allN) hk⟩ (by dsimp only; omega)
  · obtain rfl : i = n := by omega
    repeat' (first | (refine TL.isOp ?_; first | (refine TL.isBin ?_; refine TL.cmpG rfl rfl rfl rfl (fun hc => ?_) (fun hc => ?_) <;> (try (first | (exfalso; omega) | exact absurd rfl hc))) | (apply TL.ev; (case hd => rfl); (case h => (first | exact ev_simple rfl)))) | (refine T.is ?_; first | refine T.seq ?_ | refine T.region ?_ | refine T.cond_f rfl ?_ | refine T.exit ?_ | refine T.ret ?_) | (refine G.is ?_; first | refine G.next ?_ | refine G.blockE ?_ | refine G.thenE ?_) | refine TL.nil ?_)
    refine G.ret1 rfl rfl ⟨_, _, zl, rfl, ⟨vr_sm (zs := []) (by omega) (fun _ _ => rfl) (by rw [List.append_nil]; exact hF.var .head) hzl (Nat.le_refl _) (hF.var .head).lt, Fr.lk hF (by repeat (first | exact memH | apply memT))⟩, hF.ext, .inr ⟨b10, rfl, ?_⟩⟩
    rcases hF.lo .head with h | h
    · exact h
    · exact h.elim
end Go.Proofs.Ytlpheckjogphmaa

namespace Go.N16

def U64 (l : List Nat) : Prop := ∀ x ∈ l, x < 65536
def val : List Nat → Nat
  | [] => 0
  | x :: l => x + 65536 * val l
/-- how many words up to the highest that is not 0 -/
def sz : List Nat → Nat
  | [] => 0
  | x :: l => if sz l = 0 ∧ x = 0 then 0 else sz l + 1
/-- the words of a number, without zeros at the high end -/
def dig (n : Nat) : List Nat := if h : n = 0 then [] else (n % 65536) :: dig (n / 65536)
termination_by n
decreasing_by exact Nat.div_lt_self (by omega) (by omega)

theorem U64.nil : U64 [] := fun x h => by cases h
theorem U64.cons {x : Nat} {l : List Nat} (h : x < 65536) (hl : U64 l) : U64 (x :: l) := fun y hy => by
  rcases List.mem_cons.1 hy with rfl | hy
  · exact h
  · exact hl y hy
theorem U64.head {x : Nat} {l : List Nat} (h : U64 (x :: l)) : x < 65536 := h x (by simp)
theorem U64.tail {x : Nat} {l : List Nat} (h : U64 (x :: l)) : U64 l := fun y hy => h y (by simp [hy])
theorem U64.append {l r : List Nat} (h : U64 l) (k : U64 r) : U64 (l ++ r) := fun y hy => (List.mem_append.1 hy).elim (h y) (k y)
theorem U64.take {l : List Nat} (h : U64 l) (n : Nat) : U64 (l.take n) := fun y hy => h y (List.mem_of_mem_take hy)
theorem U64.drop {l : List Nat} (h : U64 l) (n : Nat) : U64 (l.drop n) := fun y hy => h y (List.mem_of_mem_drop hy)
theorem U64.replicate (n : Nat) : U64 (List.replicate n 0) := fun y hy => by rw [(List.mem_replicate.1 hy).2]; omega
theorem U64.one {x : Nat} (h : x < 65536) : U64 [x] := U64.cons h U64.nil
theorem U64.getD {l : List Nat} (h : U64 l) (k : Nat) : l.getD k 0 < 65536 := by
  rcases Nat.lt_or_ge k l.length with hk | hk
  · have : l.getD k 0 = l[k] := by simp [List.getD, hk]
    rw [this]; exact h _ (List.getElem_mem hk)
  · simp [List.getD, List.getElem?_eq_none hk]
theorem U64.set {l : List Nat} (h : U64 l) (k x : Nat) (hx : x < 65536) : U64 (l.set k x) := fun y hy => by
  rcases List.mem_or_eq_of_mem_set hy with hy | rfl
  · exact h y hy
  · exact hx

theorem getD_ge {l : List Nat} {j : Nat} (h : l.length ≤ j) : l.getD j 0 = 0 := by simp [List.getD, List.getElem?_eq_none h]
theorem sz_le (l : List Nat) : sz l ≤ l.length := by
  induction l with
  | nil => simp [sz]
  | cons x l ih => simp only [sz, List.length_cons]; split <;> omega
theorem sz_eq (l : List Nat) (n : Nat) (h1 : n ≤ l.length) (h2 : ∀ j, n ≤ j → l.getD j 0 = 0) (h3 : n = 0 ∨ l.getD (n - 1) 0 ≠ 0) : sz l = n := by
  induction l generalizing n with
  | nil => simp at h1; simp [sz, h1]
  | cons x l ih =>
    rcases n with _ | n
    · have hx : x = 0 := by simpa using h2 0 (by omega)
      have : sz l = 0 := ih 0 (by omega) (fun j _ => by simpa using h2 (j + 1) (by omega)) (.inl rfl)
      simp [sz, this, hx]
    · have hl : sz l = n := by
        refine ih n (by simpa using h1) (fun j hj => by simpa using h2 (j + 1) (by omega)) ?_
        rcases n with _ | n
        · exact .inl rfl
        · right; simpa using h3.resolve_left (by omega)
      simp only [sz]
      rw [if_neg]
      · omega
      · rintro ⟨h0, hx⟩
        have : n = 0 := by omega
        subst this
        simp [hx] at h3
theorem sz_top (l : List Nat) : sz l = 0 ∨ l.getD (sz l - 1) 0 ≠ 0 := by
  induction l with
  | nil => simp [sz]
  | cons x l ih =>
    simp only [sz]
    split
    · exact .inl rfl
    · rename_i h
      right
      rcases Nat.eq_zero_or_pos (sz l) with h0 | h0
      · have hx : x ≠ 0 := fun hx => h ⟨h0, hx⟩
        simp [h0, hx]
      · rcases ih with h1 | h1
        · omega
        · rw [show sz l + 1 - 1 = (sz l - 1) + 1 by omega]; simpa using h1
theorem sz_zero (l : List Nat) (j : Nat) (h : sz l ≤ j) : l.getD j 0 = 0 := by
  induction l generalizing j with
  | nil => simp
  | cons x l ih =>
    simp only [sz] at h
    split at h
    · rename_i h0
      rcases j with _ | j
      · simpa using h0.2
      · simpa using ih j (by omega)
    · rcases j with _ | j
      · omega
      · simpa using ih j (by omega)

theorem val_append (l r : List Nat) : val (l ++ r) = val l + 65536 ^ l.length * val r := by
  induction l with
  | nil => simp [val]
  | cons x l ih => simp only [List.cons_append, val, ih, List.length_cons, Nat.pow_succ, Nat.mul_add, Nat.add_assoc]; congr 2; rw [← Nat.mul_assoc, Nat.mul_comm 65536]
theorem val_one (x : Nat) : val [x] = x := by simp [val]
theorem val_snoc (l : List Nat) (x : Nat) : val (l ++ [x]) = val l + 65536 ^ l.length * x := by rw [val_append, val_one]
theorem val_zeros (n : Nat) : val (List.replicate n 0) = 0 := by
  induction n with
  | zero => rfl
  | succ n ih => simp [List.replicate_succ, val, ih]
theorem val_take_succ (l : List Nat) (i : Nat) : val (l.take (i + 1)) = val (l.take i) + 65536 ^ i * l.getD i 0 := by
  rcases Nat.lt_or_ge i l.length with h | h
  · rw [List.take_succ_eq_append_getElem h, val_snoc]
    simp [List.getD, h, Nat.min_eq_left (Nat.le_of_lt h)]
  · rw [List.take_of_length_le h, List.take_of_length_le (by omega), getD_ge h]; simp
theorem val_lt {l : List Nat} (h : U64 l) : val l < 65536 ^ l.length := by
  induction l with
  | nil => simp [val]
  | cons x l ih =>
    have h1 := ih h.tail
    have h2 := h.head
    simp only [val, List.length_cons, Nat.pow_succ]
    have h3 : val l + 1 ≤ 65536 ^ l.length := h1
    have h4 := Nat.mul_le_mul_left 65536 h3
    rw [Nat.mul_comm (65536 ^ l.length)]
    omega
theorem val_sz (l : List Nat) : val (l.take (sz l)) = val l := by
  induction l with
  | nil => rfl
  | cons x l ih =>
    simp only [sz]
    split
    · rename_i h
      rw [h.1] at ih
      simp only [List.take_zero, val] at ih ⊢
      rw [← ih, h.2]
    · simp only [List.take_succ_cons, val, ih]
theorem val_take_ge (l : List Nat) (k : Nat) (h : sz l ≤ k) : val (l.take k) = val l := by
  have e : l = l.take k ++ l.drop k := (List.take_append_drop k l).symm
  have h0 : val (l.drop k) = 0 := by
    have : l.drop k = List.replicate (l.drop k).length 0 := by
      apply List.ext_getElem
      · simp
      · intro i h1 h2
        have hz := sz_zero l (k + i) (by omega)
        simp only [List.getElem_drop, List.getElem_replicate]
        rw [List.length_drop] at h1
        have hki : k + i < l.length := by omega
        have : l.getD (k + i) 0 = l[k + i] := by simp [List.getD, hki]
        omega
    rw [this, val_zeros]
  conv => rhs; rw [e, val_append, h0]
  simp

theorem dig_zero : dig 0 = [] := by rw [dig]; simp
theorem dig_pos {n : Nat} (h : n ≠ 0) : dig n = (n % 65536) :: dig (n / 65536) := by rw [dig]; simp [h]
theorem val_dig (n : Nat) : val (dig n) = n := by
  induction n using Nat.strongRecOn with
  | _ n ih =>
    rcases Nat.eq_zero_or_pos n with rfl | h
    · rw [dig_zero]; rfl
    · rw [dig_pos (by omega), val, ih _ (Nat.div_lt_self h (by omega))]; omega
theorem U64_dig (n : Nat) : U64 (dig n) := by
  induction n using Nat.strongRecOn with
  | _ n ih =>
    rcases Nat.eq_zero_or_pos n with rfl | h
    · rw [dig_zero]; exact U64.nil
    · rw [dig_pos (by omega)]; exact U64.cons (Nat.mod_lt _ (by omega)) (ih _ (Nat.div_lt_self h (by omega)))
/-- the words up to the highest that is not 0 are the digits of the number -/
theorem take_sz {l : List Nat} (h : U64 l) : l.take (sz l) = dig (val l) := by
  induction l with
  | nil => simp [sz, val, dig_zero]
  | cons x l ih =>
    have hx := h.head
    have ih' := ih h.tail
    simp only [sz, val]
    split
    · rename_i h0
      rw [h0.1] at ih'
      have hv : val l = 0 := by rw [← val_sz l, h0.1]; rfl
      rw [h0.2, hv]; simp [dig_zero]
    · rename_i h0
      have hne : x + 65536 * val l ≠ 0 := by
        intro he
        have hx0 : x = 0 := by omega
        have hv : val l = 0 := by omega
        apply h0
        refine ⟨?_, hx0⟩
        rcases sz_top l with h1 | h1
        · exact h1
        · rw [hv, dig_zero] at ih'
          have := congrArg List.length ih'
          rw [List.length_take, List.length_nil] at this
          have := sz_le l
          omega
      rw [dig_pos hne, List.take_succ_cons, ih']
      congr 1
      · omega
      · congr 1; omega
theorem dig_length {l : List Nat} (h : U64 l) : (dig (val l)).length = sz l := by rw [← take_sz h, List.length_take]; have := sz_le l; omega
theorem dig_length_le {n k : Nat} (h : n < 65536 ^ k) : (dig n).length ≤ k := by
  induction k generalizing n with
  | zero => have : n = 0 := by simpa using h
            rw [this, dig_zero]; simp
  | succ k ih =>
    rcases Nat.eq_zero_or_pos n with rfl | h0
    · rw [dig_zero]; simp
    · rw [dig_pos (by omega), List.length_cons]
      have := ih (n := n / 65536) (by rw [Nat.div_lt_iff_lt_mul (by omega)]; rw [Nat.pow_succ] at h; exact h)
      omega
/-- a list of so many words more is not below -/
theorem pow_le_val {l : List Nat} (h : sz l ≠ 0) : 65536 ^ (sz l - 1) ≤ val l := by
  rw [← val_sz l]
  obtain ⟨k, hk⟩ : ∃ k, sz l = k + 1 := ⟨sz l - 1, by omega⟩
  have ht := (sz_top l).resolve_left h
  rw [hk, val_take_succ]
  rw [hk] at ht
  simp only [Nat.add_sub_cancel] at ht ⊢
  have : 65536 ^ k * 1 ≤ 65536 ^ k * l.getD k 0 := Nat.mul_le_mul_left _ (by omega)
  omega
theorem val_lt_sz {l : List Nat} (h : U64 l) : val l < 65536 ^ sz l := by
  have := val_lt (h.take (sz l))
  rw [val_sz, List.length_take, Nat.min_eq_left (sz_le l)] at this
  exact this
theorem lt_of_sz_lt {l r : List Nat} (hl : U64 l) (h : sz l < sz r) : val l < val r :=
  Nat.lt_of_lt_of_le (val_lt_sz hl) (Nat.le_trans (Nat.pow_le_pow_right (by omega) (by omega)) (pow_le_val (by omega)))
/-- a new word behind what is done, before zeros -/
theorem set_zeros (D : List Nat) (r x : Nat) : (D ++ List.replicate (r + 1) 0).set D.length x = (D ++ [x]) ++ List.replicate r 0 := by
  rw [List.set_append_right _ _ (Nat.le_refl _), Nat.sub_self, List.replicate_succ, List.set_cons_zero, List.append_assoc]; rfl
theorem val_ext {a b : List Nat} (h : ∀ j, a.getD j 0 = b.getD j 0) : val a = val b := by
  induction a generalizing b with
  | nil =>
    induction b with
    | nil => rfl
    | cons y b ih =>
      have h0 := h 0
      have := ih fun j => by simpa using h (j + 1)
      simp at h0
      simp [val, ← h0, ← this]
  | cons x a ih =>
    cases b with
    | nil =>
      have h0 := h 0
      have := ih (b := []) fun j => by simpa using h (j + 1)
      simp at h0
      simp [val, h0, this]
    | cons y b =>
      have h0 := h 0
      have := ih (b := b) fun j => by simpa using h (j + 1)
      simp at h0
      simp [val, h0, this]
theorem getD_drop (l : List Nat) (k j : Nat) : (l.drop k).getD j 0 = l.getD (k + j) 0 := by simp [List.getD, List.getElem?_drop]
theorem val_split (l : List Nat) (k : Nat) : val l = val (l.take k) + 65536 ^ k * val (l.drop k) := by
  induction k generalizing l with
  | zero => simp [val]
  | succ k ih =>
    cases l with
    | nil => simp [val]
    | cons x l =>
      have := ih l
      simp only [List.take_succ_cons, List.drop_succ_cons, val, this, Nat.pow_succ]
      rw [Nat.mul_add, Nat.add_assoc, Nat.mul_comm (65536 ^ k) 65536, Nat.mul_assoc]
theorem val_drop (l : List Nat) (k : Nat) : val (l.drop k) = l.getD k 0 + 65536 * val (l.drop (k + 1)) := by
  rcases Nat.lt_or_ge k l.length with h | h
  · rw [List.drop_eq_getElem_cons h, val]; simp [List.getD, h]
  · rw [List.drop_of_length_le h, List.drop_of_length_le (by omega), getD_ge h]; rfl
theorem U64.take_lt {l : List Nat} (h : U64 l) (k : Nat) : val (l.take k) < 65536 ^ k :=
  Nat.lt_of_lt_of_le (val_lt (h.take k)) (Nat.pow_le_pow_right (by omega) (by rw [List.length_take]; omega))
/-- the highest place at which two lists differ decides -/
theorem val_lt_of {a b : List Nat} (ha : U64 a) (k : Nat) (h1 : ∀ j, k < j → a.getD j 0 = b.getD j 0) (h2 : a.getD k 0 < b.getD k 0) : val a < val b := by
  have e : val (a.drop (k + 1)) = val (b.drop (k + 1)) := val_ext fun j => by rw [getD_drop, getD_drop]; exact h1 _ (by omega)
  have l1 := ha.take_lt k
  rw [val_split a k, val_split b k, val_drop a k, val_drop b k, e]
  generalize val (b.drop (k + 1)) = q
  generalize 65536 ^ k = p at l1 ⊢
  have : p * (a.getD k 0 + 65536 * q) + p ≤ p * (b.getD k 0 + 65536 * q) := by
    rw [← Nat.mul_succ]
    exact Nat.mul_le_mul_left _ (by omega)
  omega
def cmp3 (m n : Nat) : Int := if m < n then -1 else if n < m then 1 else 0
theorem add_step {p vD va vb s c' x y c : Nat} (h : vD + p * c = va + vb) (e : s + 65536 * c' = x + y + c) :
    vD + p * s + p * 65536 * c' = (va + p * x) + (vb + p * y) := by
  have e1 : p * (s + 65536 * c') = p * (x + y + c) := by rw [e]
  rw [Nat.mul_add, Nat.mul_add, Nat.mul_add, ← Nat.mul_assoc] at e1
  omega
theorem sub_step {p vD va vb s c' x y c : Nat} (h : vD + vb = va + p * c) (e : s + y + c = x + 65536 * c') :
    (vD + p * s) + (vb + p * y) = (va + p * x) + p * 65536 * c' := by
  have e1 : p * (s + y + c) = p * (x + 65536 * c') := by rw [e]
  rw [Nat.mul_add, Nat.mul_add, Nat.mul_add, ← Nat.mul_assoc] at e1
  omega
end Go.N16

namespace Go.NatM

end Go.NatM

namespace Go.NatM
open Go

end Go.NatM

namespace Go.Proofs.Ytlpheckjogphmaa
open Go Go.Eng Go.Proofs Go.NatM Go.RowKit

/-- a new list of small digits, of at most K -/
def RetI (w : World) (L : List Nat) (K : Nat) (e : Ending) (w' : World) : Prop := ∃ A n c, e = .returned (.slice A n c) ∧ Ow n64v w'.heap w.heap.size 3 A n c L ∧ Ext w w' ∧ n ≤ K
theorem RetI.mk {w w' : World} {L : List Nat} {A : Option Addr} {n c K : Nat} (h : Ow n64v w'.heap w.heap.size 3 A n c L) (he : Ext w w') (hk : n ≤ K) : RetI w L K (.returned (.slice A n c)) w' := ⟨A, n, c, rfl, h, he, hk⟩

end Go.Proofs.Ytlpheckjogphmaa

namespace Go.Proofs.Ytlpheckjogphmaa
open Go Go.Eng Go.Proofs Go.NatM Go.RowKit

end Go.Proofs.Ytlpheckjogphmaa

namespace Go.Proofs.Ytlpheckjogphmaa
open Go Go.Eng Go.Proofs Go.NatM Go.RowKit

/-- the sign of an integer -/
def sig (z : Int) : Int := if z < 0 then -1 else if z = 0 then 0 else 1
end Go.Proofs.Ytlpheckjogphmaa

namespace Go.Proofs.Ytlpheckjogphmaa
open Go Go.Eng Go.Proofs Go.NatM Go.RowKit

end Go.Proofs.Ytlpheckjogphmaa

namespace Go.Proofs.Ytlpheckjogphmaa
open Go Go.Eng Go.Proofs Go.NatM Go.RowKit

theorem least_each (w : World) (l : List IV) (K : Nat) (hg : ∀ y ∈ l, GI w.heap y ∧ y.m.n ≤ K) (hK : K ≤ 35184372088832) :
    ∀ i y (w1 : World), l[i]? = some y → Ext w w1 → Cl Try.prog 50 ([Value.agg (ivc y).toArray] ++ []).toArray w1 (RetZ w1 ((fun q => ival (l.getD q default)) i) K) := by
  intro i y w1 hy hE
  obtain ⟨g1, g2⟩ := hg y (List.mem_of_getElem? hy)
  refine (zleast_ok w1 y (g1.ext hE) (by omega)).mono ?_
  rintro e w' ⟨x, rfl, h1, h2, h3⟩
  refine ⟨x, rfl, ?_, h2, by omega⟩
  have e1 : l.getD i default = y := by simp [List.getD, hy]
  simp only [e1]
  exact h1
theorem LL.lm {H : Array Obj} {x : MV} {r c K k : Nat} {A : Option Addr} {l : List IV} (sh : Sound x r c) (h : LL H A (r * c) k l (fun q => ival (x.l.getD q default)) K) : LM H ⟨r, c, A, r * c, k, l⟩ r c (ent x c) K :=
  ⟨⟨rfl, rfl, sh.r64, sh.c64, rfl⟩, h.s, fun i j hi hj => h.g (i * c + j) (place_lt hi hj)⟩
theorem LF.mf {w : World} {A : Option Addr} {r c k : Nat} {l : List IV} {n : Nat} (h : LF w A n) : MF w ⟨r, c, A, n, k, l⟩ := h
set_option maxRecDepth 100000 in
set_option maxHeartbeats 8000000 in
theorem mleast_ok (w : World) (x : MV) (r c K : Nat) (gx : GM w.heap x r c K) (hK : K ≤ 35184372088832) : Cl Try.prog 43 #[.agg (mvc x).toArray] w (RetME w r c (ent x c) K) := by
  have hs0 := gx.sh
  obtain ⟨xr, xc, A1, n1, k1, l1⟩ := x
  obtain ⟨hr1, hc1, hr, hc, hn1⟩ := hs0
  dsimp only at hr1 hc1 hn1
  subst hr1 hc1 hn1
  have hm := mul64 hr hc
  refine enter Try.func43 rfl rfl rfl ?_
  have hF := Fr.refl w
  repeat' (first | (refine TL.isOp ?_; first | (refine TL.isCall ?_; refine TL.call rfl rfl ?_; first | (refine (chk_ok _ _ r c gx.sh).mono ?_; rintro _ wy ⟨rfl, hE⟩; replace hF := hF.exts hE; clear hE; refine Back.mk ?_) | (refine (each_ok _ A1 (r * c) k1 l1 (gx.s.ext hF.ext).size (by omega) 50 [] inferInstance _ K (least_each _ l1 K (fun y hy => ⟨(gx.g y hy).1.ext hF.ext, (gx.g y hy).2⟩) hK)).mono ?_; rintro _ wl ⟨Al, kl, ll, rfl, hL, hE, hf⟩; have hLm := LL.lm gx.sh hL; have hMf := LF.mf (r := r) (c := c) (k := kl) (l := ll) hf; replace hMf := hMf.mono hF.ext.size; replace hF := Fr.addLM hF hE hLm (LF.mf hf); clear hE hf hL hLm; refine Back.mk ?_)) | (refine TL.isBin ?_; refine TL.cmpG rfl rfl rfl rfl (fun hc => ?_) (fun hc => ?_) <;> (try (first | (exfalso; omega) | exact absurd rfl hc))) | (apply TL.ev; (case hd => rfl); (case h => (first | exact ev_simple rfl | (apply Ev.isLoad; first | exact ev_loadAFr hF rfl (by refine ⟨?_, ?_⟩; (focus (repeat (first | exact InV.head | apply InV.tail))); rfl))))) | (refine TL.storeAFr hF rfl rfl rfl rfl (by refine ⟨?_, ?_⟩; (focus (repeat (first | apply SetV.head | apply SetV.tail))); rfl) rfl ?_; clear hF; intro ws hF) | (refine TL.boxAFr hF (d := 1) (cs := [.int .i64 (r : Int), .int .i64 (c : Int), .slice A1 (r * c) k1]) rfl rfl ?_; clear hF; intro w1 b1 hF) | (refine TL.allocFr hF (d := 2) rfl rfl ?_; clear hF; intro w2 b2 hF)) | (refine TF.is ?_; first | refine TF.nil ?_ | refine TF.e rfl ?_ | (refine TF.pick rfl ?_; first | (apply TFo.ev; (case hd => rfl); (case h => (intro wh hF; first | exact ev_simple rfl | (apply Ev.isLoad; first | exact ev_loadFr hF rfl (by refine ⟨?_, ?_⟩; (focus (repeat (first | exact InV.head | apply InV.tail))); rfl)) | exact ev_fieldAddr rfl | exact ev_buildX rfl rfl))))) | (refine T.is ?_; first | refine T.seq ?_ | refine T.region ?_ | refine T.cond_f rfl ?_ | refine T.ret ?_ | refine T.skip ?_ | (refine T.regionFt hF 4 10 (.s 0 (.s 1 (.s 2 (.s 3 (.s 4 (.s 5 (.e 6 (.s 7 (.e 8 (.s 9 .nil)))))))))) mixed (by kernel_rfl) ?_; clear hF; intro wr hF)) | (refine G.is ?_; first | refine G.next ?_ | refine G.only ?_ | refine G.tree rfl (by first | exact hF | exact hF.weak (List.sublist_append_right _ _) (by repeat (first | exact allR | apply allT)) | exact hF.weak (by repeat (first | exact List.Sublist.refl _ | apply List.Sublist.cons)) (by repeat (first | exact allR | apply allT)) | exact hF.weak (by repeat (first | exact List.Sublist.refl _ | apply List.Sublist.cons)) (by repeat (first | exact allN | refine allH (by repeat (first | exact memH | apply memT)) ?_))) ?_) | refine TL.nil ?_)
  exact G.retC2 rfl rfl rfl (held_agg (hF.var (by repeat (first | exact InV.head | apply InV.tail))) rfl) ⟨⟨r, c, Al, r * c, kl, ll⟩, rfl, Fr.lm hF (by repeat (first | exact memH | apply memT)), hF.ext, hMf⟩
/-- a matrix value whose numbers are in range -/
structure InR (x : MV) : Prop where
  r : -9223372036854775808 ≤ x.r ∧ x.r < 9223372036854775808
  c : -9223372036854775808 ≤ x.c ∧ x.c < 9223372036854775808
theorem chk_bad (w : World) (x : MV) (hx : InR x) (hn : ¬ ∃ r c, Sound x r c) : Cl Try.prog 11 #[.agg (mvc x).toArray] w (fun e w' => e = .returned (.int .i64 1) ∧ Ext w w') := by
  obtain ⟨xr, xc, A, n, k, l⟩ := x
  obtain ⟨hr, hc⟩ := hx
  dsimp only at hr hc
  by_cases h1 : 0 ≤ xr ∧ xr ≤ 64
  · by_cases h2 : 0 ≤ xc ∧ xc ≤ 64
    · obtain ⟨r, rfl⟩ := Int.eq_ofNat_of_zero_le h1.1
      obtain ⟨c, rfl⟩ := Int.eq_ofNat_of_zero_le h2.1
      have hm := mul64 (r := r) (c := c) (by omega) (by omega)
      have hne : n ≠ r * c := fun e => hn ⟨r, c, rfl, rfl, by omega, by omega, e⟩
      refine enter Try.func11 rfl rfl rfl ?_
      have hF := Fr.refl w
      repeat' (first | (refine TL.isOp ?_; first | (refine TL.isG ?_; first | refine TL.grun rfl rfl rfl ?_) | (refine TL.isCall ?_; refine TL.call rfl rfl ?_; first | (refine (side_ok _ _ true (decide_eq_true (by omega))).cl.mono ?_; rintro _ wc ⟨rfl, hE⟩; replace hF := hF.exts hE.ext; clear hE; refine Back.mk ?_)) | (refine TL.isBin ?_; refine TL.cmpG rfl rfl rfl rfl (fun hc => ?_) (fun hc => ?_) <;> (try (first | (exfalso; omega) | exact absurd rfl hc))) | (apply TL.ev; (case hd => rfl); (case h => (first | exact ev_simple rfl | (apply Ev.isBin; first | exact ev_arN rfl rfl rfl (by omega)) | (apply Ev.isLoad; first | exact ev_loadFr hF rfl (by refine ⟨?_, ?_⟩; (focus (repeat (first | exact InV.head | apply InV.tail))); rfl)) | exact ev_len rfl | exact ev_fieldAddr rfl))) | (refine TL.boxAFr hF (d := 1) (cs := [.int .i64 (r : Int), .int .i64 (c : Int), .slice A n k]) rfl rfl ?_; clear hF; intro w1 b1 hF)) | (refine T.is ?_; first | refine T.seq ?_ | refine T.region ?_ | refine T.cond_t rfl ?_ | refine T.ret ?_) | (refine G.is ?_; first | refine G.next ?_ | refine G.thenR ?_) | refine TL.nil ?_)
      exact G.ret1 rfl rfl ⟨rfl, hF.ext⟩
    · refine enter Try.func11 rfl rfl rfl ?_
      have hF := Fr.refl w
      repeat' (first | (refine TL.isOp ?_; first | (refine TL.isG ?_; first | refine TL.grun rfl rfl rfl ?_ | refine TL.gskip rfl rfl rfl rfl ?_) | (refine TL.isCall ?_; refine TL.call rfl rfl ?_; first | (refine (side_ok _ xr true (decide_eq_true (by omega))).cl.mono ?_; rintro _ wc ⟨rfl, hE⟩; replace hF := hF.exts hE.ext; clear hE; refine Back.mk ?_) | (refine (side_ok _ xc false (decide_eq_false (by omega))).cl.mono ?_; rintro _ wc ⟨rfl, hE⟩; replace hF := hF.exts hE.ext; clear hE; refine Back.mk ?_)) | (apply TL.ev; (case hd => rfl); (case h => (first | exact ev_simple rfl | (apply Ev.isLoad; first | exact ev_loadFr hF rfl (by refine ⟨?_, ?_⟩; (focus (repeat (first | exact InV.head | apply InV.tail))); rfl)) | exact ev_fieldAddr rfl))) | (refine TL.boxAFr hF (d := 1) (cs := [.int .i64 xr, .int .i64 xc, .slice A n k]) rfl rfl ?_; clear hF; intro w1 b1 hF)) | (refine T.is ?_; first | refine T.seq ?_ | refine T.region ?_ | refine T.cond_t rfl ?_ | refine T.ret ?_) | (refine G.is ?_; first | refine G.next ?_ | refine G.thenR ?_) | refine TL.nil ?_)
      exact G.ret1 rfl rfl ⟨rfl, hF.ext⟩
  · refine enter Try.func11 rfl rfl rfl ?_
    have hF := Fr.refl w
    repeat' (first | (refine TL.isOp ?_; first | (refine TL.isG ?_; first | refine TL.gskip rfl rfl rfl rfl ?_) | (refine TL.isCall ?_; refine TL.call rfl rfl ?_; first | (refine (side_ok _ xr false (decide_eq_false (by omega))).cl.mono ?_; rintro _ wc ⟨rfl, hE⟩; replace hF := hF.exts hE.ext; clear hE; refine Back.mk ?_)) | (apply TL.ev; (case hd => rfl); (case h => (first | exact ev_simple rfl | (apply Ev.isLoad; first | exact ev_loadFr hF rfl (by refine ⟨?_, ?_⟩; (focus (repeat (first | exact InV.head | apply InV.tail))); rfl)) | exact ev_fieldAddr rfl))) | (refine TL.boxAFr hF (d := 1) (cs := [.int .i64 xr, .int .i64 xc, .slice A n k]) rfl rfl ?_; clear hF; intro w1 b1 hF)) | (refine T.is ?_; first | refine T.seq ?_ | refine T.region ?_ | refine T.cond_t rfl ?_ | refine T.ret ?_) | (refine G.is ?_; first | refine G.next ?_ | refine G.thenR ?_) | refine TL.nil ?_)
    exact G.ret1 rfl rfl ⟨rfl, hF.ext⟩
theorem mleast_bad (w : World) (x : MV) (hx : InR x) (hn : ¬ ∃ r c, Sound x r c) : Cl Try.prog 43 #[.agg (mvc x).toArray] w (RetMF w 1) := by
  have hck := fun w => chk_bad w x hx hn
  obtain ⟨xr, xc, A, n, k, l⟩ := x
  refine enter Try.func43 rfl rfl rfl ?_
  have hF := Fr.refl w
  repeat' (first | (refine TL.isOp ?_; first | (refine TL.isCall ?_; refine TL.call rfl rfl ?_; first | (refine (hck _).mono ?_; rintro _ wy ⟨rfl, hE⟩; replace hF := hF.exts hE; clear hE; refine Back.mk ?_)) | (refine TL.isBin ?_; refine TL.cmpG rfl rfl rfl rfl (fun hc => ?_) (fun hc => ?_) <;> (try (first | (exfalso; omega) | exact absurd rfl hc))) | (apply TL.ev; (case hd => rfl); (case h => (first | exact ev_simple rfl | (apply Ev.isLoad; first | exact ev_loadAFr hF rfl (by refine ⟨?_, ?_⟩; (focus (repeat (first | exact InV.head | apply InV.tail))); rfl)) | exact ev_buildX rfl rfl))) | (refine TL.storeAFr hF rfl rfl rfl rfl (by refine ⟨?_, ?_⟩; (focus (repeat (first | apply SetV.head | apply SetV.tail))); rfl) rfl ?_; clear hF; intro ws hF) | (refine TL.boxAFr hF (d := 1) (cs := [.int .i64 xr, .int .i64 xc, .slice A n k]) rfl rfl ?_; clear hF; intro w1 b1 hF) | (refine TL.allocFr hF (d := 2) rfl rfl ?_; clear hF; intro w2 b2 hF)) | (refine T.is ?_; first | refine T.seq ?_ | refine T.region ?_ | refine T.cond_t rfl ?_ | refine T.ret ?_) | (refine G.is ?_; first | refine G.next ?_ | refine G.thenR ?_) | refine TL.nil ?_)
  exact G.retC2 rfl rfl rfl (held_agg (hF.var (by repeat (first | exact InV.head | apply InV.tail))) rfl) ⟨rfl, hF.ext⟩
/-- a walk over the rows of a matrix: a closure over the matrix -/
def RetIt (w : World) (r c : Nat) (F : Nat → Nat → Int) (K : Nat) (e : Ending) (w' : World) : Prop := ∃ (b : Nat) (A : Option Addr) (k : Nat) (l : List IV), e = .returned (.func (.func 80) #[] #[.pointer (some ⟨b, 0, none⟩)]) ∧
  Vr w'.heap b 24 [.int .i64 (r : Int), .int .i64 (c : Int), .slice A (r * c) k] ∧ LM w'.heap ⟨r, c, A, r * c, k, l⟩ r c F K ∧ Ext w w' ∧ w.heap.size ≤ b ∧ MF w ⟨r, c, A, r * c, k, l⟩
theorem lines_ok (w : World) (x : MV) (r c K : Nat) (gx : GM w.heap x r c K) (hK : K ≤ 35184372088832) : Cl Try.prog 48 #[.agg (mvc x).toArray] w (RetIt w r c (ent x c) K) := by
  have hl := fun w1 (hE : Ext w w1) => mleast_ok w1 x r c K (gx.ext hE) hK
  obtain ⟨xr, xc, A, n, k, l⟩ := x
  refine enter Try.func48 rfl rfl rfl ?_
  have hF := Fr.refl w
  repeat' (first | (refine TL.isOp ?_; first | (refine TL.isCall ?_; refine TL.call rfl rfl ?_; first | (refine (hl _ hF.ext).mono ?_; rintro _ wu ⟨zu, rfl, hLu, hE, hf⟩; obtain ⟨Au, ku, lu, rfl⟩ := lm_mk hLu; rw [mvc_mk _ _ Au]; have hfu := hf.mono hF.ext.size; replace hF := Fr.addLM hF hE hLu hf; clear hE hf hLu; refine Back.mk ?_)) | (apply TL.ev; (case hd => rfl); (case h => (first | exact ev_simple rfl | (apply Ev.isLoad; first | exact ev_loadAFr hF rfl (by refine ⟨?_, ?_⟩; (focus (repeat (first | exact InV.head | apply InV.tail))); rfl)) | exact ev_makeFunc rfl))) | (refine TL.storeAFr hF rfl rfl rfl rfl (by refine ⟨?_, ?_⟩; (focus (repeat (first | apply SetV.head | apply SetV.tail))); rfl) rfl ?_; clear hF; intro ws hF) | (refine TL.boxAFr hF (d := 1) (cs := [.int .i64 xr, .int .i64 xc, .slice A n k]) rfl rfl ?_; clear hF; intro w1 b1 hF) | (refine TL.allocFr hF (d := 3) rfl rfl ?_; clear hF; intro w3 b3 hF)) | (refine T.is ?_; first | refine T.seq ?_ | refine T.region ?_ | refine T.ret ?_) | (refine G.is ?_; first | refine G.next ?_) | refine TL.nil ?_)
  have hlo := hF.lo (.head (b := b3))
  exact G.ret1 rfl rfl ⟨b3, Au, ku, lu, rfl, hF.var (by repeat (first | exact InV.head | apply InV.tail)), Fr.lm hF (by repeat (first | exact memH | apply memT)), hF.ext, hlo.resolve_right id, hfu⟩
theorem Sm.sub {α : Type} {k : Nat} {f : α → List Value} {H : Array Obj} {B n c lo m : Nat} {A : Option Addr} {l : List α} (h : Sm k f H B A n c l) (hm : lo + m ≤ n) : Sm k f H B (elemA A (lo * k)) m (c - lo) ((l.drop lo).take m) := by
  have hlen := h.len
  have hcap := h.cap
  refine ⟨by rw [List.length_take, List.length_drop]; omega, by omega, h.pos, fun x hx => h.wid x (List.mem_of_mem_drop (List.mem_of_mem_take hx)), ?_⟩
  rcases Nat.eq_zero_or_pos m with h0 | h0
  · exact .inl h0
  · rcases h.mem with h1 | ⟨b, o, e, hlt, hc⟩
    · omega
    · refine .inr ⟨b, o + lo * k, by rw [e]; simp [elemA, add_mk], hlt, fun j x hx q v hv => ?_⟩
      have h2 : l[lo + j]? = some x := by
        rw [List.getElem?_take] at hx
        split at hx
        · rwa [List.getElem?_drop] at hx
        · cases hx
      have := hc (lo + j) x h2 q v hv
      rw [Nat.add_mul] at this
      rw [show o + lo * k + (j * k + q) = o + (lo * k + j * k + q) by omega]
      exact this
/-- a row that a walk hands over -/
structure RowV where
  i : Nat
  A : Option Addr
  n : Nat
  k : Nat
  l : List IV
def rowA (x : RowV) : List Value := [.int .i64 (x.i : Int), .slice x.A x.n x.k]
theorem LL.congr {H : Array Obj} {A : Option Addr} {n k K : Nat} {l : List IV} {Z Z' : Nat → Int} (h : LL H A n k l Z K) (e : ∀ q, q < n → Z q = Z' q) : LL H A n k l Z' K := ⟨h.s, fun q hq => by rw [← e q hq]; exact h.g q hq⟩
theorem row_sub (i c : Nat) : (i + 1) * c - i * c = c := by rw [Nat.add_mul, Nat.one_mul]; omega
theorem ev_rowSl {P : Program} {σ : Store} {H : Array Obj} {d : Option Tmp} {t : TypeId} {pos : String} {af : Array Edge} {gd : Option (Nat × Bool)} {x : Operand} {A : Option Addr} {n cc i c : Nat} {ty e : TypeId} [hT : USlice P ty e] {z : Value} {b1 : Nat} [hS : USize P e z 2 b1] {y u : Operand}
    (hx : Eng.look σ x = some (.slice A n cc)) (hy : Eng.look σ y = some (.int .i64 ((i * c : Nat) : Int))) (hu : Eng.look σ u = some (.int .i64 (((i + 1) * c : Nat) : Int))) (hn : (i + 1) * c ≤ cc) :
    Ev P σ H ⟨d, .slice ty x (some y) (some u) none, t, pos, af, gd⟩ (.slice (cutM 2 A cc (i * c)) c (cc - i * c)) := by
  have := ev_slM_lh (P := P) (σ := σ) (H := H) (d := d) (t := t) (pos := pos) (af := af) (gd := gd) (ty := ty) (l := i * c) (h := (i + 1) * c) hx hy hu (Nat.mul_le_mul_right c (Nat.le_succ i)) hn
  rwa [row_sub] at this
set_option maxRecDepth 100000 in
set_option maxHeartbeats 8000000 in
theorem lines_iter (b r c K k : Nat) (A : Option Addr) (l : List IV) (F : Nat → Nat → Int) (hK : K ≤ 35184372088832) :
    Iter Try.prog 80 [.pointer (some ⟨b, 0, none⟩)] rowA r (fun W => Vr W.heap b 24 [.int .i64 (r : Int), .int .i64 (c : Int), .slice A (r * c) k] ∧ LM W.heap ⟨r, c, A, r * c, k, l⟩ r c F K)
      (fun i x Wb W => x.i = i ∧ x.n = c ∧ LL W.heap x.A c x.k x.l (F i) K ∧ LF Wb x.A c) := by
  intro l' J Jx W hJ hJx hIt h0 hY
  obtain ⟨hV, hL⟩ := hIt
  have hr := hL.sh.r64
  have hc64 := hL.sh.c64
  have hkk := hL.s.cap
  dsimp only at hkk
  have hm := mul64 hr hc64
  refine (enterM Try.func80 rfl rfl rfl (fun _ h => by obtain ⟨⟨v, hv⟩, _⟩ := h; cases hv) ?_).out
  have hF := Fr.refl W
  repeat' (first | (refine TL.isOp ?_; first | (apply TL.ev; (case hd => rfl); (case h => (first | exact ev_simple rfl | (apply Ev.isLoad; first | exact ev_loadV rfl (hV.ext hF.ext) rfl) | exact ev_fieldAddr rfl)))) | (refine G.is ?_; first | refine G.nextL ?_ | refine G.nextI ?_) | refine TL.nil ?_ | (refine TI.is ?_; first | refine TI.seq ?_ | refine TI.regionI ?_ | refine TI.block ?_) | (refine TLI.is ?_; first | refine TLI.nil ?_ | refine TLI.step rfl ?_))
  refine TI.loop (α := Nat) (fun i => [(0, .func (.yield l') #[] #[]), (1, .pointer (some ⟨b, 0, none⟩)), (5, .int .i64 (r : Int)), (6, .int .i64 (i : Int))])
    (fun i W' => i ≤ r ∧ J i W' ∧ Vr W'.heap b 24 [.int .i64 (r : Int), .int .i64 (c : Int), .slice A (r * c) k] ∧ LM W'.heap ⟨r, c, A, r * c, k, l⟩ r c F K) (fun i => r - i) 0 (by repeat (first | exact Sub.nil _ | refine Sub.cons rfl ?_ | refine Sub.cons' rfl (int_congr (by omega)) ?_)) ⟨Nat.zero_le _, h0, hV, hL⟩ ?_
  clear hF hV hL h0
  rintro i W1 ⟨hi, hj, hV, hL⟩
  have hF := Fr.refl W1
  rcases Nat.lt_or_ge i r with hin | hin
  · have hrow : i * c + c ≤ r * c := by have := Nat.mul_le_mul_right c (show i + 1 ≤ r from hin); rw [Nat.add_mul, Nat.one_mul] at this; exact this
    have hi1 : (i + 1) * c = i * c + c := by rw [Nat.add_mul, Nat.one_mul]
    have hsr : Sm 2 ivc W1.heap W1.heap.size (cutM 2 A k (i * c)) c (k - i * c) ((l.drop (i * c)).take c) := by
      have := hL.s.dropTake (i := i * c) (j := (i + 1) * c) (m := k) (m' := k - i * c) (by omega) (by dsimp only; omega) hkk (by omega)
      rwa [row_sub] at this
    have hgr : ∀ y ∈ (l.drop (i * c)).take c, GI W1.heap y ∧ y.m.n ≤ K := fun y hy => hL.gm.g y (List.mem_of_mem_drop (List.mem_of_mem_take hy))
    have hZ : ∀ q, q < c → ival (((l.drop (i * c)).take c).getD q default) = F i q := fun q hq => by
      have e1 : ((l.drop (i * c)).take c).getD q default = l.getD (i * c + q) default := by simp [List.getD, List.getElem?_take, hq, List.getElem?_drop]
      rw [e1]; exact (hL.g i q hin hq).1.val
    repeat' (first | (refine TL.isOp ?_; first | (refine TL.isCall ?_; refine TL.call rfl rfl ?_; first | (refine (each_ok _ _ c _ _ (hsr.ext hF.ext).size (by omega) 50 [] inferInstance _ K (least_each _ _ K (fun y hy => ⟨(hgr y hy).1.ext hF.ext, (hgr y hy).2⟩) hK)).mono ?_; rintro _ wl ⟨Al, kl, ll, rfl, hL0, hE, hLF⟩; have hLL := hL0.congr (Z' := F i) hZ; replace hF := hF.exts hE; clear hE hL0; refine Back.mk ?_)) | (refine TL.isBin ?_; refine TL.cmpG rfl rfl rfl rfl (fun hc => ?_) (fun hc => ?_) <;> (try (first | (exfalso; omega) | exact absurd rfl hc))) | (apply TL.ev; (case hd => rfl); (case h => (first | exact ev_simple rfl | (apply Ev.isBin; first | exact ev_arN rfl rfl rfl (by omega)) | (apply Ev.isLoad; first | exact ev_loadV rfl (hV.ext hF.ext) rfl) | exact ev_fieldAddr rfl | exact ev_rowSl rfl rfl rfl (by omega))))) | (refine G.is ?_; first | refine G.nextL ?_ | refine G.nextI ?_ | refine G.blockN ?_ | refine G.blockR ?_ | refine G.thenR ?_) | refine TL.nil ?_ | (refine TI.is ?_; first | refine TI.seq ?_ | refine TI.regionI ?_ | refine TI.block ?_ | refine TI.cond_t rfl ?_ | refine TI.cond_f rfl ?_ | refine TI.ret ?_ | refine TI.skip ?_) | (refine TLI.is ?_; first | refine TLI.nil ?_ | (refine TLI.yield rfl rfl rfl ?_; refine Eng.YieldAt.weak (hY i ⟨i, Al, c, kl, ll⟩ W1 _ hin hj ⟨hV, hL⟩ hF.ext ⟨rfl, rfl, hLL, hLF⟩) ?_; rintro e W2 (⟨rfl, hj2, hV2, hL2⟩ | ⟨rfl, hx2⟩) <;> refine ⟨_, rfl, ?_⟩ <;> clear hF <;> have hF := Fr.refl W2) | refine TLI.step rfl ?_))
    · exact G.again (i + 1) (by repeat (first | exact Sub.nil _ | refine Sub.cons rfl ?_ | refine Sub.cons' rfl (int_congr (by omega)) ?_)) ⟨by omega, hj2, hV2, hL2⟩ (by omega)
    · exact G.retM0 rfl ⟨⟨_, rfl⟩, .inr hx2⟩
  · obtain rfl : i = r := by omega
    repeat' (first | (refine TL.isOp ?_; first | (refine TL.isBin ?_; refine TL.cmpG rfl rfl rfl rfl (fun hc => ?_) (fun hc => ?_) <;> (try (first | (exfalso; omega) | exact absurd rfl hc)))) | (refine G.is ?_; first | refine G.nextL ?_ | refine G.nextI ?_ | refine G.blockE ?_ | refine G.thenE ?_) | refine TL.nil ?_ | (refine TI.is ?_; first | refine TI.seq ?_ | refine TI.regionI ?_ | refine TI.cond_f rfl ?_ | refine TI.exit ?_) | (refine TLI.is ?_; first | refine TLI.nil ?_ | refine TLI.step rfl ?_))
    exact G.endM0 rfl ⟨⟨_, rfl⟩, .inl ⟨hj, hV, hL⟩⟩
end Go.Proofs.Ytlpheckjogphmaa

namespace Go.Proofs.Ytlpheckjogphmaa
open Go Go.Eng Go.Proofs Go.NatM Go.ChangeShapes Go.WideShapes Go.ChangeAt Go.RowKit

theorem spot_none {w : World} {a : Addr} {v : Value} (h : w.cell? a = some v) : a = ⟨a.block, a.off, none⟩ := by
  cases a with
  | mk b o s =>
    cases s with
    | none => rfl
    | some s => unfold World.cell? at h; split at h <;> simp at h
theorem getD_map_toNat (zs : List Int) (hz : ∀ z ∈ zs, 0 ≤ z) (j : Nat) (hj : j < zs.length) : ((zs.map Int.toNat)[j]?).map (fun x : Nat => (x : Int)) = some (zs.getD j 0) := by
  simp [List.getD, hj, Int.toNat_of_nonneg (hz _ (List.getElem_mem hj))]
end Go.Proofs.Ytlpheckjogphmaa

namespace Go.Proofs.Ytlpheckjogphmaa
open Go Go.Eng Go.Proofs Go.NatM

theorem bulk_one {H : Type} (d : DataW H) : 1 ≤ Rows.uptoBulk d := by
  cases d with
  | lit l => cases l <;> simp [Rows.uptoBulk]
  | nil => simp [Rows.uptoBulk]
  | ptr d => simp [Rows.uptoBulk]
  | slice elems spare => simp [Rows.uptoBulk]
  | agg parts => simp [Rows.uptoBulk]
  | iface t d => simp [Rows.uptoBulk]
  | map entries => simp [Rows.uptoBulk]
  | held h => simp [Rows.uptoBulk]
theorem bulk_part {H : Type} {d : DataW H} {l : List (DataW H)} (h : d ∈ l) : Rows.uptoBulk d ≤ Rows.uptoBulkAll l := by
  induction l with
  | nil => cases h
  | cons x r ih =>
    simp only [Rows.uptoBulkAll]
    cases List.mem_cons.1 h with
    | inl e => subst e; omega
    | inr e => have := ih e; omega
theorem bulk_length {H : Type} (l : List (DataW H)) : l.length ≤ Rows.uptoBulkAll l := by
  induction l with
  | nil => simp [Rows.uptoBulkAll]
  | cons x r ih => have := bulk_one x; simp only [Rows.uptoBulkAll, List.length_cons]; omega
theorem small_all {H : Type} {ds gs : List (DataW H)} (h : Rows.uptoSmall H (ds ++ gs) = true) : Rows.uptoBulkAll (ds ++ gs) ≤ 1048576 := of_decide_eq_true h
theorem small_part {H : Type} {ds gs : List (DataW H)} (h : Rows.uptoSmall H (ds ++ gs) = true) {j : Nat} {d : DataW H} (hd : (ds ++ gs)[j]? = some d) : Rows.uptoBulk d ≤ 1048576 := by
  have h1 := small_all h
  have h2 := bulk_part (List.mem_of_getElem? hd)
  omega
end Go.Proofs.Ytlpheckjogphmaa

namespace Go.Proofs.Ytlpheckjogphmaa
open Go Go.Eng Go.Proofs Go.NatM

end Go.Proofs.Ytlpheckjogphmaa

namespace Go.Proofs.Ytlpheckjogphmaa
open Go Go.Eng Go.Proofs Go.NatM

end Go.Proofs.Ytlpheckjogphmaa

namespace Go.Proofs.Ytlpheckjogphmaa
open Go Go.Eng Go.Proofs Go.NatM

/-- the words of each -/
def LS (H : Array Obj) (B : Nat) (L : List (SA Nat)) : Prop := ∀ x ∈ L, Sl u64v H B x.A x.n x.c x.l ∧ U64 x.l
theorem LS.ext {w w' : World} {B : Nat} {L : List (SA Nat)} (hb : Ext w w') (h : LS w.heap B L) : LS w'.heap B L := fun x hx => ⟨(h x hx).1.ext hb, (h x hx).2⟩
theorem LS.take {H : Array Obj} {B : Nat} {L : List (SA Nat)} (h : LS H B L) (k : Nat) : LS H B (L.take k) := fun x hx => h x (List.mem_of_mem_take hx)
theorem LS.drop {H : Array Obj} {B : Nat} {L : List (SA Nat)} (h : LS H B L) (k : Nat) : LS H B (L.drop k) := fun x hx => h x (List.mem_of_mem_drop hx)
end Go.Proofs.Ytlpheckjogphmaa

namespace Go.Proofs.Ytlpheckjogphmaa
open Go Go.Eng Go.Proofs Go.NatM Go.ChangeShapes Go.WideShapes Go.ChangeAt Go.RowKit Go.Deep

/-- a slice of words, by its cells -/
theorem open_u64c {H : Type} {enc : TypeId × Value → H} {P : Program} {t e : TypeId} {W : World} {base : Nat} {spare : Nat → Bool} {held : Bool} {v : Value} {d : DataW H} {ps : List MemPlace} {fuel : Nat}
    (ht : P.underlying t = some (.slice e)) (he : P.underlying e = some (.int .u64)) (hc : P.cellsOf e = 1) (hf : DataW.trod enc P W base spare held fuel t [v] = some (d, ps)) :
    ∃ x : SA Nat, v = sav x ∧ Sl u64v W.heap W.heap.size x.A x.n x.c x.l ∧ U64 x.l ∧ x.n + 1 ≤ Rows.uptoBulk d := by
  rcases open_ints ht he hc hf with ⟨hcs, hx⟩ | ⟨a, len, cap, zs, hcs, hb, hl, hm, hz, hx, hcell, hwz⟩
  · cases hcs
    cases hx
    exact ⟨⟨none, 0, 0, []⟩, rfl, Sl.nil _ _ _ _ _, U64.nil, bulk_one _⟩
  · cases hcs
    cases hx
    have hlen : len ≤ zs.length := by split at hz <;> omega
    have hr : ∀ z ∈ zs, 0 ≤ z ∧ z < 18446744073709551616 := fun z hz' => by
      have := hwz z hz'
      simp [Lit.wf, IntKind.min, IntKind.max, IntKind.signed, IntKind.bits] at this
      omega
    refine ⟨⟨some a, len, cap, (zs.take len).map Int.toNat⟩, rfl, ⟨by simp; omega, hl, ?_⟩, ?_, ?_⟩
    · rcases Nat.eq_zero_or_pos len with h0 | h0
      · exact .inl h0
      · have hc0 := hcell 0 (by omega)
        have ha0 : a.add 0 = a := by simp [Addr.add]
        rw [ha0] at hc0
        have hs := spot_none hc0
        refine .inr ⟨a.block, a.off, by rw [← hs], World.block_lt_of_cell? W a hc0, fun j x hx' => ?_⟩
        have hj : j < len := by
          have := (List.getElem?_eq_some_iff.1 hx').1
          simp at this; omega
        have hcj := hcell j (by omega)
        rw [hs, add_mk, cell_of_hcell] at hcj
        rw [hcj]
        have e1 : (zs.take len).getD j 0 = zs.getD j 0 := by simp [List.getD, List.getElem?_take, hj]
        have e2 := getD_map_toNat (zs.take len) (fun z hz' => (hr z (List.mem_of_mem_take hz')).1) j (by simp; omega)
        rw [hx', e1] at e2
        simp at e2
        show some (Value.int .u64 _) = some (Value.int .u64 _)
        simp only [List.getD] at e2 ⊢
        rw [← e2]
    · intro x hx'
      obtain ⟨z, hz', rfl⟩ := List.mem_map.1 hx'
      have := hr z (List.mem_of_mem_take hz')
      omega
    · have h1 := bulk_length (lits (H := H) .u64 (zs.take len))
      have h2 : (lits (H := H) .u64 (zs.take len)).length = len := by simp [lits]; omega
      simp only [Rows.uptoBulk]
      show len + 1 ≤ _
      omega
end Go.Proofs.Ytlpheckjogphmaa

namespace Go.Proofs.Ytlpheckjogphmaa
open Go Go.Eng Go.Proofs Go.NatM Go.ChangeShapes Go.WideShapes Go.ChangeAt Go.RowKit Go.Deep

def wts {α : Type} (wt : α → Nat) : List α → Nat
  | [] => 0
  | x :: l => wt x + wts wt l
theorem wts_mem {α : Type} {wt : α → Nat} {x : α} {l : List α} (h : x ∈ l) : wt x ≤ wts wt l := by
  induction l with
  | nil => cases h
  | cons y l ih =>
    simp only [wts]
    rcases List.mem_cons.1 h with rfl | h'
    · omega
    · have := ih h'; omega
theorem wts_bulk {H α : Type} {wt : α → Nat} (X : Nat → α) (D : Nat → DataW H) : ∀ is : List Nat, (∀ i ∈ is, wt (X i) ≤ Rows.uptoBulk (D i)) → wts wt (is.map X) ≤ Rows.uptoBulkAll (is.map D)
  | [], _ => by simp [wts]
  | i :: is, h => by
    have h1 := h i (by simp)
    have h2 := wts_bulk X D is (fun j hj => h j (by simp [hj]))
    simp only [List.map_cons, wts, Rows.uptoBulkAll]
    omega
/-- an int, by its cell -/
theorem open_i64c {H : Type} {enc : TypeId × Value → H} {P : Program} {t : TypeId} {W : World} {base : Nat} {spare : Nat → Bool} {held : Bool} {cs : List Value} {x : DataW H × List MemPlace} {fuel : Nat}
    (ht : P.underlying t = some (.int .i64)) (hf : DataW.trod enc P W base spare held fuel t cs = some x) : ∃ z : Int, cs = [.int .i64 z] ∧ -9223372036854775808 ≤ z ∧ z < 9223372036854775808 := by
  obtain ⟨m, rfl, _, hw⟩ := DataW.trod_int ht hf
  refine ⟨m, rfl, ?_⟩
  simp [Lit.wf, IntKind.min, IntKind.max, IntKind.signed, IntKind.bits] at hw
  omega
/-- a slice of words, by its cells -/
theorem open_u64d {H : Type} {enc : TypeId × Value → H} {P : Program} {t e : TypeId} {W : World} {base : Nat} {spare : Nat → Bool} {held : Bool} {cs : List Value} {x : DataW H × List MemPlace} {fuel : Nat}
    (ht : P.underlying t = some (.slice e)) (he : P.underlying e = some (.int .u64)) (hc : P.cellsOf e = 1) (hf : DataW.trod enc P W base spare held fuel t cs = some x) :
    ∃ y : SA Nat, cs = [sav y] ∧ Sl u64v W.heap W.heap.size y.A y.n y.c y.l ∧ U64 y.l ∧ y.n + 1 ≤ Rows.uptoBulk x.1 := by
  rcases DataW.trod_slice ht hf with ⟨rfl, _⟩ | ⟨a, len, cap, _, _, _, _, rfl, _⟩
  · obtain ⟨y, e1, r⟩ := open_u64c (d := x.1) (ps := x.2) ht he hc hf <;> exact ⟨y, by rw [e1], r⟩
  · obtain ⟨y, e1, r⟩ := open_u64c (d := x.1) (ps := x.2) ht he hc hf <;> exact ⟨y, by rw [e1], r⟩
/-- a slice of values of k cells -/
theorem open_elems {H α : Type} [Inhabited α] {enc : TypeId × Value → H} {P : Program} {t e : TypeId} {W : World} {base : Nat} {spare : Nat → Bool} {held : Bool} {cs : List Value} {x : DataW H × List MemPlace} {fuel k : Nat}
    (f : α → List Value) (G : α → Prop) (wt : α → Nat) (hk : 0 < k) (hf : ∀ y, (f y).length = k) (ht : P.underlying t = some (.slice e)) (hc : P.cellsOf e = k)
    (elem : ∀ n cs' x, DataW.trod enc P W base spare held n e cs' = some x → ∃ y, cs' = f y ∧ G y ∧ wt y ≤ Rows.uptoBulk x.1)
    (h : DataW.trod enc P W base spare held fuel t cs = some x) :
    ∃ A n c L, cs = [.slice A n c] ∧ Sm k f W.heap W.heap.size A n c L ∧ (∀ y ∈ L, G y) ∧ wts wt L + 1 ≤ Rows.uptoBulk x.1 ∧ n + 1 ≤ Rows.uptoBulk x.1 := by
  rcases open_slice ht h with ⟨rfl, rfl⟩ | ⟨a, len, cap, m, n, D, Pl, rfl, hb, hl, hm, hmm, rfl, hx⟩
  · exact ⟨none, 0, 0, [], rfl, Sm.nil hk _ _ _ _ _, fun y hy => (by cases hy), by simp [wts, Rows.uptoBulk], by simp [Rows.uptoBulk]⟩
  · have hlm : len ≤ m := by split at hmm <;> omega
    rw [hc] at hx
    obtain ⟨X, hX⟩ := choose_lt (n := len) (p := fun i (y : α) => W.cells? base (a.add (i * k)) k = some (f y) ∧ G y ∧ wt y ≤ Rows.uptoBulk (D i)) (fun i hi => by
      obtain ⟨cs', h1, h2⟩ := hx i (by omega)
      obtain ⟨y, rfl, g1, g2⟩ := elem n cs' _ h2
      exact ⟨y, h1, g1, g2⟩)
    refine ⟨some a, len, cap, (List.range len).map X, rfl, ⟨by simp, hl, hk, fun y hy => hf y, ?_⟩, ?_, ?_, ?_⟩
    · rcases Nat.eq_zero_or_pos len with h0 | h0
      · exact .inl h0
      · have hc0 := (hX 0 (by omega)).1
        obtain ⟨_, hl0, hc0⟩ := World.cells?_some hc0
        have hc1 := hc0 0 hk
        obtain ⟨v0, hv0⟩ : ∃ v0, (f (X 0))[0]? = some v0 := ⟨_, List.getElem?_eq_getElem (by rw [hf]; exact hk)⟩
        rw [hv0] at hc1
        have e0 : (a.add (0 * k)).add 0 = a := by simp [Addr.add]
        rw [e0] at hc1
        have hs := spot_none hc1
        refine .inr ⟨a.block, a.off, by rw [← hs], World.block_lt_of_cell? W a hc1, fun j y hy q v hv => ?_⟩
        have hj : j < len := by
          have := (List.getElem?_eq_some_iff.1 hy).1
          simpa using this
        rw [List.getElem?_map, List.getElem?_range hj] at hy
        simp at hy
        subst hy
        obtain ⟨_, hlj, hcj⟩ := World.cells?_some (hX j hj).1
        have hq : q < k := by have := (List.getElem?_eq_some_iff.1 hv).1; rwa [hf] at this
        have := hcj q hq
        rw [hv, hs, add_mk, add_mk, cell_of_hcell, Nat.add_assoc] at this
        exact this
    · intro y hy
      obtain ⟨i, hi, rfl⟩ := List.mem_map.1 hy
      exact (hX i (List.mem_range.1 hi)).2.1
    · have := wts_bulk X D (List.range len) (fun i hi => (hX i (List.mem_range.1 hi)).2.2)
      simp only [Rows.uptoBulk]
      omega
    · have h1 := bulk_length ((List.range len).map D)
      simp only [List.length_map, List.length_range] at h1
      simp only [Rows.uptoBulk]
      omega
end Go.Proofs.Ytlpheckjogphmaa

namespace Go.Proofs.Ytlpheckjogphmaa
open Go Go.Eng Go.Proofs Go.NatM Go.ChangeShapes Go.WideShapes Go.ChangeAt Go.RowKit Go.Deep

theorem len2 {α : Type} {l : List α} (h : l.length = 2) : ∃ a b, l = [a, b] := by
  match l, h with
  | [a, b], _ => exact ⟨a, b, rfl⟩
theorem len3 {α : Type} {l : List α} (h : l.length = 3) : ∃ a b c, l = [a, b, c] := by
  match l, h with
  | [a, b, c], _ => exact ⟨a, b, c, rfl⟩
theorem len4 {α : Type} {l : List α} (h : l.length = 4) : ∃ a b c d, l = [a, b, c, d] := by
  match l, h with
  | [a, b, c, d], _ => exact ⟨a, b, c, d, rfl⟩
def ivw (x : IV) : Nat := x.m.n
theorem open_int {H : Type} {enc : TypeId × Value → H} {W : World} {base : Nat} {spare : Nat → Bool} {held : Bool} (m : Nat) (cs : List Value) (x : DataW H × List MemPlace)
    (h : DataW.trod enc Try.prog W base spare held m 42 cs = some x) : ∃ y : IV, cs = ivc y ∧ GI W.heap y ∧ ivw y ≤ Rows.uptoBulk x.1 := by
  obtain ⟨xs, q, _, rfl, hl, hxl, hall⟩ := DataW.trod_struct Try.underlying42 h
  have hl' : cs.length = 2 := hl.trans (by kernel_rfl)
  have hxl' : xs.length = 2 := hxl.trans rfl
  obtain ⟨v0, v1, rfl⟩ := len2 hl'
  obtain ⟨x0, x1, rfl⟩ := len2 hxl'
  have cb : Try.prog.cellsOf 4 = 1 := by kernel_rfl
  have cu : Try.prog.cellsOf 40 = 1 := by kernel_rfl
  have h0 : DataW.trod enc Try.prog W base spare held q 4 (([v0, v1].drop 0).take (Try.prog.cellsOf 4)) = some x0 := hall 0 _ rfl
  rw [cb] at h0
  have h1 : DataW.trod enc Try.prog W base spare held q 40 (([v0, v1].drop 1).take (Try.prog.cellsOf 40)) = some x1 := hall 1 _ rfl
  rw [cu] at h1
  obtain ⟨b, e0, _⟩ := DataW.trod_bool Try.underlying4 h0
  obtain rfl : v0 = .bool b := by simpa using e0
  obtain ⟨y1, e1, s1, u1, m1⟩ := open_u64d Try.underlying40 Try.underlying91 (by kernel_rfl) h1
  obtain rfl : v1 = sav y1 := by simpa using e1
  refine ⟨⟨b, y1⟩, rfl, ⟨s1, u1⟩, ?_⟩
  simp only [ivw, List.map_cons, List.map_nil, Rows.uptoBulk, Rows.uptoBulkAll]
  omega
/-- what is read of a matrix -/
structure RM0 (H : Array Obj) (x : MV) : Prop where
  s : Sm 2 ivc H H.size x.A x.n x.k x.l
  g : ∀ y ∈ x.l, GI H y
set_option maxRecDepth 10000 in
theorem open_matc {H : Type} {enc : TypeId × Value → H} {W : World} {base : Nat} {spare : Nat → Bool} {held : Bool} (m : Nat) (cs : List Value) (x : DataW H × List MemPlace)
    (h : DataW.trod enc Try.prog W base spare held m 24 cs = some x) : ∃ y : MV, cs = mvc y ∧ RM0 W.heap y ∧ wts ivw y.l ≤ Rows.uptoBulk x.1 := by
  obtain ⟨xs, q, _, rfl, hl, hxl, hall⟩ := DataW.trod_struct Try.underlying24 h
  have hl' : cs.length = 3 := hl.trans (by kernel_rfl)
  have hxl' : xs.length = 3 := hxl.trans rfl
  obtain ⟨v0, v1, v2, rfl⟩ := len3 hl'
  obtain ⟨x0, x1, x2, rfl⟩ := len3 hxl'
  have ci : Try.prog.cellsOf 3 = 1 := by kernel_rfl
  have cl : Try.prog.cellsOf 22 = 1 := by kernel_rfl
  have h0 : DataW.trod enc Try.prog W base spare held q 3 (([v0, v1, v2].drop 0).take (Try.prog.cellsOf 3)) = some x0 := hall 0 _ rfl
  rw [ci] at h0
  have h1 : DataW.trod enc Try.prog W base spare held q 3 (([v0, v1, v2].drop 1).take (Try.prog.cellsOf 3)) = some x1 := hall 1 _ rfl
  rw [ci] at h1
  have h2 : DataW.trod enc Try.prog W base spare held q 22 (([v0, v1, v2].drop 2).take (Try.prog.cellsOf 22)) = some x2 := hall 2 _ rfl
  rw [cl] at h2
  obtain ⟨z0, e0, b0⟩ := open_i64c Try.underlying3 h0
  obtain rfl : v0 = .int .i64 z0 := by simpa using e0
  obtain ⟨z1, e1, b1⟩ := open_i64c Try.underlying3 h1
  obtain rfl : v1 = .int .i64 z1 := by simpa using e1
  obtain ⟨A, n, c, L, e2, s2, g2, m2, m3⟩ := open_elems ivc (GI W.heap) ivw (show 0 < 2 by omega) (fun _ => rfl) Try.underlying22 (by kernel_rfl) (fun m cs x h => open_int m cs x h) h2
  obtain rfl : v2 = .slice A n c := by simpa using e2
  refine ⟨⟨z0, z1, A, n, c, L⟩, rfl, ⟨s2, g2⟩, ?_⟩
  simp only [List.map_cons, List.map_nil, Rows.uptoBulk, Rows.uptoBulkAll]
  omega
set_option maxRecDepth 10000 in
theorem open_mat {H : Type} {enc : TypeId × Value → H} {W : World} {base base' : Nat} {spare : Nat → Bool} {held : Bool} {v : Value} {d : DataW H} {ps : List MemPlace}
    (hv : Value.okWide Try.prog W .any base' 24 v) (h : DataW.Trod enc Try.prog W base spare held 24 v d ps) :
    ∃ y : MV, v = .agg (mvc y).toArray ∧ RM0 W.heap y ∧ wts ivw y.l ≤ Rows.uptoBulk d := by
  obtain ⟨cs, rfl, _⟩ := okWide_struct Try.underlying24 hv
  obtain ⟨fuel, hf⟩ := h
  obtain ⟨y, e, r⟩ := open_matc fuel _ (d, ps) hf
  have e' : cs.toList = mvc y := e
  refine ⟨y, ?_, r⟩
  rw [← e']
theorem small_mat {H : Array Obj} {y : MV} {b : Nat} (h : b ≤ 1048576) (r : RM0 H y) (hn : wts ivw y.l ≤ b) : RM H y 1048576 := ⟨r.s, fun x hx => ⟨r.g x hx, Nat.le_trans (wts_mem (wt := ivw) hx) (Nat.le_trans hn h)⟩⟩
end Go.Proofs.Ytlpheckjogphmaa

namespace Go.Proofs.Ytlpheckjogphmaa
open Go Go.Eng Go.Proofs Go.NatM Go.RowKit

end Go.Proofs.Ytlpheckjogphmaa

namespace Go.Proofs.Ytlpheckjogphmaa
open Go Go.Eng Go.Proofs Go.NatM Go.RowKit

end Go.Proofs.Ytlpheckjogphmaa

namespace Go.Proofs.Ytlpheckjogphmaa
open Go Go.Eng Go.Proofs Go.NatM Go.RowKit

theorem zsign_ok (w : World) (x : IV) (g : GI w.heap x) (hn : x.m.n ≤ 1099511627776) : Cl Try.prog 27 #[.agg (ivc x).toArray] w (fun e w' => e = .returned (.int .i64 (sig (ival x))) ∧ Ext w w') := by
  obtain ⟨yn, ⟨A1, n1, c1, l1⟩⟩ := x
  obtain ⟨b, hb⟩ : ∃ b, bl (val l1) = b := ⟨_, rfl⟩
  have hb0 : b = 0 ↔ val l1 = 0 := by rw [← hb]; unfold bl; constructor <;> intro h <;> (try split at h) <;> simp_all
  have hs := g.s
  have hu := g.u
  dsimp only at hs hu hn
  have hbl := fun w1 (hE : Ext w w1) => (bitlen_ok w1.heap _ A1 n1 c1 l1 (hs.ext hE) hu (by omega)).cl
  rw [hb] at hbl
  by_cases h0 : b = 0
  · have e : sig (ival ⟨yn, ⟨A1, n1, c1, l1⟩⟩) = 0 := by have := hb0.1 h0; simp [sig, ival, sgn, this]
    rw [e]
    refine enter Try.func27 rfl rfl rfl ?_
    have hF := Fr.refl w
    repeat' (first | (refine TL.isOp ?_; first | (refine TL.isG ?_; first | refine TL.grun rfl rfl rfl ?_ | refine TL.gskip rfl rfl rfl rfl ?_ | refine TL.gskipU rfl rfl rfl ?_) | (refine TL.isCall ?_; refine TL.call rfl rfl ?_; first | (refine (hbl _ hF.ext).mono ?_; rintro _ w1 ⟨rfl, hE⟩; replace hF := hF.exts hE.ext; clear hE; refine Back.mk ?_)) | (refine TL.isBin ?_; refine TL.cmpG rfl rfl rfl rfl (fun hc => ?_) (fun hc => ?_) <;> (try (first | (exfalso; omega) | exact absurd rfl hc))) | (apply TL.ev; (case hd => rfl); (case h => (first | exact ev_simple rfl | (apply Ev.isBin; first | exact ev_arN rfl rfl rfl (by omega) | exact ev_arI rfl rfl rfl (by omega) | exact ev_eqlB (r := true) rfl rfl rfl | exact ev_eqlB (r := false) rfl rfl rfl | exact ev_neqB (r := true) rfl rfl rfl | exact ev_neqB (r := false) rfl rfl rfl) | (apply Ev.isLoad; first | exact ev_loadFr hF rfl (by refine ⟨?_, ?_⟩; (focus (repeat (first | exact InV.head | apply InV.tail))); rfl) | exact ev_loadAFr hF rfl (by refine ⟨?_, ?_⟩; (focus (repeat (first | exact InV.head | apply InV.tail))); rfl)) | exact ev_len rfl | exact ev_fieldAddr rfl | exact ev_field rfl rfl | exact ev_fieldA rfl rfl | exact ev_buildX rfl rfl | exact ev_makeFunc rfl | exact ev_nilCheck rfl | exact ev_neg rfl (by omega) | exact ev_cap rfl))) | (refine TL.storeAFr hF rfl rfl rfl rfl (by refine ⟨?_, ?_⟩; (focus (repeat (first | apply SetV.head | apply SetV.tail))); rfl) rfl ?_; clear hF; intro ws hF) | (refine TL.storeFr hF rfl rfl rfl rfl (by refine ⟨?_, ?_⟩; (focus (repeat (first | apply SetV.head | apply SetV.tail))); rfl) rfl ?_; clear hF; intro ws hF) | (refine TL.boxAFr hF (d := 1) (cs := [.bool yn, .slice A1 n1 c1]) rfl rfl ?_; clear hF; intro w1 b1 hF) | (refine TL.boxAFr hF rfl rfl ?_; clear hF; intro wb bb hF) | (refine TL.boxFr hF rfl rfl ?_; clear hF; intro wb bb hF) | (refine TL.allocFr hF rfl rfl ?_; clear hF; intro wa ba hF)) | (refine T.is ?_; first | refine T.seq ?_ | refine T.region ?_ | refine T.block ?_ | refine T.cond_t rfl ?_ | refine T.cond_f rfl ?_ | refine T.exit ?_ | refine T.ret ?_ | refine T.skip ?_ | refine T.regionQ mixed (by kernel_rfl) ?_) | (refine G.is ?_; first | refine G.next ?_ | refine G.blockN ?_ | refine G.blockE ?_ | refine G.blockE' rfl ?_ | refine G.blockR ?_ | refine G.thenE ?_ | refine G.thenR ?_ | refine G.only ?_) | refine TL.nil ?_ | (refine TL.nilFr hF ?_; clear hF; intro wq hF))
    exact G.ret1 rfl rfl ⟨rfl, hF.ext⟩
  · have h1 : val l1 ≠ 0 := fun h => h0 (hb0.2 h)
    cases yn with
    | true =>
      have e : sig (ival ⟨true, ⟨A1, n1, c1, l1⟩⟩) = -1 := by simp only [sig, ival, sgn, if_true]; rw [if_pos (by omega)]
      rw [e]
      refine enter Try.func27 rfl rfl rfl ?_
      have hF := Fr.refl w
      repeat' (first | (refine TL.isOp ?_; first | (refine TL.isG ?_; first | refine TL.grun rfl rfl rfl ?_ | refine TL.gskip rfl rfl rfl rfl ?_ | refine TL.gskipU rfl rfl rfl ?_) | (refine TL.isCall ?_; refine TL.call rfl rfl ?_; first | (refine (hbl _ hF.ext).mono ?_; rintro _ w1 ⟨rfl, hE⟩; replace hF := hF.exts hE.ext; clear hE; refine Back.mk ?_)) | (refine TL.isBin ?_; refine TL.cmpG rfl rfl rfl rfl (fun hc => ?_) (fun hc => ?_) <;> (try (first | (exfalso; omega) | exact absurd rfl hc))) | (apply TL.ev; (case hd => rfl); (case h => (first | exact ev_simple rfl | (apply Ev.isBin; first | exact ev_arN rfl rfl rfl (by omega) | exact ev_arI rfl rfl rfl (by omega) | exact ev_eqlB (r := true) rfl rfl rfl | exact ev_eqlB (r := false) rfl rfl rfl | exact ev_neqB (r := true) rfl rfl rfl | exact ev_neqB (r := false) rfl rfl rfl) | (apply Ev.isLoad; first | exact ev_loadFr hF rfl (by refine ⟨?_, ?_⟩; (focus (repeat (first | exact InV.head | apply InV.tail))); rfl) | exact ev_loadAFr hF rfl (by refine ⟨?_, ?_⟩; (focus (repeat (first | exact InV.head | apply InV.tail))); rfl)) | exact ev_len rfl | exact ev_fieldAddr rfl | exact ev_field rfl rfl | exact ev_fieldA rfl rfl | exact ev_buildX rfl rfl | exact ev_makeFunc rfl | exact ev_nilCheck rfl | exact ev_neg rfl (by omega) | exact ev_cap rfl))) | (refine TL.storeAFr hF rfl rfl rfl rfl (by refine ⟨?_, ?_⟩; (focus (repeat (first | apply SetV.head | apply SetV.tail))); rfl) rfl ?_; clear hF; intro ws hF) | (refine TL.storeFr hF rfl rfl rfl rfl (by refine ⟨?_, ?_⟩; (focus (repeat (first | apply SetV.head | apply SetV.tail))); rfl) rfl ?_; clear hF; intro ws hF) | (refine TL.boxAFr hF (d := 1) (cs := [.bool true, .slice A1 n1 c1]) rfl rfl ?_; clear hF; intro w1 b1 hF) | (refine TL.boxAFr hF rfl rfl ?_; clear hF; intro wb bb hF) | (refine TL.boxFr hF rfl rfl ?_; clear hF; intro wb bb hF) | (refine TL.allocFr hF rfl rfl ?_; clear hF; intro wa ba hF)) | (refine T.is ?_; first | refine T.seq ?_ | refine T.region ?_ | refine T.block ?_ | refine T.cond_t rfl ?_ | refine T.cond_f rfl ?_ | refine T.exit ?_ | refine T.ret ?_ | refine T.skip ?_ | refine T.regionQ mixed (by kernel_rfl) ?_) | (refine G.is ?_; first | refine G.next ?_ | refine G.blockN ?_ | refine G.blockE ?_ | refine G.blockE' rfl ?_ | refine G.blockR ?_ | refine G.thenE ?_ | refine G.thenR ?_ | refine G.only ?_) | refine TL.nil ?_ | (refine TL.nilFr hF ?_; clear hF; intro wq hF))
      exact G.ret1 rfl rfl ⟨rfl, hF.ext⟩
    | false =>
      have e : sig (ival ⟨false, ⟨A1, n1, c1, l1⟩⟩) = 1 := by simp only [sig, ival, sgn, Bool.false_eq_true, if_false]; rw [if_neg (by omega), if_neg (by omega)]
      rw [e]
      refine enter Try.func27 rfl rfl rfl ?_
      have hF := Fr.refl w
      repeat' (first | (refine TL.isOp ?_; first | (refine TL.isG ?_; first | refine TL.grun rfl rfl rfl ?_ | refine TL.gskip rfl rfl rfl rfl ?_ | refine TL.gskipU rfl rfl rfl ?_) | (refine TL.isCall ?_; refine TL.call rfl rfl ?_; first | (refine (hbl _ hF.ext).mono ?_; rintro _ w1 ⟨rfl, hE⟩; replace hF := hF.exts hE.ext; clear hE; refine Back.mk ?_)) | (refine TL.isBin ?_; refine TL.cmpG rfl rfl rfl rfl (fun hc => ?_) (fun hc => ?_) <;> (try (first | (exfalso; omega) | exact absurd rfl hc))) | (apply TL.ev; (case hd => rfl); (case h => (first | exact ev_simple rfl | (apply Ev.isBin; first | exact ev_arN rfl rfl rfl (by omega) | exact ev_arI rfl rfl rfl (by omega) | exact ev_eqlB (r := true) rfl rfl rfl | exact ev_eqlB (r := false) rfl rfl rfl | exact ev_neqB (r := true) rfl rfl rfl | exact ev_neqB (r := false) rfl rfl rfl) | (apply Ev.isLoad; first | exact ev_loadFr hF rfl (by refine ⟨?_, ?_⟩; (focus (repeat (first | exact InV.head | apply InV.tail))); rfl) | exact ev_loadAFr hF rfl (by refine ⟨?_, ?_⟩; (focus (repeat (first | exact InV.head | apply InV.tail))); rfl)) | exact ev_len rfl | exact ev_fieldAddr rfl | exact ev_field rfl rfl | exact ev_fieldA rfl rfl | exact ev_buildX rfl rfl | exact ev_makeFunc rfl | exact ev_nilCheck rfl | exact ev_neg rfl (by omega) | exact ev_cap rfl))) | (refine TL.storeAFr hF rfl rfl rfl rfl (by refine ⟨?_, ?_⟩; (focus (repeat (first | apply SetV.head | apply SetV.tail))); rfl) rfl ?_; clear hF; intro ws hF) | (refine TL.storeFr hF rfl rfl rfl rfl (by refine ⟨?_, ?_⟩; (focus (repeat (first | apply SetV.head | apply SetV.tail))); rfl) rfl ?_; clear hF; intro ws hF) | (refine TL.boxAFr hF (d := 1) (cs := [.bool false, .slice A1 n1 c1]) rfl rfl ?_; clear hF; intro w1 b1 hF) | (refine TL.boxAFr hF rfl rfl ?_; clear hF; intro wb bb hF) | (refine TL.boxFr hF rfl rfl ?_; clear hF; intro wb bb hF) | (refine TL.allocFr hF rfl rfl ?_; clear hF; intro wa ba hF)) | (refine T.is ?_; first | refine T.seq ?_ | refine T.region ?_ | refine T.block ?_ | refine T.cond_t rfl ?_ | refine T.cond_f rfl ?_ | refine T.exit ?_ | refine T.ret ?_ | refine T.skip ?_ | refine T.regionQ mixed (by kernel_rfl) ?_) | (refine G.is ?_; first | refine G.next ?_ | refine G.blockN ?_ | refine G.blockE ?_ | refine G.blockE' rfl ?_ | refine G.blockR ?_ | refine G.thenE ?_ | refine G.thenR ?_ | refine G.only ?_) | refine TL.nil ?_ | (refine TL.nilFr hF ?_; clear hF; intro wq hF))
      exact G.ret1 rfl rfl ⟨rfl, hF.ext⟩
end Go.Proofs.Ytlpheckjogphmaa

namespace Go.Eng
open Go Go.RowKit

theorem sm_cells {α : Type} {f : α → List Value} {w : World} {k B n c : Nat} {A : Option Addr} {l : List α} (h : Sm k f w.heap B A n c l) {b o : Nat} (hA : A = some ⟨b, o, none⟩) : ∀ j v, (l.flatMap f)[j]? = some v → w.cell? ((⟨b, o, none⟩ : Addr).add j) = some v := by
  intro j v hv
  have hlen := h.len
  have hk := h.pos
  have hfl := flatMap_len h.wid
  have hj : j < l.length * k := by rw [← hfl]; exact (List.getElem?_eq_some_iff.1 hv).1
  rcases h.mem with h0 | ⟨b', o', e, _, hc⟩
  · rw [hlen, h0, Nat.zero_mul] at hj; omega
  · rw [hA] at e
    cases e
    rw [add_mk, cell_of_hcell]
    have h1 : j / k < l.length := Nat.div_lt_of_lt_mul (by rw [Nat.mul_comm]; exact hj)
    have h2 := flatMap_get h.wid (j / k) (j % k) l[j / k] (List.getElem?_eq_getElem h1) (Nat.mod_lt _ hk)
    rw [Nat.div_add_mod'] at h2
    have h3 := hc (j / k) l[j / k] (List.getElem?_eq_getElem h1) (j % k) v (by rw [← h2]; exact hv)
    rw [Nat.div_add_mod'] at h3
    exact h3
theorem zero_noU {z : List Value} (hz : z.all noU64 = true) (n : Nat) : (Builtin.zeroCells z.toArray n).toList.all noU64 = true := by
  rw [List.all_eq_true]
  intro v hv
  simp only [Builtin.zeroCells, Array.toList_map, List.mem_map] at hv
  obtain ⟨q, hq, rfl⟩ := hv
  have hq' : q < n * z.length := by simpa using hq
  have hlt : q % z.length < z.length := Nat.mod_lt _ (by rcases Nat.eq_zero_or_pos z.length with h | h; rw [h] at hq'; omega; exact h)
  have : z.toArray[q % z.toArray.size]! = z[q % z.length] := by simp [List.getElem?_eq_getElem hlt]
  rw [this]
  exact List.all_eq_true.1 hz _ (List.getElem_mem hlt)
section
variable {P : Program} {N : Fm} {Q : Exit → Act → World → Prop} {σ : Store} {S : Nat → Prop} {w0 w : World} {L : List VB} {D : List DP} {ops : Array Oper} {d : Nat} {t : TypeId} {pos : String} {af : Array Edge} {rest : List Oper}
theorem Fr.swap {a b : VB} (h : Fr w0 w (a :: b :: L) D S) : Fr w0 w (b :: a :: L) D S := by
  have hp : ∀ v, v ∈ b :: a :: L → v ∈ a :: b :: L := fun v hv => by simp only [List.mem_cons] at hv ⊢; rcases hv with h | h | h <;> simp [h]
  refine ⟨h.exs, fun v hv => h.vars v (hp v hv), ?_, h.data, fun v hv => h.apart v (hp v hv)⟩
  have hd := h.dist
  simp only [List.pairwise_cons, List.mem_cons] at hd ⊢
  refine ⟨fun v hv => ?_, fun v hv => hd.1 v (.inr hv), hd.2.2⟩
  rcases hv with rfl | hv
  · exact fun e => hd.1 b (.inl rfl) e.symm
  · exact hd.2.1 v hv
theorem ev_loadMc {H : Array Obj} {d : Option Tmp} {gd : Option (Nat × Bool)} {x : Operand} {ty : TypeId} [hA : UAgg P ty] {z : Value} {sz b1 : Nat} [hS : USize P ty z sz b1] {α : Type} {f : α → List Value} {B n c i : Nat} {A : Option Addr} {l : List α} {y : α} (cs : List Value)
    (hx : look σ x = some (.pointer (elemA A (i * sz)))) (hs : Sm sz f H B A n c l) (hy : l[i]? = some y) (hc : f y = cs) : Ev P σ H ⟨d, .load ty x, t, pos, af, gd⟩ (.agg cs.toArray) := hc ▸ ev_loadM hx hs hy
end
end Go.Eng

namespace Go.Eng
open Go Go.RowKit
section
variable {P : Program} {N : Fm} {Q : Exit → Act → World → Prop} {σ : Store} {S : Nat → Prop} {w0 w : World} {L : List VB} {D : List DP} {ops : Array Oper} {d : Nat} {t : TypeId} {pos : String} {af : Array Edge} {rest : List Oper}
/-- to nothing, elements of any type -/
theorem TL.appendNewFr (hF : Fr w0 w L D S) {α : Type} (f : α → List Value) {x y : Operand} {ty e : TypeId} [hT : USlice P ty e] {v0 : Value} {z : List Value} {sz b1 : Nat} [hS : USize P e v0 sz b1] (hzv : v0.cells = z.toArray) {a : Addr} {m c' B : Nat} {l' : List α}
    (hx : look σ x = some (.slice none 0 0)) (hy : look σ y = some (.slice (some a) m c')) (hd : Nat.blt d N.n = true) (hs : Sm sz f w.heap B (some a) m c' l') (h1 : ∀ u, (f u).all (·.oneCell') = true) (hzl : Nat.beq z.length sz = true) (hzn : z.all noU64 = true)
    (hroom : m * b1 ≤ 140737488355328 ∧ m ≤ 4611686018427387904)
    (K0 : m = 0 → TL P N .seq ops Q rest ((d, .slice none 0 0) :: σ) w)
    (K : 0 < m → ∀ w' b c2 zs, m ≤ c2 → zs.length = (c2 - m) * sz → zs.all noU64 = true → Fr w0 w' (⟨b, e, l'.flatMap f ++ zs⟩ :: L) D S → TL P N .seq ops Q rest ((d, .slice (some ⟨b, 0, none⟩) m c2) :: σ) w') :
    TL P N .seq ops Q (⟨some d, .call { callee := .builtin .append, args := #[x, y], argTypes := #[ty, ty] }, t, pos, af, none⟩ :: rest) σ w := by
  obtain ⟨i, hi, hz0, hsz, hby⟩ := hS.info
  have hl' := hs.len
  have hzl' := Nat.eq_of_beq_eq_true hzl
  rcases Nat.eq_zero_or_pos m with h0 | h0
  · subst h0
    refine TL.op (fun ρ hρ => ?_) hd (K0 rfl)
    have : (Builtin.append_ #[ty, ty] t #[.slice none 0 0, .slice (some a) 0 c']).run P w = .ok (.slice none 0 0) w := by
      simp [Builtin.append_, run_underlying hT.out, sizeOf, typeInfo, hi, Builtin.lenOf, Builtin.firstCells, loadCells, loadCellsFrom]
    simp [execOp, resolve, invoke, builtin, hρ x _ hx, hρ y _ hy, this]
  · rcases hs.mem with h | ⟨b, o, hab, _, _⟩
    · omega
    cases hab
    have hlf := flatMap_len hs.wid
    have hr := run_append_nil (P := P) w ty t e i v0 hT.out hi hz0 ⟨b, o, none⟩ m c' (l'.flatMap f) (by rw [hlf, hl', hsz]) (sm_cells hs rfl) h0 (by omega) (by rw [hby]; omega)
    have hge := grownCap_ge w m 0 e
    have hV : Vr (w.drew.alloc (.cells ((l'.flatMap f).toArray ++ Builtin.zeroCells z.toArray (grownCap w m 0 e - m)) e)).heap w.heap.size e (l'.flatMap f ++ (Builtin.zeroCells z.toArray (grownCap w m 0 e - m)).toList) := by
      unfold Vr
      have := heap_alloc w.drew (.cells ((l'.flatMap f).toArray ++ Builtin.zeroCells z.toArray (grownCap w m 0 e - m)) e)
      rw [show w.drew.heap.size = w.heap.size from rfl] at this
      rw [this]
      congr 2
      apply Array.ext'
      simp
    have hE : Ext w (w.drew.alloc (.cells ((l'.flatMap f).toArray ++ Builtin.zeroCells z.toArray (grownCap w m 0 e - m)) e)) := Ext.trans (ext_drewN w 1) (ext_alloc _ _)
    refine TL.op (fun ρ hρ => ?_) hd (K h0 _ _ _ _ hge (by rw [Array.length_toList, size_zeroCells, List.size_toArray, hzl']) (zero_noU hzn _) (hF.new rfl hV hE))
    rw [hzv] at hr
    simp [execOp, resolve, invoke, builtin, hρ x _ hx, hρ y _ hy, hr]
/-- to what stands at the head of a block known whole, elements of any type -/
theorem TL.appendAtFr {α : Type} {f : α → List Value} {g n c : Nat} {e : TypeId} {l : List α} {zs : List Value} {L' : List VB} (hF : Fr w0 w L D S) {x y : Operand} {ty : TypeId} [hT : USlice P ty e] {v0 : Value} {z : List Value} {sz b1 : Nat} [hS : USize P e v0 sz b1] (hzv : v0.cells = z.toArray) {a : Addr} {m c' B : Nat} {l' : List α}
    (hx : look σ x = some (.slice (some ⟨g, 0, none⟩) n c)) (hy : look σ y = some (.slice (some a) m c')) (hd : Nat.blt d N.n = true) (hs : Sm sz f w.heap B (some a) m c' l') (h1 : ∀ u, (f u).all (·.oneCell') = true) (hw : ∀ u, (f u).length = sz) (hzl : Nat.beq z.length sz = true) (hzn : z.all noU64 = true)
    (hl : l.length = n) (hzs : zs.length = (c - n) * sz) (hnc : n ≤ c) (hno : (l.flatMap f ++ zs).all noU64 = true)
    (hroom : (n + m) * b1 ≤ 140737488355328 ∧ n + m ≤ 4611686018427387904)
    (hL : SetV L g e (l.flatMap f ++ zs) ((l ++ l').flatMap f ++ zs.drop (m * sz)) L')
    (K1 : n + m ≤ c → ∀ w', Fr w0 w' L' D S → TL P N .seq ops Q rest ((d, .slice (some ⟨g, 0, none⟩) (n + m) c) :: σ) w')
    (K2 : c < n + m → ∀ w' b c2 zs', n + m ≤ c2 → zs'.length = (c2 - (n + m)) * sz → zs'.all noU64 = true → Fr w0 w' (⟨b, e, (l ++ l').flatMap f ++ zs'⟩ :: L) D S → TL P N .seq ops Q rest ((d, .slice (some ⟨b, 0, none⟩) (n + m) c2) :: σ) w') :
    TL P N .seq ops Q (⟨some d, .call { callee := .builtin .append, args := #[x, y], argTypes := #[ty, ty] }, t, pos, af, none⟩ :: rest) σ w := by
  obtain ⟨i, hi, hz0, hsz, hby⟩ := hS.info
  have hl' := hs.len
  have hzl' := Nat.eq_of_beq_eq_true hzl
  have hlf : (l.flatMap f).length = n * sz := by rw [flatMap_len (fun x _ => hw x), hl]
  have hlf' : (l'.flatMap f).length = m * sz := by rw [flatMap_len hs.wid, hl']
  have hV := hF.var hL.inV
  obtain ⟨b0, o0, hab⟩ : ∃ b0 o0, (a = ⟨b0, o0, none⟩ ∨ m = 0) := by
    rcases hs.mem with h | ⟨b, o, h, _⟩
    · exact ⟨0, 0, .inr h⟩
    · cases h; exact ⟨b, o, .inl rfl⟩
  have hnews : ∀ j v, (l'.flatMap f)[j]? = some v → w.cell? (a.add j) = some v := by
    rcases hab with rfl | h
    · exact sm_cells hs rfl
    · intro j v hv
      have := (List.getElem?_eq_some_iff.1 hv).1
      rw [hlf', h, Nat.zero_mul] at this; omega
  have holds : ∀ j v, (l.flatMap f)[j]? = some v → w.cell? ((⟨g, 0, none⟩ : Addr).add j) = some v := fun j v hv => by
    rw [add_mk, cell_of_hcell, Nat.zero_add, hV.cell, List.getElem?_append_left (List.getElem?_eq_some_iff.1 hv).1]; exact hv
  have h1' : ∀ u ∈ l'.flatMap f, u.oneCell' = true := fun u hu => by
    obtain ⟨q, _, hq⟩ := List.mem_flatMap.1 hu
    exact List.all_eq_true.1 (h1 q) u hq
  rcases Nat.lt_or_ge c (n + m) with hcm | hcm
  · have hr := run_append_grow (P := P) w ty t e i v0 hT.out hi hz0 ⟨g, 0, none⟩ n c (l.flatMap f) (by rw [hlf, hsz]) holds a m c' (l'.flatMap f) (by rw [hlf', hsz]) hnews (by omega) (by omega) (growslice_fits (by omega) (by rw [hby]; exact hroom.1))
    have hge := grownCap_ge w (n + m) c e
    have hV2 : Vr (w.drew.alloc (.cells ((l.flatMap f).toArray ++ (l'.flatMap f).toArray ++ Builtin.zeroCells z.toArray (grownCap w (n + m) c e - (n + m))) e)).heap w.heap.size e ((l ++ l').flatMap f ++ (Builtin.zeroCells z.toArray (grownCap w (n + m) c e - (n + m))).toList) := by
      unfold Vr
      have := heap_alloc w.drew (.cells ((l.flatMap f).toArray ++ (l'.flatMap f).toArray ++ Builtin.zeroCells z.toArray (grownCap w (n + m) c e - (n + m))) e)
      rw [show w.drew.heap.size = w.heap.size from rfl] at this
      rw [this]
      congr 2
      apply Array.ext'
      simp
    have hE : Ext w (w.drew.alloc (.cells ((l.flatMap f).toArray ++ (l'.flatMap f).toArray ++ Builtin.zeroCells z.toArray (grownCap w (n + m) c e - (n + m))) e)) := Ext.trans (ext_drewN w 1) (ext_alloc _ _)
    refine TL.op (fun ρ hρ => ?_) hd (K2 hcm _ _ _ _ hge (by rw [Array.length_toList, size_zeroCells, List.size_toArray, hzl']) (zero_noU hzn _) (hF.new rfl hV2 hE))
    rw [hzv] at hr
    simp [execOp, resolve, invoke, builtin, hρ x _ hx, hρ y _ hy, hr]
  · have hms : m * sz ≤ (c - n) * sz := Nat.mul_le_mul_right _ (by omega)
    have hr := run_append_room (P := P) w ty t e i hT.out hi g n c (l.flatMap f ++ zs).toArray hV a m c' (l'.flatMap f) (by rw [hlf', hsz]) hnews h1' hcm (by simp [hlf, hlf', hsz, hzs]; omega)
    have e1 : List.take (n * sz) (l.flatMap f ++ zs) = l.flatMap f := by rw [← hlf, List.take_left]
    have e2 : List.drop (n * sz + (l'.flatMap f).length) (l.flatMap f ++ zs) = zs.drop (m * sz) := by rw [← hlf, hlf', List.drop_append, List.drop_of_length_le (by omega)]; simp
    refine TL.op (w' := w.setRow g ((l.flatMap f) ++ l'.flatMap f ++ zs.drop (m * sz)).toArray) (fun ρ hρ => ?_) hd (K1 hcm _ (hF.store hL hno (upd_setRow _ _ _) ?_))
    · simp only [execOp, resolve, invoke, builtin, Sem.run_bind, Sem.run_pure, Result.andThen_ok, List.map_toArray, List.map_cons, List.map_nil, hρ x _ hx, hρ y _ hy]
      rw [hr]
      simp only [Result.andThen_ok, Sem.run_pure, hsz]
      rw [e1, e2]
    · unfold Vr at hV ⊢
      rw [setRow_heap w g _ _ e _ hV, List.flatMap_append]
/-- a literal of one value of one cell -/
theorem TL.build1Fr (hF : Fr w0 w L D S) {α : Type} {f : α → Value} (hfc : ∀ u, (f u).cells = #[f u]) {x : Operand} {ty e : TypeId} [hT : USlice P ty e] {z : Value} {b1 : Nat} [hS : USize P e z 1 b1] (hzc : z.cells = #[z]) {u : α} (hx : look σ x = some (f u)) (hd : Nat.blt d N.n = true)
    (K : ∀ w' b, w.heap.size ≤ b → Fr w0 w' L D S → Sm 1 (fun u => [f u]) w'.heap w'.heap.size (some ⟨b, 0, none⟩) 1 1 [u] → Ext w w' → TL P N .seq ops Q rest ((d, .slice (some ⟨b, 0, none⟩) 1 1) :: σ) w') :
    TL P N .seq ops Q (⟨some d, .buildSlice ty 1 #[(0, x)], t, pos, af, none⟩ :: rest) σ w :=
  TL.build1 hfc hzc hx hd fun w' b hb hB hE _ => by
    have hV : Vr w'.heap b e ([u].flatMap (fun u => [f u]) ++ []) := by unfold Bk at hB; unfold Vr; simpa using hB
    exact K w' b (by omega) (hF.exts hE) (vr_sm (by omega) (fun _ _ => rfl) hV rfl (Nat.le_refl _) hV.lt) hE
end
section
variable {S : Nat → Prop} {w0 w w' : World} {L : List VB} {D : List DP} {b : Nat} {t : TypeId} {cs : List Value}
/-- a block that a callee has made -/
theorem Fr.newGe (h : Fr w0 w L D S) (hb : w.heap.size ≤ b) (hV : Vr w'.heap b t cs) (hE : Ext w w') : Fr w0 w' (⟨b, t, cs⟩ :: L) D S := by
  have h1 := h.exts hE
  refine ⟨h1.exs, fun v hv => ?_, List.pairwise_cons.2 ⟨fun v hv e => ?_, h.dist⟩, h1.data, fun v hv d hd => ?_⟩
  · rcases List.mem_cons.1 hv with rfl | hv
    · exact ⟨.inl (Nat.le_trans h.exs.size hb), hV⟩
    · exact h1.vars v hv
  · have := (h.vars v hv).2.lt
    simp only at e
    omega
  · rcases List.mem_cons.1 hv with rfl | hv
    · intro hk
      have := d.lt _ _ (h.data d hd) hk
      simp only at this
      omega
    · exact h.apart v hv d hd
end
section
variable {P : Program} {n : Nat} {σ : Store} {w : World} {fn : Func} {R : Ending → World → Prop}
theorem Held.cx {ty : TypeId} {b B : Nat} {e : TypeId} {cs : List Value} [hA : UAgg P ty] {z : Value} {sz b1 : Nat} [hS : USize P ty z sz b1] {w' : World} (hV : Vr w.heap b e cs) (hl : Nat.beq cs.length sz = true) (hc : Cx B w w') : Held P ty w' b (.agg cs.toArray) :=
  held_agg (e := e) (by unfold Vr at hV ⊢; exact (hc.cells _ _ hV rfl).trans hV) hl
end
class UFunc (P : Program) (t : TypeId) : Prop where
  out : ∃ a b c, P.underlying t = some (.func a b c)
section
variable {P : Program} {σ : Store} {H : Array Obj} {d : Option Tmp} {t : TypeId} {pos : String} {af : Array Edge} {gd : Option (Nat × Bool)}
end
end Go.Eng

namespace Go.Eng
open Go
class UPtr (P : Program) (t : TypeId) : Prop where
  out : ∃ e, P.underlying t = some (.pointer e)
section
variable {P : Program} {σ : Store} {H : Array Obj} {d : Option Tmp} {t : TypeId} {pos : String} {af : Array Edge} {gd : Option (Nat × Bool)}
theorem run_eql_p {P : Program} {t : TypeId} [hT : UPtr P t] (a : Option Addr) (w : World) : (Op.equal t (.pointer a) (.pointer none)).run P w = .ok a.isNone w := by
  obtain ⟨e, h⟩ := hT.out
  have h1 : ∀ n : Nat, (Op.equalIn (n + 1) t (.pointer a) (.pointer none)).run P w = .ok a.isNone w := fun n => by cases a <;> simp [Op.equalIn, run_underlying h]
  simp [Op.equal, Op.maxDepth, h1 9999]
theorem ev_eqlP {x y : Operand} {tx ty : TypeId} [hT : UPtr P tx] {a : Option Addr} {r : Bool} (hx : look σ x = some (.pointer a)) (hy : look σ y = some (.pointer none)) (h : a.isNone = r) : Ev P σ H ⟨d, .binOp .eql tx x y ty, t, pos, af, gd⟩ (.bool r) := by
  subst h
  unfold Ev
  intro ρ w hρ _
  have he : (eqGuard .eql tx x y (.pointer a) (.pointer none)).run P w = .ok () w := by unfold eqGuard; simp
  simp [execOp, hρ x _ hx, hρ y _ hy, he, binOp, run_eql_p]
end
section
variable {P : Program} {fn : Func} {R : Ending → World → Prop} {σ : Store} {w : World}
end
end Go.Eng

namespace Go.Eng
open Go Go.Proofs Go.NatM Go.RowKit Go.Proofs.Ytlpheckjogphmaa

instance : UPtr Try.prog 26 := ⟨_, Try.underlying26⟩
/-- an integer as a value -/
def ivA (x : IV) : Value := .agg #[.bool x.neg, .slice x.m.A x.m.n x.m.c]
def iv0 : IV := ⟨false, ⟨none, 0, 0, []⟩⟩
theorem iv0_gi (H : Array Obj) : GI H iv0 := ⟨⟨rfl, Nat.le_refl _, .inl rfl⟩, fun x hx => by cases hx⟩
/-- the block of a grid with r rows, c columns and the map m -/
def grc (r c : Nat) (m : Nat) : List Value := [.int .i64 (r : Int), .int .i64 (c : Int), .map (some m)]
abbrev GL := List ((Int × Int) × IV)
/-- a grid in the block g, its map in m, which holds l -/
structure Gr (H : Array Obj) (g m r c : Nat) (l : GL) : Prop where
  cells : Vr H g 96 (grc r c m)
  mp : ∃ es k, H[m]? = some (.map es k) ∧ MpR spot ivA es k l
  vals : ∀ p ∈ l, LI H (ival p.2) p.2 ∧ p.2.m.n ≤ 16384
/-- a block that nobody writes -/
def dpCb (b : Nat) (t : TypeId) (cs : List Value) : DP := ⟨fun H => Vr H b t cs, fun k => k = b, fun _ _ h e => e ▸ h.lt, fun _ _ hd h => by
  unfold Vr at h ⊢
  exact (hd.block b _ _ _ h (.inl rfl)).trans h⟩
/-- integers -/
def dpGv (l : GL) : DP := ⟨fun H => ∀ p ∈ l, LI H (ival p.2) p.2 ∧ p.2.m.n ≤ 16384, fun _ => False, fun _ _ _ h => h.elim, fun _ _ hd h p hp => ⟨(h p hp).1.de hd, (h p hp).2⟩⟩
/-- a grid -/
def dpGr (g m r c : Nat) (l : GL) : DP := ⟨fun H => Gr H g m r c l, fun k => k = g ∨ k = m, fun _ _ h e => by
  rcases e with rfl | rfl
  · exact h.cells.lt
  · obtain ⟨es, k, hm, _⟩ := h.mp
    exact (Array.getElem?_eq_some_iff.1 hm).1, fun _ _ hd h => ⟨by
  have h1 := h.cells
  unfold Vr at h1 ⊢
  exact (hd.block g _ _ _ h1 (.inl (.inl rfl))).trans h1, by
  obtain ⟨es, k, hm, hr⟩ := h.mp
  exact ⟨es, k, (hd.maps m _ hm rfl (.inr rfl)).trans hm, hr⟩, fun p hp => ⟨(h.vals p hp).1.de hd, (h.vals p hp).2⟩⟩⟩
section
variable {P : Program} {σ : Go.Eng.Store} {d : Option Tmp} {t : TypeId} {pos : String} {af : Array Edge} {gd : Option (Nat × Bool)} {S : Nat → Prop} {w0 w w' : World} {L : List VB} {D : List DP}
theorem ev_loadCb (hF : Fr w0 w L D S) {x : Operand} {ty e : TypeId} [hO : UOne P ty] {b o : Nat} {cs : List Value} {v : Value} (hx : Go.Eng.look σ x = some (.pointer (some ⟨b, o, none⟩))) (hm : dpCb b e cs ∈ D) (h : nthV cs o = some v) :
    Ev P σ w.heap ⟨d, .load ty x, t, pos, af, gd⟩ v := ev_loadV hx (hF.data _ hm) h
theorem Fr.refS (w : World) (S : Nat → Prop) : Fr w w [] [] S := ⟨Exs.refl _ _, fun _ h => (by cases h), List.Pairwise.nil, fun _ h => (by cases h), fun _ h => (by cases h)⟩
theorem Fr.mt (hF : Fr w0 w [] D S) (d : DP) (h : d.p w.heap) : Fr w0 w [] (d :: D) S := hF.add d h fun _ h => (by cases h)
/-- a grid, taken apart -/
theorem Gr.fr {g m r c : Nat} {l : GL} (h : Gr w.heap g m r c l) (S : Nat → Prop) : Fr w w [] [dpMp spot ivA m l, dpCb g 96 (grc r c m), dpGv l] S :=
  (((Fr.refS w S).mt (dpGv l) h.vals).mt (dpCb g 96 (grc r c m)) h.cells).mt (dpMp spot ivA m l) (by unfold dpMp; exact h.mp)
theorem Fr.gr {g m r c : Nat} {l : GL} (hF : Fr w0 w L D S) (h1 : dpMp spot ivA m l ∈ D) (h2 : dpCb g 96 (grc r c m) ∈ D) (h3 : dpGv l ∈ D) : Gr w.heap g m r c l := ⟨hF.data _ h2, hF.mp h1, hF.data _ h3⟩
theorem Fr.gv {l : GL} (hF : Fr w0 w L D S) (h : dpGv l ∈ D) : ∀ p ∈ l, LI w.heap (ival p.2) p.2 ∧ p.2.m.n ≤ 16384 := hF.data _ h
theorem Gr.ext {g m r c : Nat} {l : GL} (h : Gr w.heap g m r c l) (hE : Ext w w') : Gr w'.heap g m r c l := (dpGr g m r c l).st _ _ (DE.ext hE) h
/-- a callee has written one map -/
theorem Fr.callX {x y : DP} {m : Nat} {o : Obj} (hF : Fr w0 w L (x :: D) S) (hE : Exs (fun k => k = m) w w') (ho : w.heap[m]? = some o) (hc : o.isCells = false) (hb : w0.heap.size ≤ m ∨ S m) (hfree : ∀ x ∈ D, ¬ x.fp m) (hy : y.p w'.heap) (hyf : ∀ k, y.fp k → x.fp k) :
    Fr w0 w' L (y :: D) S := by
  have hne : ∀ v ∈ L, v.b ≠ m := fun v hv e => by
    have h1 := (hF.vars v hv).2
    unfold Vr at h1
    rw [e, ho] at h1
    cases h1
    cases hc
  refine ⟨hF.exs.then hE fun i hi e => ?_, fun v hv => ⟨(hF.vars v hv).1, ?_⟩, hF.dist, fun d hd => ?_, fun v hv d hd => ?_⟩
  · subst e
    exact hb.elim (fun h => absurd hi (Nat.not_lt_of_le h)) id
  · have h1 := (hF.vars v hv).2
    have h2 := h1.lt
    unfold Vr at h1 ⊢
    rw [hE.block _ h2 (hne v hv)]; exact h1
  · rcases List.mem_cons.1 hd with rfl | hd
    · exact hy
    · refine d.st _ _ ⟨hE.size, fun k cs t y hk _ => hE.block k (Array.getElem?_eq_some_iff.1 hk).1 fun e => ?_, fun k o hk _ hf => hE.block k (Array.getElem?_eq_some_iff.1 hk).1 fun e => hfree d hd (e ▸ hf)⟩ (hF.data d (List.mem_cons_of_mem _ hd))
      rw [e, ho] at hk
      cases hk
      cases hc
  · rcases List.mem_cons.1 hd with rfl | hd
    · exact fun h => hF.apart v hv x (List.mem_cons_self ..) (hyf _ h)
    · exact hF.apart v hv d (List.mem_cons_of_mem _ hd)
theorem Fr.callMp {m : Nat} {l l' : GL} (hF : Fr w0 w L (dpMp spot ivA m l :: D) S) (hE : Exs (fun k => k = m) w w') (hb : w0.heap.size ≤ m ∨ S m) (hfree : ∀ x ∈ D, ¬ x.fp m) (hG : ∃ es k, w'.heap[m]? = some (.map es k) ∧ MpR spot ivA es k l') : Fr w0 w' L (dpMp spot ivA m l' :: D) S := by
  obtain ⟨es, k, hm, _⟩ := hF.mp (List.mem_cons_self ..)
  refine hF.callX hE hm rfl hb hfree (by unfold dpMp; exact hG) fun _ h => ?_
  unfold dpMp at h ⊢; exact h
/-- facts that do not look at a block -/
theorem nfN {m : Nat} : ∀ x ∈ ([] : List DP), ¬ x.fp m := fun _ h => by cases h
theorem nfC {m : Nat} {d : DP} {D : List DP} (h : ¬ d.fp m) (k : ∀ x ∈ D, ¬ x.fp m) : ∀ x ∈ d :: D, ¬ x.fp m := fun x hx => by
  rcases List.mem_cons.1 hx with rfl | hx
  · exact h
  · exact k x hx
theorem nf_gv {l : GL} {m : Nat} : ¬ (dpGv l).fp m := fun h => h
theorem nf_gi {x : IV} {m : Nat} : ¬ (dpGI x).fp m := by unfold dpGI; exact fun h => h
theorem nf_li {x : IV} {z : Int} {m : Nat} : ¬ (dpLI z x).fp m := by unfold dpLI; exact fun h => h
theorem nf_sl {A : Option Addr} {n c : Nat} {l : List Nat} {m : Nat} : ¬ (dpSl A n c l).fp m := by unfold dpSl; exact fun h => h
theorem nf_cb {b m : Nat} {t : TypeId} {cs : List Value} (h : b ≠ m) : ¬ (dpCb b t cs).fp m := fun e => h e.symm
theorem nf_mp {K V : Type} {f : K → Value} {g : V → Value} {b m : Nat} {l : List (K × V)} (h : b ≠ m) : ¬ (dpMp f g b l).fp m := by unfold dpMp; exact fun e => h e.symm
theorem Gr.ne {H : Array Obj} {g m r c : Nat} {l : GL} (h : Gr H g m r c l) : g ≠ m := fun e => by
  have h3 := h.cells
  obtain ⟨es, k, h4, _⟩ := h.mp
  unfold Vr at h3
  rw [e, h4] at h3
  cases h3
end
attribute [irreducible] dpCb dpGv dpGr

end Go.Eng
namespace Go.Proofs.Ytlpheckjogphmaa
open Go Go.Eng Go.Proofs Go.NatM Go.RowKit

theorem in_ok (w : World) (i n : Int) : Cl Try.prog 58 #[.int .i64 i, .int .i64 n] w (fun e w' => e = .returned (.bool (decide (0 ≤ i ∧ i < n))) ∧ Ext w w') := by
  refine enter Try.func58 rfl rfl rfl ?_
  have hF := Fr.refl w
  repeat' (first | (refine TL.isOp ?_; first | (refine TL.isG ?_; first | refine TL.grun rfl rfl rfl ?_ | refine TL.gskip rfl rfl rfl rfl ?_) | (refine TL.isBin ?_; refine TL.cmpG rfl rfl rfl rfl (fun hc => ?_) (fun hc => ?_) <;> (try (first | (exfalso; omega) | exact absurd rfl hc))) | (apply TL.ev; (case hd => rfl); (case h => (first | exact ev_simple rfl)))) | (refine T.is ?_; first | refine T.seq ?_ | refine T.region ?_ | refine T.ret ?_) | (refine G.is ?_; first | refine G.next ?_) | refine TL.nil ?_)
  all_goals first | (rw [decide_eq_true (by omega)]; exact G.ret1 rfl rfl ⟨rfl, hF.ext⟩) | (rw [decide_eq_false (by omega)]; exact G.ret1 rfl rfl ⟨rfl, hF.ext⟩)
theorem in_t (w : World) (i n : Int) (h : 0 ≤ i ∧ i < n) : Cl Try.prog 58 #[.int .i64 i, .int .i64 n] w (fun e w' => e = .returned (.bool true) ∧ Ext w w') := by
  have := in_ok w i n; rwa [decide_eq_true h] at this
theorem in_f (w : World) (i n : Int) (h : ¬ (0 ≤ i ∧ i < n)) : Cl Try.prog 58 #[.int .i64 i, .int .i64 n] w (fun e w' => e = .returned (.bool false) ∧ Ext w w') := by
  have := in_ok w i n; rwa [decide_eq_false h] at this
/-- too long for a grid -/
def big (x : IV) : Prop := 1048576 < bl (val x.m.l)
theorem long_ok (w : World) (x : IV) (g : GI w.heap x) (hn : x.m.n ≤ 1099511627776) (b : Bool) (hb : b = true ↔ big x) : Cl Try.prog 46 #[ivA x] w (fun e w' => e = .returned (.bool b) ∧ Ext w w') := by
  unfold big at hb
  obtain ⟨yn, ⟨A1, n1, c1, l1⟩⟩ := x
  obtain ⟨q, hq⟩ : ∃ q, bl (val l1) = q := ⟨_, rfl⟩
  have hs := g.s
  have hu := g.u
  dsimp only at hs hu hn hb
  have hbl := fun w1 (hE : Ext w w1) => (bitlen_ok w1.heap _ A1 n1 c1 l1 (hs.ext hE) hu (by omega)).cl
  rw [hq] at hbl hb
  refine enter Try.func46 rfl rfl rfl ?_
  have hF := Fr.refl w
  repeat' (first | (refine TL.isOp ?_; first | (refine TL.isCall ?_; refine TL.call rfl rfl ?_; first | (refine (hbl _ hF.ext).mono ?_; rintro _ w1 ⟨rfl, hE⟩; replace hF := hF.exts hE.ext; clear hE; refine Back.mk ?_)) | (refine TL.isBin ?_; refine TL.cmpG rfl rfl rfl rfl (fun hc => ?_) (fun hc => ?_) <;> (try (first | (exfalso; omega) | exact absurd rfl hc))) | (apply TL.ev; (case hd => rfl); (case h => (first | exact ev_simple rfl | (apply Ev.isLoad; first | exact ev_loadFr hF rfl (by refine ⟨?_, ?_⟩; (focus (repeat (first | exact InV.head | apply InV.tail))); rfl)) | exact ev_fieldAddr rfl))) | (refine TL.boxAFr hF (d := 1) (cs := [.bool yn, .slice A1 n1 c1]) rfl rfl ?_; clear hF; intro w1 b1 hF)) | (refine T.is ?_; first | refine T.seq ?_ | refine T.region ?_ | refine T.ret ?_) | (refine G.is ?_; first | refine G.next ?_) | refine TL.nil ?_)
  · have : b = true := hb.2 (by omega)
    subst this
    exact G.ret1 rfl rfl ⟨rfl, hF.ext⟩
  · have : b = false := by cases b with | false => rfl | true => have := hb.1 rfl; omega
    subst this
    exact G.ret1 rfl rfl ⟨rfl, hF.ext⟩
end Go.Proofs.Ytlpheckjogphmaa
