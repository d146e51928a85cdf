/- Layer 9: Pow (printed by genpow.py). Layer 9: Pow of any matrix; Make, Zero, Diag, Unit. Layer 9: Stack and Beside. Layer 9: Beside. Layer 9's statements: calls and answers, as values and as what they say. Layer 9's plays, kind by kind (printed by genplays9.py). Layer 9's plays: the walk over a matrix' rows. -/
import Derived.Test.YtlhmehikajidhaaPk10
import Derived.Test.YtlhmehikajidhaaPk12
import Derived.Test.YtlhmehikajidhaaPk11
set_option linter.unusedVariables false
set_option linter.unusedSimpArgs false
namespace Go.Proofs.Ytlhmehikajidhaa
open Go Go.Eng Go.Proofs Go.NatM Go.RowKit

theorem LM.congr {H : Array Obj} {x : MV} {r c K : Nat} {F G : Nat → Nat → Int} (h : LM H x r c F K) (e : ∀ i j, i < r → j < c → F i j = G i j) : LM H x r c G K := ⟨h.sh, h.s, fun i j hi hj => by rw [← e i j hi hj]; exact h.g i j hi hj⟩
theorem LM.more {H : Array Obj} {x : MV} {r c K K' : Nat} {F : Nat → Nat → Int} (h : LM H x r c F K) (e : K ≤ K') : LM H x r c F K' := ⟨h.sh, h.s, fun i j hi hj => ⟨(h.g i j hi hj).1, Nat.le_trans (h.g i j hi hj).2 e⟩⟩
/-- powers' lengths -/
def pb (n Ka : Nat) : Nat → Nat
  | 0 => 1
  | t + 1 => pb n Ka t + pb n Ka t + n + Ka + n
/-- a family of matrices that go together as powers do -/
structure Fam (n : Nat) (F : Nat → Nat → Nat → Int) : Prop where
  one : ∀ i j, i < n → j < n → F 0 i j = if i = j then 1 else 0
  mul : ∀ e f i j, i < n → j < n → psum (fun q => F e i q * F f q j) n = F (e + f) i j

end Go.Proofs.Ytlhmehikajidhaa

namespace Go.Proofs.Ytlhmehikajidhaa
open Go Go.Eng Go.Proofs Go.NatM Go.RowKit

end Go.Proofs.Ytlhmehikajidhaa

namespace Go.Proofs.Ytlhmehikajidhaa
open Go Go.Eng Go.Proofs Go.NatM Go.RowKit

def nr (x : MV) : Nat := x.r.toNat
def nc (x : MV) : Nat := x.c.toNat
def sumR (L : List MV) : Nat := (L.map nr).sum
def fl (L : List MV) : List IV := L.flatMap (·.l)
def c0 (L : List MV) : Nat := match L with
  | [] => 0
  | x :: _ => nc x
theorem sumR_cons (x : MV) (L : List MV) : sumR (x :: L) = nr x + sumR L := by simp [sumR]
/-- all of one width -/
def OneW (L : List MV) : Prop := ∀ y ∈ L, nc y = c0 L
theorem LsK.append {H : Array Obj} {l l' : List IV} {Z Z' : Nat → Int} {n m K : Nat} (h : LsK n l Z K H) (h' : LsK m l' Z' K H) (hn : l.length = n) (e : ∀ q, q < m → Z (n + q) = Z' q) : LsK (n + m) (l ++ l') Z K H := by
  intro q hq
  rcases Nat.lt_or_ge q n with h1 | h1
  · have e1 : (l ++ l').getD q default = l.getD q default := by simp only [List.getD]; rw [List.getElem?_append_left (by omega)]
    rw [e1]; exact h q h1
  · have e1 : (l ++ l').getD q default = l'.getD (q - n) default := by simp only [List.getD]; rw [List.getElem?_append_right (by omega), hn]
    have h2 := h' (q - n) (by omega)
    rw [← e (q - n) (by omega), show n + (q - n) = q by omega] at h2
    rw [e1]; exact h2
theorem GM.len {H : Array Obj} {x : MV} {r c K : Nat} (h : GM H x r c K) : x.l.length = r * c := by rw [h.s.len, h.sh.n]
end Go.Proofs.Ytlhmehikajidhaa

namespace Go.Proofs.Ytlhmehikajidhaa
open Go Go.Eng Go.Proofs Go.NatM Go.RowKit

section
variable {S : Nat → Prop} {w0 w w' : World} {L : List VB} {D : List DP}
theorem getD_set_ne {α : Type} [Inhabited α] {l : List α} {i q : Nat} {x : α} (h : q ≠ i) : (l.set i x).getD q default = l.getD q default := by simp [List.getD, List.getElem?_set_ne (Ne.symm h)]
end

def sumC (L : List MV) : Nat := (L.map nc).sum
def r0 (L : List MV) : Nat := match L with
  | [] => 0
  | x :: _ => nr x
def OneR (L : List MV) : Prop := ∀ y ∈ L, nr y = r0 L
/-- the transpose's entries, in a row -/
def tz (y : MV) : List Int := (List.range (nc y * nr y)).map fun q => ent y (nc y) (q % nr y) (q / nr y)
def tl (L : List MV) : List Int := L.flatMap tz
/-- a list of transposes -/
structure Tns (L T : List MV) : Prop where
  len : T.length = L.length
  r : ∀ q, q < L.length → nr (T.getD q default) = nc (L.getD q default)
  c : ∀ q, q < L.length → nc (T.getD q default) = nr (L.getD q default)
  e : ∀ q, q < L.length → (T.getD q default).l.map ival = tz (L.getD q default)
theorem Tns.cons {x y : MV} {L T : List MV} (h : Tns (x :: L) (y :: T)) : (nr y = nc x ∧ nc y = nr x ∧ y.l.map ival = tz x) ∧ Tns L T :=
  ⟨⟨h.r 0 (by simp), h.c 0 (by simp), h.e 0 (by simp)⟩, by have := h.len; simpa using this, fun q hq => h.r (q + 1) (by simp; omega), fun q hq => h.c (q + 1) (by simp; omega), fun q hq => h.e (q + 1) (by simp; omega)⟩
theorem Tns.sums : ∀ {L T : List MV}, Tns L T → sumR T = sumC L ∧ (fl T).map ival = tl L
  | [], [], _ => ⟨rfl, rfl⟩
  | [], _ :: _, h => by have := h.len; simp at this
  | _ :: _, [], h => by have := h.len; simp at this
  | x :: L, y :: T, h => by
    obtain ⟨⟨h1, h2, h3⟩, ht⟩ := h.cons
    obtain ⟨i1, i2⟩ := ht.sums
    constructor
    · rw [sumR_cons, i1, h1]; simp [sumC]
    · unfold fl tl at *
      rw [List.flatMap_cons, List.map_append, i2, h3, List.flatMap_cons]
theorem Tns.c0 : ∀ {L T : List MV}, Tns L T → Go.Proofs.Ytlhmehikajidhaa.c0 T = r0 L
  | [], [], _ => rfl
  | [], _ :: _, h => by have := h.len; simp at this
  | _ :: _, [], h => by have := h.len; simp at this
  | x :: L, y :: T, h => h.cons.1.2.1
theorem Tns.one {L T : List MV} (h : Tns L T) : OneW T ↔ OneR L := by
  unfold OneW OneR
  rw [h.c0]
  constructor
  · intro hT y hy
    obtain ⟨q, hq⟩ := List.getElem?_of_mem hy
    have hlt := (List.getElem?_eq_some_iff.1 hq).1
    have e1 : L.getD q default = y := by simp [List.getD, hq]
    have e2 : T[q]? = some (T.getD q default) := by simp [List.getD, show q < T.length by rw [h.len]; exact hlt]
    rw [← e1, ← h.c q hlt]
    exact hT _ (List.mem_of_getElem? e2)
  · intro hL y hy
    obtain ⟨q, hq⟩ := List.getElem?_of_mem hy
    have hlt := (List.getElem?_eq_some_iff.1 hq).1
    have e1 : T.getD q default = y := by simp [List.getD, hq]
    rw [h.len] at hlt
    have e2 : L[q]? = some (L.getD q default) := by simp [List.getD, hlt]
    rw [← e1, h.c q hlt]
    exact hL _ (List.mem_of_getElem? e2)
end Go.Proofs.Ytlhmehikajidhaa

namespace Go.Proofs.Ytlhmehikajidhaa
open Go Go.Eng Go.Proofs Go.NatM Go.RowKit

/-- a list of integers, as a slice -/
structure LV where
  A : Option Addr
  n : Nat
  k : Nat
  l : List IV
instance : Inhabited LV := ⟨⟨none, 0, 0, []⟩⟩
def lvc (x : LV) : List Value := [.slice x.A x.n x.k]
structure AV where
  x : MV
  y : IV
  l : LV
  rA : Option Addr
  rn : Nat
  rk : Nat
  r : List LV
  nA : Option Addr
  nn : Nat
  nk : Nat
  ns : List Int
  ok : Bool
  e : Int
/-- what an answer says -/
structure AS where
  r : Nat
  c : Nat
  F : Nat → Nat → Int
  y : Int
  n : Nat
  Z : Nat → Int
  rn : Nat
  rc : Nat
  R : Nat → Nat → Int
  ok : Bool
  e : Int
structure AOK (H : Array Obj) (a : AV) (s : AS) (K : Nat) : Prop where
  x : LM H a.x s.r s.c s.F K
  y : LI H s.y a.y ∧ a.y.m.n ≤ K
  l : LL H a.l.A s.n a.l.k a.l.l s.Z K ∧ a.l.n = s.n
  r : Sm 1 lvc H H.size a.rA s.rn a.rk a.r ∧ a.rn = s.rn ∧ ∀ q, q < s.rn → (a.r.getD q default).n = s.rc ∧ LL H (a.r.getD q default).A s.rc (a.r.getD q default).k (a.r.getD q default).l (s.R q) K
  n : Sl i64v H H.size a.nA s.rn a.nk a.ns ∧ a.nn = s.rn ∧ ∀ q, q < s.rn → a.ns.getD q 0 = (q : Int)
  ok : a.ok = s.ok
  e : a.e = s.e
theorem AOK.ext {w w' : World} {a : AV} {s : AS} {K : Nat} (hE : Ext w w') (h : AOK w.heap a s K) : AOK w'.heap a s K :=
  ⟨h.x.ext hE, ⟨h.y.1.ext hE, h.y.2⟩, ⟨h.l.1.ext hE, h.l.2⟩, ⟨(h.r.1.ext hE).size, h.r.2.1, fun q hq => ⟨(h.r.2.2 q hq).1, (h.r.2.2 q hq).2.ext hE⟩⟩, ⟨(h.n.1.ext hE).size, h.n.2⟩, h.ok, h.e⟩
theorem Sl.deF {α : Type} {f : α → Value} {F : Nat → Prop} {H H' : Array Obj} {B n c : Nat} {A : Option Addr} {l : List α} (hF : ∀ b, fpA A n b → F b) (hd : DE F H H') (h : Sl f H B A n c l) : Sl f H' B A n c l := by
  refine ⟨h.len, h.cap, ?_⟩
  rcases h.mem with h0 | ⟨b, o, e, hlt, hm⟩
  · exact .inl h0
  · rcases Nat.eq_zero_or_pos n with h0 | h0
    · exact .inl h0
    · have hl : 0 < l.length := by have := h.len; omega
      have h1 := hm 0 l[0] (List.getElem?_eq_getElem hl)
      obtain ⟨cs, t, x, hb, hv⟩ := hcell_obj h1
      have hq := hd.block b cs t x hb (.inl (hF b ⟨h0, o, e⟩))
      exact .inr ⟨b, o, e, hlt, fun j x hx => hcell_eq hq (hm j x hx)⟩
theorem Sl.fp_lt {α : Type} {f : α → Value} {H : Array Obj} {n c : Nat} {A : Option Addr} {l : List α} (h : Sl f H H.size A n c l) {b : Nat} (hb : fpA A n b) : b < H.size := by
  obtain ⟨h0, o, e⟩ := hb
  rcases h.mem with h1 | ⟨b', o', e', hlt, _⟩
  · omega
  · rw [e] at e'; cases e'; exact hlt
/-- the blocks of an answer's lists -/
def fpV (a : AV) (k : Nat) : Prop := fpA a.x.A a.x.n k ∨ fpA a.l.A a.l.n k ∨ fpA a.rA a.rn k ∨ fpA a.nA a.nn k ∨ ∃ q, q < a.rn ∧ fpA (a.r.getD q default).A (a.r.getD q default).n k
theorem AOK.de {H H' : Array Obj} {a : AV} {s : AS} {K : Nat} (hd : DE (fpV a) H H') (h : AOK H a s K) : AOK H' a s K := by
  refine ⟨h.x.de (hd.mono fun k hk => .inl hk), ⟨h.y.1.de hd, h.y.2⟩, ⟨?_, h.l.2⟩, ⟨?_, h.r.2.1, fun q hq => ⟨(h.r.2.2 q hq).1, ?_⟩⟩, ⟨?_, h.n.2⟩, h.ok, h.e⟩
  · exact h.l.1.de (hd.mono fun k hk => .inr (.inl (by rw [h.l.2]; exact hk)))
  · exact (Sm.de (fun b hb => .inr (.inr (.inl (by rw [h.r.2.1]; exact hb)))) hd h.r.1).size
  · exact (h.r.2.2 q hq).2.de (hd.mono fun k hk => .inr (.inr (.inr (.inr ⟨q, by rw [h.r.2.1]; exact hq, by rw [(h.r.2.2 q hq).1]; exact hk⟩))))
  · exact (Sl.deF (fun b hb => .inr (.inr (.inr (.inl (by rw [h.n.2.1]; exact hb))))) hd h.n.1).size
theorem AOK.fp_lt {H : Array Obj} {a : AV} {s : AS} {K k : Nat} (h : AOK H a s K) (hk : fpV a k) : k < H.size := by
  rcases hk with hk | hk | hk | hk | ⟨q, hq, hk⟩
  · exact h.x.s.fp_lt hk
  · rw [h.l.2] at hk; exact h.l.1.s.fp_lt hk
  · rw [h.r.2.1] at hk; exact h.r.1.fp_lt hk
  · rw [h.n.2.1] at hk; exact Sl.fp_lt h.n.1 hk
  · rw [h.r.2.1] at hq
    rw [(h.r.2.2 q hq).1] at hk
    exact (h.r.2.2 q hq).2.s.fp_lt hk
/-- an answer's lists lie in blocks that are not older than w -/
def AF (w : World) (a : AV) : Prop := ∀ k, fpV a k → w.heap.size ≤ k
theorem AF.mono {w w1 : World} {a : AV} (h : AF w1 a) (hs : w.heap.size ≤ w1.heap.size) : AF w a := fun k hk => Nat.le_trans hs (h k hk)
section
variable {S : Nat → Prop} {w0 w w' : World} {L : List VB} {D : List DP}
end

theorem li_nought (H : Array Obj) : LI H 0 ⟨false, ⟨none, 0, 0, []⟩⟩ := ⟨⟨⟨rfl, Nat.le_refl _, .inl rfl⟩, fun x hx => (by cases hx)⟩, by simp [dig], by decide⟩
theorem ll_zero (H : Array Obj) (Z : Nat → Int) (K : Nat) : LL H none 0 0 [] Z K := ⟨⟨rfl, Nat.le_refl _, by omega, fun x hx => (by cases hx), .inl rfl⟩, fun q hq => absurd hq (Nat.not_lt_zero _)⟩
theorem lm_none (H : Array Obj) (F : Nat → Nat → Int) (K : Nat) : LM H ⟨0, 0, none, 0, 0, []⟩ 0 0 F K := lm_zero H F K
/-- a call -/
structure OV where
  kind : Int
  a : MV
  b : MV
  l : LV
  k : IV
  n : Int
  m : Int
  pA : Option Addr
  pn : Nat
  pk : Nat
  p : List Int
  qA : Option Addr
  qn : Nat
  qk : Nat
  q : List Int
  sA : Option Addr
  sn : Nat
  sk : Nat
  s : List MV
/-- results of calls, of each kind -/
def RetX (w : World) (r c : Nat) (F : Nat → Nat → Int) (err : Int) (K : Nat) (e : Ending) (w' : World) : Prop := ∃ x : MV, e = .returned (.tuple #[.agg (mvc x).toArray, .int .i64 err]) ∧ LM w'.heap x r c F K ∧ Ext w w' ∧ MF w x
def RetY (w : World) (z : Int) (err : Int) (K : Nat) (e : Ending) (w' : World) : Prop := ∃ x : IV, e = .returned (.tuple #[.agg (ivc x).toArray, .int .i64 err]) ∧ LI w'.heap z x ∧ Ext w w' ∧ x.m.n ≤ K
def RetV (w : World) (n : Nat) (Z : Nat → Int) (err : Int) (K : Nat) (e : Ending) (w' : World) : Prop := ∃ A k l, e = .returned (.tuple #[.slice A n k, .int .i64 err]) ∧ LL w'.heap A n k l Z K ∧ Ext w w' ∧ LF w A n
theorem RetME.x {w w' : World} {r c K : Nat} {F : Nat → Nat → Int} {e : Ending} (h : RetME w r c F K e w') : RetX w r c F 0 K e w' := h
theorem RetMF.x {w w' : World} {err : Int} {e : Ending} (F : Nat → Nat → Int) (K : Nat) (h : RetMF w err e w') : RetX w 0 0 F err K e w' := ⟨⟨0, 0, none, 0, 0, []⟩, h.1, lm_none _ _ _, h.2, .inl rfl⟩
theorem RetZE.y {w w' : World} {z : Int} {K : Nat} {e : Ending} (h : RetZE w z K e w') : RetY w z 0 K e w' := h
theorem RetZF.y {w w' : World} {err : Int} {e : Ending} (K : Nat) (h : RetZF w err e w') : RetY w 0 err K e w' := ⟨⟨false, ⟨none, 0, 0, []⟩⟩, h.1, li_nought _, h.2, Nat.zero_le _⟩
theorem RetLE.v {w w' : World} {n : Nat} {Z : Nat → Int} {K : Nat} {e : Ending} (h : RetLE w n Z K e w') : RetV w n Z 0 K e w' := h
theorem RetLF.v {w w' : World} {err : Int} {e : Ending} (Z : Nat → Int) (K : Nat) (h : RetLF w err e w') : RetV w 0 Z err K e w' := ⟨none, 0, [], h.1, ll_zero _ _ _, h.2, .inl rfl⟩
/-- facts that frames carry -/
def dpLL (A : Option Addr) (n k : Nat) (l : List IV) (Z : Nat → Int) (K : Nat) : DP := ⟨fun H => LL H A n k l Z K, fpA A n, fun _ _ h hk => h.s.fp_lt hk, fun _ _ hd h => h.de hd⟩
section
variable {S : Nat → Prop} {w0 w w' : World} {L : List VB} {D : List DP}
theorem lf_fp {A : Option Addr} {n : Nat} (h : LF w A n) (k : Nat) (hk : fpA A n k) : w.heap.size ≤ k := by
  obtain ⟨h0, o, e⟩ := hk
  rcases h with h | ⟨b, e', hb⟩
  · omega
  · rw [e] at e'; cases e'; exact hb
theorem Fr.addLL (h : Fr w0 w L D S) (hE : Ext w w') {A : Option Addr} {n k K : Nat} {l : List IV} {Z : Nat → Int} (g : LL w'.heap A n k l Z K) (hf : LF w A n) : Fr w0 w' L (dpLL A n k l Z K :: D) S := h.addNew hE _ g (lf_fp hf)
theorem Fr.ll (h : Fr w0 w L D S) {A : Option Addr} {n k K : Nat} {l : List IV} {Z : Nat → Int} (hm : dpLL A n k l Z K ∈ D) : LL w.heap A n k l Z K := h.data _ hm
end
attribute [irreducible] dpLL

theorem LF.mono {w w1 : World} {A : Option Addr} {n : Nat} (h : LF w1 A n) (hs : w.heap.size ≤ w1.heap.size) : LF w A n := h.imp id fun ⟨b, e, hb⟩ => ⟨b, e, Nat.le_trans hs hb⟩
end Go.Proofs.Ytlhmehikajidhaa

namespace Go.Proofs.Ytlhmehikajidhaa
open Go Go.Eng Go.Proofs Go.NatM Go.RowKit

end Go.Proofs.Ytlhmehikajidhaa

namespace Go.Proofs.Ytlhmehikajidhaa
open Go Go.Eng Go.Proofs Go.NatM Go.RowKit

instance : UFunc Try.prog 45 := ⟨⟨_, _, _, Try.underlying45⟩⟩
theorem G.round {N : Fm} {σ : Store} {I : World → Prop} {Ix : Code → World → Prop} {W w : World} (hK : KeepsOthers W w) (h : I w) : G N .normal (RPost I Ix W) σ w := by
  unfold G; exact fun a ha => ⟨hK, h⟩
/-- the first i rows of a list -/
def RwK (i : Nat) (l : List LV) (c : Nat) (F : Nat → Nat → Int) (K : Nat) (H : Array Obj) : Prop := ∀ q, q < i → (l.getD q default).n = c ∧ LL H (l.getD q default).A c (l.getD q default).k (l.getD q default).l (F q) K
def dpRw (i : Nat) (l : List LV) (c : Nat) (F : Nat → Nat → Int) (K : Nat) : DP := ⟨RwK i l c F K, fun k => ∃ q, q < i ∧ fpA (l.getD q default).A c k,
  fun _ _ h ⟨q, hq, hk⟩ => (h q hq).2.s.fp_lt hk, fun _ _ hd h q hq => ⟨(h q hq).1, (h q hq).2.de (hd.mono fun k hk => ⟨q, hq, hk⟩)⟩⟩
section
variable {S : Nat → Prop} {w0 w w' : World} {L : List VB} {D : List DP}
theorem Fr.rw0 (h : Fr w0 w L D S) (l : List LV) (c : Nat) (F : Nat → Nat → Int) (K : Nat) : Fr w0 w L (dpRw 0 l c F K :: D) S := h.add _ (fun q hq => absurd hq (Nat.not_lt_zero _)) fun _ _ ⟨q, hq, _⟩ => absurd hq (Nat.not_lt_zero _)
theorem Fr.rws (h : Fr w0 w L D S) {i : Nat} {l : List LV} {c : Nat} {F : Nat → Nat → Int} {K : Nat} (hm : dpRw i l c F K ∈ D) : RwK i l c F K w.heap := h.data _ hm
theorem getD_snoc_eq {α : Type} [Inhabited α] {l : List α} {i : Nat} {x : α} (hi : l.length = i) : (l ++ [x]).getD i default = x := by subst hi; simp [List.getD]
theorem getD_snoc_lt {α : Type} [Inhabited α] {l : List α} {i q : Nat} {x : α} (hi : l.length = i) (h : q < i) : (l ++ [x]).getD q default = l.getD q default := by
  simp only [List.getD]; rw [List.getElem?_append_left (by omega)]
theorem Fr.rwAdd (h : Fr w0 w L D S) {i : Nat} {l : List LV} {c : Nat} {F : Nat → Nat → Int} {K : Nat} {A : Option Addr} {k : Nat} {ll : List IV} (hl : l.length = i) (hm : dpRw i l c F K ∈ D) (hx : dpLL A c k ll (F i) K ∈ D) : Fr w0 w L (dpRw (i + 1) (l ++ [⟨A, c, k, ll⟩]) c F K :: D) S := by
  refine h.add _ (fun q hq => ?_) fun v hv hfp => ?_
  · by_cases e : q = i
    · subst e
      rw [getD_snoc_eq hl]; exact ⟨rfl, Fr.ll h hx⟩
    · rw [getD_snoc_lt hl (by omega)]; exact Fr.rws h hm q (by omega)
  · obtain ⟨q, hq, hk⟩ := hfp
    by_cases e : q = i
    · subst e
      rw [getD_snoc_eq hl] at hk
      refine h.apart v hv _ hx ?_
      unfold dpLL; exact hk
    · rw [getD_snoc_lt hl (by omega)] at hk
      exact h.apart v hv _ hm ⟨q, by omega, hk⟩
/-- a matrix whose box is known whole -/
theorem Fr.addBoxLM (h : Fr w0 w L D S) (hE : Ext w w') {b : Nat} {t : TypeId} {cs : List Value} {x : MV} {r c K : Nat} {F : Nat → Nat → Int} (hb : w.heap.size ≤ b) (hV : Vr w'.heap b t cs) (hc : cs.all flagless = true) (g : LM w'.heap x r c F K) (hf : MF w x) : Fr w0 w' (⟨b, t, cs⟩ :: L) (dpLM x r c F K :: D) S := by
  refine (h.newGe hb hV hE).add _ (by unfold dpLM; exact g) fun v hv hk => ?_
  have hk' : fpA x.A x.n v.b := by unfold dpLM at hk; exact hk
  rcases List.mem_cons.1 hv with rfl | hv
  · exact g.s.fp_flag hk' hV hc
  · have h1 := (h.vars v hv).2.lt
    have h2 := mf_fp hf _ hk'
    omega
end
attribute [irreducible] dpRw

theorem vr_sl1 {α : Type} {f : α → Value} {H : Array Obj} {b B n c : Nat} {t : TypeId} {l : List α} {zs : List Value} (hV : Vr H b t (l.flatMap (fun x => [f x]) ++ zs)) (hn : l.length = n) (hc : n ≤ c) (hb : b < B) : Sl f H B (some ⟨b, 0, none⟩) n c l := by
  have h := vr_sm (f := fun x => [f x]) (k := 1) (by omega) (fun _ _ => rfl) hV hn hc hb
  refine ⟨hn, hc, h.mem.imp id ?_⟩
  rintro ⟨b', o, e, hlt, hm⟩
  refine ⟨b', o, e, hlt, fun j x hx => ?_⟩
  have := hm j x hx 0 (f x) rfl
  simpa using this
/-- plays' answer under way -/
def PlS (w w' : World) (bm b3 b2 : Nat) (A : Option Addr) (k : Nat) (l : List IV) (r c : Nat) (F : Nat → Nat → Int) (K i : Nat) : Prop :=
  ∃ (nl : List Int) (rl : List LV), nl.length = i ∧ rl.length = i ∧ (∀ q, q < i → nl.getD q 0 = (q : Int) ∧ ∀ k, fpA (rl.getD q default).A c k → w.heap.size ≤ k) ∧
  ((i = 0 ∧ Fr w w' [⟨bm, 24, [.int .i64 (r : Int), .int .i64 (c : Int), .slice A (r * c) k]⟩, ⟨b3, 65, [.int .i64 0, .int .i64 0, .slice none 0 0, .bool false, .slice none 0 0, .slice none 0 0, .slice none 0 0, .slice none 0 0, .bool false, .int .i64 0]⟩, ⟨b2, 65, [.int .i64 0, .int .i64 0, .slice none 0 0, .bool false, .slice none 0 0, .slice none 0 0, .slice none 0 0, .slice none 0 0, .bool false, .int .i64 0]⟩] [dpRw 0 rl c F K, dpLM ⟨r, c, A, r * c, k, l⟩ r c F K]) ∨
   ∃ gN kN zN gR kR zR, i ≤ kN ∧ zN.length = (kN - i) * 1 ∧ zN.all noU64 = true ∧ i ≤ kR ∧ zR.length = (kR - i) * 1 ∧ zR.all noU64 = true ∧ w.heap.size ≤ gN ∧ w.heap.size ≤ gR ∧
    Fr w w' [⟨gR, 22, rl.flatMap lvc ++ zR⟩, ⟨gN, 3, nl.flatMap (fun x => [i64v x]) ++ zN⟩, ⟨bm, 24, [.int .i64 (r : Int), .int .i64 (c : Int), .slice A (r * c) k]⟩, ⟨b3, 65, [.int .i64 0, .int .i64 0, .slice none 0 0, .bool false, .slice none 0 0, .slice none 0 0, .slice (some ⟨gR, 0, none⟩) i kR, .slice (some ⟨gN, 0, none⟩) i kN, .bool false, .int .i64 0]⟩, ⟨b2, 65, [.int .i64 0, .int .i64 0, .slice none 0 0, .bool false, .slice none 0 0, .slice none 0 0, .slice none 0 0, .slice none 0 0, .bool false, .int .i64 0]⟩] [dpRw i rl c F K, dpLM ⟨r, c, A, r * c, k, l⟩ r c F K])
theorem PlS.cx {w w' W : World} {bm b3 b2 : Nat} {A : Option Addr} {k : Nat} {l : List IV} {r c : Nat} {F : Nat → Nat → Int} {K i B : Nat} (h : PlS w w' bm b3 b2 A k l r c F K i) (hc : Cx B w' W) (hB : w.heap.size ≤ B) : PlS w W bm b3 b2 A k l r c F K i := by
  obtain ⟨nl, rl, h1, h2, h3, (⟨h4, hF⟩ | ⟨gN, kN, zN, gR, kR, zR, a1, a2, a3, a4, a5, a6, a7, a8, hF⟩)⟩ := h
  · exact ⟨nl, rl, h1, h2, h3, .inl ⟨h4, hF.cx hc hB⟩⟩
  · exact ⟨nl, rl, h1, h2, h3, .inr ⟨gN, kN, zN, gR, kR, zR, a1, a2, a3, a4, a5, a6, a7, a8, hF.cx hc hB⟩⟩
theorem lvc_noV (l : List LV) (zs : List Value) (hz : zs.all noU64 = true) : (l.flatMap lvc ++ zs).all noU64 = true := by
  rw [List.all_append, hz, Bool.and_true, List.all_eq_true]
  intro v hv
  obtain ⟨x, _, hx⟩ := List.mem_flatMap.1 hv
  rw [List.mem_singleton.1 hx]; rfl
theorem It.cx {W W' : World} {B b : Nat} {t : TypeId} {cs : List Value} {x : MV} {r c K : Nat} {F : Nat → Nat → Int} (h : Vr W.heap b t cs ∧ LM W.heap x r c F K) (hc : Cx B W W') : Vr W'.heap b t cs ∧ LM W'.heap x r c F K :=
  ⟨by have h1 := h.1; unfold Vr at h1 ⊢; exact (hc.cells _ _ h1 rfl).trans h1, h.2.de hc.de⟩
theorem len_snoc {α : Type} {l : List α} {i : Nat} {x : α} (h : l.length = i) : (l ++ [x]).length = i + 1 := by simp [h]
theorem drop_noV {zs : List Value} (h : zs.all noU64 = true) (n : Nat) : (zs.drop n).all noU64 = true := List.all_eq_true.2 fun v hv => List.all_eq_true.1 h v (List.mem_of_mem_drop hv)
end Go.Proofs.Ytlhmehikajidhaa
