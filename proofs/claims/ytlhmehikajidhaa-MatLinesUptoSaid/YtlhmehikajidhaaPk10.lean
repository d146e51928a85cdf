/- The document's answers for layer 5: made, Least, Sign, CmpAbs, Cmp of equal integers. Layer 9: contracts of mat: Turn, Trace; the law's equal. Layer 9: Least, Lines and its iterator. Integers whose words lie in new blocks: what stands of them where older words are written over; each and Lines told so. The engine: frames for statements about memory: what a walk may write lies in a set S, or is its own; facts on data name their blocks. The law's Roomy: a list with marked room behind (KeepA's, for other seats). The engine: a list of structs appended to a list of structs whose block is known whole; to nothing. -/
import Derived.Test.YtlhmehikajidhaaPk8
import Derived.Test.YtlhmehikajidhaaPk9
import Derived.Test.YtlhmehikajidhaaPk4
set_option linter.unusedVariables false
set_option linter.unusedSimpArgs false
namespace Go.Proofs.Ytlhmehikajidhaa
open Go Go.Eng Go.Proofs Go.NatM Go.RowKit

theorem made_ok (w : World) (neg : Bool) (A : Option Addr) (n c : Nat) (l : List Nat) (hs : Sl u64v w.heap w.heap.size A n c l) (hu : U64 l) (hn : n ≤ 1099511627776) :
    Cl Try.prog 48 #[.bool neg, .slice A n c] w (RetZ w (sgn neg (val l)) (n + 1)) := by
  cases neg
  · refine enter Try.func48 rfl rfl rfl ?_
    have hF := Fr.refl w
    repeat' (first | (refine TL.isOp ?_; first | (refine TL.isG ?_; first | refine TL.gskip rfl rfl rfl rfl ?_) | (refine TL.isCall ?_; refine TL.call rfl rfl ?_; first | (refine (rleast_ok _ _ _ _ _ _ (hs.ext hF.ext) hu hn).mono ?_; rintro _ w1 ⟨A1, n1, c1, rfl, hO1, hE, hK1⟩; have hS1 := hO1.sl (Nat.le_refl _); replace hF := Fr.addSl (hF.exts hE) hS1; clear hE; refine Back.mk ?_)) | (apply TL.ev; (case hd => rfl); (case h => (first | exact ev_simple rfl | exact ev_buildX rfl rfl))) | (refine TL.storeAFr hF rfl rfl rfl rfl (by refine ⟨?_, ?_⟩; (focus (repeat (first | apply SetV.head | apply SetV.tail))); rfl) rfl ?_; clear hF; intro ws hF) | (refine TL.allocFr hF (d := 4) rfl rfl ?_; clear hF; intro w4 b4 hF)) | (refine T.is ?_; first | refine T.seq ?_ | refine T.region ?_ | refine T.ret ?_) | (refine G.is ?_; first | refine G.next ?_) | refine TL.nil ?_)
    exact G.retC1 rfl rfl (held_agg (hF.var (by repeat (first | exact InV.head | apply InV.tail))) rfl) ⟨⟨false, ⟨A1, n1, c1, dig (val l)⟩⟩, rfl, li_mk (neg := false) (Fr.sl hF (by repeat (first | exact memH | apply memT))), hF.ext, hK1⟩
  · refine enter Try.func48 rfl rfl rfl ?_
    have hF := Fr.refl w
    repeat' (first | (refine TL.isOp ?_; first | (refine TL.isG ?_; first | refine TL.grun rfl rfl rfl ?_) | (refine TL.isCall ?_; refine TL.call rfl rfl ?_; first | (refine (rleast_ok _ _ _ _ _ _ (hs.ext hF.ext) hu hn).mono ?_; rintro _ w1 ⟨A1, n1, c1, rfl, hO1, hE, hK1⟩; have hS1 := hO1.sl (Nat.le_refl _); replace hF := Fr.addSl (hF.exts hE) hS1; clear hE; refine Back.mk ?_)) | (refine TL.isBin ?_; refine TL.cmpG rfl rfl rfl rfl (fun hc => ?_) (fun hc => ?_) <;> (try (first | (exfalso; omega) | exact absurd rfl hc))) | (apply TL.ev; (case hd => rfl); (case h => (first | exact ev_simple rfl | exact ev_len rfl | exact ev_buildX rfl rfl))) | (refine TL.storeAFr hF rfl rfl rfl rfl (by refine ⟨?_, ?_⟩; (focus (repeat (first | apply SetV.head | apply SetV.tail))); rfl) rfl ?_; clear hF; intro ws hF) | (refine TL.allocFr hF (d := 4) rfl rfl ?_; clear hF; intro w4 b4 hF)) | (refine T.is ?_; first | refine T.seq ?_ | refine T.region ?_ | refine T.ret ?_) | (refine G.is ?_; first | refine G.next ?_) | refine TL.nil ?_)
    · have e := li_mk (neg := true) (Fr.sl hF (A := A1) (n := n1) (c := c1) (l := dig (val l)) (by repeat (first | exact memH | apply memT)))
      have e2 : (true && decide (0 < n1)) = true := by simp; omega
      rw [e2] at e
      exact G.retC1 rfl rfl (held_agg (hF.var (by repeat (first | exact InV.head | apply InV.tail))) rfl) ⟨⟨true, ⟨A1, n1, c1, dig (val l)⟩⟩, rfl, e, hF.ext, hK1⟩
    · have e := li_mk (neg := true) (Fr.sl hF (A := A1) (n := n1) (c := c1) (l := dig (val l)) (by repeat (first | exact memH | apply memT)))
      have e2 : (true && decide (0 < n1)) = false := by simp; omega
      rw [e2] at e
      exact G.retC1 rfl rfl (held_agg (hF.var (by repeat (first | exact InV.head | apply InV.tail))) rfl) ⟨⟨false, ⟨A1, n1, c1, dig (val l)⟩⟩, rfl, e, hF.ext, hK1⟩
theorem r5least_ok (w : World) (x : IV) (g : GI w.heap x) (hn : x.m.n ≤ 1099511627776) : Cl Try.prog 25 #[.agg (ivc x).toArray] w (RetZ w (ival x) (x.m.n + 1)) := by
  refine enter Try.func25 rfl rfl rfl ?_
  have hF := Fr.refl w
  repeat' (first | (refine TL.isOp ?_; first | (refine TL.isCall ?_; refine TL.call rfl rfl ?_; first | (refine (made_ok _ _ _ _ _ _ (g.s.ext hF.ext).size g.u hn).mono ?_; rintro _ w1 ⟨y, rfl, hL, hE, hK⟩; replace hF := Fr.addLI (hF.exts hE) hL; clear hE; refine Back.mk ?_)) | (apply TL.ev; (case hd => rfl); (case h => (first | (apply Ev.isLoad; first | exact ev_loadFr hF rfl (by refine ⟨?_, ?_⟩; (focus (repeat (first | exact InV.head | apply InV.tail))); rfl)) | exact ev_fieldAddr rfl))) | (refine TL.storeAFr hF rfl rfl rfl rfl (by refine ⟨?_, ?_⟩; (focus (repeat (first | apply SetV.head | apply SetV.tail))); rfl) rfl ?_; clear hF; intro ws hF) | (refine TL.allocFr hF (d := 2) rfl rfl ?_; clear hF; intro w2 b2 hF) | (refine TL.boxAFr hF (d := 1) (cs := ivc x) rfl rfl ?_; clear hF; intro w1 b1 hF)) | (refine T.is ?_; first | refine T.seq ?_ | refine T.region ?_ | refine T.ret ?_) | (refine G.is ?_; first | refine G.next ?_) | refine TL.nil ?_)
  exact G.retC1 rfl rfl (held_agg (hF.var (by repeat (first | exact InV.head | apply InV.tail))) rfl) ⟨y, rfl, Fr.li hF (by repeat (first | exact memH | apply memT)), hF.ext, hK⟩
end Go.Proofs.Ytlhmehikajidhaa

namespace Go.Proofs.Ytlhmehikajidhaa
open Go Go.Eng Go.Proofs Go.NatM Go.RowKit

/-- an integer and an error's number 0 -/
def RetZE (w : World) (z : Int) (K : Nat) (e : Ending) (w' : World) : Prop := ∃ x : IV, e = .returned (.tuple #[.agg (ivc x).toArray, .int .i64 0]) ∧ LI w'.heap z x ∧ Ext w w' ∧ x.m.n ≤ K
end Go.Proofs.Ytlhmehikajidhaa

namespace Go.Proofs.Ytlhmehikajidhaa
open Go Go.Eng Go.Proofs Go.NatM Go.RowKit

theorem least_each (w : World) (l : List IV) (K : Nat) (hg : ∀ y ∈ l, GI w.heap y ∧ y.m.n ≤ K) (hK : K ≤ 35184372088832) :
    ∀ i y (w1 : World), l[i]? = some y → Ext w w1 → Cl Try.prog 39 ([Value.agg (ivc y).toArray] ++ []).toArray w1 (RetZ w1 ((fun q => ival (l.getD q default)) i) K) := by
  intro i y w1 hy hE
  obtain ⟨g1, g2⟩ := hg y (List.mem_of_getElem? hy)
  refine (zleast_ok w1 y (g1.ext hE) (by omega)).mono ?_
  rintro e w' ⟨x, rfl, h1, h2, h3⟩
  refine ⟨x, rfl, ?_, h2, by omega⟩
  have e1 : l.getD i default = y := by simp [List.getD, hy]
  simp only [e1]
  exact h1
theorem LL.lm {H : Array Obj} {x : MV} {r c K k : Nat} {A : Option Addr} {l : List IV} (sh : Sound x r c) (h : LL H A (r * c) k l (fun q => ival (x.l.getD q default)) K) : LM H ⟨r, c, A, r * c, k, l⟩ r c (ent x c) K :=
  ⟨⟨rfl, rfl, sh.r64, sh.c64, rfl⟩, h.s, fun i j hi hj => h.g (i * c + j) (place_lt hi hj)⟩
theorem LF.mf {w : World} {A : Option Addr} {r c k : Nat} {l : List IV} {n : Nat} (h : LF w A n) : MF w ⟨r, c, A, n, k, l⟩ := h
/-- a matrix value whose numbers are in range -/
structure InR (x : MV) : Prop where
  r : -9223372036854775808 ≤ x.r ∧ x.r < 9223372036854775808
  c : -9223372036854775808 ≤ x.c ∧ x.c < 9223372036854775808
theorem chk_bad (w : World) (x : MV) (hx : InR x) (hn : ¬ ∃ r c, Sound x r c) : Cl Try.prog 29 #[.agg (mvc x).toArray] w (fun e w' => e = .returned (.int .i64 1) ∧ Ext w w') := by
  obtain ⟨xr, xc, A, n, k, l⟩ := x
  obtain ⟨hr, hc⟩ := hx
  dsimp only at hr hc
  by_cases h1 : 0 ≤ xr ∧ xr ≤ 64
  · by_cases h2 : 0 ≤ xc ∧ xc ≤ 64
    · obtain ⟨r, rfl⟩ := Int.eq_ofNat_of_zero_le h1.1
      obtain ⟨c, rfl⟩ := Int.eq_ofNat_of_zero_le h2.1
      have hm := mul64 (r := r) (c := c) (by omega) (by omega)
      have hne : n ≠ r * c := fun e => hn ⟨r, c, rfl, rfl, by omega, by omega, e⟩
      refine enter Try.func29 rfl rfl rfl ?_
      have hF := Fr.refl w
      repeat' (first | (refine TL.isOp ?_; first | (refine TL.isG ?_; first | refine TL.grun rfl rfl rfl ?_) | (refine TL.isCall ?_; refine TL.call rfl rfl ?_; first | (refine (side_ok _ _ true (decide_eq_true (by omega))).cl.mono ?_; rintro _ wc ⟨rfl, hE⟩; replace hF := hF.exts hE.ext; clear hE; refine Back.mk ?_)) | (refine TL.isBin ?_; refine TL.cmpG rfl rfl rfl rfl (fun hc => ?_) (fun hc => ?_) <;> (try (first | (exfalso; omega) | exact absurd rfl hc))) | (apply TL.ev; (case hd => rfl); (case h => (first | exact ev_simple rfl | (apply Ev.isBin; first | exact ev_arN rfl rfl rfl (by omega)) | (apply Ev.isLoad; first | exact ev_loadFr hF rfl (by refine ⟨?_, ?_⟩; (focus (repeat (first | exact InV.head | apply InV.tail))); rfl)) | exact ev_len rfl | exact ev_fieldAddr rfl))) | (refine TL.boxAFr hF (d := 1) (cs := [.int .i64 (r : Int), .int .i64 (c : Int), .slice A n k]) rfl rfl ?_; clear hF; intro w1 b1 hF)) | (refine T.is ?_; first | refine T.seq ?_ | refine T.region ?_ | refine T.cond_t rfl ?_ | refine T.ret ?_) | (refine G.is ?_; first | refine G.next ?_ | refine G.thenR ?_) | refine TL.nil ?_)
      exact G.ret1 rfl rfl ⟨rfl, hF.ext⟩
    · refine enter Try.func29 rfl rfl rfl ?_
      have hF := Fr.refl w
      repeat' (first | (refine TL.isOp ?_; first | (refine TL.isG ?_; first | refine TL.grun rfl rfl rfl ?_ | refine TL.gskip rfl rfl rfl rfl ?_) | (refine TL.isCall ?_; refine TL.call rfl rfl ?_; first | (refine (side_ok _ xr true (decide_eq_true (by omega))).cl.mono ?_; rintro _ wc ⟨rfl, hE⟩; replace hF := hF.exts hE.ext; clear hE; refine Back.mk ?_) | (refine (side_ok _ xc false (decide_eq_false (by omega))).cl.mono ?_; rintro _ wc ⟨rfl, hE⟩; replace hF := hF.exts hE.ext; clear hE; refine Back.mk ?_)) | (apply TL.ev; (case hd => rfl); (case h => (first | exact ev_simple rfl | (apply Ev.isLoad; first | exact ev_loadFr hF rfl (by refine ⟨?_, ?_⟩; (focus (repeat (first | exact InV.head | apply InV.tail))); rfl)) | exact ev_fieldAddr rfl))) | (refine TL.boxAFr hF (d := 1) (cs := [.int .i64 xr, .int .i64 xc, .slice A n k]) rfl rfl ?_; clear hF; intro w1 b1 hF)) | (refine T.is ?_; first | refine T.seq ?_ | refine T.region ?_ | refine T.cond_t rfl ?_ | refine T.ret ?_) | (refine G.is ?_; first | refine G.next ?_ | refine G.thenR ?_) | refine TL.nil ?_)
      exact G.ret1 rfl rfl ⟨rfl, hF.ext⟩
  · refine enter Try.func29 rfl rfl rfl ?_
    have hF := Fr.refl w
    repeat' (first | (refine TL.isOp ?_; first | (refine TL.isG ?_; first | refine TL.gskip rfl rfl rfl rfl ?_) | (refine TL.isCall ?_; refine TL.call rfl rfl ?_; first | (refine (side_ok _ xr false (decide_eq_false (by omega))).cl.mono ?_; rintro _ wc ⟨rfl, hE⟩; replace hF := hF.exts hE.ext; clear hE; refine Back.mk ?_)) | (apply TL.ev; (case hd => rfl); (case h => (first | exact ev_simple rfl | (apply Ev.isLoad; first | exact ev_loadFr hF rfl (by refine ⟨?_, ?_⟩; (focus (repeat (first | exact InV.head | apply InV.tail))); rfl)) | exact ev_fieldAddr rfl))) | (refine TL.boxAFr hF (d := 1) (cs := [.int .i64 xr, .int .i64 xc, .slice A n k]) rfl rfl ?_; clear hF; intro w1 b1 hF)) | (refine T.is ?_; first | refine T.seq ?_ | refine T.region ?_ | refine T.cond_t rfl ?_ | refine T.ret ?_) | (refine G.is ?_; first | refine G.next ?_ | refine G.thenR ?_) | refine TL.nil ?_)
    exact G.ret1 rfl rfl ⟨rfl, hF.ext⟩
theorem mleast_bad (w : World) (x : MV) (hx : InR x) (hn : ¬ ∃ r c, Sound x r c) : Cl Try.prog 45 #[.agg (mvc x).toArray] w (RetMF w 1) := by
  have hck := fun w => chk_bad w x hx hn
  obtain ⟨xr, xc, A, n, k, l⟩ := x
  refine enter Try.func45 rfl rfl rfl ?_
  have hF := Fr.refl w
  repeat' (first | (refine TL.isOp ?_; first | (refine TL.isCall ?_; refine TL.call rfl rfl ?_; first | (refine (hck _).mono ?_; rintro _ wy ⟨rfl, hE⟩; replace hF := hF.exts hE; clear hE; refine Back.mk ?_)) | (refine TL.isBin ?_; refine TL.cmpG rfl rfl rfl rfl (fun hc => ?_) (fun hc => ?_) <;> (try (first | (exfalso; omega) | exact absurd rfl hc))) | (apply TL.ev; (case hd => rfl); (case h => (first | exact ev_simple rfl | (apply Ev.isLoad; first | exact ev_loadAFr hF rfl (by refine ⟨?_, ?_⟩; (focus (repeat (first | exact InV.head | apply InV.tail))); rfl)) | exact ev_buildX rfl rfl))) | (refine TL.storeAFr hF rfl rfl rfl rfl (by refine ⟨?_, ?_⟩; (focus (repeat (first | apply SetV.head | apply SetV.tail))); rfl) rfl ?_; clear hF; intro ws hF) | (refine TL.boxAFr hF (d := 1) (cs := [.int .i64 xr, .int .i64 xc, .slice A n k]) rfl rfl ?_; clear hF; intro w1 b1 hF) | (refine TL.allocFr hF (d := 2) rfl rfl ?_; clear hF; intro w2 b2 hF)) | (refine T.is ?_; first | refine T.seq ?_ | refine T.region ?_ | refine T.cond_t rfl ?_ | refine T.ret ?_) | (refine G.is ?_; first | refine G.next ?_ | refine G.thenR ?_) | refine TL.nil ?_)
  exact G.retC2 rfl rfl rfl (held_agg (hF.var (by repeat (first | exact InV.head | apply InV.tail))) rfl) ⟨rfl, hF.ext⟩
theorem lm_zero (H : Array Obj) (F : Nat → Nat → Int) (K : Nat) : LM H ⟨(0 : Nat), (0 : Nat), none, 0 * 0, 0, []⟩ 0 0 F K :=
  ⟨⟨rfl, rfl, by omega, by omega, rfl⟩, ⟨rfl, Nat.le_refl _, by omega, fun x hx => (by cases hx), .inl rfl⟩, fun i j hi => absurd hi (Nat.not_lt_zero _)⟩
theorem Sm.sub {α : Type} {k : Nat} {f : α → List Value} {H : Array Obj} {B n c lo m : Nat} {A : Option Addr} {l : List α} (h : Sm k f H B A n c l) (hm : lo + m ≤ n) : Sm k f H B (elemA A (lo * k)) m (c - lo) ((l.drop lo).take m) := by
  have hlen := h.len
  have hcap := h.cap
  refine ⟨by rw [List.length_take, List.length_drop]; omega, by omega, h.pos, fun x hx => h.wid x (List.mem_of_mem_drop (List.mem_of_mem_take hx)), ?_⟩
  rcases Nat.eq_zero_or_pos m with h0 | h0
  · exact .inl h0
  · rcases h.mem with h1 | ⟨b, o, e, hlt, hc⟩
    · omega
    · refine .inr ⟨b, o + lo * k, by rw [e]; simp [elemA, add_mk], hlt, fun j x hx q v hv => ?_⟩
      have h2 : l[lo + j]? = some x := by
        rw [List.getElem?_take] at hx
        split at hx
        · rwa [List.getElem?_drop] at hx
        · cases hx
      have := hc (lo + j) x h2 q v hv
      rw [Nat.add_mul] at this
      rw [show o + lo * k + (j * k + q) = o + (lo * k + j * k + q) by omega]
      exact this
/-- a row that a walk hands over -/
structure RowV where
  i : Nat
  A : Option Addr
  n : Nat
  k : Nat
  l : List IV
def rowA (x : RowV) : List Value := [.int .i64 (x.i : Int), .slice x.A x.n x.k]
theorem LL.congr {H : Array Obj} {A : Option Addr} {n k K : Nat} {l : List IV} {Z Z' : Nat → Int} (h : LL H A n k l Z K) (e : ∀ q, q < n → Z q = Z' q) : LL H A n k l Z' K := ⟨h.s, fun q hq => by rw [← e q hq]; exact h.g q hq⟩
theorem row_sub (i c : Nat) : (i + 1) * c - i * c = c := by rw [Nat.add_mul, Nat.one_mul]; omega
theorem ev_rowSl {P : Program} {σ : Store} {H : Array Obj} {d : Option Tmp} {t : TypeId} {pos : String} {af : Array Edge} {gd : Option (Nat × Bool)} {x : Operand} {A : Option Addr} {n cc i c : Nat} {ty e : TypeId} [hT : USlice P ty e] {z : Value} {b1 : Nat} [hS : USize P e z 2 b1] {y u : Operand}
    (hx : Eng.look σ x = some (.slice A n cc)) (hy : Eng.look σ y = some (.int .i64 ((i * c : Nat) : Int))) (hu : Eng.look σ u = some (.int .i64 (((i + 1) * c : Nat) : Int))) (hn : (i + 1) * c ≤ cc) :
    Ev P σ H ⟨d, .slice ty x (some y) (some u) none, t, pos, af, gd⟩ (.slice (cutM 2 A cc (i * c)) c (cc - i * c)) := by
  have := ev_slM_lh (P := P) (σ := σ) (H := H) (d := d) (t := t) (pos := pos) (af := af) (gd := gd) (ty := ty) (l := i * c) (h := (i + 1) * c) hx hy hu (Nat.mul_le_mul_right c (Nat.le_succ i)) hn
  rwa [row_sub] at this
end Go.Proofs.Ytlhmehikajidhaa

set_option linter.unusedSectionVars false
namespace Go.Eng
open Go Go.Proofs Go.NatM Go.RowKit Go.Proofs.Ytlhmehikajidhaa
/-- the words lie from block lo on -/
def Nw (lo : Nat) (x : IV) : Prop := ∀ k, fpA x.m.A x.m.n k → lo ≤ k
theorem Nw.mono {lo lo' : Nat} {x : IV} (h : Nw lo x) (hl : lo' ≤ lo) : Nw lo' x := fun k hk => Nat.le_trans hl (h k hk)
theorem Nw.of {H : Array Obj} {lo : Nat} {t : TypeId} {x : IV} (h : Ow u64v H lo t x.m.A x.m.n x.m.c x.m.l) : Nw lo x := fun k ⟨h0, o, e⟩ => by
  unfold Ow at h
  rcases h.2 with ⟨e', _⟩ | ⟨g, cur, e', hl, hg, _⟩
  · rw [e] at e'; cases e'
  · rw [e] at e'; cases e'; exact hl
theorem Sl.same {α : Type} {f : α → Value} {H H' : Array Obj} {n c : Nat} {A : Option Addr} {l : List α} (hs : Sl f H H.size A n c l) (hz : H.size ≤ H'.size) (he : ∀ k, fpA A n k → H'[k]? = H[k]?) : Sl f H' H'.size A n c l := by
  refine ⟨hs.len, hs.cap, ?_⟩
  rcases hs.mem with h0 | ⟨b, o, e, hlt, hm⟩
  · exact .inl h0
  · rcases Nat.eq_zero_or_pos n with h0 | h0
    · exact .inl h0
    · exact .inr ⟨b, o, e, Nat.lt_of_lt_of_le hlt hz, fun j x hx => hcell_eq (he b ⟨h0, o, e⟩) (hm j x hx)⟩
theorem Sm.same {α : Type} {k : Nat} {f : α → List Value} {H H' : Array Obj} {n c : Nat} {A : Option Addr} {l : List α} (hs : Sm k f H H.size A n c l) (hz : H.size ≤ H'.size) (he : ∀ k, fpA A n k → H'[k]? = H[k]?) : Sm k f H' H'.size A n c l := by
  refine ⟨hs.len, hs.cap, hs.pos, hs.wid, ?_⟩
  rcases hs.mem with h0 | ⟨b, o, e, hlt, hm⟩
  · exact .inl h0
  · rcases Nat.eq_zero_or_pos n with h0 | h0
    · exact .inl h0
    · exact .inr ⟨b, o, e, Nat.lt_of_lt_of_le hlt hz, fun j x hx q v hv => hcell_eq (he b ⟨h0, o, e⟩) (hm j x hx q v hv)⟩
theorem GI.same {H H' : Array Obj} {x : IV} (h : GI H x) (hz : H.size ≤ H'.size) (he : ∀ k, fpA x.m.A x.m.n k → H'[k]? = H[k]?) : GI H' x := ⟨Sl.same h.s hz he, h.u⟩
theorem LI.same {H H' : Array Obj} {x : IV} {z : Int} (h : LI H z x) (hz : H.size ≤ H'.size) (he : ∀ k, fpA x.m.A x.m.n k → H'[k]? = H[k]?) : LI H' z x := ⟨GI.same h.g hz he, h.d, h.e⟩
/-- all words of a list lie from block lo on -/
def NwL (lo : Nat) (l : List IV) : Prop := ∀ q, q < l.length → Nw lo (l.getD q default)
theorem LM.same {H H' : Array Obj} {x : MV} {r c K lo : Nat} {F : Nat → Nat → Int} (h : LM H x r c F K) (hn : NwL lo x.l) (hA : ∀ k, fpA x.A x.n k → lo ≤ k) (hz : H.size ≤ H'.size) (he : ∀ k, lo ≤ k → k < H.size → H'[k]? = H[k]?) : LM H' x r c F K := by
  have hl := h.s.len
  have hxn := h.sh.n
  refine ⟨h.sh, Sm.same h.s hz fun k hk => he k (hA k hk) (h.s.fp_lt hk), fun i j hi hj => ⟨LI.same (h.g i j hi hj).1 hz fun k hk => ?_, (h.g i j hi hj).2⟩⟩
  have hlt := place_lt hi hj
  refine he k (hn _ (by omega) k hk) ?_
  have hs := (h.g i j hi hj).1.g.s
  obtain ⟨h0, o, e⟩ := hk
  rcases hs.mem with h1 | ⟨b, o', e', hb, _⟩
  · omega
  · rw [e] at e'; cases e'; exact hb
end Go.Eng
namespace Go.Proofs.Ytlhmehikajidhaa
open Go Go.Eng Go.Proofs Go.NatM Go.RowKit
/-- a new integer in least form, its words in a new block -/
def RetZN (w : World) (z : Int) (K : Nat) (e : Ending) (w' : World) : Prop := ∃ x : IV, e = .returned (.agg (ivc x).toArray) ∧ LI w'.heap z x ∧ Ext w w' ∧ x.m.n ≤ K ∧ Nw w.heap.size x
theorem zleastN (w : World) (x : IV) (g : GI w.heap x) (hn : x.m.n ≤ 35184372088832) : Cl Try.prog 39 #[.agg (ivc x).toArray] w (RetZN w (ival x) x.m.n) := by
  have hl := fun w1 (hE : Ext w w1) => least_ok w1 _ x.m.A x.m.n x.m.c x.m.l (g.s.ext hE) g.u hn
  obtain ⟨xs, ⟨xA, xn, xc, xl⟩⟩ := x
  dsimp only at hl hn
  refine enter Try.func39 rfl rfl rfl ?_
  have hF := Fr.refl w
  repeat' (first | (refine TL.isOp ?_; first | (refine TL.isCall ?_; refine TL.call rfl rfl ?_; first | (refine (hl _ hF.ext).mono ?_; rintro _ wl ⟨Al, nl, cl, rfl, hOl, hEl, hKl⟩; have hsl := hOl.sl (Nat.le_refl _); have hnw := Nw.of (x := ⟨xs, ⟨Al, nl, cl, _⟩⟩) (hOl.mono hF.exs.size); replace hF := Fr.addSl (hF.exts hEl) hsl; clear hOl hEl hsl; refine Back.mk ?_) | (refine (of_ok _ _ _ _ _ _ (Fr.sl hF (by repeat (first | exact memH | apply memT)))).mono ?_; rintro _ wo ⟨rfl, hLo, hEo⟩; replace hF := Fr.addLI (hF.exts hEo) hLo; clear hLo hEo; refine Back.mk ?_)) | (refine TL.storeAFr hF rfl rfl rfl rfl (by refine ⟨?_, ?_⟩; (focus (repeat (first | apply SetV.head | apply SetV.tail))); rfl) rfl ?_; clear hF; intro ws hF) | (refine TL.boxAFr hF (d := 1) (cs := [.bool xs, .slice xA xn xc]) rfl rfl ?_; clear hF; intro w1 b1 hF) | (refine TL.allocFr hF (d := 2) rfl rfl ?_; clear hF; intro w2 b2 hF)) | (refine TF.is ?_; first | refine TF.nil ?_ | refine TF.e rfl ?_ | (refine TF.pick rfl ?_; first | (apply TFo.ev; (case hd => rfl); (case h => (intro wh hF; first | (apply Ev.isLoad; first | exact ev_loadFr hF rfl (by refine ⟨?_, ?_⟩; (focus (repeat (first | exact InV.head | apply InV.tail))); rfl)) | exact ev_fieldAddr rfl))))) | (refine T.is ?_; first | refine T.seq ?_ | refine T.region ?_ | refine T.ret ?_ | (refine T.regionFt hF 1 6 (.s 0 (.s 1 (.s 2 (.s 3 (.e 4 (.e 5 (.e 6 .nil))))))) mixed (by kernel_rfl) ?_; clear hF; intro wr hF)) | (refine G.is ?_; first | refine G.next ?_ | refine G.only ?_ | refine G.treeEnd rfl ?_ | refine G.tree rfl (by first | exact hF | exact hF.weak (List.sublist_append_right _ _) (by repeat (first | exact allR | apply allT)) | exact hF.weak (by repeat (first | exact List.Sublist.refl _ | apply List.Sublist.cons)) (by repeat (first | exact allR | apply allT)) | exact hF.weak (by repeat (first | exact List.Sublist.refl _ | apply List.Sublist.cons)) (by repeat (first | exact allN | refine allH (by repeat (first | exact memH | apply memT)) ?_))) ?_) | refine TL.nil ?_)
  all_goals exact G.retC1 rfl rfl (held_agg (hF.var (b := b2) (by repeat (first | exact InV.head | apply InV.tail))) rfl) ⟨⟨xs && decide (0 < nl), ⟨Al, nl, cl, _⟩⟩, rfl, Fr.li hF (by repeat (first | exact memH | apply memT)), hF.ext, hKl, hnw⟩
/-- a new list of integers, the words in new blocks -/
def RetLN (w : World) (n : Nat) (Z : Nat → Int) (K : Nat) (e : Ending) (w' : World) : Prop := ∃ A k l, e = .returned (.slice A n k) ∧ LL w'.heap A n k l Z K ∧ Ext w w' ∧ LF w A n ∧ NwL w.heap.size l
set_option maxRecDepth 100000 in
set_option maxHeartbeats 8000000 in
theorem eachN (w : World) (A : Option Addr) (n k : Nat) (l : List IV) (hs : Sm 2 ivc w.heap w.heap.size A n k l) (hn : n ≤ 1048576) (g : FuncId) (cap : List Value) (hg : IsFn Try.prog g) (Z : Nat → Int) (K : Nat)
    (hG : ∀ i y (w1 : World), l[i]? = some y → Ext w w1 → Cl Try.prog g ([Value.agg (ivc y).toArray] ++ cap).toArray w1 (RetZN w1 (Z i) K)) :
    Cl Try.prog 47 #[.slice A n k, .func (.func g) #[] cap.toArray] w (RetLN w n Z K) := by
  have hlen := hs.len
  refine enter Try.func47 rfl rfl rfl ?_
  have hF := Fr.refl w
  repeat' (first | (refine TL.isOp ?_; first | (apply TL.ev; (case hd => rfl); (case h => (first | exact ev_simple rfl | exact ev_len rfl))) | (refine TL.makeFr hF ivc ⟨false, ⟨none, 0, 0, []⟩⟩ (d := 10) rfl rfl rfl (Nat.le_refl _) (by omega) rfl rfl rfl ?_; clear hF; intro w10 b10 hF)) | (refine T.is ?_; first | refine T.seq ?_ | refine T.region ?_ | refine T.block ?_) | (refine G.is ?_; first | refine G.next ?_) | refine TL.nil ?_)
  refine T.loop (α := Nat × List IV) (fun x => [(1, .func (.func g) #[] cap.toArray), (5, .slice (some ⟨b10, 0, none⟩) n n), (11, .slice A n k), (12, .int .i64 (n : Int)), (13, .int .i64 (x.1 : Int))])
    (fun x w' => x.1 ≤ n ∧ x.2.length = n ∧ (∀ q, q < x.1 → Nw w.heap.size (x.2.getD q default)) ∧ Fr w w' [⟨b10, 37, x.2.flatMap ivc⟩] [dpLK x.1 x.2 Z K])
    (fun x => n - x.1) (0, List.replicate n ⟨false, ⟨none, 0, 0, []⟩⟩) (by repeat (first | exact Sub.nil _ | refine Sub.cons rfl ?_ | refine Sub.cons' rfl (int_congr (by omega)) ?_)) ⟨Nat.zero_le _, List.length_replicate .., fun q hq => absurd hq (Nat.not_lt_zero _), Fr.addLK hF (fun q hq => absurd hq (Nat.not_lt_zero _))⟩ ?_
  clear hF
  rintro ⟨i, zl⟩ w2 ⟨hi, hzl, hnw, hF⟩
  dsimp only at hi hzl hnw hF ⊢
  rcases Nat.lt_or_ge i n with hin | hin
  · have hy : l[i]? = some (l.getD i default) := by simp [List.getD, show i < l.length by omega]
    obtain ⟨⟨yneg, ⟨yA, yn, yc, yl⟩⟩, ey⟩ : ∃ y, l.getD i default = y := ⟨_, rfl⟩
    rw [ey] at hy
    repeat' (first | (refine TL.isOp ?_; first | (refine TL.isBin ?_; refine TL.cmpG rfl rfl rfl rfl (fun hc => ?_) (fun hc => ?_) <;> (try (first | (exfalso; omega) | exact absurd rfl hc))) | (apply TL.ev; (case hd => rfl); (case h => (first | exact ev_simple rfl | (apply Ev.isBin; first | exact ev_arN rfl rfl rfl (by omega)) | (apply Ev.isLoad; first | exact ev_loadAFr hF rfl (by refine ⟨?_, ?_⟩; (focus (repeat (first | exact InV.head | apply InV.tail))); rfl) | exact ev_loadM rfl (hs.ext hF.ext) hy) | exact ev_indexM rfl rfl hin (hs.ext hF.ext).some | exact ev_indexM rfl rfl hin (.inr rfl)))) | (refine TL.storeAFr hF rfl rfl rfl rfl (by refine ⟨?_, ?_⟩; (focus (repeat (first | apply SetV.head | apply SetV.tail))); rfl) rfl ?_; clear hF; intro ws hF) | (refine TL.callV (vs := [.agg (ivc ⟨yneg, ⟨yA, yn, yc, yl⟩⟩).toArray]) (cap := cap) hg rfl rfl rfl ?_; refine (hG i _ _ hy hF.ext).mono ?_; rintro _ wf ⟨x, rfl, hLx, hE, hKx, hNx⟩; replace hNx := hNx.mono hF.exs.size; replace hF := Fr.addLI (hF.exts hE) hLx; clear hE hLx; refine Back.mk ?_) | (refine TL.storeAtFr hF (f := ivc) x rfl rfl rfl rfl (fun _ => rfl) (by rw [hzl]; exact hin) (ivc_noV zl) (by repeat (first | apply SetV.head | apply SetV.tail)) ?_; clear hF; intro ws hF) | (refine TL.allocFr hF rfl rfl ?_; clear hF; intro wa ba hF)) | (refine T.is ?_; first | refine T.seq ?_ | refine T.region ?_ | refine T.block ?_ | refine T.cond_t rfl ?_ | refine T.skip ?_) | (refine G.is ?_; first | refine G.next ?_ | refine G.blockN ?_) | refine TL.nil ?_)
    have hk := (Fr.lk hF (i := i) (l := zl) (by repeat (first | exact memH | apply memT))).set (by omega) (Fr.li hF (x := x) (by repeat (first | exact memH | apply memT))) hKx
    refine G.again (i + 1, zl.set i x) (by repeat (first | exact Sub.nil _ | refine Sub.cons rfl ?_ | refine Sub.cons' rfl (int_congr (by omega)) ?_)) ⟨by dsimp only; omega, by rw [List.length_set]; exact hzl, fun q hq => ?_, Fr.addLK (hF.weak (L := [⟨b10, 37, (zl.set i x).flatMap ivc⟩]) (D := []) (List.Sublist.cons _ (List.Sublist.refl _)) allN) hk⟩ (by dsimp only; omega)
    dsimp only at hq ⊢
    by_cases e : q = i
    · subst e
      have : (zl.set q x).getD q default = x := by simp [List.getD, show q < zl.length by omega]
      rw [this]; exact hNx
    · have : (zl.set i x).getD q default = zl.getD q default := by simp only [List.getD]; rw [List.getElem?_set_ne (fun h => e h.symm)]
      rw [this]; exact hnw q (by omega)
  · obtain rfl : i = n := by omega
    repeat' (first | (refine TL.isOp ?_; first | (refine TL.isBin ?_; refine TL.cmpG rfl rfl rfl rfl (fun hc => ?_) (fun hc => ?_) <;> (try (first | (exfalso; omega) | exact absurd rfl hc))) | (apply TL.ev; (case hd => rfl); (case h => (first | exact ev_simple rfl)))) | (refine T.is ?_; first | refine T.seq ?_ | refine T.region ?_ | refine T.cond_f rfl ?_ | refine T.exit ?_ | refine T.ret ?_) | (refine G.is ?_; first | refine G.next ?_ | refine G.blockE ?_ | refine G.thenE ?_) | refine TL.nil ?_)
    refine G.ret1 rfl rfl ⟨_, _, zl, rfl, ⟨vr_sm (zs := []) (by omega) (fun _ _ => rfl) (by rw [List.append_nil]; exact hF.var .head) hzl (Nat.le_refl _) (hF.var .head).lt, Fr.lk hF (by repeat (first | exact memH | apply memT))⟩, hF.ext, .inr ⟨b10, rfl, ?_⟩, fun q hq => hnw q (by omega)⟩
    rcases hF.lo .head with h | h
    · exact h
    · exact h.elim
theorem leastN_each (w : World) (l : List IV) (K : Nat) (hg : ∀ y ∈ l, GI w.heap y ∧ y.m.n ≤ K) (hK : K ≤ 35184372088832) :
    ∀ i y (w1 : World), l[i]? = some y → Ext w w1 → Cl Try.prog 39 ([Value.agg (ivc y).toArray] ++ []).toArray w1 (RetZN w1 ((fun q => ival (l.getD q default)) i) K) := by
  intro i y w1 hy hE
  obtain ⟨g1, g2⟩ := hg y (List.mem_of_getElem? hy)
  refine (zleastN w1 y (g1.ext hE) (by omega)).mono ?_
  rintro e w' ⟨x, rfl, h1, h2, h3, h4⟩
  refine ⟨x, rfl, ?_, h2, by omega, h4⟩
  have e1 : l.getD i default = y := by simp [List.getD, hy]
  simp only [e1]
  exact h1
/-- a new matrix, the words in new blocks -/
def RetMN (w : World) (r c : Nat) (F : Nat → Nat → Int) (K : Nat) (e : Ending) (w' : World) : Prop := ∃ x : MV, e = .returned (.tuple #[.agg (mvc x).toArray, .int .i64 0]) ∧ LM w'.heap x r c F K ∧ Ext w w' ∧ MF w x ∧ NwL w.heap.size x.l
set_option maxRecDepth 100000 in
set_option maxHeartbeats 8000000 in
theorem mleastN (w : World) (x : MV) (r c K : Nat) (gx : GM w.heap x r c K) (hK : K ≤ 35184372088832) : Cl Try.prog 45 #[.agg (mvc x).toArray] w (RetMN w r c (ent x c) K) := by
  have hs0 := gx.sh
  obtain ⟨xr, xc, A1, n1, k1, l1⟩ := x
  obtain ⟨hr1, hc1, hr, hc, hn1⟩ := hs0
  dsimp only at hr1 hc1 hn1
  subst hr1 hc1 hn1
  have hm := mul64 hr hc
  refine enter Try.func45 rfl rfl rfl ?_
  have hF := Fr.refl w
  repeat' (first | (refine TL.isOp ?_; first | (refine TL.isCall ?_; refine TL.call rfl rfl ?_; first | (refine (chk_ok _ _ r c gx.sh).mono ?_; rintro _ wy ⟨rfl, hE⟩; replace hF := hF.exts hE; clear hE; refine Back.mk ?_) | (refine (eachN _ A1 (r * c) k1 l1 (gx.s.ext hF.ext).size (by omega) 39 [] inferInstance _ K (leastN_each _ l1 K (fun y hy => ⟨(gx.g y hy).1.ext hF.ext, (gx.g y hy).2⟩) hK)).mono ?_; rintro _ wl ⟨Al, kl, ll, rfl, hL, hE, hf, hnw⟩; have hLm := LL.lm gx.sh hL; have hMf := LF.mf (r := r) (c := c) (k := kl) (l := ll) hf; replace hMf := hMf.mono hF.ext.size; have hNw : NwL w.heap.size ll := (fun q hq => (hnw q hq).mono hF.exs.size); replace hF := Fr.addLM hF hE hLm (LF.mf hf); clear hE hf hL hLm hnw; refine Back.mk ?_)) | (refine TL.isBin ?_; refine TL.cmpG rfl rfl rfl rfl (fun hc => ?_) (fun hc => ?_) <;> (try (first | (exfalso; omega) | exact absurd rfl hc))) | (apply TL.ev; (case hd => rfl); (case h => (first | exact ev_simple rfl | (apply Ev.isLoad; first | exact ev_loadAFr hF rfl (by refine ⟨?_, ?_⟩; (focus (repeat (first | exact InV.head | apply InV.tail))); rfl))))) | (refine TL.storeAFr hF rfl rfl rfl rfl (by refine ⟨?_, ?_⟩; (focus (repeat (first | apply SetV.head | apply SetV.tail))); rfl) rfl ?_; clear hF; intro ws hF) | (refine TL.boxAFr hF (d := 1) (cs := [.int .i64 (r : Int), .int .i64 (c : Int), .slice A1 (r * c) k1]) rfl rfl ?_; clear hF; intro w1 b1 hF) | (refine TL.allocFr hF (d := 2) rfl rfl ?_; clear hF; intro w2 b2 hF)) | (refine TF.is ?_; first | refine TF.nil ?_ | refine TF.e rfl ?_ | (refine TF.pick rfl ?_; first | (apply TFo.ev; (case hd => rfl); (case h => (intro wh hF; first | exact ev_simple rfl | (apply Ev.isLoad; first | exact ev_loadFr hF rfl (by refine ⟨?_, ?_⟩; (focus (repeat (first | exact InV.head | apply InV.tail))); rfl)) | exact ev_fieldAddr rfl | exact ev_buildX rfl rfl))))) | (refine T.is ?_; first | refine T.seq ?_ | refine T.region ?_ | refine T.cond_f rfl ?_ | refine T.ret ?_ | refine T.skip ?_ | (refine T.regionFt hF 4 10 (.s 0 (.s 1 (.s 2 (.s 3 (.s 4 (.s 5 (.e 6 (.s 7 (.e 8 (.s 9 .nil)))))))))) mixed (by kernel_rfl) ?_; clear hF; intro wr hF)) | (refine G.is ?_; first | refine G.next ?_ | refine G.only ?_ | refine G.tree rfl (by first | exact hF | exact hF.weak (List.sublist_append_right _ _) (by repeat (first | exact allR | apply allT)) | exact hF.weak (by repeat (first | exact List.Sublist.refl _ | apply List.Sublist.cons)) (by repeat (first | exact allR | apply allT)) | exact hF.weak (by repeat (first | exact List.Sublist.refl _ | apply List.Sublist.cons)) (by repeat (first | exact allN | refine allH (by repeat (first | exact memH | apply memT)) ?_))) ?_) | refine TL.nil ?_)
  exact G.retC2 rfl rfl rfl (held_agg (hF.var (by repeat (first | exact InV.head | apply InV.tail))) rfl) ⟨⟨r, c, Al, r * c, kl, ll⟩, rfl, Fr.lm hF (by repeat (first | exact memH | apply memT)), hF.ext, hMf, hNw⟩
/-- a walk over the rows of a matrix, whose words lie in new blocks -/
def RetItN (w : World) (r c : Nat) (F : Nat → Nat → Int) (K : Nat) (e : Ending) (w' : World) : Prop := ∃ (b : Nat) (A : Option Addr) (k : Nat) (l : List IV), e = .returned (.func (.func 46) #[] #[.pointer (some ⟨b, 0, none⟩)]) ∧
  Vr w'.heap b 24 [.int .i64 (r : Int), .int .i64 (c : Int), .slice A (r * c) k] ∧ LM w'.heap ⟨r, c, A, r * c, k, l⟩ r c F K ∧ Ext w w' ∧ w.heap.size ≤ b ∧ MF w ⟨r, c, A, r * c, k, l⟩ ∧ NwL w.heap.size l
theorem linesN (w : World) (x : MV) (r c K : Nat) (gx : GM w.heap x r c K) (hK : K ≤ 35184372088832) : Cl Try.prog 21 #[.agg (mvc x).toArray] w (RetItN w r c (ent x c) K) := by
  have hl := fun w1 (hE : Ext w w1) => mleastN w1 x r c K (gx.ext hE) hK
  obtain ⟨xr, xc, A, n, k, l⟩ := x
  refine enter Try.func21 rfl rfl rfl ?_
  have hF := Fr.refl w
  repeat' (first | (refine TL.isOp ?_; first | (refine TL.isCall ?_; refine TL.call rfl rfl ?_; first | (refine (hl _ hF.ext).mono ?_; rintro _ wu ⟨zu, rfl, hLu, hE, hf, hnw⟩; obtain ⟨Au, ku, lu, rfl⟩ := lm_mk hLu; rw [mvc_mk _ _ Au]; have hfu := hf.mono hF.ext.size; have hNw : NwL w.heap.size lu := (fun q hq => (hnw q hq).mono hF.exs.size); replace hF := Fr.addLM hF hE hLu hf; clear hE hf hLu hnw; refine Back.mk ?_)) | (apply TL.ev; (case hd => rfl); (case h => (first | exact ev_simple rfl | (apply Ev.isLoad; first | exact ev_loadAFr hF rfl (by refine ⟨?_, ?_⟩; (focus (repeat (first | exact InV.head | apply InV.tail))); rfl)) | exact ev_makeFunc rfl))) | (refine TL.storeAFr hF rfl rfl rfl rfl (by refine ⟨?_, ?_⟩; (focus (repeat (first | apply SetV.head | apply SetV.tail))); rfl) rfl ?_; clear hF; intro ws hF) | (refine TL.boxAFr hF (d := 1) (cs := [.int .i64 xr, .int .i64 xc, .slice A n k]) rfl rfl ?_; clear hF; intro w1 b1 hF) | (refine TL.allocFr hF (d := 3) rfl rfl ?_; clear hF; intro w3 b3 hF)) | (refine T.is ?_; first | refine T.seq ?_ | refine T.region ?_ | refine T.ret ?_) | (refine G.is ?_; first | refine G.next ?_) | refine TL.nil ?_)
  have hlo := hF.lo (.head (b := b3))
  exact G.ret1 rfl rfl ⟨b3, Au, ku, lu, rfl, hF.var (by repeat (first | exact InV.head | apply InV.tail)), Fr.lm hF (by repeat (first | exact memH | apply memT)), hF.ext, hlo.resolve_right id, hfu, hNw⟩
theorem linesN_bad (w : World) (x : MV) (hx : InR x) (hn : ¬ ∃ r c, Sound x r c) (F : Nat → Nat → Int) (K : Nat) : Cl Try.prog 21 #[.agg (mvc x).toArray] w (RetItN w 0 0 F K) := by
  have hl := fun w1 => mleast_bad w1 x hx hn
  obtain ⟨xr, xc, A, n, k, l⟩ := x
  refine enter Try.func21 rfl rfl rfl ?_
  have hF := Fr.refl w
  repeat' (first | (refine TL.isOp ?_; first | (refine TL.isCall ?_; refine TL.call rfl rfl ?_; first | (refine (hl _).mono ?_; rintro _ wu ⟨rfl, hE⟩; replace hF := hF.exts hE; clear hE; refine Back.mk ?_)) | (apply TL.ev; (case hd => rfl); (case h => (first | exact ev_simple rfl | (apply Ev.isLoad; first | exact ev_loadAFr hF rfl (by refine ⟨?_, ?_⟩; (focus (repeat (first | exact InV.head | apply InV.tail))); rfl)) | exact ev_makeFunc rfl))) | (refine TL.storeAFr hF rfl rfl rfl rfl (by refine ⟨?_, ?_⟩; (focus (repeat (first | apply SetV.head | apply SetV.tail))); rfl) rfl ?_; clear hF; intro ws hF) | (refine TL.boxAFr hF (d := 1) (cs := [.int .i64 xr, .int .i64 xc, .slice A n k]) rfl rfl ?_; clear hF; intro w1 b1 hF) | (refine TL.allocFr hF (d := 3) rfl rfl ?_; clear hF; intro w3 b3 hF)) | (refine T.is ?_; first | refine T.seq ?_ | refine T.region ?_ | refine T.ret ?_) | (refine G.is ?_; first | refine G.next ?_) | refine TL.nil ?_)
  have hlo := hF.lo (.head (b := b3))
  exact G.ret1 rfl rfl ⟨b3, none, 0, [], rfl, hF.var (by repeat (first | exact InV.head | apply InV.tail)), lm_zero _ _ _, hF.ext, hlo.resolve_right id, .inl rfl, fun q hq => absurd hq (Nat.not_lt_zero _)⟩
end Go.Proofs.Ytlhmehikajidhaa

namespace Go.Eng
open Go Go.RowKit

theorem Vr.exs {S : Nat → Prop} {w w' : World} {b : Nat} {t : TypeId} {cs : List Value} (hE : Exs S w w') (hS : ¬ S b) (h : Vr w.heap b t cs) : Vr w'.heap b t cs := (hE.block b h.lt hS).trans h
theorem Sl.exs {α : Type} {f : α → Value} {S : Nat → Prop} {w w' : World} {B n c : Nat} {A : Option Addr} {l : List α} (hE : Exs S w w') (hS : ∀ k, fpA A n k → ¬ S k) (h : Sl f w.heap B A n c l) : Sl f w'.heap B A n c l := by
  refine ⟨h.len, h.cap, ?_⟩
  rcases h.mem with h0 | ⟨b, o, e, hlt, hm⟩
  · exact .inl h0
  · rcases Nat.eq_zero_or_pos n with h0 | h0
    · exact .inl h0
    · have hl : 0 < l.length := by have := h.len; omega
      have hb := hcell_lt (hm 0 l[0] (List.getElem?_eq_getElem hl))
      exact .inr ⟨b, o, e, hlt, fun j x hx => hcell_eq (hE.block b hb (hS b ⟨h0, o, e⟩)) (hm j x hx)⟩
/-- the blocks of F are as they were -/
structure DEk (F : Nat → Prop) (H H' : Array Obj) : Prop where
  size : H.size ≤ H'.size
  block : ∀ k, k < H.size → F k → H'[k]? = H[k]?
/-- a fact on data, and the blocks that it looks at -/
structure DK where
  p : Array Obj → Prop
  fp : Nat → Prop
  lt : ∀ H k, p H → fp k → k < H.size
  st : ∀ H H', DEk fp H H' → p H → p H'
structure Fk (S : Nat → Prop) (w0 w : World) (L : List VB) (D : List DK) : Prop where
  exs : Exs S w0 w
  vars : ∀ v ∈ L, (w0.heap.size ≤ v.b ∨ S v.b) ∧ Vr w.heap v.b v.t v.cs
  dist : L.Pairwise (fun x y => x.b ≠ y.b)
  data : ∀ d ∈ D, d.p w.heap
  apart : ∀ v ∈ L, ∀ d ∈ D, ¬ d.fp v.b
  dd : D.Pairwise (fun d e => ∀ k, d.fp k → ¬ e.fp k)
  own : ∀ d ∈ D, ∀ k, d.fp k → w0.heap.size ≤ k ∨ S k
section
variable {S : Nat → Prop} {w0 w w' : World} {L L' : List VB} {D D' : List DK} {b : Nat} {t : TypeId} {cs r : List Value}
theorem Fk.refl (S : Nat → Prop) (w : World) : Fk S w w [] [] := ⟨Exs.refl _ _, fun _ h => (by cases h), List.Pairwise.nil, fun _ h => (by cases h), fun _ h => (by cases h), List.Pairwise.nil, fun _ h => (by cases h)⟩
theorem Fk.ext (h : Fk (fun _ => False) w0 w L D) : Ext w0 w := h.exs.ext0
theorem Fk.get (h : Fk S w0 w L D) {d : DK} (hd : d ∈ D) : d.p w.heap := h.data d hd
theorem Fk.exts (h : Fk S w0 w L D) (hE : Ext w w') : Fk S w0 w' L D :=
  ⟨h.exs.trans (.of hE), fun v hv => ⟨(h.vars v hv).1, (h.vars v hv).2.ext hE⟩, h.dist, fun d hd => d.st _ _ ⟨hE.size, fun k hk _ => hE.block k hk⟩ (h.data d hd), h.apart, h.dd, h.own⟩
/-- data in blocks that are not older than w -/
theorem Fk.addNew (h : Fk S w0 w L D) (hE : Ext w w') (d : DK) (hd : d.p w'.heap) (hn : ∀ k, d.fp k → w.heap.size ≤ k) : Fk S w0 w' L (d :: D) := by
  have h1 := h.exts hE
  refine ⟨h1.exs, h1.vars, h1.dist, fun x hx => ?_, fun v hv x hx => ?_, List.pairwise_cons.2 ⟨fun e he k hk hek => ?_, h1.dd⟩, fun x hx k hk => ?_⟩
  · rcases List.mem_cons.1 hx with rfl | hx
    · exact hd
    · exact h1.data x hx
  · rcases List.mem_cons.1 hx with rfl | hx
    · intro hk; have q1 := (h.vars v hv).2.lt; have q2 := hn _ hk; omega
    · exact h1.apart v hv x hx
  · have q1 := e.lt _ _ (h.data e he) hek; have q2 := hn _ hk; omega
  · rcases List.mem_cons.1 hx with rfl | hx
    · exact .inl (Nat.le_trans h.exs.size (hn _ hk))
    · exact h1.own x hx k hk
theorem Fk.var (h : Fk S w0 w L D) (hv : InV L b t cs) : Vr w.heap b t cs := (h.vars _ hv.mem).2
theorem Fk.new (h : Fk S w0 w L D) (hb : b = w.heap.size) (hV : Vr w'.heap b t cs) (hE : Ext w w') : Fk S w0 w' (⟨b, t, cs⟩ :: L) D := by
  have h1 := h.exts hE
  refine ⟨h1.exs, fun v hv => ?_, List.pairwise_cons.2 ⟨fun v hv e => ?_, h.dist⟩, h1.data, fun v hv d hd => ?_, h1.dd, h1.own⟩
  · rcases List.mem_cons.1 hv with rfl | hv
    · exact ⟨.inl (by rw [hb]; exact h.exs.size), hV⟩
    · exact h1.vars v hv
  · have := (h.vars v hv).2.lt
    simp only at e
    omega
  · rcases List.mem_cons.1 hv with rfl | hv
    · intro hk
      have := d.lt _ _ (h.data d hd) hk
      simp only at this
      omega
    · exact h.apart v hv d hd
/-- a block known whole is written -/
theorem Fk.store (h : Fk S w0 w L D) (hS : SetV L b t cs r L') (hu : Upd b w w') (hV : Vr w'.heap b t r) : Fk S w0 w' L' D := by
  have hb := (h.vars _ hS.inV.mem).1
  have hap := fun d hd => h.apart _ hS.inV.mem d hd
  refine ⟨h.exs.then hu.exs fun i hi e => ?_, ?_, ?_, fun d hd => d.st _ _ ⟨Nat.le_of_eq hu.size.symm, fun k _ hk => hu.block k fun e => hap d hd (e ▸ hk)⟩ (h.data d hd), ?_, h.dd, h.own⟩
  · subst e
    rcases hb with hb | hb
    · simp only at hb; omega
    · exact hb
  · intro v hv
    obtain ⟨pre, post, e1, e2⟩ := hS.split
    subst e1 e2
    have hdist := h.dist
    rw [List.pairwise_append] at hdist
    have hq : ∀ v, v ∈ pre ∨ v ∈ post → (w0.heap.size ≤ v.b ∨ S v.b) ∧ Vr w'.heap v.b v.t v.cs := by
      intro v hv
      have hm : v ∈ pre ++ (⟨b, t, cs⟩ : VB) :: post := by
        rcases hv with hv | hv
        · exact List.mem_append_left _ hv
        · exact List.mem_append_right _ (List.mem_cons_of_mem _ hv)
      have hne : v.b ≠ b := by
        rcases hv with hv | hv
        · exact hdist.2.2 v hv _ (List.mem_cons_self ..)
        · exact fun e => (List.pairwise_cons.1 hdist.2.1).1 v hv e.symm
      exact ⟨(h.vars v hm).1, (h.vars v hm).2.upd hu hne⟩
    rcases List.mem_append.1 hv with hv | hv
    · exact hq v (.inl hv)
    · rcases List.mem_cons.1 hv with rfl | hv
      · exact ⟨hb, hV⟩
      · exact hq v (.inr hv)
  · obtain ⟨pre, post, e1, e2⟩ := hS.split
    subst e1 e2
    have hdist := h.dist
    rw [List.pairwise_append, List.pairwise_cons] at hdist ⊢
    refine ⟨hdist.1, ⟨fun v hv => hdist.2.1.1 v hv, hdist.2.1.2⟩, fun x hx y hy => ?_⟩
    rcases List.mem_cons.1 hy with rfl | hy
    · exact hdist.2.2 x hx ⟨b, t, cs⟩ (List.mem_cons_self ..)
    · exact hdist.2.2 x hx y (List.mem_cons_of_mem _ hy)
  · intro v hv d hd
    obtain ⟨pre, post, e1, e2⟩ := hS.split
    subst e1 e2
    rcases List.mem_append.1 hv with hv | hv
    · exact h.apart v (List.mem_append_left _ hv) d hd
    · rcases List.mem_cons.1 hv with rfl | hv
      · exact hap d hd
      · exact h.apart v (List.mem_append_right _ (List.mem_cons_of_mem _ hv)) d hd
theorem Fk.weak (h : Fk S w0 w L' D') (hL : L.Sublist L') (hD : D.Sublist D') : Fk S w0 w L D :=
  ⟨h.exs, fun v hv => h.vars v (hL.subset hv), h.dist.sublist hL, fun d hd => h.data d (hD.subset hd), fun v hv d hd => h.apart v (hL.subset hv) d (hD.subset hd), h.dd.sublist hD, fun d hd => h.own d (hD.subset hd)⟩
inductive SetD : List DK → DK → DK → List DK → Prop
  | head {D : List DK} {d e : DK} : SetD (d :: D) d e (e :: D)
  | tail {x d e : DK} {D D' : List DK} : SetD D d e D' → SetD (x :: D) d e (x :: D')
theorem SetD.mem {D D' : List DK} {d e : DK} (h : SetD D d e D') : d ∈ D := by
  induction h with
  | head => exact List.mem_cons_self ..
  | tail _ ih => exact List.mem_cons_of_mem _ ih
theorem SetD.split {D D' : List DK} {d e : DK} (h : SetD D d e D') : ∃ pre post, D = pre ++ d :: post ∧ D' = pre ++ e :: post := by
  induction h with
  | head => exact ⟨[], _, rfl, rfl⟩
  | @tail x d e D D' _ ih =>
    obtain ⟨pre, post, h1, h2⟩ := ih
    exact ⟨x :: pre, post, by rw [h1]; rfl, by rw [h2]; rfl⟩
/-- the blocks of one fact are written: all others stand -/
theorem Fk.write (h : Fk S w0 w L D) {d e : DK} (hS : SetD D d e D') (hE : Exs d.fp w w') (he : e.p w'.heap) (hfp : ∀ k, e.fp k → d.fp k ∨ w.heap.size ≤ k) : Fk S w0 w' L D' := by
  have hd := hS.mem
  have hst : ∀ x ∈ D, (∀ k, x.fp k → ¬ d.fp k) → x.p w'.heap := fun x hx hap => x.st _ _ ⟨hE.size, fun k hk hf => hE.block k hk (hap k hf)⟩ (h.data x hx)
  obtain ⟨pre, post, e1, e2⟩ := hS.split
  subst e1 e2
  have hdd := h.dd
  rw [List.pairwise_append, List.pairwise_cons] at hdd
  have hot : ∀ x, x ∈ pre ∨ x ∈ post → x ∈ pre ++ d :: post ∧ ∀ k, x.fp k → ¬ d.fp k := fun x hx => by
    rcases hx with hx | hx
    · exact ⟨List.mem_append_left _ hx, fun k hk => hdd.2.2 x hx d (List.mem_cons_self ..) k hk⟩
    · exact ⟨List.mem_append_right _ (List.mem_cons_of_mem _ hx), fun k hk hk' => hdd.2.1.1 x hx k hk' hk⟩
  have hne : ∀ x, x ∈ pre ∨ x ∈ post → ∀ k, x.fp k → ¬ e.fp k := fun x hx k hk hk' => by
    rcases hfp k hk' with h1 | h1
    · exact (hot x hx).2 k hk h1
    · have := x.lt _ _ (h.data x (hot x hx).1) hk; omega
  refine ⟨h.exs.then hE fun i hi hf => (h.own d hd i hf).resolve_left (by omega), fun v hv => ⟨(h.vars v hv).1, (h.vars v hv).2.exs hE (h.apart v hv d hd)⟩, h.dist, fun x hx => ?_, fun v hv x hx => ?_, ?_, fun x hx k hk => ?_⟩
  · rcases List.mem_append.1 hx with hx | hx
    · exact hst x (hot x (.inl hx)).1 (hot x (.inl hx)).2
    · rcases List.mem_cons.1 hx with rfl | hx
      · exact he
      · exact hst x (hot x (.inr hx)).1 (hot x (.inr hx)).2
  · rcases List.mem_append.1 hx with hx | hx
    · exact h.apart v hv x (hot x (.inl hx)).1
    · rcases List.mem_cons.1 hx with rfl | hx
      · intro hk
        rcases hfp _ hk with h1 | h1
        · exact h.apart v hv d hd h1
        · have := (h.vars v hv).2.lt; omega
      · exact h.apart v hv x (hot x (.inr hx)).1
  · rw [List.pairwise_append, List.pairwise_cons]
    refine ⟨hdd.1, ⟨fun x hx k hk hk' => hne x (.inr hx) k hk' hk, hdd.2.1.2⟩, fun x hx y hy k hk => ?_⟩
    rcases List.mem_cons.1 hy with rfl | hy
    · exact hne x (.inl hx) k hk
    · exact hdd.2.2 x hx y (List.mem_cons_of_mem _ hy) k hk
  · rcases List.mem_append.1 hx with hx | hx
    · exact h.own x (hot x (.inl hx)).1 k hk
    · rcases List.mem_cons.1 hx with rfl | hx
      · rcases hfp k hk with h1 | h1
        · exact h.own d hd k h1
        · exact .inl (Nat.le_trans h.exs.size h1)
      · exact h.own x (hot x (.inr hx)).1 k hk
/-- the facts D1 are given up: their blocks may be written -/
theorem Fk.drop (h : Fk S w0 w L D) (D1 D2 : List DK) (h1 : ∀ d ∈ D1, d ∈ D) (h2 : D2.Sublist D) {F : Nat → Prop} (hE : Exs F w w') (hF : ∀ k, F k → ∃ d ∈ D1, d.fp k) (hap : ∀ x ∈ D2, ∀ d ∈ D1, ∀ k, x.fp k → ¬ d.fp k) : Fk S w0 w' L D2 := by
  have hs := h2.subset
  refine ⟨h.exs.then hE fun i hi hf => ?_, fun v hv => ⟨(h.vars v hv).1, (h.vars v hv).2.exs hE fun hk => ?_⟩, h.dist, fun x hx => x.st _ _ ⟨hE.size, fun k hk hf => hE.block k hk fun he => ?_⟩ (h.data x (hs hx)), fun v hv x hx => h.apart v hv x (hs hx), h.dd.sublist h2, fun x hx => h.own x (hs hx)⟩
  · obtain ⟨d, hd, hk⟩ := hF i hf
    exact (h.own d (h1 d hd) i hk).resolve_left (by omega)
  · obtain ⟨d, hd, hk⟩ := hF _ hk
    exact h.apart v hv d (h1 d hd) hk
  · obtain ⟨d, hd, hk'⟩ := hF _ he
    exact hap x hx d hd k hf hk'
/-- D1 and D2 are parts of D -/
inductive Mrg : List DK → List DK → List DK → Prop
  | nil : Mrg [] [] []
  | l {x : DK} {D1 D2 D : List DK} : Mrg D1 D2 D → Mrg (x :: D1) D2 (x :: D)
  | r {x : DK} {D1 D2 D : List DK} : Mrg D1 D2 D → Mrg D1 (x :: D2) (x :: D)
theorem Mrg.left {D1 D2 D : List DK} (h : Mrg D1 D2 D) : D1.Sublist D := by
  induction h with
  | nil => exact List.Sublist.refl _
  | l _ ih => exact ih.cons_cons _
  | r _ ih => exact ih.cons _
theorem Mrg.right {D1 D2 D : List DK} (h : Mrg D1 D2 D) : D2.Sublist D := by
  induction h with
  | nil => exact List.Sublist.refl _
  | l _ ih => exact ih.cons _
  | r _ ih => exact ih.cons_cons _
theorem Mrg.apart {D1 D2 D : List DK} (h : Mrg D1 D2 D) (hp : D.Pairwise (fun d e => ∀ k, d.fp k → ¬ e.fp k)) : ∀ x ∈ D2, ∀ d ∈ D1, ∀ k, x.fp k → ¬ d.fp k := by
  induction h with
  | nil => intro x hx; cases hx
  | @l y D1 D2 D hm ih =>
    rw [List.pairwise_cons] at hp
    intro x hx d hd k hk hk'
    rcases List.mem_cons.1 hd with rfl | hd
    · exact hp.1 x (hm.right.subset hx) k hk' hk
    · exact ih hp.2 x hx d hd k hk hk'
  | @r y D1 D2 D hm ih =>
    rw [List.pairwise_cons] at hp
    intro x hx d hd k hk hk'
    rcases List.mem_cons.1 hx with rfl | hx
    · exact hp.1 d (hm.left.subset hd) k hk hk'
    · exact ih hp.2 x hx d hd k hk hk'
theorem kmemH {d : DK} {D : List DK} : d ∈ d :: D := List.mem_cons_self ..
theorem kmemT {d x : DK} {D : List DK} (h : d ∈ D) : d ∈ x :: D := List.mem_cons_of_mem _ h
end

/-! ### Steps -/
section
variable {P : Program} {N : Fm} {Q : Exit → Act → World → Prop} {σ : Store} {S : Nat → Prop} {w0 w : World} {L : List VB} {D : List DK} {ops : Array Oper} {d : Nat} {t : TypeId} {pos : String} {af : Array Edge} {rest : List Oper} {l : List Oper}
end
section
variable {P : Program} {σ : Store} {d : Option Tmp} {t : TypeId} {pos : String} {af : Array Edge} {gd : Option (Nat × Bool)} {S : Nat → Prop} {w0 w : World} {L : List VB} {D : List DK}
end

/-! ### Lists of words that have a block of their own -/
theorem putO_set : ∀ {cs : List Value} {k : Nat} (v : Value), k < cs.length → putO cs k [v] = some (cs.set k v)
  | [], k, v, h => by simp at h
  | a :: cs, 0, v, h => by simp [putO]
  | a :: cs, k + 1, v, h => by
    have := putO_set (cs := cs) (k := k) v (by simpa using h)
    simp only [putO, this, List.set_cons_succ]
theorem ow_iff {α : Type} {f : α → Value} {H : Array Obj} {lo : Nat} {t : TypeId} {A : Option Addr} {n c : Nat} {l : List α} : Ow f H lo t A n c l ↔ l.length = n ∧ ((A = none ∧ n = 0 ∧ c = 0) ∨ ∃ g cur, A = some ⟨g, 0, none⟩ ∧ lo ≤ g ∧ H[g]? = some (.cells cur t (0, 0)) ∧ n ≤ c ∧ c ≤ maxLen ∧ cur.size = c ∧ cur.toList.take n = l.map f) := by unfold Ow; exact Iff.rfl
section
variable {H : Array Obj} {t : TypeId} {A : Option Addr} {n c : Nat} {l : List Nat}
/-- a list at the head of a block of its own -/
def dkO (t : TypeId) (A : Option Addr) (n c : Nat) (l : List Nat) : DK where
  p H := Ow u64v H 0 t A n c l
  fp k := A = some ⟨k, 0, none⟩
  lt H k h hk := by
    rcases (ow_iff.1 h).2 with ⟨e, _⟩ | ⟨g, cur, e, _, hg, _⟩
    · rw [e] at hk; cases hk
    · rw [e] at hk; cases hk; exact (Array.getElem?_eq_some_iff.1 hg).1
  st H H' hd h := by
    have h' := ow_iff.1 h
    refine ow_iff.2 ⟨h'.1, h'.2.imp id ?_⟩
    rintro ⟨g, cur, e, h1, hg, h2⟩
    exact ⟨g, cur, e, h1, (hd.block g (Array.getElem?_eq_some_iff.1 hg).1 e).trans hg, h2⟩
theorem Ow.fresh {α : Type} {f : α → Value} {l : List α} {lo : Nat} (h : Ow f H lo t A n c l) (k : Nat) (hk : A = some ⟨k, 0, none⟩) : lo ≤ k := by
  rcases (ow_iff.1 h).2 with ⟨e, _⟩ | ⟨g, cur, e, h1, _⟩
  · rw [e] at hk; cases hk
  · rw [e] at hk; cases hk; exact h1
theorem Ow.at0 {α : Type} {f : α → Value} {l : List α} {lo : Nat} (h : Ow f H lo t A n c l) : Ow f H 0 t A n c l := h.mono (Nat.zero_le _)
theorem Fk.addO {S : Nat → Prop} {w0 w w' : World} {L : List VB} {D : List DK} (h : Fk S w0 w L D) (hE : Ext w w') (hO : Ow u64v w'.heap w.heap.size t A n c l) : Fk S w0 w' L (dkO t A n c l :: D) := h.addNew hE _ hO.at0 fun k hk => hO.fresh k hk
theorem Fk.o {S : Nat → Prop} {w0 w : World} {L : List VB} {D : List DK} (h : Fk S w0 w L D) (hm : dkO t A n c l ∈ D) : Ow u64v w.heap 0 t A n c l := h.data _ hm
theorem Fk.sl {S : Nat → Prop} {w0 w : World} {L : List VB} {D : List DK} (h : Fk S w0 w L D) (hm : dkO t A n c l ∈ D) : Sl u64v w.heap w.heap.size A n c l := (h.o hm).sl (Nat.le_refl _)
theorem Fk.storeO {S : Nat → Prop} {w0 w w' : World} {L : List VB} {D D' : List DK} {n' : Nat} {l' : List Nat} (h : Fk S w0 w L D) (hS : SetD D (dkO t A n c l) (dkO t A n' c l') D') (hE : Exs (fun j => A = some ⟨j, 0, none⟩) w w') (hO : Ow u64v w'.heap 0 t A n' c l') : Fk S w0 w' L D' := h.write hS hE hO fun k hk => .inl hk
theorem Ow.exs {α : Type} {f : α → Value} {l : List α} {S : Nat → Prop} {w w' : World} {lo : Nat} (hE : Exs S w w') (hS : ∀ k, A = some ⟨k, 0, none⟩ → ¬ S k) (h : Ow f w.heap lo t A n c l) : Ow f w'.heap lo t A n c l := by
  have h' := ow_iff.1 h
  refine ow_iff.2 ⟨h'.1, h'.2.imp id ?_⟩
  rintro ⟨g, cur, e, h1, hg, h2⟩
  exact ⟨g, cur, e, h1, (hE.block g (Array.getElem?_eq_some_iff.1 hg).1 (hS g e)).trans hg, h2⟩
theorem Ow.de {α : Type} {f : α → Value} {l : List α} {F : Nat → Prop} {H' : Array Obj} {lo : Nat} (hE : DEk F H H') (hS : ∀ k, A = some ⟨k, 0, none⟩ → F k) (h : Ow f H lo t A n c l) : Ow f H' lo t A n c l := by
  have h' := ow_iff.1 h
  refine ow_iff.2 ⟨h'.1, h'.2.imp id ?_⟩
  rintro ⟨g, cur, e, h1, hg, h2⟩
  exact ⟨g, cur, e, h1, (hE.block g (Array.getElem?_eq_some_iff.1 hg).1 (hS g e)).trans hg, h2⟩
theorem Ow.blt {α : Type} {f : α → Value} {l : List α} {lo : Nat} (h : Ow f H lo t A n c l) {k : Nat} (hk : A = some ⟨k, 0, none⟩) : k < H.size := by
  rcases (ow_iff.1 h).2 with ⟨e, _⟩ | ⟨g, cur, e, _, hg, _⟩
  · rw [e] at hk; cases hk
  · rw [e] at hk; cases hk; exact (Array.getElem?_eq_some_iff.1 hg).1
theorem dkO_fp {k : Nat} : (dkO t A n c l).fp k ↔ A = some ⟨k, 0, none⟩ := Iff.rfl
end
section
variable {P : Program} {N : Fm} {Q : Exit → Act → World → Prop} {σ : Store} {w : World} {ops : Array Oper} {d : Nat} {t : TypeId} {pos : String} {af : Array Edge} {rest : List Oper}
/-- a new list of words, all 0 -/
theorem TL.makeOw {S : Nat → Prop} {w0 : World} {L : List VB} {D : List DK} (hF : Fk S w0 w L D) {x y : Operand} {ty e : TypeId} [hT : USlice P ty e] {b1 : Nat} [hS : USize P e (.int .u64 0) 1 b1] {k k' : IntKind} {z1 z2 : Int} {n : Nat} [e1 : IsN z1 n] [e2 : IsN z2 n]
    (hx : look σ x = some (.int k z1)) (hy : look σ y = some (.int k' z2)) (hd : Nat.blt d N.n = true) (hc : b1 * n ≤ 281474976710656 ∧ n ≤ 9223372036854775807)
    (K : ∀ w' b, Fk S w0 w' L (dkO e (some ⟨b, 0, none⟩) n n (List.replicate n 0) :: D) → TL P N .seq ops Q rest ((d, .slice (some ⟨b, 0, none⟩) n n) :: σ) w') :
    TL P N .seq ops Q (⟨some d, .makeSlice ty x y, t, pos, af, none⟩ :: rest) σ w :=
  TL.makeU hx hy hd (Nat.le_refl _) hc fun w' b hb hB hE _ => K w' b (hF.addO hE (by
    have h := hB.ow (k := n) (c := n) (lo := w.heap.size) (by simp) (by simp) (by simp; unfold maxLen; omega) (by omega)
    simpa using h))
/-- a word stored into a list with a block of its own -/
theorem TL.storeOw {x y : Operand} {ty e : TypeId} {z0 : Value} {b1 : Nat} [hS : USize P ty z0 1 b1] {A : Option Addr} {n c k lo : Nat} {l : List Nat} {zu : Int} {u : Nat} [eu : IsN zu u]
    (hx : look σ x = some (.pointer (elemA A k))) (hy : look σ y = some (.int .u64 zu)) (hO : Ow u64v w.heap lo e A n c l) (hk : k < n)
    (K : ∀ w', Ow u64v w'.heap lo e A n c (l.set k u) → Exs (fun j => A = some ⟨j, 0, none⟩) w w' → TL P N .seq ops Q rest σ w') :
    TL P N .seq ops Q (⟨none, .store ty x y, t, pos, af, none⟩ :: rest) σ w := by
  obtain ⟨hl, h⟩ := ow_iff.1 hO
  rcases h with ⟨_, h0, _⟩ | ⟨g, cur, rfl, hlo, hg, hnc, hcm, hsz, htk⟩
  · omega
  · have hV : Vr w.heap g e cur.toList := by unfold Vr; simpa using hg
    have hlen : cur.toList.length = c := by simpa using hsz
    have hput := putO_set (k := k) (u64v u) (show k < cur.toList.length by omega)
    refine TL.storeV (b := g) (o := k) (e := e) (cs := cur.toList) (v := u64v u) (by rw [hx]; simp [elemA, add_mk]) (by rw [hy, eu.out]; rfl) rfl rfl hV hput fun w' hV' hu => K w' (ow_iff.2 ⟨by simpa using hl, .inr ⟨g, (cur.toList.set k (u64v u)).toArray, rfl, hlo, hV', hnc, hcm, by simp [hsz], ?_⟩⟩) (hu.exs.mono fun j _ e => by rw [e])
    simp only [List.take_set, htk]
    exact (List.map_set).symm
end
section
variable {α : Type} {f : α → Value} {H : Array Obj} {t : TypeId} {A : Option Addr} {n c : Nat} {l : List α}
end
attribute [irreducible] dkO

end Go.Eng

namespace Go.Proofs.Ytlhmehikajidhaa
open Go Go.Eng Go.Proofs Go.NatM Go.RowKit

def mkv (i : Nat) : Nat := (6510516211317473280 + i) % 18446744073709551616
def marks (n : Nat) : List Nat := (List.range 80).map (fun q => mkv (n + q))
def roomL (l : List Nat) : List Nat := l ++ marks l.length
theorem marks_len (n : Nat) : (marks n).length = 80 := by simp [marks]
theorem roomL_len (l : List Nat) : (roomL l).length = l.length + 80 := by rw [roomL, List.length_append, marks_len]
theorem roomL_get {l : List Nat} {i : Nat} (h : i < l.length) : (roomL l).getD i 0 = l.getD i 0 := by simp [roomL, List.getD, List.getElem?_append_left h]
theorem roomL_mark {l : List Nat} {i : Nat} (h : l.length ≤ i) (h2 : i < l.length + 80) : (roomL l).getD i 0 = mkv i := by
  obtain ⟨q, rfl⟩ : ∃ q, i = l.length + q := ⟨i - l.length, by omega⟩
  have hq : q < 80 := by omega
  simp [roomL, List.getD, List.getElem?_append_right, marks, hq]
theorem roomL_take (l : List Nat) : (roomL l).take l.length = l := by simp [roomL]
theorem U64_mkv (i : Nat) : mkv i < 18446744073709551616 := Nat.mod_lt _ (by omega)
/-- a list filled from the front -/
def fill (R : List Nat) (N i : Nat) : List Nat := R.take i ++ List.replicate (N - i) 0
theorem fill_zero (R : List Nat) (N : Nat) : fill R N 0 = List.replicate N 0 := by simp [fill]
theorem fill_all {R : List Nat} {N : Nat} (h : R.length = N) : fill R N N = R := by simp [fill, ← h]
theorem fill_set {R : List Nat} {N i : Nat} (h : R.length = N) (hi : i < N) {u : Nat} (hu : R.getD i 0 = u) : (fill R N i).set i u = fill R N (i + 1) := by
  subst h hu
  unfold fill
  have e1 : (R.take i).length = i := by simp; omega
  have e2 : R.take (i + 1) = R.take i ++ [R.getD i 0] := by
    rw [List.take_add_one]
    simp [List.getD, List.getElem?_eq_getElem hi]
  rw [e2, List.set_append_right _ _ (by omega), e1, Nat.sub_self, List.append_assoc]
  congr 1
  obtain ⟨m, hm⟩ : ∃ m, R.length - i = m + 1 := ⟨R.length - i - 1, by omega⟩
  rw [hm, show R.length - (i + 1) = m by omega, List.replicate_succ]
  rfl
/-- a new list in a block of its own -/
def RetK (w : World) (L : List Nat) (n : Nat) (e : Ending) (w' : World) : Prop := ∃ g, e = .returned (.slice (some ⟨g, 0, none⟩) n n) ∧ Ow u64v w'.heap w.heap.size 51 (some ⟨g, 0, none⟩) n n L ∧ Ext w w'
theorem Fk.fresh {S : Nat → Prop} {w0 w : World} {L : List VB} {D : List DK} (h : Fk S w0 w L D) {t : TypeId} {g n c : Nat} {l : List Nat} (hm : dkO t (some ⟨g, 0, none⟩) n c l ∈ D) (hS : ∀ k, ¬ S k) : Ow u64v w.heap w0.heap.size t (some ⟨g, 0, none⟩) n c l := by
  have h1 := ow_iff.1 (h.o hm)
  have hg := (h.own _ hm g (dkO_fp.2 rfl)).resolve_right (hS g)
  refine ow_iff.2 ⟨h1.1, h1.2.imp id ?_⟩
  rintro ⟨g', cur, e, h2⟩
  cases e
  exact ⟨g, cur, rfl, hg, h2.2⟩
set_option maxRecDepth 100000 in
set_option maxHeartbeats 8000000 in
theorem roomy_ok (w : World) (A : Option Addr) (n c : Nat) (l : List Nat) (hs : Sl u64v w.heap w.heap.size A n c l) (hu : U64 l) (hn : n ≤ 17592186044416) :
    Cl Try.prog 44 #[.slice A n c] w (RetK w (roomL l) (n + 80)) := by
  have hlen := hs.len
  have hR := roomL_len l
  rw [hlen] at hR
  refine enter Try.func44 rfl rfl rfl ?_
  have hF := Fk.refl (fun _ => False) w
  repeat' (first | (refine TL.isOp ?_; first | (apply TL.ev; (case hd => rfl); (case h => (first | exact ev_simple rfl | (apply Ev.isBin; first | exact ev_arN rfl rfl rfl (by omega)) | exact ev_len rfl))) | (refine TL.makeOw hF rfl rfl rfl (by omega) ?_; clear hF; intro w8 b8 hF)) | (refine T.is ?_; first | refine T.seq ?_ | refine T.region ?_ | refine T.block ?_) | (refine G.is ?_; first | refine G.next ?_) | refine TL.nil ?_)
  refine T.loop (α := Nat) (fun i => [(0, .slice A n c), (3, .slice (some ⟨b8, 0, none⟩) (n + 80) (n + 80)), (4, .int .i64 (i : Int))])
    (fun i w' => i ≤ n + 80 ∧ Fk (fun _ => False) w w' [] [dkO 51 (some ⟨b8, 0, none⟩) (n + 80) (n + 80) (fill (roomL l) (n + 80) i)])
    (fun i => n + 80 - i) 0 (by repeat (first | exact Sub.nil _ | refine Sub.cons rfl ?_ | refine Sub.cons' rfl (int_congr (by omega)) ?_)) ⟨Nat.zero_le _, by rw [fill_zero]; exact hF⟩ ?_
  clear hF
  rintro i w2 ⟨hi, hF⟩
  rcases Nat.lt_or_ge i (n + 80) with hin | hin
  · rcases Nat.lt_or_ge i n with hia | hia
    · have hv := roomL_get (l := l) (i := i) (by omega)
      repeat' (first | (refine TL.isOp ?_; first | (refine TL.isBin ?_; refine TL.cmpG rfl rfl rfl rfl (fun hc => ?_) (fun hc => ?_) <;> (try (first | (exfalso; omega) | exact absurd rfl hc))) | (apply TL.ev; (case hd => rfl); (case h => (first | exact ev_simple rfl | (apply Ev.isBin; first | exact ev_arN rfl rfl rfl (by omega)) | (apply Ev.isLoad; first | exact ev_loadU rfl (hs.ext hF.ext) hia) | exact ev_len rfl | exact ev_indexN rfl rfl hia (hs.ext hF.ext).some | exact ev_indexN rfl rfl hin (.inr rfl)))) | (refine TL.storeOw rfl rfl (hF.o (by ((repeat (first | apply kmemH | apply kmemT)); done))) hin ?_; intro ws hOs hEs; rw [fill_set hR hin hv] at hOs; replace hF := hF.storeO (by ((repeat (first | apply SetD.head | apply SetD.tail)); done)) hEs hOs; clear hOs hEs)) | (refine T.is ?_; first | refine T.seq ?_ | refine T.region ?_ | refine T.block ?_ | refine T.cond_t rfl ?_ | refine T.skip ?_) | (refine G.is ?_; first | refine G.next ?_ | refine G.blockN ?_) | refine TL.nil ?_)
      exact G.again (i + 1) (by repeat (first | exact Sub.nil _ | refine Sub.cons rfl ?_ | refine Sub.cons' rfl (int_congr (by omega)) ?_)) ⟨by omega, hF⟩ (by omega)
    · have hv : (roomL l).getD i 0 = (6510516211317473280 + i) % 18446744073709551616 := roomL_mark (l := l) (i := i) (by omega) (by omega)
      repeat' (first | (refine TL.isOp ?_; first | (refine TL.isBin ?_; refine TL.cmpG rfl rfl rfl rfl (fun hc => ?_) (fun hc => ?_) <;> (try (first | (exfalso; omega) | exact absurd rfl hc))) | (apply TL.ev; (case hd => rfl); (case h => (first | exact ev_simple rfl | (apply Ev.isBin; first | exact ev_arN rfl rfl rfl (by omega) | exact ev_arU rfl rfl rfl (by first | exact True.intro | omega)) | exact ev_len rfl | exact ev_convU rfl (by omega) | exact ev_indexN rfl rfl hin (.inr rfl)))) | (refine TL.storeOw rfl rfl (hF.o (by ((repeat (first | apply kmemH | apply kmemT)); done))) hin ?_; intro ws hOs hEs; rw [fill_set hR hin hv] at hOs; replace hF := hF.storeO (by ((repeat (first | apply SetD.head | apply SetD.tail)); done)) hEs hOs; clear hOs hEs)) | (refine T.is ?_; first | refine T.seq ?_ | refine T.region ?_ | refine T.block ?_ | refine T.cond_t rfl ?_ | refine T.cond_f rfl ?_ | refine T.skip ?_) | (refine G.is ?_; first | refine G.next ?_ | refine G.blockN ?_) | refine TL.nil ?_)
      exact G.again (i + 1) (by repeat (first | exact Sub.nil _ | refine Sub.cons rfl ?_ | refine Sub.cons' rfl (int_congr (by omega)) ?_)) ⟨by omega, hF⟩ (by omega)
  · obtain rfl : i = n + 80 := by omega
    rw [fill_all hR] at hF
    repeat' (first | (refine TL.isOp ?_; first | (refine TL.isBin ?_; refine TL.cmpG rfl rfl rfl rfl (fun hc => ?_) (fun hc => ?_) <;> (try (first | (exfalso; omega) | exact absurd rfl hc))) | (apply TL.ev; (case hd => rfl); (case h => (first | exact ev_simple rfl | exact ev_len rfl)))) | (refine T.is ?_; first | refine T.seq ?_ | refine T.region ?_ | refine T.cond_f rfl ?_ | refine T.exit ?_ | refine T.ret ?_) | (refine G.is ?_; first | refine G.next ?_ | refine G.blockE ?_ | refine G.thenE ?_) | refine TL.nil ?_)
    exact G.ret1 rfl rfl ⟨b8, rfl, Fk.fresh hF (by ((repeat (first | apply kmemH | apply kmemT)); done)) (fun _ h => h), hF.ext⟩
end Go.Proofs.Ytlhmehikajidhaa

namespace Go.Eng
open Go Go.RowKit

theorem sm_cells {α : Type} {f : α → List Value} {w : World} {k B n c : Nat} {A : Option Addr} {l : List α} (h : Sm k f w.heap B A n c l) {b o : Nat} (hA : A = some ⟨b, o, none⟩) : ∀ j v, (l.flatMap f)[j]? = some v → w.cell? ((⟨b, o, none⟩ : Addr).add j) = some v := by
  intro j v hv
  have hlen := h.len
  have hk := h.pos
  have hfl := flatMap_len h.wid
  have hj : j < l.length * k := by rw [← hfl]; exact (List.getElem?_eq_some_iff.1 hv).1
  rcases h.mem with h0 | ⟨b', o', e, _, hc⟩
  · rw [hlen, h0, Nat.zero_mul] at hj; omega
  · rw [hA] at e
    cases e
    rw [add_mk, cell_of_hcell]
    have h1 : j / k < l.length := Nat.div_lt_of_lt_mul (by rw [Nat.mul_comm]; exact hj)
    have h2 := flatMap_get h.wid (j / k) (j % k) l[j / k] (List.getElem?_eq_getElem h1) (Nat.mod_lt _ hk)
    rw [Nat.div_add_mod'] at h2
    have h3 := hc (j / k) l[j / k] (List.getElem?_eq_getElem h1) (j % k) v (by rw [← h2]; exact hv)
    rw [Nat.div_add_mod'] at h3
    exact h3
theorem zero_noU {z : List Value} (hz : z.all noU64 = true) (n : Nat) : (Builtin.zeroCells z.toArray n).toList.all noU64 = true := by
  rw [List.all_eq_true]
  intro v hv
  simp only [Builtin.zeroCells, Array.toList_map, List.mem_map] at hv
  obtain ⟨q, hq, rfl⟩ := hv
  have hq' : q < n * z.length := by simpa using hq
  have hlt : q % z.length < z.length := Nat.mod_lt _ (by rcases Nat.eq_zero_or_pos z.length with h | h; rw [h] at hq'; omega; exact h)
  have : z.toArray[q % z.toArray.size]! = z[q % z.length] := by simp [List.getElem?_eq_getElem hlt]
  rw [this]
  exact List.all_eq_true.1 hz _ (List.getElem_mem hlt)
section
variable {P : Program} {N : Fm} {Q : Exit → Act → World → Prop} {σ : Store} {S : Nat → Prop} {w0 w : World} {L : List VB} {D : List DP} {ops : Array Oper} {d : Nat} {t : TypeId} {pos : String} {af : Array Edge} {rest : List Oper}
theorem Fr.swap {a b : VB} (h : Fr w0 w (a :: b :: L) D S) : Fr w0 w (b :: a :: L) D S := by
  have hp : ∀ v, v ∈ b :: a :: L → v ∈ a :: b :: L := fun v hv => by simp only [List.mem_cons] at hv ⊢; rcases hv with h | h | h <;> simp [h]
  refine ⟨h.exs, fun v hv => h.vars v (hp v hv), ?_, h.data, fun v hv => h.apart v (hp v hv)⟩
  have hd := h.dist
  simp only [List.pairwise_cons, List.mem_cons] at hd ⊢
  refine ⟨fun v hv => ?_, fun v hv => hd.1 v (.inr hv), hd.2.2⟩
  rcases hv with rfl | hv
  · exact fun e => hd.1 b (.inl rfl) e.symm
  · exact hd.2.1 v hv
theorem ev_loadMc {H : Array Obj} {d : Option Tmp} {gd : Option (Nat × Bool)} {x : Operand} {ty : TypeId} [hA : UAgg P ty] {z : Value} {sz b1 : Nat} [hS : USize P ty z sz b1] {α : Type} {f : α → List Value} {B n c i : Nat} {A : Option Addr} {l : List α} {y : α} (cs : List Value)
    (hx : look σ x = some (.pointer (elemA A (i * sz)))) (hs : Sm sz f H B A n c l) (hy : l[i]? = some y) (hc : f y = cs) : Ev P σ H ⟨d, .load ty x, t, pos, af, gd⟩ (.agg cs.toArray) := hc ▸ ev_loadM hx hs hy
end
end Go.Eng
